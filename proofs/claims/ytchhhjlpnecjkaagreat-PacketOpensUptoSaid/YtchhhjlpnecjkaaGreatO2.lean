/-
  What the proof of packetOpens_holds leans on, laid together by a program of this session (wip/pack.py) out of its own texts; the last of these texts holds packetOpens_holds.
-/
import Derived.Test.YtchhhjlpnecjkaaGreatO1
set_option linter.unusedVariables false
namespace Go.Proofs.YtchhhjlpnecjkaaGreat
open Go Go.RowKit Go.Proofs.YtchhhjlpnecjkaaGreat.Den
abbrev Ent:=Int × List Comp
def kindsOf (m:Nat):List Int:=((List.range 6).filter (Nat.testBit m)).map fun (k:Nat)=>(k:Int)
abbrev F3:=Int × Int × Int
def fieldsOf (l:List Comp) (k:Int):F3:=match l.find? (fun c=>c.1 == k) with
 | some c=>c.2
 | none=>(0,0,0)
structure Valid (m:Nat) (l:List Comp):Prop where
 list:listE l=0
 mask:maskN l=m
abbrev Rising (l:List Int):Prop:=l.Pairwise (· < ·)
theorem Zip:∀ {l k:List Int},Rising l→Rising k→(∀ x,x∈l↔x∈k)→l=k
 | [],[],_,_,_=>rfl
 | [],y :: k,_,_,h=>by have:=(h y).2 List.mem_cons_self; simp at this
 | x :: l,[],_,_,h=>by have:=(h x).1 List.mem_cons_self; simp at this
 | x :: l,y :: k,hl,hk,h=>by
  rw [Rising,List.pairwise_cons] at hl hk
  have hxy:x=y:=by
   rcases List.mem_cons.1 ((h x).1 List.mem_cons_self) with e | e
   ·exact e
   ·rcases List.mem_cons.1 ((h y).2 List.mem_cons_self) with e2 | e2
    ·exact e2.symm
    ·have h1:=hk.1 x e
     have h2:=hl.1 y e2
     omega
  subst hxy
  congr 1
  refine Zip hl.2 hk.2 fun z=>⟨fun hz=>?_,fun hz=>?_⟩
  ·rcases List.mem_cons.1 ((h z).1 (List.mem_cons_of_mem _ hz)) with e | e
   ·have:=hl.1 z hz; omega
   ·exact e
  ·rcases List.mem_cons.1 ((h z).2 (List.mem_cons_of_mem _ hz)) with e | e
   ·have:=hk.1 z hz; omega
   ·exact e
theorem Zve:∀ {l:List Comp} {last:Int},listM last l=0↔(∀ c∈l,checkM c=0∧last < c.1)∧Rising (l.map (·.1))
 | [],_=>by simp [listM]
 | c :: r,last=>by
  rw [listM]
  by_cases h1:checkM c=0
  ·rw [if_neg (by simpa using h1)]
   by_cases h2:c.1≤last
   ·rw [if_pos h2]
    simp
    intro h3
    omega
   ·rw [if_neg h2,Zve,List.map_cons,Rising,Rising,List.pairwise_cons]
    constructor
    ·rintro ⟨h3,h4⟩
     refine ⟨fun x hx=>?_,fun y hy=>?_,h4⟩
     ·rcases List.mem_cons.1 hx with rfl | hx
      ·exact ⟨h1,by omega⟩
      ·have:=h3 x hx; exact ⟨this.1,by omega⟩
     ·obtain ⟨x,hx,rfl⟩:=List.mem_map.1 hy
      exact (h3 x hx).2
    ·rintro ⟨h3,h4,h5⟩
     exact ⟨fun x hx=>⟨(h3 x (List.mem_cons_of_mem _ hx)).1,h4 _ (List.mem_map_of_mem hx)⟩,h5⟩
  ·rw [if_pos (by simpa using h1)]
   constructor
   ·intro h; exact absurd h h1
   ·rintro ⟨h3,_⟩; exact absurd (h3 c List.mem_cons_self).1 h1
theorem Z1r {l:List Comp}:listE l=0↔(∀ c∈l,checkM c=0)∧Rising (l.map (·.1)):=by
 unfold listE
 rw [Zve]
 constructor
 ·rintro ⟨h1,h2⟩; exact ⟨fun c hc=>(h1 c hc).1,h2⟩
 ·rintro ⟨h1,h2⟩; exact ⟨fun c hc=>⟨h1 c hc,by have:=Z2x (h1 c hc); omega⟩,h2⟩
theorem Zrx {l:List Comp} {k:Nat}:has l k=true↔(k:Int)∈l.map (·.1):=by
 simp [has]
theorem Zle {m:Nat} {x:Int}:x∈kindsOf m↔∃ k:Nat,k < 6∧Nat.testBit m k=true∧x=(k:Int):=by
 simp only [kindsOf,List.mem_map,List.mem_filter,List.mem_range]
 constructor
 ·rintro ⟨k,⟨h1,h2⟩,rfl⟩; exact ⟨k,h1,h2,rfl⟩
 ·rintro ⟨k,h1,h2,rfl⟩; exact ⟨k,⟨h1,h2⟩,rfl⟩
theorem Zem (m:Nat):Rising (kindsOf m):=by
 unfold kindsOf Rising
 rw [List.pairwise_map]
 refine (List.Pairwise.filter _ List.pairwise_lt_range).imp fun h=>?_
 exact Int.ofNat_lt.2 h
theorem Valid.kinds {m:Nat} {l:List Comp} (h:Valid m l):l.map (·.1)=kindsOf m:=by
 obtain ⟨h1,h2⟩:=Z1r.1 h.list
 refine Zip h2 (Zem m) fun x=>?_
 rw [Zle]
 constructor
 ·intro hx
  obtain ⟨c,hc,rfl⟩:=List.mem_map.1 hx
  have hk:=Z2x (h1 c hc)
  refine ⟨c.1.toNat,by omega,?_,by omega⟩
  rw [← h.mask,Zau l (by omega),Zrx,show ((c.1.toNat:Nat):Int)=c.1 by omega]
  exact List.mem_map_of_mem hc
 ·rintro ⟨k,hk,hb,rfl⟩
  rw [← h.mask,Zau l hk,Zrx] at hb
  exact hb
theorem Zji {l:List Comp} (hr:Rising (l.map (·.1))) {c:Comp} (hc:c∈l):fieldsOf l c.1=c.2:=by
 unfold fieldsOf
 have:l.find? (fun x=>x.1 == c.1)=some c:=by
  induction l with
  | nil=>simp at hc
  | cons x r ih =>
   rw [List.map_cons,Rising,List.pairwise_cons] at hr
   rcases List.mem_cons.1 hc with h | h
   ·subst h; simp
   ·have:=hr.1 c.1 (List.mem_map_of_mem h)
    rw [List.find?_cons_of_neg (by simp; omega)]
    exact ih hr.2 h
 rw [this]
theorem Valid.rising {m:Nat} {l:List Comp} (h:Valid m l):Rising (l.map (·.1)):=(Z1r.1 h.list).2
theorem Valid.eq {m:Nat} {l:List Comp} (h:Valid m l):l=(kindsOf m).map fun k=>(k,fieldsOf l k):=by
 have e1:(kindsOf m).map (fun k=>(k,fieldsOf l k))=l.map fun c=>(c.1,fieldsOf l c.1):=by
  rw [← h.kinds,List.map_map]; rfl
 rw [e1]
 have:l.map (fun c=>(c.1,fieldsOf l c.1))=l.map id:=List.map_congr_left fun c hc=>by rw [Zji h.rising hc]; rfl
 rw [this,List.map_id]
theorem Valid.mk' {m:Nat} (hm:m < 64) {g:Int→F3} (hc:∀ k∈kindsOf m,checkM (k,g k)=0):Valid m ((kindsOf m).map fun k=>(k,g k)):=by
 have e:((kindsOf m).map fun k=>((k,g k):Comp)).map (·.1)=kindsOf m:=by rw [List.map_map]; exact List.map_id _
 constructor
 ·rw [Z1r,e]
  refine ⟨fun c hc'=>?_,Zem m⟩
  obtain ⟨k,hk,rfl⟩:=List.mem_map.1 hc'
  exact hc k hk
 ·refine Zt3 (Z6l _) hm fun k hk=>?_
  rw [Zau _ hk,Bool.eq_iff_iff,Zrx,e,Zle]
  constructor
  ·rintro ⟨q,_,hb,he⟩
   have:q=k:=by omega
   subst this; exact hb
  ·intro hb; exact ⟨k,hk,hb,rfl⟩
theorem Valid.small {m:Nat} {l:List Comp} (h:Valid m l):l.length≤6:=by
 have:(l.map (·.1)).length=l.length:=List.length_map _
 rw [← this,h.kinds,kindsOf,List.length_map]
 exact List.length_filter_le _ (List.range 6)
theorem Zj0 {c:Comp}:∀ {l:List Comp},(∀ x∈l,x.1≠c.1)→withG c true l=l
 | [],_=>rfl
 | x :: r,h=>by
  rw [withG,Bool.true_or,Zj0 fun y hy=>h y (List.mem_cons_of_mem _ hy)]
  simp [h x List.mem_cons_self]
theorem Zr3 {c:Comp}:∀ {l:List Comp},Rising (l.map (·.1))→c.1∈l.map (·.1)→withM l c=l.map fun x=>if x.1=c.1 then c else x
 | [],_,h=>by simp at h
 | x :: r,hr,hm=>by
  rw [List.map_cons,Rising,List.pairwise_cons] at hr
  rw [withM,withG]
  by_cases h:x.1=c.1
  ·have hno:∀ y∈r,y.1≠c.1:=fun y hy e=>by have:=hr.1 y.1 (List.mem_map_of_mem hy); omega
   rw [List.map_cons,if_pos h]
   have:r.map (fun x=>if x.1=c.1 then c else x)=r:=by
    have e:r.map (fun x=>if x.1=c.1 then c else x)=r.map id:=List.map_congr_left fun y hy=>by rw [if_neg (hno y hy)]; rfl
    rw [e,List.map_id]
   rw [this]
   have hge:decide (x.1 ≥ c.1)=true:=decide_eq_true (by omega)
   rw [hge,Bool.or_true,Zj0 (by simpa using hno)]
   simp [h]
  ·have hm':c.1∈r.map (·.1):=by
    rcases List.mem_cons.1 hm with e | e
    ·exact absurd e.symm h
    ·exact e
   have hlt:=hr.1 c.1 hm'
   have hge:decide (x.1 ≥ c.1)=false:=decide_eq_false (by omega)
   rw [hge,List.map_cons,if_neg h]
   have ih:=Zr3 hr.2 hm'
   rw [withM] at ih
   simp [h,ih]
theorem Zsf {m:Nat} (hm:m < 64) {l:List Comp} {c:Comp} (h:Valid m l) (hc:checkM c=0) (hk:c.1∈kindsOf m):Valid m (withM l c)∧∀ k∈kindsOf m,fieldsOf (withM l c) k=if k=c.1 then c.2 else fieldsOf l k:=by
 have e1:=Zr3 h.rising (c:=c) (by rw [h.kinds]; exact hk)
 have e2:withM l c=(kindsOf m).map fun k=>(k,if k=c.1 then c.2 else fieldsOf l k):=by
  rw [e1]
  conv=>lhs; rw [h.eq]
  rw [List.map_map]
  refine List.map_congr_left fun k _=>?_
  simp only [Function.comp]
  split
  ·rename_i e; rw [e]
  ·rfl
 have hv:Valid m ((kindsOf m).map fun k=>(k,if k=c.1 then c.2 else fieldsOf l k)):=Valid.mk' hm fun k hk2=>by
  split
  ·rename_i e; subst e; exact hc
  ·have:((k,fieldsOf l k):Comp)∈l:=by rw [h.eq]; exact List.mem_map.2 ⟨k,hk2,by rw [← h.eq]⟩
   exact (Z1r.1 h.list).1 _ this
 rw [e2]
 refine ⟨hv,fun k hk2=>?_⟩
 exact Zji hv.rising (c:=(k,if k=c.1 then c.2 else fieldsOf l k)) (List.mem_map.2 ⟨k,hk2,rfl⟩)
def rowM (L:List Ent) (id:Int):Option Nat:=L.findIdx? (fun e=>e.1 == id)
theorem Zwb {L:List Ent} {id:Int}:rowM L id=none↔∀ e∈L,e.1≠id:=by
 unfold rowM
 rw [List.findIdx?_eq_none_iff]
 simp
def addM (m:Nat) (L:List Ent) (id:Int) (l:List Comp):Int:=if listE l≠0 then listE l else if maskN l≠m then 4 else if (rowM L id).isSome then 9 else 0
def setL (L:List Ent) (i:Nat) (c:Comp):List Ent:=L.modify i fun e=>(e.1,withM e.2 c)
def dropI {α:Type} (l:List α) (i:Nat):List α:=(match l[l.length - 1]? with
 | some z=>l.set i z
 | none=>l).take (l.length - 1)
theorem Zuy {α β:Type} (f:α→β) (l:List α) (i:Nat):(dropI l i).map f=dropI (l.map f) i:=by
 unfold dropI
 rw [List.length_map,List.getElem?_map]
 cases l[l.length - 1]? <;> simp [List.map_take,List.map_set]
theorem Zx4 {α:Type} {l:List α} {i:Nat} {z:α} (h:l[l.length - 1]?=some z):dropI l i=(l.set i z).take (l.length - 1):=by rw [dropI,h]
theorem Zh8 {α:Type} (l:List α) (i:Nat):(dropI l i).length=l.length - 1:=by
 unfold dropI
 cases l[l.length - 1]? <;> simp
structure TabOk (m:Nat) (L:List Ent):Prop where
 mask:m < 64
 nodup:(L.map (·.1)).Nodup
 ids:∀ e∈L,0≤e.1∧e.1≤4294967295
 valid:∀ e∈L,Valid m e.2
 small:L.length≤1048576
theorem TabOk.nil {m:Nat} (h:m < 64):TabOk m []:=⟨h,by simp,by simp,by simp,by simp⟩
theorem TabOk.add {m:Nat} {L:List Ent} (h:TabOk m L) {id:Int} {l:List Comp} (hid:0≤id∧id≤4294967295) (ha:addM m L id l=0) (hs:L.length < 1048576):TabOk m (L ++ [(id,l)]):=by
 unfold addM at ha
 split at ha
 ·rename_i h1; exact absurd ha h1
 ·rename_i h1
  split at ha
  ·cases ha
  ·rename_i h2
   split at ha
   ·cases ha
   ·rename_i h3
    have hr:rowM L id=none:=by simpa using h3
    refine ⟨h.mask,?_,?_,?_,by simp; omega⟩
    ·rw [List.map_append,List.nodup_append]
     refine ⟨h.nodup,by simp,fun x hx y hy=>?_⟩
     simp at hy
     subst hy
     obtain ⟨e,he,rfl⟩:=List.mem_map.1 hx
     exact Zwb.1 hr e he
    ·intro e he
     rcases List.mem_append.1 he with he | he
     ·exact h.ids e he
     ·simp at he; subst he; exact hid
    ·intro e he
     rcases List.mem_append.1 he with he | he
     ·exact h.valid e he
     ·simp at he; subst he; exact ⟨by simpa using h1,by simpa using h2⟩
theorem Zl7 {α:Type} {l:List α} {i q:Nat} {z:α} (hz:l[l.length - 1]?=some z):(dropI l i)[q]?=if q < l.length - 1 then (if q=i then some z else l[q]?) else none:=by
 rw [Zx4 hz,List.getElem?_take]
 by_cases hq:q < l.length - 1
 ·rw [if_pos hq,if_pos hq,List.getElem?_set]
  by_cases hi:i=q
  ·subst hi
   rw [if_pos rfl,if_pos rfl,if_pos (by omega)]
  ·rw [if_neg hi,if_neg (fun e=>hi e.symm)]
 ·rw [if_neg hq,if_neg hq]
theorem Zq5 {α:Type} {l:List α} {i:Nat} {x:α} (h:x∈dropI l i):x∈l:=by
 unfold dropI at h
 split at h
 ·rename_i z hz
  have:=List.mem_of_mem_take h
  rcases List.mem_or_eq_of_mem_set this with h | h
  ·exact h
  ·subst h; exact List.mem_of_getElem? hz
 ·exact List.mem_of_mem_take h
theorem Zrt {α:Type} {l:List α} {i:Nat} (hn:l.Nodup) (hi:i < l.length):(dropI l i).Nodup:=by
 obtain ⟨z,hz⟩:∃ z,l[l.length - 1]?=some z:=⟨_,List.getElem?_eq_getElem (by omega)⟩
 have uniq:∀ (a b:Nat) (x:α),l[a]?=some x→l[b]?=some x→a=b:=by
  intro a b x ha hb
  obtain ⟨ha1,ha2⟩:=List.getElem?_eq_some_iff.1 ha
  obtain ⟨hb1,hb2⟩:=List.getElem?_eq_some_iff.1 hb
  rcases Nat.lt_trichotomy a b with h | h | h
  ·exact absurd (ha2.trans hb2.symm) (List.pairwise_iff_getElem.1 hn a b ha1 hb1 h)
  ·exact h
  ·exact absurd (hb2.trans ha2.symm) (List.pairwise_iff_getElem.1 hn b a hb1 ha1 h)
 rw [List.Nodup,List.pairwise_iff_getElem]
 intro a b ha hb hab he
 have ha':=List.getElem?_eq_getElem ha
 have hb':=List.getElem?_eq_getElem hb
 rw [he] at ha'
 have hl:=Zh8 l i
 rw [Zl7 hz,if_pos (by omega)] at ha' hb'
 by_cases h1:a=i
 ·rw [if_pos h1] at ha'
  rw [if_neg (by omega)] at hb'
  have:=uniq b (l.length - 1) _ hb' (by rw [hz,ha'])
  omega
 ·rw [if_neg h1] at ha'
  by_cases h2:b=i
  ·rw [if_pos h2] at hb'
   have:=uniq a (l.length - 1) _ ha' (by rw [hz,hb'])
   omega
  ·rw [if_neg h2] at hb'
   have:=uniq a b _ ha' hb'
   omega
theorem TabOk.drop {m:Nat} {L:List Ent} (h:TabOk m L) {i:Nat} (hi:i < L.length):TabOk m (dropI L i) :=
 ⟨h.mask,by rw [Zuy]; exact Zrt h.nodup (by simpa using hi),fun e he=>h.ids e (Zq5 he),fun e he=>h.valid e (Zq5 he),by rw [Zh8]; have:=h.small; omega⟩
theorem Zs9 {L:List Ent} {i:Nat} {e:Ent} {c:Comp} (h:L[i]?=some e):setL L i c=L.set i (e.1,withM e.2 c):=by
 unfold setL
 apply List.ext_getElem?
 intro q
 rw [List.getElem?_modify,List.getElem?_set]
 by_cases hq:i=q
 ·subst hq
  have:=(List.getElem?_eq_some_iff.1 h).1
  have e2:=(List.getElem?_eq_some_iff.1 h).2
  simp [this,e2]
 ·simp [hq]
theorem Zy5 {L:List Ent} {i:Nat} {e:Ent} {c:Comp} (h:L[i]?=some e):(setL L i c).map (·.1)=L.map (·.1):=by
 rw [Zs9 h,List.map_set]
 apply List.ext_getElem?
 intro q
 rw [List.getElem?_set]
 by_cases hq:i=q
 ·subst hq
  have:=(List.getElem?_eq_some_iff.1 h).1
  have e2:=(List.getElem?_eq_some_iff.1 h).2
  simp [this,e2]
 ·simp [hq]
theorem Zy6 {L:List Ent} {i:Nat} {c:Comp}:(setL L i c).length=L.length:=by simp [setL]
theorem TabOk.set {m:Nat} {L:List Ent} (h:TabOk m L) {i:Nat} {e:Ent} {c:Comp} (hi:L[i]?=some e) (hc:checkM c=0) (hk:c.1∈kindsOf m):TabOk m (setL L i c):=by
 have hv:=h.valid e (List.mem_of_getElem? hi)
 refine ⟨h.mask,by rw [Zy5 hi]; exact h.nodup,fun x hx=>?_,fun x hx=>?_,by rw [Zy6]; exact h.small⟩
 ·rw [Zs9 hi] at hx
  rcases List.mem_or_eq_of_mem_set hx with hx | rfl
  ·exact h.ids x hx
  ·exact h.ids e (List.mem_of_getElem? hi)
 ·rw [Zs9 hi] at hx
  rcases List.mem_or_eq_of_mem_set hx with hx | rfl
  ·exact h.valid x hx
  ·exact (Zsf h.mask hv hc hk).1
end Go.Proofs.YtchhhjlpnecjkaaGreat
namespace Go.Proofs.YtchhhjlpnecjkaaGreat.Den
open Go Go.RowKit Go.ChangeShapes Go.WideShapes Go.ChangeAt Go.Deep
variable {H:Type} {enc:TypeId × Value→H} {P:Program} {w:World}
def LeafOk (enc:TypeId × Value→H) (P:Program) (w:World) (t:TypeId) (c:Value):Prop:=∃ fuel x,DataW.trod enc P w 0 (fun _=>true) true fuel t [c]=some x
def leafSc (P:Program) (t:TypeId):Option Sc:=match P.underlying t with
 | some (.int k)=>some (.int k)
 | some .bool=>some .bool
 | some .string=>some .str
 | some (.slice _)=>some .sl
 | _=>none
def leavesF (P:Program) (rec:TypeId→Option (List TypeId)):Nat→List Field→Option (List TypeId)
 | _,[]=>some []
 | acc,f :: fs=>bif Nat.beq f.offset acc then match rec f.type with
  | none=>none
  | some l=>bif Nat.beq l.length (P.cellsOf f.type) then match leavesF P rec (acc+l.length) fs with
   | none=>none
   | some r=>some (l ++ r)
   else none
  else none
def leaves (P:Program):Nat→TypeId→Option (List TypeId)
 | 0,_=>none
 | n+1,t=>match P.underlying t with
  | some (.struct fs)=>(match leavesF P (leaves P n) 0 fs.toList with
   | none=>none
   | some l=>bif Nat.beq l.length (P.cellsOf t) then some l else none)
  | some (.array k e)=>(match leaves P n e with
   | none=>none
   | some l=>bif Nat.beq l.length (P.cellsOf e) && Nat.beq (k * l.length) (P.cellsOf t) then some ((List.range k).flatMap fun _=>l) else none)
  | _=>bif (leafSc P t).isSome then some [t] else none
theorem Znh {rec:TypeId→Option (List TypeId)} {fuel:Nat}
  (hr:∀ (t:TypeId) (ts:List TypeId) (cs:List Value) (x:DataW H × List MemPlace),rec t=some ts→DataW.trod enc P w 0 (fun _=>true) true fuel t cs=some x→cs.length=ts.length∧∀ (i:Nat) (ti:TypeId) (c:Value),ts[i]?=some ti→cs[i]?=some c→LeafOk enc P w ti c) (cs:List Value) :
  ∀ (fs:List Field) (acc:Nat) (ts:List TypeId),leavesF P rec acc fs=some ts→(∀ f∈fs,∃ y,DataW.trod enc P w 0 (fun _=>true) true fuel f.type ((cs.drop f.offset).take (P.cellsOf f.type))=some y) →
   ∀ (i:Nat) (ti:TypeId) (c:Value),ts[i]?=some ti→cs[acc+i]?=some c→LeafOk enc P w ti c
 | [],_,ts,h,_,i,ti,c,hi,_=>by simp only [leavesF] at h; cases h; simp at hi
 | f :: fs,acc,ts,h,hf,i,ti,c,hi,hc=>by
  simp only [leavesF] at h
  cases ho:Nat.beq f.offset acc with
  | false=>rw [ho] at h; cases h
  | true =>
   rw [ho,cond_true] at h
   have ho:=Nat.eq_of_beq_eq_true ho
   split at h
   ·cases h
   ·rename_i l hl
    cases hn:Nat.beq l.length (P.cellsOf f.type) with
    | false=>rw [hn] at h; cases h
    | true =>
     rw [hn,cond_true] at h
     have hn:=Nat.eq_of_beq_eq_true hn
     split at h
     ·cases h
     ·rename_i r hrr
      cases h
      obtain ⟨y,hy⟩:=hf f List.mem_cons_self
      obtain ⟨h1,h2⟩:=hr _ _ _ _ hl hy
      by_cases hil:i < l.length
      ·rw [List.getElem?_append_left hil] at hi
       refine h2 i ti c hi ?_
       rw [List.getElem?_take,if_pos (by omega),List.getElem?_drop,ho]
       exact hc
      ·rw [List.getElem?_append_right (by omega)] at hi
       exact Znh hr cs fs (acc+l.length) r hrr (fun g hg=>hf g (List.mem_cons_of_mem _ hg)) (i - l.length) ti c hi (by rw [show acc+l.length+(i - l.length)=acc+i by omega]; exact hc)
theorem Zel {α:Type} (l:List α) (k:Nat):((List.range k).flatMap fun _=>l).length=k * l.length:=by
 induction k with
 | zero=>simp
 | succ k ih=>rw [List.range_succ,List.flatMap_append,List.length_append,ih,Nat.add_mul]; simp
theorem Znm {α:Type} (l:List α):∀ (k i:Nat) (x:α),((List.range k).flatMap fun _=>l)[i]?=some x→0 < l.length∧i < k * l.length∧l[i % l.length]?=some x
 | 0,i,x,h=>by simp at h
 | k+1,i,x,h=>by
  rw [List.range_succ,List.flatMap_append] at h
  have hlen:=Zel l k
  by_cases hi:i < k * l.length
  ·rw [List.getElem?_append_left (by omega)] at h
   obtain ⟨h1,h2,h3⟩:=Znm l k i x h
   exact ⟨h1,by rw [Nat.add_mul]; omega,h3⟩
  ·rw [List.getElem?_append_right (by omega),hlen] at h
   simp only [List.flatMap_cons,List.flatMap_nil,List.append_nil] at h
   have hlt:=(List.getElem?_eq_some_iff.1 h).1
   refine ⟨by omega,by rw [Nat.add_mul]; omega,?_⟩
   have:i % l.length=i - k * l.length:=by
    rw [show i=(i - k * l.length)+k * l.length by omega,Nat.add_mul_mod_self_right,Nat.mod_eq_of_lt hlt]
    omega
   rw [this]
   exact h
theorem Zlg:∀ (n:Nat) (fuel:Nat) (t:TypeId) (ts:List TypeId) (cs:List Value) (x:DataW H × List MemPlace),leaves P n t=some ts→DataW.trod enc P w 0 (fun _=>true) true fuel t cs=some x →
  cs.length=ts.length∧∀ (i:Nat) (ti:TypeId) (c:Value),ts[i]?=some ti→cs[i]?=some c→LeafOk enc P w ti c
 | 0,_,_,_,_,_,h,_=>by simp [leaves] at h
 | n+1,0,_,_,_,_,_,h=>by simp [DataW.trod] at h
 | n+1,fuel+1,t,ts,cs,x,h,ht=>by
  have one:∀ c,cs=[c]→ts=[t]→cs.length=ts.length∧∀ (i:Nat) (ti:TypeId) (c:Value),ts[i]?=some ti→cs[i]?=some c→LeafOk enc P w ti c:=by
   intro c hc hts
   subst hc; subst hts
   refine ⟨rfl,fun i ti c' hi hc=>?_⟩
   rcases i with _ | i
   ·simp at hi hc
    subst hi; subst hc
    exact ⟨_,x,ht⟩
   ·simp at hi
  have ht0:=ht
  simp only [leaves] at h
  split at h
  ·rename_i fs hu
   obtain ⟨xs,m,hm,_,hlen,hxl,hxs⟩:=DataW.trod_struct hu ht
   cases hm
   split at h
   ·cases h
   ·rename_i l hl
    cases hn:Nat.beq l.length (P.cellsOf t) with
    | false=>rw [hn] at h; cases h
    | true =>
     rw [hn,cond_true] at h
     cases h
     have hn:=Nat.eq_of_beq_eq_true hn
     refine ⟨by omega,fun i ti c hi hc=>?_⟩
     refine Znh (fun t ts cs x h1 h2=>Zlg n fuel t ts cs x h1 h2) cs fs.toList 0 ts hl (fun f hf=>?_) i ti c hi (by rw [Nat.zero_add]; exact hc)
     obtain ⟨q,hq⟩:=List.mem_iff_getElem?.1 hf
     rw [Array.getElem?_toList] at hq
     rw [hxs q f hq]
     exact ⟨_,List.getElem?_eq_getElem (by rw [hxl]; exact (Array.getElem?_eq_some_iff.1 hq).1)⟩
  ·rename_i k e hu
   obtain ⟨xs,m,hm,_,hlen,hxl,hxs⟩:=DataW.trod_array hu ht
   cases hm
   split at h
   ·cases h
   ·rename_i l hl
    cases hn:(Nat.beq l.length (P.cellsOf e) && Nat.beq (k * l.length) (P.cellsOf t)) with
    | false=>rw [hn] at h; cases h
    | true =>
     rw [hn,cond_true] at h
     cases h
     rw [Bool.and_eq_true] at hn
     have hn1:=Nat.eq_of_beq_eq_true hn.1
     have hn2:=Nat.eq_of_beq_eq_true hn.2
     refine ⟨by rw [Zel,hlen,hn2],fun i ti c hi hc=>?_⟩
     obtain ⟨h1,h2,h3⟩:=Znm l k i ti hi
     have hq:i / l.length < k:=Nat.div_lt_of_lt_mul (by rw [Nat.mul_comm]; exact h2)
     have hy:=hxs (i / l.length) hq
     rw [List.getElem?_eq_getElem (by rw [hxl]; exact hq)] at hy
     refine (Zlg n fuel e l _ _ hl hy).2 (i % l.length) ti c h3 ?_
     rw [List.getElem?_take,if_pos (by rw [← hn1]; exact Nat.mod_lt _ h1),List.getElem?_drop,← hn1,Nat.mul_comm,Nat.div_add_mod]
     exact hc
  ·rename_i h1 h2
   cases hsc:leafSc P t with
   | none=>rw [hsc] at h; cases h
   | some s =>
    rw [hsc] at h
    cases h
    have:∃ c,cs=[c]:=by
     unfold leafSc at hsc
     split at hsc
     ·rename_i hu; obtain ⟨n,hc,_⟩:=DataW.trod_int hu ht0; exact ⟨_,hc⟩
     ·rename_i hu; obtain ⟨n,hc,_⟩:=DataW.trod_bool hu ht0; exact ⟨_,hc⟩
     ·rename_i hu; obtain ⟨n,hc,_⟩:=DataW.trod_string hu ht0; exact ⟨_,hc⟩
     ·rename_i hu
      rcases DataW.trod_slice hu ht0 with ⟨hc,_⟩ | ⟨a,len,cap,_,_,_,_,hc,_⟩
      ·exact ⟨_,hc⟩
      ·exact ⟨_,hc⟩
     ·cases hsc
    obtain ⟨c,hc⟩:=this
    exact one c hc rfl
theorem LeafOk.int {t:TypeId} {c:Value} {k:IntKind} (h:LeafOk enc P w t c) (hu:P.underlying t=some (.int k)):∃ n,c=.int k n∧(Lit.int k n).wf=true:=by
 obtain ⟨fuel,x,h⟩:=h
 obtain ⟨n,hc,_,hw⟩:=DataW.trod_int hu h
 exact ⟨n,by simpa using hc,hw⟩
theorem LeafOk.bool {t:TypeId} {c:Value} (h:LeafOk enc P w t c) (hu:P.underlying t=some .bool):∃ b,c=.bool b:=by
 obtain ⟨fuel,x,h⟩:=h
 obtain ⟨n,hc,_⟩:=DataW.trod_bool hu h
 exact ⟨n,by simpa using hc⟩
theorem LeafOk.str {t:TypeId} {c:Value} (h:LeafOk enc P w t c) (hu:P.underlying t=some .string):∃ b,c=.string b:=by
 obtain ⟨fuel,x,h⟩:=h
 obtain ⟨n,hc,_⟩:=DataW.trod_string hu h
 exact ⟨n,by simpa using hc⟩
theorem LeafOk.sc {t:TypeId} {c:Value} {s:Sc} (h:LeafOk enc P w t c) (hs:leafSc P t=some s):∃ x:s.T,c=s.e x:=by
 unfold leafSc at hs
 split at hs
 ·rename_i hu; cases hs; obtain ⟨n,hc,_⟩:=h.int hu; exact ⟨n,hc⟩
 ·rename_i hu; cases hs; obtain ⟨n,hc⟩:=h.bool hu; exact ⟨n,hc⟩
 ·rename_i hu; cases hs; obtain ⟨n,hc⟩:=h.str hu; exact ⟨n,hc⟩
 ·rename_i hu
  cases hs
  obtain ⟨fuel,x,h⟩:=h
  rcases DataW.trod_slice hu h with ⟨hc,_⟩ | ⟨a,len,cap,_,_,_,_,hc,_⟩
  ·exact ⟨⟨none,0,0⟩,by simpa using hc⟩
  ·exact ⟨⟨some a,len,cap⟩,by simpa using hc⟩
 ·cases hs
theorem Zyz:∀ {ts:List TypeId} {ss:List Sc} {cs:List Value},ts.map (leafSc P)=ss.map some→cs.length=ts.length→(∀ (i:Nat) (ti:TypeId) (c:Value),ts[i]?=some ti→cs[i]?=some c→LeafOk enc P w ti c) →
  ∃ x:Tup Sc.T ss,cs=Tup.e Sc.e ss x
 | [],[],[],_,_,_=>⟨(),rfl⟩
 | [],_ :: _,_,h,_,_=>by simp at h
 | _ :: _,[],_,h,_,_=>by simp at h
 | [],[],_ :: _,_,h,_=>by simp at h
 | t :: ts,s :: ss,[],_,h,_=>by simp at h
 | t :: ts,s :: ss,c :: cs,h,hl,ho=>by
  simp only [List.map_cons,List.cons.injEq] at h
  obtain ⟨x,hx⟩:=(ho 0 t c rfl rfl).sc h.1
  obtain ⟨y,hy⟩:=Zyz (cs:=cs) h.2 (by simpa using hl) (fun i ti c hi hc=>ho (i+1) ti c (by simpa using hi) (by simpa using hc))
  rcases ss with _ | ⟨s2,ss⟩
  ·rcases ts with _ | ⟨t2,ts⟩
   ·rcases cs with _ | ⟨c2,cs⟩
    ·exact ⟨x,by rw [hx]; rfl⟩
    ·simp at hl
   ·simp at h
  ·exact ⟨(x,y),by rw [hx,hy]; rfl⟩
def AllLeaf (enc:TypeId × Value→H) (P:Program) (w:World) (ts:List TypeId) (cs:List Value):Prop:=cs.length=ts.length∧∀ (i:Nat) (ti:TypeId) (c:Value),ts[i]?=some ti→cs[i]?=some c→LeafOk enc P w ti c
theorem Zvf {α:Type} {p:Nat→α→Prop}:∀ (n:Nat),(∀ i,i < n→∃ x,p i x)→∃ l:List α,l.length=n∧∀ i x,l[i]?=some x→p i x
 | 0,_=>⟨[],rfl,fun i x h=>by simp at h⟩
 | n+1,h=>by
  obtain ⟨l,hl,hp⟩:=Zvf n fun i hi=>h i (by omega)
  obtain ⟨x,hx⟩:=h n (by omega)
  refine ⟨l ++ [x],by simp [hl],fun i y hy=>?_⟩
  by_cases hi:i < l.length
  ·rw [List.getElem?_append_left hi] at hy; exact hp i y hy
  ·rw [List.getElem?_append_right (by omega)] at hy
   have:i - l.length=0:=by
    have:=(List.getElem?_eq_some_iff.1 hy).1
    simp at this
    omega
   rw [this] at hy
   simp at hy
   subst hy
   rw [show i=n by omega]
   exact hx
theorem Zzs {a:Addr} {v:Value} (h:w.cell? a=some v):a=⟨a.block,a.off,none⟩:=by
 obtain ⟨b,o,s⟩:=a
 cases s with
 | none=>rfl
 | some x =>
  exfalso
  simp only [World.cell?] at h
  split at h
  ·cases h
  ·cases h
theorem add0 (a:Addr):a.add 0=a:=by unfold Addr.add; simp
theorem Zsj {base:Nat} {a:Addr} {n:Nat} {cs:List Value} (h:w.cells? base a n=some cs):cs.length=n∧CellsAt w a cs:=by
 unfold World.cells? at h
 split at h
 ·refine ⟨?_,fun j u hj=>?_⟩
  ·have:=congrArg (Option.map List.length) (rfl:(List.range n).mapM (fun i=>w.cell? (a.add i))=_)
   rw [h] at this
   clear this
   have key:∀ (l:List Nat) (ys:List Value),l.mapM (fun i=>w.cell? (a.add i))=some ys→ys.length=l.length:=by
    intro l
    induction l with
    | nil=>intro ys h; simp at h; subst h; rfl
    | cons x l ih =>
     intro ys h
     rw [List.mapM_cons] at h
     obtain ⟨y,hy,h2⟩:=Option.bind_eq_some_iff.1 h
     obtain ⟨ys',hys,h3⟩:=Option.bind_eq_some_iff.1 h2
     cases h3
     simp [ih ys' hys]
   rw [key _ _ h]
   simp
  ·have key:∀ (l:List Nat) (ys:List Value),l.mapM (fun i=>w.cell? (a.add i))=some ys→∀ (j:Nat) (u:Value) (k:Nat),ys[j]?=some u→l[j]?=some k→w.cell? (a.add k)=some u:=by
    intro l
    induction l with
    | nil=>intro ys h j u k _ hk; simp at hk
    | cons x l ih =>
     intro ys h j u k hj hk
     rw [List.mapM_cons] at h
     obtain ⟨y,hy,h2⟩:=Option.bind_eq_some_iff.1 h
     obtain ⟨ys',hys,h3⟩:=Option.bind_eq_some_iff.1 h2
     cases h3
     rcases j with _ | j
     ·simp at hj hk
      subst hj; subst hk
      exact hy
     ·exact ih ys' hys j u k (by simpa using hj) (by simpa using hk)
   have hjl:j < n:=by
    have key2:∀ (l:List Nat) (ys:List Value),l.mapM (fun i=>w.cell? (a.add i))=some ys→ys.length=l.length:=by
     intro l
     induction l with
     | nil=>intro ys h; simp at h; subst h; rfl
     | cons x l ih =>
      intro ys h
      rw [List.mapM_cons] at h
      obtain ⟨y,hy,h2⟩:=Option.bind_eq_some_iff.1 h
      obtain ⟨ys',hys,h3⟩:=Option.bind_eq_some_iff.1 h2
      cases h3
      simp [ih ys' hys]
    have:=key2 _ _ h
    have:=(List.getElem?_eq_some_iff.1 hj).1
    simp at *
    omega
   exact key _ _ h j u j hj (by simp [hjl])
 ·cases h
structure SlArg (P:Program) (t e:TypeId) (ty:Ty) (ts:List TypeId):Prop where
 under:P.underlying t=some (.slice e)
 size:P.cellsOf e=ty.size
 pos:0 < ty.size
 leaf:leaves P 9 e=some ts
 sorts:∃ ss:List Sc,ts.map (leafSc P)=ss.map some∧((ty=.agg ss)∨∃ s,ty=.sc s∧ss=[s])
theorem LeafOk.slice {t e:TypeId} {ty:Ty} {ts:List TypeId} (A:SlArg P t e ty ts) {c:Value} (h:LeafOk enc P w t c) :
  ∃ (s:Sl) (l:List ty.T),c=s.v∧SlT (fun k=>k < w.heap.size) w ty s l∧s.c≤maxLen∧∀ x∈l,AllLeaf enc P w ts (ty.cells x):=by
 obtain ⟨fuel,x,h⟩:=h
 rcases open_slice A.under h with ⟨hc,_⟩ | ⟨a,len,cap,m,n,D,Pl,hc,hb,hl,hm,hmm,_,hel⟩
 ·exact ⟨⟨none,0,0⟩,[],by simpa [Sl.v] using hc,SlT.nil _,Nat.zero_le _,by simp⟩
 ·have hmc:m=cap:=by simpa using hmm
  subst hmc
  obtain ⟨ss,hss,hty⟩:=A.sorts
  have each:∀ i,i < len→∃ x:ty.T,CellsAt w (a.add (i * ty.size)) (ty.cells x)∧AllLeaf enc P w ts (ty.cells x):=by
   intro i hi
   obtain ⟨cs',h1,h2⟩:=hel i (by omega)
   obtain ⟨h3,h4⟩:=Zsj h1
   obtain ⟨h5,h6⟩:=Zlg 9 n e ts cs' _ A.leaf h2
   obtain ⟨x,hx⟩:=Zyz hss h5 h6
   rw [A.size] at h4
   rcases hty with rfl | ⟨s,rfl,rfl⟩
   ·exact ⟨x,by rw [show Ty.cells (.agg ss) x=cs' from hx.symm]; exact h4,by rw [show Ty.cells (.agg ss) x=cs' from hx.symm]; exact ⟨h5,h6⟩⟩
   ·exact ⟨x,by rw [show Ty.cells (.sc s) x=cs' from hx.symm]; exact h4,by rw [show Ty.cells (.sc s) x=cs' from hx.symm]; exact ⟨h5,h6⟩⟩
  obtain ⟨l,hll,hlp⟩:=Zvf len each
  refine ⟨⟨some a,len,m⟩,l,by simpa [Sl.v] using hc,⟨hll.symm,hl,?_⟩,hm,fun x hx=>?_⟩
  ·by_cases h0:l=[]
   ·exact .inl h0
   ·right
    have hpos:0 < l.length:=List.length_pos_iff.2 h0
    have hx0:=List.getElem?_eq_getElem hpos
    have hc0:=(hlp 0 _ hx0).1
    rw [Nat.zero_mul,add0] at hc0
    have hcl:=ty.cells_len l[0]
    have hp:=A.pos
    have hcell:=hc0 0 _ (List.getElem?_eq_getElem (by omega))
    rw [add0] at hcell
    have ha:=Zzs hcell
    refine ⟨a.block,a.off,by rw [ha],World.block_lt_of_cell? w a hcell,World.block_lt_of_cell? w a hcell,fun i x hx=>?_⟩
    refine Rd.cells.2 ?_
    have:=(hlp i x hx).1
    rw [ha,add_lit] at this
    exact this
  ·obtain ⟨i,hi⟩:=List.mem_iff_getElem?.1 hx
   exact (hlp i x hi).2
theorem Zhy {P:Program} (hl:laidOutB P=true) {W W':World} (hb:Below W.heap.size W W'):∀ {ts:List TypeId} {vs:List Value} {ds:List (DataW H)} {ps:List MemPlace},(∀ t∈ts,P.readableRec t=true∧t < P.types.size) →
  DataW.TrodAll enc P W 0 (fun _=>true) true ts vs ds ps→(∀ x∈ps,x.block < W.heap.size)→DataW.TrodAll enc P W' 0 (fun b=>decide (b < W.heap.size)) true ts vs ds ps
 | [],[],[],_,_,h,_=>h
 | [],[],_ :: _,_,_,h,_=>h.elim
 | [],_ :: _,_,_,_,h,_=>h.elim
 | _ :: _,[],_,_,_,h,_=>h.elim
 | _ :: _,_ :: _,[],_,_,h,_=>h.elim
 | t :: ts,v :: vs,d :: ds,ps,hr,⟨p,q,h1,h2,e⟩,hlt=>by
  subst e
  exact ⟨p,q,Below.trod hl (hr t List.mem_cons_self).1 (hr t List.mem_cons_self).2 h1 hb (fun x hx=>hlt x (List.mem_append_left _ hx)),
   Zhy hl hb (fun u hu=>hr u (List.mem_cons_of_mem _ hu)) h2 (fun x hx=>hlt x (List.mem_append_right _ hx)),rfl⟩
theorem Zxm {P:Program} (hl:laidOutB P=true) {f:Func} {s:ChangeSpec} {W W':World} {args:Array Value} {ds gs:List (DataW H)} {before:List MemPlace} {tb:TypeId} (hbool:P.underlying tb=some .bool) (hres:f.resultTypes=#[tb])
  (hr:∀ t∈f.params.toList,P.readableRec t=true∧t < P.types.size) (hvars:s.vars=[]) (hs:(s.fn H (ds ++ [])).results=[.lit (.bool true)]∧(s.fn H (ds ++ [])).args=ds∧(s.fn H (ds ++ [])).vars=[])
  (hW:DataW.Whole enc P f.params.toList s.vars false W args.toList ds gs before) (hf:Fr None W W'):s.post enc P f false true false false W args (.bool true) W':=by
 have hlt:=hW.lt
 have hW2:=hW
 obtain ⟨p,q,hA,hV,rfl,hfz,hnd⟩:=hW2
 rw [hvars] at hV
 obtain ⟨hgs,hq⟩:gs=[]∧q=[]:=by
  cases gs with
  | nil=>exact ⟨rfl,hV⟩
  | cons _ _=>exact hV.elim
 subst hq; subst hgs
 refine ⟨ds,[],p ++ [],[],p,[],hW,?_,?_,?_,hf.below.frame _,fun h=>by cases h⟩
 ·rw [hs.1,hres]
  exact trodAll_mk1 (shut_bool hbool true)
 ·rw [hs.2.1]
  exact Zhy hl hf.below hr hA (fun x hx=>hlt x (by simpa using hx))
 ·rw [hs.2.2,hvars]
  rfl
theorem Zps {t e:TypeId} {ty:Ty} {ts:List TypeId} (A:SlArg P t e ty ts) {v:Value} {d:DataW H} {p:List MemPlace} (hval:Value.okWide P w .any 0 t v) (h:DataW.Trod enc P w 0 (fun _=>true) true t v d p) :
  ∃ (s:Sl) (l:List ty.T),v=s.v∧SlT (fun k=>k < w.heap.size) w ty s l∧s.c≤maxLen∧∀ x∈l,AllLeaf enc P w ts (ty.cells x):=by
 obtain ⟨a0,len,cap,rfl⟩:=okWide_slice A.under hval
 obtain ⟨fuel,hf⟩:=h
 exact LeafOk.slice A ⟨fuel,_,hf⟩
end Go.Proofs.YtchhhjlpnecjkaaGreat.Den
namespace Go.Proofs.YtchhhjlpnecjkaaGreat
open Go Go.RowKit Go.ChangeShapes Go.WideShapes Go.ChangeAt Go.Proofs.YtchhhjlpnecjkaaGreat.Den
variable {R:Type} {Q:R→World→Prop} {w:World}
theorem Zwy {f:Nat} {args:List Value} {W:World} (h:callW Tryz.prog f args [.sc .bool] (fun (r:Bool) (_:Unit→World→Prop) w'=>r=true∧Fr None W w') (fun _ _=>True) W):Calls Tryz.prog f ⟨args⟩ W (fun e w'=>e=.returned (.bool true)∧Fr None W w') :=
 Calls.mono h fun _ w' ⟨r,he,hr,hf⟩=>⟨by rw [he,hr]; rfl,hf⟩
theorem Zxw:ownKnob Tryz.prog.godebug=none:=by kernel_rfl
theorem Zsy:laidOutB Tryz.prog=true:=by kernel_rfl
theorem Zut:SlArg Tryz.prog 55 92 compT [5,21,21,21] :=
 ⟨by kernel_rfl,by kernel_rfl,by decide,by kernel_rfl,⟨[.int .u8,.int .i32,.int .i32,.int .i32],by kernel_rfl,.inl rfl⟩⟩
theorem wf_u8 {n:Int} (h:(Lit.int .u8 n).wf=true):0≤n∧n≤255:=by simpa [Lit.wf,IntKind.min,IntKind.max,IntKind.bits,IntKind.signed] using h
theorem Z10o {n:Int} (h:(Lit.int .u32 n).wf=true):0≤n∧n≤4294967295:=by simpa [Lit.wf,IntKind.min,IntKind.max,IntKind.bits,IntKind.signed] using h
theorem Zwp {n:Int} (h:(Lit.int .i32 n).wf=true):-2147483648≤n∧n≤2147483647:=by simpa [Lit.wf,IntKind.min,IntKind.max,IntKind.bits,IntKind.signed] using h
theorem Ztk:Tryz.prog.underlying 5=some (.int .u8):=by kernel_rfl
theorem Zry:Tryz.prog.underlying 21=some (.int .i32):=by kernel_rfl
theorem Zwx:Tryz.prog.underlying 4=some .bool:=by kernel_rfl
theorem Zz7 {H:Type} {enc:TypeId × Value→H} {c:Comp} (h:AllLeaf enc Tryz.prog w [5,21,21,21] (compT.cells c)):CompOk c:=by
 obtain ⟨_,h⟩:=h
 obtain ⟨_,e,h0⟩:=(h 0 _ _ rfl rfl).int Ztk
 cases e
 obtain ⟨_,e,h1⟩:=(h 1 _ _ rfl rfl).int Zry
 cases e
 obtain ⟨_,e,h2⟩:=(h 2 _ _ rfl rfl).int Zry
 cases e
 obtain ⟨_,e,h3⟩:=(h 3 _ _ rfl rfl).int Zry
 cases e
 exact ⟨wf_u8 h0,Zwp h1,Zwp h2,Zwp h3⟩
abbrev u8T:Ty:=.sc (.int .u8)
theorem Zul:SlArg Tryz.prog 22 5 u8T [5] :=
 ⟨by kernel_rfl,by kernel_rfl,by decide,by kernel_rfl,⟨[.int .u8],by kernel_rfl,.inr ⟨_,rfl,rfl⟩⟩⟩
theorem Zz3 {H:Type} {enc:TypeId × Value→H} {c:Int} (h:AllLeaf enc Tryz.prog w [5] (u8T.cells c)):0≤c∧c≤255:=by
 obtain ⟨_,h⟩:=h
 obtain ⟨_,e,h0⟩:=(h 0 _ _ rfl rfl).int Ztk
 cases e
 exact wf_u8 h0
theorem Den.Rd.fld {a:Addr} {l:List Sc} {x:Tup Sc.T l} (h:Rd w a (.agg l) x) {i:Nat} {s:Sc} {y:s.T} (hy:(Tup.e Sc.e l x)[i]?=some (s.e y)) {K:s.T→W R} (hk:K y Q w):ld (.sc s) (a.add i) K Q w:=⟨y,h i _ hy,hk⟩
theorem idxA {a:Addr} {n sz:Nat} {i:Int} (h0:0≤i) (h1:i < n) {K:Addr→W R} (hk:K (a.add (i.toNat * sz)) Q w):idxW (some a) n sz i K Q w:=⟨a,rfl,h0,h1,hk⟩
theorem addA (a:Addr) (i j:Nat):(a.add i).add j=a.add (i+j):=Go.Deep.add_add a i j
end Go.Proofs.YtchhhjlpnecjkaaGreat
namespace Go.Proofs.YtchhhjlpnecjkaaGreat.Den
open Go Go.RowKit
variable {R:Type} {Q:R→World→Prop} {w:World}
abbrev OB:=(Nat→Prop)→World→Prop
def St (A:OB):Prop:=∀ {F F' S:Nat→Prop} {w w':World},A F w→Fr S w w'→(∀ k,k < w.heap.size→F k→¬ S k∧F' k)→A F' w'
abbrev Ex (F:Nat→Prop) (w:World):Nat→Prop:=fun k=>F k∨w.heap.size≤k
theorem St.fr {A:OB} (h:St A) {F S:Nat→Prop} {w w':World} (a:A F w) (f:Fr S w w') (hn:∀ k,F k→¬ S k):A F w':=h a f fun k _ e=>⟨hn k e,e⟩
theorem St.fr0 {A:OB} (h:St A) {F:Nat→Prop} {w w':World} (a:A F w) (f:Fr None w w'):A F w':=h a f fun _ _ e=>⟨fun h=>h,e⟩
theorem St.mono {A:OB} (h:St A) {F F':Nat→Prop} {w:World} (a:A F w) (hf:∀ k,k < w.heap.size→F k→F' k):A F' w:=h a (Fr.refl None w) fun k hk e=>⟨fun h=>h,hf k hk e⟩
def relab (lab:Nat→Nat) (n n' c:Nat):Nat→Nat:=fun k=>if k < n then lab k else if k < n' then c else 0
theorem Z16 {lab:Nat→Nat} {n n' c k:Nat} (h:k < n):relab lab n n' c k=lab k:=by simp [relab,h]
theorem Z5w {lab:Nat→Nat} {n n' c k:Nat} (h:n≤k) (h2:k < n'):relab lab n n' c k=c:=by simp [relab,show ¬ k < n by omega,h2]
theorem Z82 {lab:Nat→Nat} {n n' c k:Nat} (h:relab lab n n' c k≠0):(lab k≠0∧k < n)∨(n≤k∧k < n'):=by
 unfold relab at h
 split at h
 ·exact .inl ⟨h,by assumption⟩
 ·split at h
  ·exact .inr ⟨by omega,by assumption⟩
  ·exact absurd rfl h
theorem St.other {A:OB} (h:St A) {lab:Nat→Nat} {i j c:Nat} {w w':World} (a:A (fun k=>lab k=i) w) (f:Fr (fun k=>lab k=j) w w') (hij:i≠j):A (fun k=>relab lab w.heap.size w'.heap.size c k=i) w' :=
 h a f fun k hk e=>⟨by omega,by show relab _ _ _ _ _=_; rw [Z16 hk]; exact e⟩
theorem St.grown {A:OB} (h:St A) {lab:Nat→Nat} {i:Nat} {w w':World} (a:A (Ex (fun k=>lab k=i) w) w'):A (fun k=>relab lab w.heap.size w'.heap.size i k=i) w' :=
 h.mono a fun k hk e=>by
  rcases Nat.lt_or_ge k w.heap.size with hl | hg
  ·rw [Z16 hl]
   rcases e with e | e
   ·exact e
   ·omega
  ·exact Z5w hg hk
def cut (lab:Nat→Nat) (n:Nat):Nat→Nat:=fun k=>if k < n then lab k else 0
theorem Z106 {lab:Nat→Nat} {n k:Nat} (h:k < n):cut lab n k=lab k:=by simp [cut,h]
theorem St.cut {A:OB} (h:St A) {lab:Nat→Nat} {i:Nat} {S:Nat→Prop} {w w':World} (a:A (fun k=>lab k=i) w) (f:Fr S w w') (hi:i≠0) (hs:∀ k,k < w.heap.size→lab k≠0→¬ S k):A (fun k=>cut lab w.heap.size k=i) w' :=
 h a f fun k hk e=>⟨hs k hk (by omega),by show Den.cut _ _ _=_; rw [Z106 hk]; exact e⟩
def Bl (b:Nat) (T:TypeId) (cs:List Value):OB:=fun F w=>F b∧Blk w b T cs
theorem Bl.st {b:Nat} {T:TypeId} {cs:List Value}:St (Bl b T cs):=fun ⟨h1,h2⟩ f hs=>⟨(hs b h2.lt h1).2,h2.fr f (hs b h2.lt h1).1⟩
theorem Own.st {E:TypeId} {t:Ty} {s:Sl} {l:List t.T}:St fun F w=>Own F w E t s l:=fun {F F' S w w'} h f hs=>by
 rcases h.cases with ⟨rfl,rfl⟩ | ⟨g,c,cur,rfl,hg,h3,h4,h5,h6,h7⟩
 ·exact Own.nil _ _ _ _
 ·have hl:=(Array.getElem?_eq_some_iff.1 h3).1
  exact Own.mk' (hs g hl hg).2 ((f.block g hl (hs g hl hg).1).trans h3) h4 h5 h6 h7
theorem SlT.st {t:Ty} {s:Sl} {l:List t.T}:St fun F w=>SlT F w t s l:=fun {F F' S w w'} h f hs=>by
 refine ⟨h.len,h.cap,h.at_.imp id ?_⟩
 rintro ⟨b,o,h1,h2,h3,h4⟩
 exact ⟨b,o,h1,(hs b h3 h2).2,Nat.lt_of_lt_of_le h3 f.size,fun i x hx=>(h4 i x hx).keep (f.block b h3 (hs b h3 h2).1)⟩
def Mp {κ:Type} (P:Program) (k:TypeId) (ke:κ→Value) (b:Nat) (f:κ→Option Value):OB:=fun F w=>F b∧MapB P k ke w b f
theorem Mp.st {κ:Type} {P:Program} {k:TypeId} {ke:κ→Value} {b:Nat} {f:κ→Option Value}:St (Mp P k ke b f):=fun ⟨h1,h2⟩ fr hs=>⟨(hs b h2.lt h1).2,h2.fr fr (hs b h2.lt h1).1⟩
theorem Fr.ex {F:Nat→Prop} {a b c:World} (h:Fr F a b) (k:Fr (Ex F a) b c):Fr F a c:=h.trans k (fun _ h=>h) fun x hx e=>by
 rcases e with e | e
 ·exact e
 ·omega
theorem Fr.exS {F S:Nat→Prop} {a b c:World} (h:Fr F a b) (k:Fr S b c) (hs:∀ x,S x→F x∨a.heap.size≤x):Fr F a c:=h.ex (k.mono fun x _ e=>hs x e)
theorem Fr.sub {S T:Nat→Prop} {a b:World} (h:Fr S a b) (hs:∀ x,S x→T x):Fr T a b:=h.mono fun x _ e=>hs x e
theorem Fr.any {S:Nat→Prop} {a b:World} (h:Fr None a b):Fr S a b:=h.mono fun _ _ e=>e.elim
theorem Fr.lab {lab:Nat→Nat} {j:Nat} {a b:World} (h:Fr (fun k=>lab k=j) a b) (hj:j≠0):Fr (fun k=>lab k≠0) a b:=h.mono fun k _ e=>by omega
theorem makeI {P:Program} {T E:TypeId} {t:Ty} {bytes:Nat} (H:SlTy P T E t bytes) {z:t.T} {zv:Value} (hz:(P.info? E).bind (·.zero)=some zv) (hzc:zv.cells.toList=t.cells z) {i:Int} {n:Nat} (hi:i=(n:Int)) (hb:n * bytes≤140737488355328) (hm:n≤9223372036854775807)
  {K:Sl→W R} (hk:∀ w',Own (fun k=>k=w.heap.size) w' E t ⟨some ⟨w.heap.size,0,none⟩,n,n⟩ (List.replicate n z)→Fr None w w'→w'.heap.size=w.heap.size+1→K ⟨some ⟨w.heap.size,0,none⟩,n,n⟩ Q w') :
  rawW P (Instr.makeSlice T (.int .i64 i) (.int .i64 i)) [.sc .sl] K Q w:=by
 subst hi
 obtain ⟨i,z',h1,h2,h3,h4,h5⟩:=H.info
 rw [h1] at hz
 simp only [Option.bind_some,h2,Option.some.injEq] at hz
 subst hz
 have hbi:(i.bytes:Int) * (n:Int)≤281474976710656:=by
  have:i.bytes * n≤140737488355328:=by rw [h4,Nat.mul_comm]; exact hb
  have h:((i.bytes * n:Nat):Int)≤140737488355328:=by omega
  rw [Int.natCast_mul] at h
  omega
 have hr:=run_make (P:=P) w T E i z' H.under h1 h2 .i64 .i64 n n (by omega) (Int.le_refl _) hbi (by omega)
 simp only [Int.toNat_natCast] at hr
 have hcells:(madeCells z'.cells (n * i.size)).toList=(List.replicate n z).flatMap t.cells:=by
  apply List.ext_getElem?
  intro j
  have hpos:=H.pos
  have hzs:z'.cells=⟨t.cells z⟩:=by rw [← hzc]
  have hsz:(t.cells z).length=t.size:=t.cells_len z
  by_cases hj:j < n * t.size
  ·have hq:j / t.size < n:=Nat.div_lt_of_lt_mul (by rw [Nat.mul_comm]; exact hj)
   have hml:j % t.size < (t.cells z).length:=by rw [hsz]; exact Nat.mod_lt _ hpos
   have e1:=Zfn (l:=List.replicate n z) (i:=j / t.size) (x:=z) (by simp [hq]) (j % t.size) _ (List.getElem?_eq_getElem hml)
   rw [Nat.mul_comm,Nat.div_add_mod] at e1
   rw [e1,hzs,h3]
   have hj':j < (madeCells ⟨t.cells z⟩ (n * t.size)).size:=by rw [size_madeCells]; exact hj
   rw [Array.getElem?_toList,Array.getElem?_eq_getElem hj']
   simp only [madeCells,Array.getElem_map,Array.getElem_range,List.size_toArray,hsz]
   congr 1
   rw [getElem!_pos (c:=(⟨t.cells z⟩:Array Value)) (i:=j % t.size) (by simpa using hml)]
   simp
  ·rw [List.getElem?_eq_none,List.getElem?_eq_none]
   ·rw [Z1v]; simp; omega
   ·rw [Array.length_toList,size_madeCells,h3]; omega
 refine ⟨⟨_,_,_⟩,_,hr,hk _ ?_ ((Fr.refl _ _).alloc _) (by simp)⟩
 have hl:(List.replicate n z).length=n:=List.length_replicate
 have:=Own.mk' (S:=fun k=>k=w.heap.size) (w:=w.alloc (.cells (madeCells z'.cells (n * i.size)) E)) (E:=E) (t:=t) (l:=List.replicate n z) (g:=w.heap.size) (c:=n) (cur:=madeCells z'.cells (n * i.size)) rfl (heap_alloc_new w _) (by rw [hl]; exact Nat.le_refl _) (by rw [Zm]; exact hm) (by rw [size_madeCells,h3]) (by
  rw [hl,hcells,List.take_of_length_le]
  rw [Z1v,hl]; exact Nat.le_refl _)
 rw [hl] at this
 exact this
theorem appP {P:Program} {T E ty:TypeId} {t:Ty} {bytes:Nat} (H:SlTy P T E t bytes) {S:Nat→Prop} {o:Sl} {lo:List t.T} {x:t.T} {cs:List Value} (hc:cs=t.cells x) (ho:Own S w E t o lo) (hS:∀ k,w.heap.size≤k→S k)
  (hb:(lo.length+1) * bytes≤140737488355328) (hm:lo.length+1≤9223372036854775807) {K:Sl→W R}
  (hk:∀ r w',Own S w' E t r (lo ++ [x])→Fr (fun k=>o.v.ownBlock=some k) w w'→K r Q w'):newW E cs (fun a=>rawW P (Builtin.append_ #[T,T] ty #[.slice o.a o.n o.c,.slice (some a) 1 1]) [.sc .sl] K) Q w:=by
 subst hc
 refine newI fun w2 B2 f2 s2=>?_
 refine app1 (S':=S) H (ho.none f2) B2 rfl hb (by rw [Zm]; exact hm) (fun _ h=>h) (hS _ (by omega)) fun r w3 o3 f3 s3=>?_
 exact hk r w3 o3 (f2.any.then f3)
theorem rangeI {ok:Nat→Prop} {t:Ty} {sl:Sl} {l:List t.T} {σ:Type} {s0:σ} {sz:Nat} {body:(σ→W R)→σ→t.T→W R} {done:σ→W R} (idx:σ→Int) (P:Nat→σ→World→Prop)
  (hsz:sz=t.size) (h0:P 0 s0 w) (hi:∀ j s w',P j s w'→idx s=j) (hS:∀ j s w',P j s w'→SlT ok w' t sl l)
  (hs:∀ j x s w' K,l[j]?=some x→P j s w'→idx s=j→(∀ s' w'',P (j+1) s' w''→K s' Q w'')→body K s x Q w') (hd:∀ s w',P l.length s w'→done s Q w') :
  loopW (fun K s=>cond (decide (idx s < (sl.n:Int))) (idxW sl.a sl.n sz (idx s) fun a=>ld t a fun x=>body K s x) (done s)) s0 Q w:=by
 have hn:sl.n=l.length:=(hS 0 s0 w h0).len
 rw [hn]
 refine forI (N:=l.length) idx P h0 hi ?_ hd
 intro j s w' K hj hp e hK
 rw [← hn]
 refine (hS j s w' hp).get hsz e hj fun x hx=>?_
 exact hs j x s w' K hx hp e hK
theorem rangeC {ok:Nat→Prop} {t:Ty} {sl:Sl} {l:List t.T} {σ:Type} {s0:σ} {sz:Nat} {T:TypeId} {zs:List Value} {body:(σ→W R)→σ→t.T→Addr→W R} {done:σ→W R} (idx:σ→Int) (P:Nat→σ→World→Prop)
  (hsz:sz=t.size) (hz:zs.length=t.size) (hf:t.fine=true) (h0:P 0 s0 w) (hi:∀ j s w',P j s w'→idx s=j) (hS:∀ j s w',P j s w'→SlT ok w' t sl l)
  (hs:∀ j x s w' w2 K,l[j]?=some x→P j s w'→idx s=j→Blk w2 w'.heap.size T (t.cells x)→Fr None w' w2→w2.heap.size=w'.heap.size+1→(∀ s' w'',P (j+1) s' w''→K s' Q w'')→body K s x ⟨w'.heap.size,0,none⟩ Q w2)
  (hd:∀ s w',P l.length s w'→done s Q w') :
  loopW (fun K s=>cond (decide (idx s < (sl.n:Int))) (idxW sl.a sl.n sz (idx s) fun a=>ld t a fun x=>newW T zs fun e=>stoL e (t.cells x) 0 (body K s x e)) (done s)) s0 Q w:=by
 refine rangeI idx P hsz h0 hi hS ?_ hd
 intro j x s w' K hx hp e hK
 refine newI fun w1 B1 f1 s1=>stoBlk (T:=T) (t.cells x) 0 B1 (by rw [t.cells_len,hz]; omega) (t.one x hf) fun w2 B2 f2 s2=>?_
 rw [Nat.add_zero,Zqm (by rw [t.cells_len,hz])] at B2
 exact hs j x s w' w2 K hx hp e B2 (f1.newer f2 fun k e=>by omega) (by omega) hK
end Go.Proofs.YtchhhjlpnecjkaaGreat.Den
namespace Go.Proofs.YtchhhjlpnecjkaaGreat
open Go Go.RowKit Go.Proofs.YtchhhjlpnecjkaaGreat.Den
variable {R:Type} {Q:R→World→Prop} {w:World}
abbrev idT:Ty:=.sc (.int .u32)
theorem Zyp:SlTy Tryz.prog 77 54 idT 4:=slTy (by kernel_rfl)
theorem Z109:Tryz.prog.underlying 54=some (.int .u32):=by kernel_rfl
def IdOk (i:Int):Prop:=0≤i∧i≤4294967295
section
variable {lab:Nat→Nat} {b m:Nat} {L:List Ent}
theorem Zqx {ok ok2:Nat→Prop} {s s2:Sl} {l l2:List Int} (hS:SlT ok w idT s l) (hS2:SlT ok2 w idT s2 l2) (hm:Small l) {K:Res [.sc .bool]→W R} (hk:∀ w',Fr None w w'→K (decide (l=l2)) Q w') :
  callW Tryz.prog Z55 [.slice s.a s.n s.c,.slice s2.a s2.n s2.c] [.sc .bool] K Q w:=by
 refine Zf8 s s2 K Q w ?_
 unfold Z8m
 have h1:=hS.len
 have h2:=hS2.len
 refine condN (fun hne=>?_) fun heq=>?_
 ·have e:=hk w (Fr.refl _ _)
  rw [decide_eq_false (fun e=>hne (by rw [h1,h2,e]))] at e
  exact e
 ·refine forI (N:=s.n) (fun s:Int=>s) (fun j s w'=>s=j∧Fr None w w'∧l.take j=l2.take j) ⟨rfl,Fr.refl _ _,rfl⟩ (fun j s w' h=>h.1) ?_ ?_
  ·rintro j i w1 K' hj ⟨rfl,f1,ht⟩ - hK
   refine (hS.fr0 f1.drew).get rfl rfl (by omega) fun x hx=>?_
   refine (hS2.fr0 f1.drew).get rfl rfl (by omega) fun y hy=>?_
   refine condN (fun hb=>?_) fun hb=>?_
   ·have e:=hk _ f1.drew
    rw [decide_eq_false (fun e=>by subst e; rw [hx] at hy; cases hy; exact hb rfl)] at e
    exact e
   ·subst hb
    exact hK _ _ ⟨wsucc hj (by omega),f1.drew,by rw [Z8 hx,Z8 hy,ht]⟩
  ·rintro i w1 ⟨rfl,f1,ht⟩
   have e:=hk _ f1
   rw [h1,List.take_length,List.take_of_length_le (by omega)] at ht
   rw [decide_eq_true ht] at e
   exact e
end
theorem Den.Own.relab {lab:Nat→Nat} {E:TypeId} {t:Ty} {s:Sl} {l:List t.T} {j:Nat} (h:Own (fun x=>lab x=j) w E t s l) (n' c:Nat):Own (fun x=>relab lab w.heap.size n' c x=j) w E t s l :=
 h.mono fun k hk e=>by rw [Z16 hk]; exact e
end Go.Proofs.YtchhhjlpnecjkaaGreat
namespace Go.Proofs.YtchhhjlpnecjkaaGreat
open Go Go.RowKit Go.Proofs.YtchhhjlpnecjkaaGreat.Den
variable {R:Type} {Q:R→World→Prop} {w:World}
abbrev entT:Ty:=.agg [.int .u32,.sl]
abbrev entC (r:Int × Sl):List Value:=[.int .u32 r.1,.slice r.2.a r.2.n r.2.c]
theorem Z5m:SlTy Tryz.prog 23 57 entT 32:=slTy (by kernel_rfl)
structure EntsR (ok:Nat→Prop) (w:World) (raws:List (Int × Sl)) (L:List Ent):Prop where
 len:raws.length=L.length
 at_:∀ (i:Nat) (r:Int × Sl) (e:Ent),raws[i]?=some r→L[i]?=some e→r.1=e.1∧SlT ok w compT r.2 e.2
theorem EntsR.fr {ok S:Nat→Prop} {w':World} {raws:List (Int × Sl)} {L:List Ent} (h:EntsR ok w raws L) (f:Fr S w w') (hn:∀ k,ok k→¬ S k):EntsR ok w' raws L :=
 ⟨h.len,fun i r e h1 h2=>⟨(h.at_ i r e h1 h2).1,(h.at_ i r e h1 h2).2.fr f hn⟩⟩
theorem EntsR.mono {ok ok':Nat→Prop} {raws:List (Int × Sl)} {L:List Ent} (h:EntsR ok w raws L) (hn:∀ k,k < w.heap.size→ok k→ok' k):EntsR ok' w raws L :=
 ⟨h.len,fun i r e h1 h2=>⟨(h.at_ i r e h1 h2).1,(h.at_ i r e h1 h2).2.mono hn⟩⟩
theorem EntsR.get {ok:Nat→Prop} {raws:List (Int × Sl)} {L:List Ent} (h:EntsR ok w raws L) {i:Nat} {e:Ent} (he:L[i]?=some e):∃ r,raws[i]?=some r∧r.1=e.1∧SlT ok w compT r.2 e.2:=by
 obtain ⟨hl,_⟩:=List.getElem?_eq_some_iff.1 he
 have hr:=List.getElem?_eq_getElem (l:=raws) (i:=i) (by rw [h.len]; exact hl)
 exact ⟨_,hr,h.at_ i _ e hr he⟩
theorem EntsR.nil (ok:Nat→Prop) (w:World):EntsR ok w [] []:=⟨rfl,fun i r e h=>by simp at h⟩
section
variable {lab:Nat→Nat} {b m:Nat} {s:Sl} {raws:List (Int × Sl)} {L:List Ent}
theorem EntsR.relab (h:EntsR (fun k=>lab k=3) w raws L) (n' c:Nat):EntsR (fun k=>relab lab w.heap.size n' c k=3) w raws L:=h.mono fun k hk e=>by rw [Z16 hk]; exact e
end
section
variable {lab:Nat→Nat} {b m:Nat} {L:List Ent}
theorem EntsR.drop {ok:Nat→Prop} {raws:List (Int × Sl)} {L:List Ent} (h:EntsR ok w raws L) (i:Nat):EntsR ok w (dropI raws i) (dropI L i):=by
 refine ⟨by rw [Zh8,Zh8,h.len],fun q r e h1 h2=>?_⟩
 by_cases h0:L=[]
 ·subst h0; simp [dropI] at h2
 ·have hp:0 < L.length:=List.length_pos_iff.2 h0
  have hl:=h.len
  obtain ⟨z,hz⟩:∃ z,raws[raws.length - 1]?=some z:=⟨_,List.getElem?_eq_getElem (by omega)⟩
  obtain ⟨y,hy⟩:∃ y,L[L.length - 1]?=some y:=⟨_,List.getElem?_eq_getElem (by omega)⟩
  rw [Zl7 hz] at h1
  rw [Zl7 hy] at h2
  rw [hl] at h1
  by_cases hq:q < L.length - 1
  ·rw [if_pos hq] at h1 h2
   by_cases hqi:q=i
   ·rw [if_pos hqi] at h1 h2
    cases h1; cases h2
    rw [hl] at hz
    exact h.at_ _ _ _ hz hy
   ·rw [if_neg hqi] at h1 h2
    exact h.at_ q r e h1 h2
  ·rw [if_neg hq] at h1; cases h1
theorem Zk2 {ok ok2:Nat→Prop} {id id2:Int} {s s2:Sl} {l l2:List Comp} (hS:SlT ok w compT s l) (hS2:SlT ok2 w compT s2 l2) (hm:Small l) {K:Res [.sc .bool]→W R} (hk:∀ w',Fr None w w'→K (decide (id=id2∧l=l2)) Q w') :
  callW Tryz.prog Z3p [.agg ⟨entC (id,s)⟩,.agg ⟨entC (id2,s2)⟩] [.sc .bool] K Q w:=by
 refine Zbv (id,s) (id2,s2) K Q w ?_
 unfold Z64
 refine newI fun w1 B1 f1 s1=>newI fun w2 B2 f2 s2'=>?_
 have B12:=B1.fr f2 fun h=>h
 refine joinK ?_
 refine fldI B12 (x:=id) rfl ?_
 refine fldI B2 (x:=id2) rfl ?_
 have f02:=f1.then0 f2
 refine condE (fun h=>?_) fun h=>?_
 ·refine fldI B12 (x:=s) rfl ?_
  refine fldI B2 (x:=s2) rfl ?_
  refine Zd4 (hS.fr0 f02) (hS2.fr0 f02) hm fun w3 f3=>?_
  have e:=hk w3 (f02.then0 f3)
  have:decide (id=id2∧l=l2)=decide (l=l2):=decide_eq_decide.2 ⟨fun h=>h.2,fun h2=>⟨h,h2⟩⟩
  rw [this] at e
  exact e
 ·have e:=hk w2 f02
  rw [decide_eq_false (fun h2=>h h2.1)] at e
  exact e
end
end Go.Proofs.YtchhhjlpnecjkaaGreat
set_option linter.unusedVariables false
namespace Go.Proofs.YtchhhjlpnecjkaaGreat
open Go Go.Proofs.YtchhhjlpnecjkaaGreat.Den
def Z9n (l0:Sl):W (Bool) :=
 loopW (σ:=Int × Int) (fun K_1 s_2 =>
  cond (decide (s_2.2 < (l0.n:Int)))
   (idxW l0.a l0.n 2 s_2.2 fun x_3 =>
  ld (.agg [.int .u32,.sl]) x_3 fun (x_4:(Int × Sl)) =>
  newW 57 [.int .u32 0,.slice none 0 0] fun e_5 =>
  stoL e_5 [.int .u32 x_4.1,.slice x_4.2.a x_4.2.n x_4.2.c] 0 <|
  ld (.sc .sl) (Addr.add e_5 1) fun (x_6:Sl) =>
  K_1 (IntKind.wrap .i64 (s_2.1+(x_6.n:Int)),IntKind.wrap .i64 (s_2.2+1)))
   (retW (decide (s_2.1≤400))))
  ((l0.n:Int),0)
theorem Zgo {R:Type} (l0:Sl) (K:Res [.sc .bool]→W R) (Q:R→World→Prop) (w:World) (h:Z9n l0 (fun r w=>K r Q w) w):callW Tryz.prog Z5s [.slice l0.a l0.n l0.c] [.sc .bool] K Q w:=den_c (K:=K) mix Tryz.func9 { lop:=[(0,[(3,.sc (.int .i64)),(10,.sc (.int .i64))])] } trivial rfl (by kernel_rfl) h
def Z8d (body0:Sl):W (Sl × Int) :=
 cond (decide ((body0.n:Int) > 4096))
  (retW ((⟨none,0,0⟩:Sl),3))
  (callW Tryz.prog Z5o [.slice body0.a body0.n body0.c] [.sc (.int .u32)] fun (x_1:Int) =>
 newW 5 [] fun x_2 =>
 rawW Tryz.prog (Builtin.append_ #[22,22] 22 #[.slice (some x_2) 0 0,.slice body0.a body0.n body0.c]) [.sc .sl] fun (x_3:Sl) =>
 newW 5 [.int .u8 (IntKind.wrap .u8 x_1),.int .u8 (IntKind.wrap .u8 (IntKind.wrap .u32 (Int.tdiv x_1 256))),.int .u8 (IntKind.wrap .u8 (IntKind.wrap .u32 (Int.tdiv x_1 65536))),.int .u8 (IntKind.wrap .u8 (IntKind.wrap .u32 (Int.tdiv x_1 16777216)))] fun x_4 =>
 rawW Tryz.prog (Builtin.append_ #[22,22] 22 #[.slice x_3.a x_3.n x_3.c,.slice (some x_4) 4 4]) [.sc .sl] fun (x_5:Sl) =>
 retW (x_5,0))
theorem Zez {R:Type} (body0:Sl) (K:Res [.sc .sl,.sc (.int .i64)]→W R) (Q:R→World→Prop) (w:World) (h:Z8d body0 (fun r w=>K r Q w) w):callW Tryz.prog Z30 [.slice body0.a body0.n body0.c] [.sc .sl,.sc (.int .i64)] K Q w:=den_c (K:=K) mix Tryz.func10 {} trivial rfl (by kernel_rfl) h
def Zh0 (d0:Sl) (o1:Sl):W ((Int × Int × Int × Int × Int) × Sl × Int) :=
 newW 30 [.int .u8 0,.int .u8 0,.int .u32 0,.int .u32 0,.int .u32 0] fun x_1 =>
 callW Tryz.prog Z70 [.slice d0.a d0.n d0.c] [.sc .sl,.sc (.int .i64)] fun (x_2:Sl × Int) =>
 cond (x_2.2 != 0)
  (stoL x_1 [.int .u8 0,.int .u8 0,.int .u32 0,.int .u32 0,.int .u32 0] 0 <|
  ld (.agg [.int .u8,.int .u8,.int .u32,.int .u32,.int .u32]) x_1 fun (x_3:(Int × Int × Int × Int × Int)) =>
  retW (x_3,(⟨none,0,0⟩:Sl),x_2.2))
  (callW Tryz.prog Zaa [.slice x_2.1.a x_2.1.n x_2.1.c] [.agg [.int .u8,.int .u8,.int .u32,.int .u32,.int .u32],.agg [.ptr],.sc (.int .i64)] fun (x_4:(Int × Int × Int × Int × Int) × (Option Addr) × Int) =>
 newW 30 [.int .u8 0,.int .u8 0,.int .u32 0,.int .u32 0,.int .u32 0] fun x_5 =>
 newW 62 [.pointer none] fun x_6 =>
 stoL x_5 [.int .u8 x_4.1.1,.int .u8 x_4.1.2.1,.int .u32 x_4.1.2.2.1,.int .u32 x_4.1.2.2.2.1,.int .u32 x_4.1.2.2.2.2] 0 <|
 stoL x_6 [.pointer x_4.2.1] 0 <|
 cond (x_4.2.2 != 0)
  (stoL x_1 [.int .u8 0,.int .u8 0,.int .u32 0,.int .u32 0,.int .u32 0] 0 <|
  ld (.agg [.int .u8,.int .u8,.int .u32,.int .u32,.int .u32]) x_1 fun (x_7:(Int × Int × Int × Int × Int)) =>
  retW (x_7,(⟨none,0,0⟩:Sl),4))
  (joinW (σ:=Bool) (fun J_8 =>
  ld (.sc (.int .u8)) (Addr.add x_5 0) fun (x_9:Int) =>
  cond (x_9 == 2)
   (callW Tryz.prog Z59 [.slice o1.a o1.n o1.c] [.sc (.int .i64)] fun (x_10:Int) =>
    J_8 (x_10 != 0))
   (J_8 false))
 <| fun s_11 =>
 cond s_11
  (stoL x_1 [.int .u8 0,.int .u8 0,.int .u32 0,.int .u32 0,.int .u32 0] 0 <|
  ld (.agg [.int .u8,.int .u8,.int .u32,.int .u32,.int .u32]) x_1 fun (x_12:(Int × Int × Int × Int × Int)) =>
  retW (x_12,(⟨none,0,0⟩:Sl),4))
  (ld (.agg [.int .u8,.int .u8,.int .u32,.int .u32,.int .u32]) x_5 fun (x_13:(Int × Int × Int × Int × Int)) =>
 ld (.agg [.ptr]) x_6 fun (x_14:(Option Addr)) =>
 callW Tryz.prog Zhe [.agg ⟨[.int .u8 x_13.1,.int .u8 x_13.2.1,.int .u32 x_13.2.2.1,.int .u32 x_13.2.2.2.1,.int .u32 x_13.2.2.2.2]⟩,.agg ⟨[.pointer x_14]⟩,.slice o1.a o1.n o1.c] [.sc .sl,.sc (.int .i64)] fun (x_15:Sl × Int) =>
 cond (x_15.2 != 0)
  (stoL x_1 [.int .u8 0,.int .u8 0,.int .u32 0,.int .u32 0,.int .u32 0] 0 <|
  ld (.agg [.int .u8,.int .u8,.int .u32,.int .u32,.int .u32]) x_1 fun (x_16:(Int × Int × Int × Int × Int)) =>
  retW (x_16,(⟨none,0,0⟩:Sl),4))
  (ld (.agg [.int .u8,.int .u8,.int .u32,.int .u32,.int .u32]) x_5 fun (x_17:(Int × Int × Int × Int × Int)) =>
 callW Tryz.prog Z80 [.agg ⟨[.int .u8 x_17.1,.int .u8 x_17.2.1,.int .u32 x_17.2.2.1,.int .u32 x_17.2.2.2.1,.int .u32 x_17.2.2.2.2]⟩,.slice o1.a o1.n o1.c,.slice x_15.1.a x_15.1.n x_15.1.c] [.sc .sl,.sc (.int .i64)] fun (x_18:Sl × Int) =>
 joinW (σ:=Bool) (fun J_19 =>
  cond (x_18.2 != 0)
   (J_19 true)
   (callW Tryz.prog Z7v [.slice x_18.1.a x_18.1.n x_18.1.c,.slice d0.a d0.n d0.c] [.sc .bool] fun (x_20:Bool) =>
     J_19 (!x_20)))
 <| fun s_21 =>
 cond s_21
  (stoL x_1 [.int .u8 0,.int .u8 0,.int .u32 0,.int .u32 0,.int .u32 0] 0 <|
  ld (.agg [.int .u8,.int .u8,.int .u32,.int .u32,.int .u32]) x_1 fun (x_22:(Int × Int × Int × Int × Int)) =>
  retW (x_22,(⟨none,0,0⟩:Sl),4))
  (ld (.agg [.int .u8,.int .u8,.int .u32,.int .u32,.int .u32]) x_5 fun (x_23:(Int × Int × Int × Int × Int)) =>
 stoL x_1 [.int .u8 x_23.1,.int .u8 x_23.2.1,.int .u32 x_23.2.2.1,.int .u32 x_23.2.2.2.1,.int .u32 x_23.2.2.2.2] 0 <|
 ld (.agg [.int .u8,.int .u8,.int .u32,.int .u32,.int .u32]) x_1 fun (x_24:(Int × Int × Int × Int × Int)) =>
 retW (x_24,x_15.1,0))))))
theorem Zo1 {R:Type} (d0:Sl) (o1:Sl) (K:Res [.agg [.int .u8,.int .u8,.int .u32,.int .u32,.int .u32],.sc .sl,.sc (.int .i64)]→W R) (Q:R→World→Prop) (w:World) (h:Zh0 d0 o1 (fun r w=>K r Q w) w):callW Tryz.prog Z7y [.slice d0.a d0.n d0.c,.slice o1.a o1.n o1.c] [.agg [.int .u8,.int .u8,.int .u32,.int .u32,.int .u32],.sc .sl,.sc (.int .i64)] K Q w:=den_c (K:=K) mix Tryz.func11 { reg:=[(7,[(39,.sc .bool)]),(13,[(65,.sc .bool)])] } ⟨by kernel_rfl,trivial⟩ rfl (by kernel_rfl) h
def Z8s (d0:Sl) (o1:Sl):W ((Int × Int × Int × Int × Int) × Sl × Int) :=
 newW 30 [.int .u8 0,.int .u8 0,.int .u32 0,.int .u32 0,.int .u32 0] fun x_1 =>
 callW Tryz.prog Z23 [.slice d0.a d0.n d0.c] [.agg [.int .u8,.int .u8,.int .u32,.int .u32,.int .u32],.sc (.int .i64)] fun (x_2:(Int × Int × Int × Int × Int) × Int) =>
 newW 30 [.int .u8 0,.int .u8 0,.int .u32 0,.int .u32 0,.int .u32 0] fun x_3 =>
 stoL x_3 [.int .u8 x_2.1.1,.int .u8 x_2.1.2.1,.int .u32 x_2.1.2.2.1,.int .u32 x_2.1.2.2.2.1,.int .u32 x_2.1.2.2.2.2] 0 <|
 cond (x_2.2 != 0)
  (stoL x_1 [.int .u8 0,.int .u8 0,.int .u32 0,.int .u32 0,.int .u32 0] 0 <|
  ld (.agg [.int .u8,.int .u8,.int .u32,.int .u32,.int .u32]) x_1 fun (x_4:(Int × Int × Int × Int × Int)) =>
  retW (x_4,(⟨none,0,0⟩:Sl),x_2.2))
  (callW Tryz.prog Z1j [.slice d0.a d0.n d0.c] [.sc .sl,.sc (.int .i64)] fun (x_5:Sl × Int) =>
 callW Tryz.prog Z1h [.slice x_5.1.a x_5.1.n x_5.1.c] [.sc .sl] fun (x_6:Sl) =>
 newW 73 [.slice x_6.a x_6.n x_6.c,.bool false] fun x_7 =>
 callW Tryz.prog Z1d [.pointer (some x_7)] [.agg [.int .u8,.int .u8,.int .u32,.int .u32,.int .u32]] fun (x_8:(Int × Int × Int × Int × Int)) =>
 ld (.sc (.int .u8)) (Addr.add x_3 0) fun (x_9:Int) =>
 joinW (σ:=Sl) (fun J_10 =>
  cond (x_9 == 1)
   (callW Tryz.prog Z1c [.pointer (some x_7)] [.sc .sl] fun (x_11:Sl) =>
   J_10 x_11)
   (joinW (σ:=Sl) (fun J_12 =>
    cond (x_9 == 2)
     (callW Tryz.prog Zu [.slice o1.a o1.n o1.c] [.sc (.int .i64)] fun (x_13:Int) =>
     cond (x_13 != 0)
      (stoL x_1 [.int .u8 0,.int .u8 0,.int .u32 0,.int .u32 0,.int .u32 0] 0 <|
      ld (.agg [.int .u8,.int .u8,.int .u32,.int .u32,.int .u32]) x_1 fun (x_14:(Int × Int × Int × Int × Int)) =>
      retW (x_14,(⟨none,0,0⟩:Sl),4))
      (newW 80 [.slice none 0 0,.slice none 0 0,.slice none 0 0] fun x_15 =>
     callW Tryz.prog Z3 [.pointer (some x_7)] [.sc (.int .u64)] fun (x_16:Int) =>
     loopW (σ:=Int × Int) (fun K_17 s_18 =>
      joinW (σ:=Bool) (fun J_19 =>
       cond (decide (s_18.2 > 0))
        (ld (.sc .bool) (Addr.add x_7 1) fun (x_20 : Bool) =>
           J_19 (!x_20))
        (J_19 false))
      <| fun s_21 =>
      cond s_21
       (callW Tryz.prog Zd [.pointer (some x_7),.int .u32 s_18.1] [.sc (.int .u32)] fun (x_22:Int) =>
      ld (.sc .sl) (Addr.add x_15 0) fun (x_23:Sl) =>
      newW 54 [.int .u32 x_22] fun x_24 =>
      rawW Tryz.prog (Builtin.append_ #[77,77] 77 #[.slice x_23.a x_23.n x_23.c,.slice (some x_24) 1 1]) [.sc .sl] fun (x_25:Sl) =>
      stoL (Addr.add x_15 0) [.slice x_25.a x_25.n x_25.c] 0 <|
      K_17 (x_22,IntKind.wrap .u64 (s_18.2 - 1)))
       (callW Tryz.prog Z1c [.pointer (some x_7)] [.sc .sl] fun (x_26:Sl) =>
     stoL (Addr.add x_15 1) [.slice x_26.a x_26.n x_26.c] 0 <|
     callW Tryz.prog Z3 [.pointer (some x_7)] [.sc (.int .u64)] fun (x_27:Int) =>
     loopW (σ:=Int × Int) (fun K_28 s_29 =>
      joinW (σ:=Bool) (fun J_30 =>
       cond (decide (s_29.2 > 0))
        (ld (.sc .bool) (Addr.add x_7 1) fun (x_31 : Bool) =>
           J_30 (!x_31))
        (J_30 false))
      <| fun s_32 =>
      cond s_32
       (callW Tryz.prog Zd [.pointer (some x_7),.int .u32 s_29.1] [.sc (.int .u32)] fun (x_33:Int) =>
      callW Tryz.prog Z2 [.pointer (some x_7),.int .i64 5] [.sc (.int .u64)] fun (x_34:Int) =>
      newW 86 [.int .u32 0,.int .u8 0,.slice none 0 0,.slice none 0 0] fun x_35 =>
      stoL x_35 [.int .u32 x_33,.int .u8 (IntKind.wrap .u8 x_34),.slice none 0 0,.slice none 0 0] 0 <|
      callW Tryz.prog Z2 [.pointer (some x_7),.int .i64 5] [.sc (.int .u64)] fun (x_36:Int) =>
      callW Tryz.prog Z2 [.pointer (some x_7),.int .i64 5] [.sc (.int .u64)] fun (x_37:Int) =>
      callW Tryz.prog Zl [.pointer (some x_7),.int .u64 x_36] [.sc .sl] fun (x_38:Sl) =>
      stoL (Addr.add x_35 2) [.slice x_38.a x_38.n x_38.c] 0 <|
      callW Tryz.prog Z9 [.slice o1.a o1.n o1.c,.int .u32 x_33] [.sc (.int .i64)] fun (x_39:Int) =>
      loopW (σ:=Int) (fun K_40 s_41 =>
       cond (decide (s_41 < 5))
        (joinW (σ:=Unit) (fun J_42 =>
        joinW (σ:=Bool) (fun J_43 =>
         chkW (0≤s_41) <|
         cond ((Int.tmod (shR .u64 x_37 s_41) 2) == 0)
          (J_43 true)
          (ld (.sc .bool) (Addr.add x_7 1) fun (x_44 : Bool) =>
             J_43 x_44))
        <| fun s_45 =>
        cond s_45
         (J_42 ())
         (joinW (σ:=Int) (fun J_46 =>
         cond (decide (x_39 ≥ 0))
          (idxW o1.a o1.n 2 x_39 fun x_47 =>
          ld (.sc .sl) (Addr.add x_47 1) fun (x_48:Sl) =>
          callW Tryz.prog Z7 [.slice x_48.a x_48.n x_48.c,.int .u8 s_41] [.sc (.int .i64)] fun (x_49:Int) =>
          J_46 x_49)
          (J_46 (-1)))
        <| fun s_50 =>
        cond (decide (s_50 < 0))
         (stoL (Addr.add x_7 1) [.bool true] 0 <|
         J_42 ())
         (joinW (σ:=(Option Addr) × Sl × Int) (fun J_51 =>
         drawW <|
         bothW
          (ld (.sc .sl) (Addr.add x_7 0) fun (x_52:Sl) =>
          idxW o1.a o1.n 2 x_39 fun x_53 =>
          ld (.sc .sl) (Addr.add x_53 1) fun (x_54:Sl) =>
          idxW x_54.a x_54.n 4 s_50 fun x_55 =>
          ld (.agg [.int .u8,.int .i32,.int .i32,.int .i32]) x_55 fun (x_56:(Int × Int × Int × Int)) =>
          callW Tryz.prog Zb [.slice x_52.a x_52.n x_52.c,.agg ⟨[.int .u8 x_56.1,.int .i32 x_56.2.1,.int .i32 x_56.2.2.1,.int .i32 x_56.2.2.2]⟩] [.agg [.int .u8,.int .i32,.int .i32,.int .i32],.sc .sl,.sc (.int .i64)] fun (x_57:(Int × Int × Int × Int) × Sl × Int) =>
          newW 92 [.int .u8 0,.int .i32 0,.int .i32 0,.int .i32 0] fun x_58 =>
          stoL x_58 [.int .u8 x_57.1.1,.int .i32 x_57.1.2.1,.int .i32 x_57.1.2.2.1,.int .i32 x_57.1.2.2.2] 0 <|
          J_51 ((some x_58),x_57.2.1,x_57.2.2))
          (ld (.sc .sl) (Addr.add x_7 0) fun (x_59:Sl) =>
          idxW o1.a o1.n 2 x_39 fun x_60 =>
          ld (.sc .sl) (Addr.add x_60 1) fun (x_61:Sl) =>
          idxW x_61.a x_61.n 4 s_50 fun x_62 =>
          ld (.agg [.int .u8,.int .i32,.int .i32,.int .i32]) x_62 fun (x_63:(Int × Int × Int × Int)) =>
          newW 92 [.int .u8 0,.int .i32 0,.int .i32 0,.int .i32 0] fun x_64 =>
          callW Tryz.prog Zb [.slice x_59.a x_59.n x_59.c,.agg ⟨[.int .u8 x_63.1,.int .i32 x_63.2.1,.int .i32 x_63.2.2.1,.int .i32 x_63.2.2.2]⟩] [.agg [.int .u8,.int .i32,.int .i32,.int .i32],.sc .sl,.sc (.int .i64)] fun (x_65:(Int × Int × Int × Int) × Sl × Int) =>
          stoL x_64 [.int .u8 x_65.1.1,.int .i32 x_65.1.2.1,.int .i32 x_65.1.2.2.1,.int .i32 x_65.1.2.2.2] 0 <|
          J_51 ((some x_64),x_65.2.1,x_65.2.2)))
        <| fun s_66 =>
        stoL (Addr.add x_7 0) [.slice s_66.2.1.a s_66.2.1.n s_66.2.1.c] 0 <|
        stoL (Addr.add x_7 1) [.bool (s_66.2.2 != 0)] 0 <|
        ld (.sc .sl) (Addr.add x_35 3) fun (x_67:Sl) =>
        ptrW s_66.1 fun x_68 =>
        ld (.agg [.int .u8,.int .i32,.int .i32,.int .i32]) x_68 fun (x_69:(Int × Int × Int × Int)) =>
        newW 92 [.int .u8 x_69.1,.int .i32 x_69.2.1,.int .i32 x_69.2.2.1,.int .i32 x_69.2.2.2] fun x_70 =>
        rawW Tryz.prog (Builtin.append_ #[55,55] 55 #[.slice x_67.a x_67.n x_67.c,.slice (some x_70) 1 1]) [.sc .sl] fun (x_71:Sl) =>
        stoL (Addr.add x_35 3) [.slice x_71.a x_71.n x_71.c] 0 <|
        J_42 ())))
       <| fun s_72 =>
       K_40 (IntKind.wrap .u8 (s_41+1)))
        (ld (.sc .sl) (Addr.add x_15 2) fun (x_73:Sl) =>
      ld (.agg [.int .u32,.int .u8,.sl,.sl]) x_35 fun (x_74:(Int × Int × Sl × Sl)) =>
      newW 86 [.int .u32 x_74.1,.int .u8 x_74.2.1,.slice x_74.2.2.1.a x_74.2.2.1.n x_74.2.2.1.c,.slice x_74.2.2.2.a x_74.2.2.2.n x_74.2.2.2.c] fun x_75 =>
      rawW Tryz.prog (Builtin.append_ #[78,78] 78 #[.slice x_73.a x_73.n x_73.c,.slice (some x_75) 1 1]) [.sc .sl] fun (x_76:Sl) =>
      stoL (Addr.add x_15 2) [.slice x_76.a x_76.n x_76.c] 0 <|
      K_28 (x_33,IntKind.wrap .u64 (s_29.2 - 1))))
       0)
       (ld (.sc .bool) (Addr.add x_7 1) fun (x_77:Bool) =>
     cond x_77
      (stoL x_1 [.int .u8 0,.int .u8 0,.int .u32 0,.int .u32 0,.int .u32 0] 0 <|
      ld (.agg [.int .u8,.int .u8,.int .u32,.int .u32,.int .u32]) x_1 fun (x_78:(Int × Int × Int × Int × Int)) =>
      retW (x_78,(⟨none,0,0⟩:Sl),4))
      (ld (.agg [.sl,.sl,.sl]) x_15 fun (x_79:(Sl × Sl × Sl)) =>
     callW Tryz.prog Z4r [.slice o1.a o1.n o1.c,.agg ⟨[.slice x_79.1.a x_79.1.n x_79.1.c,.slice x_79.2.1.a x_79.2.1.n x_79.2.1.c,.slice x_79.2.2.a x_79.2.2.n x_79.2.2.c]⟩] [.sc .sl,.sc (.int .i64)] fun (x_80:Sl × Int) =>
     stoL (Addr.add x_7 1) [.bool (x_80.2 != 0)] 0 <|
     J_12 x_80.1)))
      (0,x_27)))
      (0,x_16)))
     (J_12 (⟨none,0,0⟩:Sl)))
   <| fun s_81 =>
   J_10 s_81))
 <| fun s_82 =>
 ld (.sc .bool) (Addr.add x_7 1) fun (x_83:Bool) =>
 cond x_83
  (stoL x_1 [.int .u8 0,.int .u8 0,.int .u32 0,.int .u32 0,.int .u32 0] 0 <|
  ld (.agg [.int .u8,.int .u8,.int .u32,.int .u32,.int .u32]) x_1 fun (x_84:(Int × Int × Int × Int × Int)) =>
  retW (x_84,(⟨none,0,0⟩:Sl),4))
  (ld (.agg [.int .u8,.int .u8,.int .u32,.int .u32,.int .u32]) x_3 fun (x_85:(Int × Int × Int × Int × Int)) =>
 callW Tryz.prog Z58 [.agg ⟨[.int .u8 x_85.1,.int .u8 x_85.2.1,.int .u32 x_85.2.2.1,.int .u32 x_85.2.2.2.1,.int .u32 x_85.2.2.2.2]⟩,.slice o1.a o1.n o1.c,.slice s_82.a s_82.n s_82.c] [.sc .sl,.sc (.int .i64)] fun (x_86:Sl × Int) =>
 joinW (σ:=Bool) (fun J_87 =>
  cond (x_86.2 != 0)
   (J_87 true)
   (callW Tryz.prog Z1i [.slice x_86.1.a x_86.1.n x_86.1.c,.slice d0.a d0.n d0.c] [.sc .bool] fun (x_88:Bool) =>
     J_87 (!x_88)))
 <| fun s_89 =>
 cond s_89
  (stoL x_1 [.int .u8 0,.int .u8 0,.int .u32 0,.int .u32 0,.int .u32 0] 0 <|
  ld (.agg [.int .u8,.int .u8,.int .u32,.int .u32,.int .u32]) x_1 fun (x_90:(Int × Int × Int × Int × Int)) =>
  retW (x_90,(⟨none,0,0⟩:Sl),4))
  (ld (.agg [.int .u8,.int .u8,.int .u32,.int .u32,.int .u32]) x_3 fun (x_91:(Int × Int × Int × Int × Int)) =>
 stoL x_1 [.int .u8 x_91.1,.int .u8 x_91.2.1,.int .u32 x_91.2.2.1,.int .u32 x_91.2.2.2.1,.int .u32 x_91.2.2.2.2] 0 <|
 ld (.agg [.int .u8,.int .u8,.int .u32,.int .u32,.int .u32]) x_1 fun (x_92:(Int × Int × Int × Int × Int)) =>
 retW (x_92,s_82,0))))
set_option maxRecDepth 100000 in
theorem Zfe {R:Type} (d0:Sl) (o1:Sl) (K:Res [.agg [.int .u8,.int .u8,.int .u32,.int .u32,.int .u32],.sc .sl,.sc (.int .i64)]→W R) (Q:R→World→Prop) (w:World) (h:Z8s d0 o1 (fun r w=>K r Q w) w):callW Tryz.prog Z35 [.slice d0.a d0.n d0.c,.slice o1.a o1.n o1.c] [.agg [.int .u8,.int .u8,.int .u32,.int .u32,.int .u32],.sc .sl,.sc (.int .i64)] K Q w:=den_c (K:=K) mix Tryz.func13 { reg:=[(17,[(72,.sc .bool)]),(24,[(97,.sc .bool)]),(35,[(132,.sc .bool)]),(41,[(23,.sc .ptr),(24,.sc .sl),(25,.sc (.int .i64))]),(54,[(222,.sc .bool)])],con:=[(39134,[(22,.sc (.int .i64))]),(13056,[(12,.sc .sl)]),(11052,[(12,.sc .sl)])],blk:=[(6,[])],lop:=[(1,[(14,.sc (.int .u32)),(15,.sc (.int .u64))]),(3,[(14,.sc (.int .u32)),(16,.sc (.int .u64))]),(5,[(119,.sc (.int .u8))])],dr:=[(41,([(12,17)],[[(0,[]),(1,[]),(2,[]),(3,[]),(4,[]),(5,[]),(6,[]),(7,[]),(8,[]),(9,[]),(10,[]),(11,[]),(12,[]),(13,[]),(14,[]),(15,[]),(16,[]),(17,[]),(18,[]),(19,[]),(20,[])],[(0,[]),(1,[]),(2,[]),(3,[]),(4,[]),(5,[]),(6,[]),(7,[]),(8,[]),(9,[]),(10,[]),(11,[]),(17,[]),(12,[]),(13,[]),(14,[]),(15,[]),(16,[]),(18,[]),(19,[]),(20,[])]]))] } ⟨by kernel_rfl,trivial⟩ rfl (by kernel_rfl) h
def Zh2 (d0:(Int × Int × Int × Int × Int)) (o1:Sl) (p2:Sl):W (Sl × Int) :=
 newW 30 [.int .u8 d0.1,.int .u8 d0.2.1,.int .u32 d0.2.2.1,.int .u32 d0.2.2.2.1,.int .u32 d0.2.2.2.2] fun x_1 =>
 ld (.agg [.int .u8,.int .u8,.int .u32,.int .u32,.int .u32]) x_1 fun (x_2:(Int × Int × Int × Int × Int)) =>
 callW Tryz.prog Z6i [.agg ⟨[.int .u8 x_2.1,.int .u8 x_2.2.1,.int .u32 x_2.2.2.1,.int .u32 x_2.2.2.2.1,.int .u32 x_2.2.2.2.2]⟩] [.sc (.int .i64)] fun (x_3:Int) =>
 cond (x_3 != 0)
  (retW ((⟨none,0,0⟩:Sl),x_3))
  (callW Tryz.prog Zig [] [.sc .ptr] fun (x_4:(Option Addr)) =>
 newW 102 [.pointer x_4,.int .i64 0] fun x_5 =>
 ld (.agg [.int .u8,.int .u8,.int .u32,.int .u32,.int .u32]) x_1 fun (x_6:(Int × Int × Int × Int × Int)) =>
 callW Tryz.prog Z2j [.pointer (some x_5),.agg ⟨[.int .u8 x_6.1,.int .u8 x_6.2.1,.int .u32 x_6.2.2.1,.int .u32 x_6.2.2.2.1,.int .u32 x_6.2.2.2.2]⟩] [] fun (x_7:Unit) =>
 ld (.sc (.int .u8)) (Addr.add x_1 0) fun (x_8:Int) =>
 joinW (σ:=Unit) (fun J_9 =>
  cond (x_8 == 1)
   (callW Tryz.prog Z59 [.slice p2.a p2.n p2.c] [.sc (.int .i64)] fun (x_10:Int) =>
   callW Tryz.prog Z1 [.pointer (some x_5),.int .i64 x_10] [] fun (x_11:Unit) =>
   ld (.sc (.int .i64)) (Addr.add x_5 1) fun (x_12:Int) =>
   joinW (σ:=Unit) (fun J_13 =>
    cond (x_12 == 0)
     (callW Tryz.prog Z1t [.pointer (some x_5),.slice p2.a p2.n p2.c] [] fun (x_14:Unit) =>
     J_13 ())
     (J_13 ()))
   <| fun s_15 =>
   J_9 ())
   (joinW (σ:=Unit) (fun J_16 =>
    cond (x_8 == 2)
     (callW Tryz.prog Zba [.slice o1.a o1.n o1.c,.slice p2.a p2.n p2.c] [.agg [.sl,.sl,.sl],.sc (.int .i64)] fun (x_17:(Sl × Sl × Sl) × Int) =>
     newW 80 [.slice none 0 0,.slice none 0 0,.slice none 0 0] fun x_18 =>
     stoL x_18 [.slice x_17.1.1.a x_17.1.1.n x_17.1.1.c,.slice x_17.1.2.1.a x_17.1.2.1.n x_17.1.2.1.c,.slice x_17.1.2.2.a x_17.1.2.2.n x_17.1.2.2.c] 0 <|
     callW Tryz.prog Z1 [.pointer (some x_5),.int .i64 x_17.2] [] fun (x_19:Unit) =>
     joinW (σ:=Unit) (fun J_20 =>
      cond (x_17.2 == 0)
       (ld (.agg [.sl,.sl,.sl]) x_18 fun (x_21:(Sl × Sl × Sl)) =>
       callW Tryz.prog Z2e [.pointer (some x_5),.slice o1.a o1.n o1.c,.agg ⟨[.slice x_21.1.a x_21.1.n x_21.1.c,.slice x_21.2.1.a x_21.2.1.n x_21.2.1.c,.slice x_21.2.2.a x_21.2.2.n x_21.2.2.c]⟩] [] fun (x_22:Unit) =>
       J_20 ())
       (J_20 ()))
     <| fun s_23 =>
     J_16 ())
     (joinW (σ:=Unit) (fun J_24 =>
      cond (decide ((p2.n:Int) > 0))
       (callW Tryz.prog Z1 [.pointer (some x_5),.int .i64 4] [] fun (x_25:Unit) =>
       J_24 ())
       (J_24 ()))
     <| fun s_26 =>
     J_16 ()))
   <| fun s_27 =>
   J_9 ()))
 <| fun s_28 =>
 ld (.sc (.int .i64)) (Addr.add x_5 1) fun (x_29:Int) =>
 cond (x_29 != 0)
  (drawW <|
  ld (.sc (.int .i64)) (Addr.add x_5 1) fun (x_30:Int) =>
  retW ((⟨none,0,0⟩:Sl),x_30))
  (ld (.sc .ptr) (Addr.add x_5 0) fun (x_31:Option Addr) =>
 callW Tryz.prog Z52 [.pointer x_31] [.sc .sl] fun (x_32:Sl) =>
 callW Tryz.prog Zci [.slice x_32.a x_32.n x_32.c] [.sc .sl,.sc (.int .i64)] fun (x_33:Sl × Int) =>
 retW (x_33.1,x_33.2)))
theorem Zo3 {R:Type} (d0:(Int × Int × Int × Int × Int)) (o1:Sl) (p2:Sl) (K:Res [.sc .sl,.sc (.int .i64)]→W R) (Q:R→World→Prop) (w:World) (h:Zh2 d0 o1 p2 (fun r w=>K r Q w) w):callW Tryz.prog Z80 [.agg ⟨[.int .u8 d0.1,.int .u8 d0.2.1,.int .u32 d0.2.2.1,.int .u32 d0.2.2.2.1,.int .u32 d0.2.2.2.2]⟩,.slice o1.a o1.n o1.c,.slice p2.a p2.n p2.c] [.sc .sl,.sc (.int .i64)] K Q w:=den_c (K:=K) mix Tryz.func15 { con:=[(13040,[]),(18056,[]),(9027,[]),(15044,[]),(11030,[])],dr:=[(19,([],[[(0,[]),(1,[]),(2,[]),(3,[]),(4,[]),(5,[])]]))] } trivial rfl (by kernel_rfl) h
def Z7m (h0:(Int × Int × Int × Int × Int)):W (Int) :=
 newW 30 [.int .u8 h0.1,.int .u8 h0.2.1,.int .u32 h0.2.2.1,.int .u32 h0.2.2.2.1,.int .u32 h0.2.2.2.2] fun h_1 =>
 joinW (σ:=Bool) (fun J_2 =>
  ld (.sc (.int .u8)) (Addr.add h_1 0) fun (x_3:Int) =>
  cond (decide (x_3 < 1))
   (J_2 true)
   (ld (.sc (.int .u8)) (Addr.add h_1 0) fun (x_4:Int) =>
    cond (decide (x_4 > 5))
      (J_2 true)
      (ld (.sc (.int .u8)) (Addr.add h_1 1) fun (x_5:Int) =>
       J_2 (decide (x_5 > 15)))))
 <| fun s_6 =>
 cond s_6
  (retW 1)
  (joinW (σ:=Bool) (fun J_7 =>
  ld (.sc (.int .u32)) (Addr.add h_1 2) fun (x_8:Int) =>
  cond (x_8 == 0)
   (J_7 true)
   (ld (.sc (.int .u8)) (Addr.add h_1 0) fun (x_9:Int) =>
    cond (decide (x_9 > 3))
       (ld (.sc (.int .u32)) (Addr.add h_1 3) fun (x_10:Int) =>
        cond (decide (x_10 > 0))
           (J_7 true)
           (ld (.sc (.int .u8)) (Addr.add h_1 0) fun (x_11:Int) =>
            cond (x_11 != 2)
               (ld (.sc (.int .u32)) (Addr.add h_1 4) fun (x_12:Int) =>
                cond (decide (x_12 > 0))
                   (J_7 true)
                   (ld (.sc (.int .u8)) (Addr.add h_1 0) fun (x_13:Int) =>
                    cond (x_13 == 2)
                       (ld (.sc (.int .u32)) (Addr.add h_1 4) fun (x_14:Int) =>
                        ld (.sc (.int .u32)) (Addr.add h_1 3) fun (x_15:Int) =>
                          J_7 (decide (x_14 ≥ x_15)))
                       (J_7 false)))
               (ld (.sc (.int .u8)) (Addr.add h_1 0) fun (x_16 : Int) =>
                    cond (x_16 == 2)
                       (ld (.sc (.int .u32)) (Addr.add h_1 4) fun (x_17:Int) =>
                        ld (.sc (.int .u32)) (Addr.add h_1 3) fun (x_18:Int) =>
                          J_7 (decide (x_17 ≥ x_18)))
                       (J_7 false))))
       (ld (.sc (.int .u8)) (Addr.add h_1 0) fun (x_19 : Int) =>
            cond (x_19 != 2)
               (ld (.sc (.int .u32)) (Addr.add h_1 4) fun (x_20:Int) =>
                cond (decide (x_20 > 0))
                   (J_7 true)
                   (ld (.sc (.int .u8)) (Addr.add h_1 0) fun (x_21:Int) =>
                    cond (x_21 == 2)
                       (ld (.sc (.int .u32)) (Addr.add h_1 4) fun (x_22:Int) =>
                        ld (.sc (.int .u32)) (Addr.add h_1 3) fun (x_23:Int) =>
                          J_7 (decide (x_22 ≥ x_23)))
                       (J_7 false)))
               (ld (.sc (.int .u8)) (Addr.add h_1 0) fun (x_24 : Int) =>
                    cond (x_24 == 2)
                       (ld (.sc (.int .u32)) (Addr.add h_1 4) fun (x_25:Int) =>
                        ld (.sc (.int .u32)) (Addr.add h_1 3) fun (x_26:Int) =>
                          J_7 (decide (x_25 ≥ x_26)))
                       (J_7 false)))))
 <| fun s_27 =>
 cond s_27
  (retW 4)
  (retW 0))
theorem Ze0 {R:Type} (h0:(Int × Int × Int × Int × Int)) (K:Res [.sc (.int .i64)]→W R) (Q:R→World→Prop) (w:World) (h:Z7m h0 (fun r w=>K r Q w) w):callW Tryz.prog Z2l [.agg ⟨[.int .u8 h0.1,.int .u8 h0.2.1,.int .u32 h0.2.2.1,.int .u32 h0.2.2.2.1,.int .u32 h0.2.2.2.2]⟩] [.sc (.int .i64)] K Q w:=den_c (K:=K) mix Tryz.func16 { reg:=[(1,[(15,.sc .bool)]),(3,[(50,.sc .bool)])] } trivial rfl (by kernel_rfl) h
def Z8u (d0:(Int × Int × Int × Int × Int)) (o1:Sl) (p2:Sl):W (Sl × Int) :=
 newW 30 [.int .u8 d0.1,.int .u8 d0.2.1,.int .u32 d0.2.2.1,.int .u32 d0.2.2.2.1,.int .u32 d0.2.2.2.2] fun x_1 =>
 ld (.agg [.int .u8,.int .u8,.int .u32,.int .u32,.int .u32]) x_1 fun (x_2:(Int × Int × Int × Int × Int)) =>
 callW Tryz.prog Z2l [.agg ⟨[.int .u8 x_2.1,.int .u8 x_2.2.1,.int .u32 x_2.2.2.1,.int .u32 x_2.2.2.2.1,.int .u32 x_2.2.2.2.2]⟩] [.sc (.int .i64)] fun (x_3:Int) =>
 cond (x_3 != 0)
  (retW ((⟨none,0,0⟩:Sl),x_3))
  (ld (.agg [.int .u8,.int .u8,.int .u32,.int .u32,.int .u32]) x_1 fun (x_4:(Int × Int × Int × Int × Int)) =>
 callW Tryz.prog Z57 [.agg ⟨[.int .u8 x_4.1,.int .u8 x_4.2.1,.int .u32 x_4.2.2.1,.int .u32 x_4.2.2.2.1,.int .u32 x_4.2.2.2.2]⟩] [.sc .sl] fun (x_5:Sl) =>
 ld (.sc (.int .u8)) (Addr.add x_1 0) fun (x_6:Int) =>
 joinW (σ:=Sl) (fun J_7 =>
  cond (x_6 == 1)
   (callW Tryz.prog Zu [.slice p2.a p2.n p2.c] [.sc (.int .i64)] fun (x_8:Int) =>
   cond (x_8 != 0)
    (retW ((⟨none,0,0⟩:Sl),x_8))
    (callW Tryz.prog Z36 [.slice x_5.a x_5.n x_5.c,.slice p2.a p2.n p2.c] [.sc .sl] fun (x_9:Sl) =>
   J_7 x_9))
   (ld (.sc (.int .u8)) (Addr.add x_1 0) fun (x_10:Int) =>
   joinW (σ:=Sl) (fun J_11 =>
    cond (x_10 == 2)
     (callW Tryz.prog Z34 [.slice o1.a o1.n o1.c,.slice p2.a p2.n p2.c] [.agg [.sl,.sl,.sl],.sc (.int .i64)] fun (x_12:(Sl × Sl × Sl) × Int) =>
     newW 80 [.slice none 0 0,.slice none 0 0,.slice none 0 0] fun x_13 =>
     stoL x_13 [.slice x_12.1.1.a x_12.1.1.n x_12.1.1.c,.slice x_12.1.2.1.a x_12.1.2.1.n x_12.1.2.1.c,.slice x_12.1.2.2.a x_12.1.2.2.n x_12.1.2.2.c] 0 <|
     cond (x_12.2 != 0)
      (retW ((⟨none,0,0⟩:Sl),x_12.2))
      (ld (.sc .sl) (Addr.add x_13 0) fun (x_14:Sl) =>
     callW Tryz.prog Zi [.int .u64 (IntKind.wrap .u64 (x_14.n:Int))] [.sc .sl] fun (x_15:Sl) =>
     rawW Tryz.prog (Builtin.append_ #[70,70] 70 #[.slice x_5.a x_5.n x_5.c,.slice x_15.a x_15.n x_15.c]) [.sc .sl] fun (x_16:Sl) =>
     ld (.sc .sl) (Addr.add x_13 0) fun (x_17:Sl) =>
     loopW (σ:=Sl × Int × Int) (fun K_18 s_19 =>
      cond (decide (s_19.2.2 < (x_17.n:Int)))
       (idxW x_17.a x_17.n 1 s_19.2.2 fun x_20 =>
      ld (.sc (.int .u32)) x_20 fun (x_21:Int) =>
      callW Tryz.prog Z2p [.slice s_19.1.a s_19.1.n s_19.1.c,.int .u32 s_19.2.1,.int .u32 x_21] [.sc .sl] fun (x_22:Sl) =>
      K_18 (x_22,x_21,IntKind.wrap .i64 (s_19.2.2+1)))
       (ld (.sc .sl) (Addr.add x_13 1) fun (x_23:Sl) =>
     callW Tryz.prog Z36 [.slice s_19.1.a s_19.1.n s_19.1.c,.slice x_23.a x_23.n x_23.c] [.sc .sl] fun (x_24:Sl) =>
     ld (.sc .sl) (Addr.add x_13 2) fun (x_25:Sl) =>
     callW Tryz.prog Zi [.int .u64 (IntKind.wrap .u64 (x_25.n:Int))] [.sc .sl] fun (x_26:Sl) =>
     rawW Tryz.prog (Builtin.append_ #[70,70] 70 #[.slice x_24.a x_24.n x_24.c,.slice x_26.a x_26.n x_26.c]) [.sc .sl] fun (x_27:Sl) =>
     ld (.sc .sl) (Addr.add x_13 2) fun (x_28:Sl) =>
     loopW (σ:=Sl × Int × Int) (fun K_29 s_30 =>
      cond (decide (s_30.2.2 < (x_28.n:Int)))
       (idxW x_28.a x_28.n 4 s_30.2.2 fun x_31 =>
      ld (.agg [.int .u32,.int .u8,.sl,.sl]) x_31 fun (x_32:(Int × Int × Sl × Sl)) =>
      newW 86 [.int .u32 0,.int .u8 0,.slice none 0 0,.slice none 0 0] fun x_33 =>
      stoL x_33 [.int .u32 x_32.1,.int .u8 x_32.2.1,.slice x_32.2.2.1.a x_32.2.2.1.n x_32.2.2.1.c,.slice x_32.2.2.2.a x_32.2.2.2.n x_32.2.2.2.c] 0 <|
      ld (.sc (.int .u32)) (Addr.add x_33 0) fun (x_34:Int) =>
      callW Tryz.prog Z2p [.slice s_30.1.a s_30.1.n s_30.1.c,.int .u32 s_30.2.1,.int .u32 x_34] [.sc .sl] fun (x_35:Sl) =>
      ld (.sc (.int .u32)) (Addr.add x_33 0) fun (x_36:Int) =>
      ld (.sc (.int .u8)) (Addr.add x_33 1) fun (x_37:Int) =>
      callW Tryz.prog Zh [.slice x_35.a x_35.n x_35.c,.int .u64 (IntKind.wrap .u64 x_37),.int .i64 5] [.sc .sl,.sc (.int .i64)] fun (x_38:Sl × Int) =>
      ld (.sc .sl) (Addr.add x_33 2) fun (x_39:Sl) =>
      callW Tryz.prog Z21 [.slice x_39.a x_39.n x_39.c] [.sc (.int .u8)] fun (x_40:Int) =>
      callW Tryz.prog Zh [.slice x_38.1.a x_38.1.n x_38.1.c,.int .u64 (IntKind.wrap .u64 x_40),.int .i64 5] [.sc .sl,.sc (.int .i64)] fun (x_41:Sl × Int) =>
      ld (.sc .sl) (Addr.add x_33 3) fun (x_42:Sl) =>
      callW Tryz.prog Z21 [.slice x_42.a x_42.n x_42.c] [.sc (.int .u8)] fun (x_43:Int) =>
      callW Tryz.prog Zh [.slice x_41.1.a x_41.1.n x_41.1.c,.int .u64 (IntKind.wrap .u64 x_43),.int .i64 5] [.sc .sl,.sc (.int .i64)] fun (x_44:Sl × Int) =>
      ld (.sc .sl) (Addr.add x_33 2) fun (x_45:Sl) =>
      callW Tryz.prog Z2m [.slice x_44.1.a x_44.1.n x_44.1.c,.slice x_45.a x_45.n x_45.c] [.sc .sl] fun (x_46:Sl) =>
      ld (.sc .sl) (Addr.add x_33 3) fun (x_47:Sl) =>
      loopW (σ:=Sl × Int) (fun K_48 s_49 =>
       cond (decide (s_49.2 < (x_47.n:Int)))
        (idxW x_47.a x_47.n 4 s_49.2 fun x_50 =>
       ld (.agg [.int .u8,.int .i32,.int .i32,.int .i32]) x_50 fun (x_51:(Int × Int × Int × Int)) =>
       newW 92 [.int .u8 0,.int .i32 0,.int .i32 0,.int .i32 0] fun x_52 =>
       stoL x_52 [.int .u8 x_51.1,.int .i32 x_51.2.1,.int .i32 x_51.2.2.1,.int .i32 x_51.2.2.2] 0 <|
       ld (.sc (.int .u32)) (Addr.add x_33 0) fun (x_53:Int) =>
       callW Tryz.prog Z9 [.slice o1.a o1.n o1.c,.int .u32 x_53] [.sc (.int .i64)] fun (x_54:Int) =>
       idxW o1.a o1.n 2 x_54 fun x_55 =>
       ld (.agg [.int .u32,.sl]) x_55 fun (x_56:(Int × Sl)) =>
       newW 57 [.int .u32 0,.slice none 0 0] fun x_57 =>
       stoL x_57 [.int .u32 x_56.1,.slice x_56.2.a x_56.2.n x_56.2.c] 0 <|
       drawW <|
       ld (.sc .sl) (Addr.add x_57 1) fun (x_58:Sl) =>
       ld (.sc .sl) (Addr.add x_57 1) fun (x_59:Sl) =>
       ld (.sc (.int .u8)) (Addr.add x_52 0) fun (x_60:Int) =>
       ld (.agg [.int .u8,.int .i32,.int .i32,.int .i32]) x_52 fun (x_61:(Int × Int × Int × Int)) =>
       callW Tryz.prog Z7 [.slice x_59.a x_59.n x_59.c,.int .u8 x_60] [.sc (.int .i64)] fun (x_62:Int) =>
       andW (fun w=>Rd w x_52 (.agg [.int .u8,.int .i32,.int .i32,.int .i32]) x_61) <|
       andW (fun w=>Rd w (Addr.add x_57 1) (.sc .sl) x_58) <|
       idxW x_58.a x_58.n 4 x_62 fun x_63 =>
       ld (.agg [.int .u8,.int .i32,.int .i32,.int .i32]) x_63 fun (x_64:(Int × Int × Int × Int)) =>
       callW Tryz.prog Z33 [.agg ⟨[.int .u8 x_64.1,.int .i32 x_64.2.1,.int .i32 x_64.2.2.1,.int .i32 x_64.2.2.2]⟩,.agg ⟨[.int .u8 x_61.1,.int .i32 x_61.2.1,.int .i32 x_61.2.2.1,.int .i32 x_61.2.2.2]⟩] [.sc .sl,.sc (.int .i64)] fun (x_65:Sl × Int) =>
       rawW Tryz.prog (Builtin.append_ #[70,70] 70 #[.slice s_49.1.a s_49.1.n s_49.1.c,.slice x_65.1.a x_65.1.n x_65.1.c]) [.sc .sl] fun (x_66:Sl) =>
       K_48 (x_66,IntKind.wrap .i64 (s_49.2+1)))
        (K_29 (s_49.1,x_36,IntKind.wrap .i64 (s_30.2.2+1))))
       (x_46,0))
       (J_11 s_30.1))
      (x_27,0,0)))
      (x_16,0,0)))
     (cond (decide ((p2.n:Int) > 0))
      (retW ((⟨none,0,0⟩:Sl),4))
      (J_11 x_5)))
   <| fun s_67 =>
   J_7 s_67))
 <| fun s_68 =>
 callW Tryz.prog Z4q [.slice s_68.a s_68.n s_68.c] [.sc .sl] fun (x_69:Sl) =>
 callW Tryz.prog Z30 [.slice x_69.a x_69.n x_69.c] [.sc .sl,.sc (.int .i64)] fun (x_70:Sl × Int) =>
 retW (x_70.1,x_70.2))
set_option maxRecDepth 100000 in
theorem Zfg {R:Type} (d0:(Int × Int × Int × Int × Int)) (o1:Sl) (p2:Sl) (K:Res [.sc .sl,.sc (.int .i64)]→W R) (Q:R→World→Prop) (w:World) (h:Z8u d0 o1 p2 (fun r w=>K r Q w) w):callW Tryz.prog Z58 [.agg ⟨[.int .u8 d0.1,.int .u8 d0.2.1,.int .u32 d0.2.2.1,.int .u32 d0.2.2.2.1,.int .u32 d0.2.2.2.2]⟩,.slice o1.a o1.n o1.c,.slice p2.a p2.n p2.c] [.sc .sl,.sc (.int .i64)] K Q w:=den_c (K:=K) mix Tryz.func18 { con:=[(12042,[(9,.sc .sl)]),(7030,[(9,.sc .sl)])],lop:=[(1,[(9,.sc .sl),(13,.sc (.int .u32)),(65,.sc (.int .i64))]),(3,[(9,.sc .sl),(13,.sc (.int .u32)),(89,.sc (.int .i64))]),(5,[(9,.sc .sl),(133,.sc (.int .i64))])],dr:=[(38,([],[[(0,[]),(1,[]),(2,[]),(3,[]),(4,[]),(5,[]),(9,[]),(6,[1,9]),(7,[]),(8,[]),(10,[]),(11,[]),(12,[]),(13,[]),(14,[]),(15,[])]]))] } trivial rfl (by kernel_rfl) h
def Z8b (a0:Sl) (b1:Sl):W (Bool) :=
 rawQ Tryz.prog (Go.convert 22 9 (.slice a0.a a0.n a0.c)) [.sc .str] fun (x_1:ByteArray) =>
 rawQ Tryz.prog (Go.convert 22 9 (.slice b1.a b1.n b1.c)) [.sc .str] fun (x_2:ByteArray) =>
 retW (x_1.toList == x_2.toList)
theorem Zex {R:Type} (a0:Sl) (b1:Sl) (K:Res [.sc .bool]→W R) (Q:R→World→Prop) (w:World) (h:Z8b a0 b1 (fun r w=>K r Q w) w):callW Tryz.prog Z1i [.slice a0.a a0.n a0.c,.slice b1.a b1.n b1.c] [.sc .bool] K Q w:=den_c (K:=K) mix Tryz.func19 {} trivial rfl (by kernel_rfl) h
def Zee (h0:(Int × Int × Int × Int × Int)):W (Int) :=
 newW 30 [.int .u8 h0.1,.int .u8 h0.2.1,.int .u32 h0.2.2.1,.int .u32 h0.2.2.2.1,.int .u32 h0.2.2.2.2] fun h_1 =>
 joinW (σ:=Bool) (fun J_2 =>
  ld (.sc (.int .u8)) (Addr.add h_1 0) fun (x_3:Int) =>
  cond (decide (x_3 < 1))
   (J_2 true)
   (ld (.sc (.int .u8)) (Addr.add h_1 0) fun (x_4:Int) =>
    cond (decide (x_4 > 5))
      (J_2 true)
      (ld (.sc (.int .u8)) (Addr.add h_1 1) fun (x_5:Int) =>
       J_2 (decide (x_5 ≥ 16)))))
 <| fun s_6 =>
 cond s_6
  (retW 1)
  (ld (.sc (.int .u8)) (Addr.add h_1 0) fun (x_7:Int) =>
 ld (.sc (.int .u32)) (Addr.add h_1 2) fun (x_8:Int) =>
 joinW (σ:=Bool) (fun J_9 =>
  cond (x_8 == 0)
   (J_9 (x_8 == 0))
   (joinW (σ:=Bool) (fun J_10 =>
    cond (!(decide (x_7≤3)))
     (ld (.sc (.int .u32)) (Addr.add h_1 3) fun (x_11:Int) =>
      J_10 (x_11 != 0))
     (J_10 false))
   <| fun s_12 =>
   joinW (σ:=Bool) (fun J_13 =>
    cond s_12
     (J_13 s_12)
     (joinW (σ:=Bool) (fun J_14 =>
      ld (.sc (.int .u8)) (Addr.add h_1 0) fun (x_15:Int) =>
      cond (x_15 != 2)
       (ld (.sc (.int .u32)) (Addr.add h_1 4) fun (x_16:Int) =>
        J_14 (x_16 != 0))
       (J_14 false))
     <| fun s_17 =>
     joinW (σ:=Bool) (fun J_18 =>
      cond s_17
       (J_18 s_17)
       (joinW (σ:=Bool) (fun J_19 =>
        ld (.sc (.int .u8)) (Addr.add h_1 0) fun (x_20:Int) =>
        cond (x_20 == 2)
         (ld (.sc (.int .u32)) (Addr.add h_1 4) fun (x_21:Int) =>
          ld (.sc (.int .u32)) (Addr.add h_1 3) fun (x_22:Int) =>
            J_19 (decide (x_21 ≥ x_22)))
         (J_19 false))
       <| fun s_23 =>
       J_18 s_23))
     <| fun s_24 =>
     J_13 s_24))
   <| fun s_25 =>
   J_9 s_25))
 <| fun s_26 =>
 cond s_26
  (retW 4)
  (retW 0))
theorem Zme {R:Type} (h0:(Int × Int × Int × Int × Int)) (K:Res [.sc (.int .i64)]→W R) (Q:R→World→Prop) (w:World) (h:Zee h0 (fun r w=>K r Q w) w):callW Tryz.prog Z6i [.agg ⟨[.int .u8 h0.1,.int .u8 h0.2.1,.int .u32 h0.2.2.1,.int .u32 h0.2.2.2.1,.int .u32 h0.2.2.2.2]⟩] [.sc (.int .i64)] K Q w:=den_c (K:=K) mix Tryz.func20 { reg:=[(1,[(16,.sc .bool)]),(5,[(20,.sc .bool)]),(6,[(20,.sc .bool)]),(7,[(20,.sc .bool)])],con:=[(8020,[(20,.sc .bool)]),(7020,[(20,.sc .bool)]),(6020,[(20,.sc .bool)])] } trivial rfl (by kernel_rfl) h
def Zh1 (p0:Sl):W ((Int × Int × Int × Int × Int) × Int) :=
 newW 30 [.int .u8 0,.int .u8 0,.int .u32 0,.int .u32 0,.int .u32 0] fun x_1 =>
 callW Tryz.prog Z70 [.slice p0.a p0.n p0.c] [.sc .sl,.sc (.int .i64)] fun (x_2:Sl × Int) =>
 cond (x_2.2 != 0)
  (stoL x_1 [.int .u8 0,.int .u8 0,.int .u32 0,.int .u32 0,.int .u32 0] 0 <|
  ld (.agg [.int .u8,.int .u8,.int .u32,.int .u32,.int .u32]) x_1 fun (x_3:(Int × Int × Int × Int × Int)) =>
  retW (x_3,x_2.2))
  (callW Tryz.prog Zaa [.slice x_2.1.a x_2.1.n x_2.1.c] [.agg [.int .u8,.int .u8,.int .u32,.int .u32,.int .u32],.agg [.ptr],.sc (.int .i64)] fun (x_4:(Int × Int × Int × Int × Int) × (Option Addr) × Int) =>
 newW 30 [.int .u8 0,.int .u8 0,.int .u32 0,.int .u32 0,.int .u32 0] fun h_5 =>
 newW 62 [.pointer none] fun x_6 =>
 stoL h_5 [.int .u8 x_4.1.1,.int .u8 x_4.1.2.1,.int .u32 x_4.1.2.2.1,.int .u32 x_4.1.2.2.2.1,.int .u32 x_4.1.2.2.2.2] 0 <|
 stoL x_6 [.pointer x_4.2.1] 0 <|
 cond (x_4.2.2 != 0)
  (stoL x_1 [.int .u8 0,.int .u8 0,.int .u32 0,.int .u32 0,.int .u32 0] 0 <|
  ld (.agg [.int .u8,.int .u8,.int .u32,.int .u32,.int .u32]) x_1 fun (x_7:(Int × Int × Int × Int × Int)) =>
  retW (x_7,x_4.2.2))
  (ld (.agg [.int .u8,.int .u8,.int .u32,.int .u32,.int .u32]) h_5 fun (x_8:(Int × Int × Int × Int × Int)) =>
 stoL x_1 [.int .u8 x_8.1,.int .u8 x_8.2.1,.int .u32 x_8.2.2.1,.int .u32 x_8.2.2.2.1,.int .u32 x_8.2.2.2.2] 0 <|
 ld (.agg [.int .u8,.int .u8,.int .u32,.int .u32,.int .u32]) x_1 fun (x_9:(Int × Int × Int × Int × Int)) =>
 retW (x_9,0)))
theorem Zo2 {R:Type} (p0:Sl) (K:Res [.agg [.int .u8,.int .u8,.int .u32,.int .u32,.int .u32],.sc (.int .i64)]→W R) (Q:R→World→Prop) (w:World) (h:Zh1 p0 (fun r w=>K r Q w) w):callW Tryz.prog Z7z [.slice p0.a p0.n p0.c] [.agg [.int .u8,.int .u8,.int .u32,.int .u32,.int .u32],.sc (.int .i64)] K Q w:=den_c (K:=K) mix Tryz.func21 {} ⟨by kernel_rfl,trivial⟩ rfl (by kernel_rfl) h
def Z8t (p0:Sl):W ((Int × Int × Int × Int × Int) × Int) :=
 newW 30 [.int .u8 0,.int .u8 0,.int .u32 0,.int .u32 0,.int .u32 0] fun x_1 =>
 callW Tryz.prog Z1j [.slice p0.a p0.n p0.c] [.sc .sl,.sc (.int .i64)] fun (x_2:Sl × Int) =>
 cond (x_2.2 != 0)
  (stoL x_1 [.int .u8 0,.int .u8 0,.int .u32 0,.int .u32 0,.int .u32 0] 0 <|
  ld (.agg [.int .u8,.int .u8,.int .u32,.int .u32,.int .u32]) x_1 fun (x_3:(Int × Int × Int × Int × Int)) =>
  retW (x_3,x_2.2))
  (callW Tryz.prog Z1h [.slice x_2.1.a x_2.1.n x_2.1.c] [.sc .sl] fun (x_4:Sl) =>
 newW 73 [.slice x_4.a x_4.n x_4.c,.bool false] fun x_5 =>
 callW Tryz.prog Z1d [.pointer (some x_5)] [.agg [.int .u8,.int .u8,.int .u32,.int .u32,.int .u32]] fun (x_6:(Int × Int × Int × Int × Int)) =>
 newW 30 [.int .u8 0,.int .u8 0,.int .u32 0,.int .u32 0,.int .u32 0] fun h_7 =>
 stoL h_7 [.int .u8 x_6.1,.int .u8 x_6.2.1,.int .u32 x_6.2.2.1,.int .u32 x_6.2.2.2.1,.int .u32 x_6.2.2.2.2] 0 <|
 ld (.sc .bool) (Addr.add x_5 1) fun (x_8:Bool) =>
 cond x_8
  (stoL x_1 [.int .u8 0,.int .u8 0,.int .u32 0,.int .u32 0,.int .u32 0] 0 <|
  ld (.agg [.int .u8,.int .u8,.int .u32,.int .u32,.int .u32]) x_1 fun (x_9:(Int × Int × Int × Int × Int)) =>
  retW (x_9,4))
  (ld (.agg [.int .u8,.int .u8,.int .u32,.int .u32,.int .u32]) h_7 fun (x_10:(Int × Int × Int × Int × Int)) =>
 stoL x_1 [.int .u8 x_10.1,.int .u8 x_10.2.1,.int .u32 x_10.2.2.1,.int .u32 x_10.2.2.2.1,.int .u32 x_10.2.2.2.2] 0 <|
 ld (.agg [.int .u8,.int .u8,.int .u32,.int .u32,.int .u32]) x_1 fun (x_11:(Int × Int × Int × Int × Int)) =>
 retW (x_11,0)))
theorem Zff {R:Type} (p0:Sl) (K:Res [.agg [.int .u8,.int .u8,.int .u32,.int .u32,.int .u32],.sc (.int .i64)]→W R) (Q:R→World→Prop) (w:World) (h:Z8t p0 (fun r w=>K r Q w) w):callW Tryz.prog Z23 [.slice p0.a p0.n p0.c] [.agg [.int .u8,.int .u8,.int .u32,.int .u32,.int .u32],.sc (.int .i64)] K Q w:=den_c (K:=K) mix Tryz.func22 {} ⟨by kernel_rfl,trivial⟩ rfl (by kernel_rfl) h
def Z8c (p0:Sl):W (Sl × Int) :=
 cond (decide ((p0.n:Int) < 4))
  (retW ((⟨none,0,0⟩:Sl),2))
  (cond (decide ((p0.n:Int) > 4100))
  (retW ((⟨none,0,0⟩:Sl),3))
  (slcW p0.a p0.n p0.c 1 none (some (IntKind.wrap .i64 ((p0.n:Int) - 4))) fun x_1 =>
 callW Tryz.prog Z30 [.slice x_1.a x_1.n x_1.c] [.sc .sl,.sc (.int .i64)] fun (x_2:Sl × Int) =>
 callW Tryz.prog Z1i [.slice x_2.1.a x_2.1.n x_2.1.c,.slice p0.a p0.n p0.c] [.sc .bool] fun (x_3:Bool) =>
 cond (!x_3)
  (retW ((⟨none,0,0⟩:Sl),6))
  (newW 5 [] fun x_4 =>
 rawW Tryz.prog (Builtin.append_ #[22,22] 22 #[.slice (some x_4) 0 0,.slice x_1.a x_1.n x_1.c]) [.sc .sl] fun (x_5:Sl) =>
 retW (x_5,0))))
theorem Zey {R:Type} (p0:Sl) (K:Res [.sc .sl,.sc (.int .i64)]→W R) (Q:R→World→Prop) (w:World) (h:Z8c p0 (fun r w=>K r Q w) w):callW Tryz.prog Z1j [.slice p0.a p0.n p0.c] [.sc .sl,.sc (.int .i64)] K Q w:=den_c (K:=K) mix Tryz.func24 {} trivial rfl (by kernel_rfl) h
def Z9j (d0:Sl):W (Int) :=
 callW Tryz.prog Z1h [.slice d0.a d0.n d0.c] [.sc .sl] fun (x_1:Sl) =>
 rawW Tryz.prog (Builtin.append_ #[70,3] 70 #[.slice x_1.a x_1.n x_1.c,.int .i64 32]) [.sc .sl] fun (x_2:Sl) =>
 loopW (σ:=Int) (fun K_3 s_4 =>
  cond (decide (s_4 < 32))
   (idxW x_2.a x_2.n 1 s_4 fun x_5 =>
  ld (.sc .bool) x_5 fun (x_6:Bool) =>
  idxW x_2.a x_2.n 1 s_4 fun x_7 =>
  stoL x_7 [.bool (!x_6)] 0 <|
  K_3 (IntKind.wrap .i64 (s_4+1)))
   (newW 3 [.int .i64 0,.int .i64 1,.int .i64 2,.int .i64 4,.int .i64 5,.int .i64 7,.int .i64 8,.int .i64 10,.int .i64 11,.int .i64 12,.int .i64 16,.int .i64 22,.int .i64 23,.int .i64 26] fun x_8 =>
 loopW (σ:=Int) (fun K_9 s_10 =>
  cond (decide ((IntKind.wrap .i64 (s_10+32)) < (x_2.n:Int)))
   (joinW (σ:=Unit) (fun J_11 =>
   idxW x_2.a x_2.n 1 s_10 fun x_12 =>
   ld (.sc .bool) x_12 fun (x_13:Bool) =>
   cond (!x_13)
    (J_11 ())
    (loopW (σ:=Int) (fun K_14 s_15 =>
    cond (decide (s_15 < (14:Int)))
     (idxW (some x_8) 14 1 s_15 fun x_16 =>
    ld (.sc (.int .i64)) x_16 fun (x_17:Int) =>
    idxW x_2.a x_2.n 1 (IntKind.wrap .i64 ((IntKind.wrap .i64 (s_10+32)) - x_17)) fun x_18 =>
    ld (.sc .bool) x_18 fun (x_19:Bool) =>
    idxW x_2.a x_2.n 1 (IntKind.wrap .i64 ((IntKind.wrap .i64 (s_10+32)) - x_17)) fun x_20 =>
    stoL x_20 [.bool (!x_19)] 0 <|
    K_14 (IntKind.wrap .i64 (s_15+1)))
     (J_11 ()))
    0))
  <| fun s_21 =>
  K_9 (IntKind.wrap .i64 (s_10+1)))
   (slcW x_2.a x_2.n x_2.c 1 (some (IntKind.wrap .i64 ((x_2.n:Int) - 32))) none fun x_22 =>
 loopW (σ:=Int × Int) (fun K_23 s_24 =>
  cond (decide (s_24.2 ≥ 0))
   (idxW x_22.a x_22.n 1 s_24.2 fun x_25 =>
  ld (.sc .bool) x_25 fun (x_26:Bool) =>
  joinW (σ:=Int) (fun J_27 =>
   cond (!x_26)
    (J_27 (IntKind.wrap .u32 ((IntKind.wrap .u32 (s_24.1 * 2))+1)))
    (J_27 (IntKind.wrap .u32 (s_24.1 * 2))))
  <| fun s_28 =>
  K_23 (s_28,IntKind.wrap .i64 (s_24.2 - 1)))
   (retW s_24.1))
  (0,31)))
  0))
  0
theorem Zgk {R:Type} (d0:Sl) (K:Res [.sc (.int .u32)]→W R) (Q:R→World→Prop) (w:World) (h:Z9j d0 (fun r w=>K r Q w) w):callW Tryz.prog Z5o [.slice d0.a d0.n d0.c] [.sc (.int .u32)] K Q w:=den_c (K:=K) mix Tryz.func25 { con:=[(25076,[(10,.sc (.int .u32))])],blk:=[(3,[])],lop:=[(0,[(15,.sc (.int .i64))]),(2,[(6,.sc (.int .i64))]),(4,[(42,.sc (.int .i64))]),(6,[(10,.sc (.int .u32)),(11,.sc (.int .i64))])] } trivial rfl (by kernel_rfl) h
def Zj5 (p0:Sl):W (Sl × Int) :=
 cond (decide ((IntKind.wrap .i64 ((p0.n:Int) - 4)) < 0))
  (retW ((⟨none,0,0⟩:Sl),2))
  (cond (decide ((IntKind.wrap .i64 ((p0.n:Int) - 4)) > 4096))
   (retW ((⟨none,0,0⟩:Sl),3))
   (drawW <|
   slcW p0.a p0.n p0.c 1 (some (IntKind.wrap .i64 ((p0.n:Int) - 4))) none fun x_1 =>
   slcW p0.a p0.n p0.c 1 none (some (IntKind.wrap .i64 ((p0.n:Int) - 4))) fun x_2 =>
   callW Tryz.prog Zbc [.slice x_2.a x_2.n x_2.c] [.sc (.int .u32)] fun (x_3:Int) =>
   callW Tryz.prog Z9u [.int .u32 x_3] [.sc .sl] fun (x_4:Sl) =>
   callW Tryz.prog Z7v [.slice x_1.a x_1.n x_1.c,.slice x_4.a x_4.n x_4.c] [.sc .bool] fun (x_5:Bool) =>
   cond (!x_5)
    (retW ((⟨none,0,0⟩:Sl),6))
    (slcW p0.a p0.n p0.c 1 none (some (IntKind.wrap .i64 ((p0.n:Int) - 4))) fun x_6 =>
 callW Tryz.prog Z4b [.slice x_6.a x_6.n x_6.c] [.sc .sl] fun (x_7:Sl) =>
 retW (x_7,0))))
theorem Zpj {R:Type} (p0:Sl) (K:Res [.sc .sl,.sc (.int .i64)]→W R) (Q:R→World→Prop) (w:World) (h:Zj5 p0 (fun r w=>K r Q w) w):callW Tryz.prog Z70 [.slice p0.a p0.n p0.c] [.sc .sl,.sc (.int .i64)] K Q w:=den_c (K:=K) mix Tryz.func26 { dr:=[(6,([],[[(0,[]),(1,[]),(2,[]),(3,[]),(4,[]),(5,[]),(6,[]),(7,[]),(8,[]),(9,[]),(10,[])]]))] } trivial rfl (by kernel_rfl) h
def Zl3 (l0:Sl):W (Int) :=
 loopW (σ:=Int × Int) (fun K_1 s_2 =>
  cond (decide (s_2.2 < (l0.n:Int)))
   (idxW l0.a l0.n 2 s_2.2 fun x_3 =>
  ld (.agg [.int .u32,.sl]) x_3 fun (x_4:(Int × Sl)) =>
  newW 57 [.int .u32 0,.slice none 0 0] fun e_5 =>
  stoL e_5 [.int .u32 x_4.1,.slice x_4.2.a x_4.2.n x_4.2.c] 0 <|
  ld (.sc (.int .u32)) (Addr.add e_5 0) fun (x_6:Int) =>
  cond (decide (x_6≤s_2.1))
   (retW 4)
   (ld (.sc (.int .u32)) (Addr.add e_5 0) fun (x_7:Int) =>
  ld (.agg [.int .u32,.sl]) e_5 fun (x_8:(Int × Sl)) =>
  callW Tryz.prog Zik [.agg ⟨[.int .u32 x_8.1,.slice x_8.2.a x_8.2.n x_8.2.c]⟩] [.sc (.int .i64)] fun (x_9:Int) =>
  cond (x_9 != 0)
   (retW x_9)
   (ld (.sc .sl) (Addr.add e_5 1) fun (x_10:Sl) =>
  callW Tryz.prog Z27 [.slice x_10.a x_10.n x_10.c,.func (.func 71) #[] #[]] [.sc .bool] fun (x_11:Bool) =>
  cond x_11
   (retW 4)
   (K_1 (x_7,IntKind.wrap .i64 (s_2.2+1))))))
   (retW 0))
  (0,0)
theorem Zrj {R:Type} (l0:Sl) (K:Res [.sc (.int .i64)]→W R) (Q:R→World→Prop) (w:World) (h:Zl3 l0 (fun r w=>K r Q w) w):callW Tryz.prog Z59 [.slice l0.a l0.n l0.c] [.sc (.int .i64)] K Q w:=den_c (K:=K) mix Tryz.func28 { lop:=[(0,[(3,.sc (.int .u32)),(9,.sc (.int .i64))])] } trivial rfl (by kernel_rfl) h
def Zgt (a0:Sl) (b1:Sl):W (Bool) :=
 rawQ Tryz.prog (Go.convert 22 9 (.slice a0.a a0.n a0.c)) [.sc .str] fun (x_1:ByteArray) =>
 rawQ Tryz.prog (Go.convert 22 9 (.slice b1.a b1.n b1.c)) [.sc .str] fun (x_2:ByteArray) =>
 retW (x_1.toList == x_2.toList)
theorem Znu {R:Type} (a0:Sl) (b1:Sl) (K:Res [.sc .bool]→W R) (Q:R→World→Prop) (w:World) (h:Zgt a0 b1 (fun r w=>K r Q w) w):callW Tryz.prog Z7v [.slice a0.a a0.n a0.c,.slice b1.a b1.n b1.c] [.sc .bool] K Q w:=den_c (K:=K) mix Tryz.func30 {} trivial rfl (by kernel_rfl) h
def Z8a (p0:Sl):W (Sl) :=
 loopW (σ:=Sl × Int) (fun K_1 s_2 =>
  cond (decide (s_2.2 < (p0.n:Int)))
   (idxW p0.a p0.n 1 s_2.2 fun x_3 =>
  ld (.sc (.int .u8)) x_3 fun (x_4:Int) =>
  loopW (σ:=Sl × Int × Int) (fun K_5 s_6 =>
   cond (decide (s_6.2.2 < 8))
    (newW 4 [.bool ((Int.tmod s_6.2.1 2) == 1)] fun x_7 =>
   rawW Tryz.prog (Builtin.append_ #[70,70] 70 #[.slice s_6.1.a s_6.1.n s_6.1.c,.slice (some x_7) 1 1]) [.sc .sl] fun (x_8:Sl) =>
   K_5 (x_8,IntKind.wrap .u8 (Int.tdiv s_6.2.1 2),IntKind.wrap .i64 (s_6.2.2+1)))
    (K_1 (s_6.1,IntKind.wrap .i64 (s_2.2+1))))
   (s_2.1,x_4,0))
   (retW s_2.1))
  ((⟨none,0,0⟩:Sl),0)
theorem Zew {R:Type} (p0:Sl) (K:Res [.sc .sl]→W R) (Q:R→World→Prop) (w:World) (h:Z8a p0 (fun r w=>K r Q w) w):callW Tryz.prog Z1h [.slice p0.a p0.n p0.c] [.sc .sl] K Q w:=den_c (K:=K) mix Tryz.func32 { lop:=[(0,[(3,.sc .sl),(8,.sc (.int .i64))]),(2,[(3,.sc .sl),(5,.sc (.int .u8)),(12,.sc (.int .i64))])] } trivial rfl (by kernel_rfl) h
def Z4h (d0:Option Addr):W ((Int × Int × Int × Int × Int)) :=
 newW 30 [.int .u8 0,.int .u8 0,.int .u32 0,.int .u32 0,.int .u32 0] fun x_1 =>
 newW 30 [.int .u8 0,.int .u8 0,.int .u32 0,.int .u32 0,.int .u32 0] fun x_2 =>
 ptrW d0 fun x_3 =>
 ld (.sc .sl) (Addr.add x_3 0) fun (x_4:Sl) =>
 callW Tryz.prog Z18 [.slice x_4.a x_4.n x_4.c,.int .i64 1,.int .i64 5] [.sc (.int .i64),.sc .sl,.sc (.int .i64)] fun (x_5:Int × Sl × Int) =>
 ptrW d0 fun x_6 =>
 stoL (Addr.add x_6 0) [.slice x_5.2.1.a x_5.2.1.n x_5.2.1.c] 0 <|
 ptrW d0 fun x_7 =>
 stoL (Addr.add x_7 1) [.bool (x_5.2.2 != 0)] 0 <|
 callW Tryz.prog Z2 [.pointer d0,.int .i64 4] [.sc (.int .u64)] fun (x_8:Int) =>
 stoL (Addr.add x_2 0) [.int .u8 (IntKind.wrap .u8 x_5.1)] 0 <|
 stoL (Addr.add x_2 1) [.int .u8 (IntKind.wrap .u8 x_8)] 0 <|
 callW Tryz.prog Z3 [.pointer d0] [.sc (.int .u64)] fun (x_9:Int) =>
 stoL (Addr.add x_2 2) [.int .u32 (IntKind.wrap .u32 x_9)] 0 <|
 joinW (σ:=Unit) (fun J_10 =>
  ptrW d0 fun x_11 =>
  ld (.sc .bool) (Addr.add x_11 1) fun (x_12:Bool) =>
  cond x_12
   (ptrW d0 fun x_13 =>
    stoL (Addr.add x_13 1) [.bool true] 0 <|
    J_10 ())
   (ptrW d0 fun x_14 =>
    stoL (Addr.add x_14 1) [.bool (decide (x_9 > 4294967295))] 0 <|
    J_10 ()))
 <| fun s_15 =>
 ld (.sc (.int .u8)) (Addr.add x_2 0) fun (x_16:Int) =>
 joinW (σ:=Unit) (fun J_17 =>
  cond (decide (x_16≤3))
   (callW Tryz.prog Z2 [.pointer d0,.int .i64 32] [.sc (.int .u64)] fun (x_18:Int) =>
   stoL (Addr.add x_2 3) [.int .u32 (IntKind.wrap .u32 x_18)] 0 <|
   J_17 ())
   (J_17 ()))
 <| fun s_19 =>
 ld (.sc (.int .u8)) (Addr.add x_2 0) fun (x_20:Int) =>
 joinW (σ:=Unit) (fun J_21 =>
  cond (x_20 == 2)
   (callW Tryz.prog Z3 [.pointer d0] [.sc (.int .u64)] fun (x_22:Int) =>
   joinW (σ:=Unit) (fun J_23 =>
    ptrW d0 fun x_24 =>
    ld (.sc .bool) (Addr.add x_24 1) fun (x_25:Bool) =>
    cond x_25
     (ptrW d0 fun x_26 =>
         stoL (Addr.add x_26 1) [.bool true] 0 <|
         J_23 ())
     (ld (.sc (.int .u32)) (Addr.add x_2 3) fun (x_27:Int) =>
       ptrW d0 fun x_28 =>
         stoL (Addr.add x_28 1) [.bool (decide (x_22 ≥ (IntKind.wrap .u64 x_27)))] 0 <|
         J_23 ()))
   <| fun s_29 =>
   ld (.sc (.int .u32)) (Addr.add x_2 3) fun (x_30:Int) =>
   stoL (Addr.add x_2 4) [.int .u32 (IntKind.wrap .u32 ((IntKind.wrap .u32 (x_30 - (IntKind.wrap .u32 x_22))) - 1))] 0 <|
   J_21 ())
   (J_21 ()))
 <| fun s_31 =>
 joinW (σ:=Unit) (fun J_32 =>
  ptrW d0 fun x_33 =>
  ld (.sc .bool) (Addr.add x_33 1) fun (x_34:Bool) =>
  cond x_34
   (ptrW d0 fun x_35 =>
     stoL (Addr.add x_35 1) [.bool true] 0 <|
     J_32 ())
   (ld (.agg [.int .u8,.int .u8,.int .u32,.int .u32,.int .u32]) x_2 fun (x_36:(Int × Int × Int × Int × Int)) =>
   callW Tryz.prog Z2l [.agg ⟨[.int .u8 x_36.1,.int .u8 x_36.2.1,.int .u32 x_36.2.2.1,.int .u32 x_36.2.2.2.1,.int .u32 x_36.2.2.2.2]⟩] [.sc (.int .i64)] fun (x_37:Int) =>
    ptrW d0 fun x_38 =>
     stoL (Addr.add x_38 1) [.bool (x_37 != 0)] 0 <|
     J_32 ()))
 <| fun s_39 =>
 ld (.agg [.int .u8,.int .u8,.int .u32,.int .u32,.int .u32]) x_2 fun (x_40:(Int × Int × Int × Int × Int)) =>
 stoL x_1 [.int .u8 x_40.1,.int .u8 x_40.2.1,.int .u32 x_40.2.2.1,.int .u32 x_40.2.2.2.1,.int .u32 x_40.2.2.2.2] 0 <|
 ld (.agg [.int .u8,.int .u8,.int .u32,.int .u32,.int .u32]) x_1 fun (x_41:(Int × Int × Int × Int × Int)) =>
 retW x_41
theorem Z99 {R:Type} (d0:Option Addr) (K:Res [.agg [.int .u8,.int .u8,.int .u32,.int .u32,.int .u32]]→W R) (Q:R→World→Prop) (w:World) (h:Z4h d0 (fun r w=>K r Q w) w):callW Tryz.prog Z1d [.pointer d0] [.agg [.int .u8,.int .u8,.int .u32,.int .u32,.int .u32]] K Q w:=den_c (K:=K) mix Tryz.func33 { reg:=[(7,[]),(12,[]),(14,[])],con:=[(10052,[]),(12059,[])] } ⟨by kernel_rfl,trivial⟩ rfl (by kernel_rfl) h
def Z4g (s0:Option Addr):W (Sl) :=
 callW Tryz.prog Z3 [.pointer s0] [.sc (.int .u64)] fun (x_1:Int) =>
 loopW (σ:=Sl × Int × Int) (fun K_2 s_3 =>
  joinW (σ:=Bool) (fun J_4 =>
   cond (decide (s_3.2.2 > 0))
    (ptrW s0 fun x_5 =>
     ld (.sc .bool) (Addr.add x_5 1) fun (x_6:Bool) =>
       J_4 (!x_6))
    (J_4 false))
  <| fun s_7 =>
  cond s_7
   (callW Tryz.prog Zd [.pointer s0,.int .u32 s_3.2.1] [.sc (.int .u32)] fun (x_8:Int) =>
  newW 57 [.int .u32 0,.slice none 0 0] fun e_9 =>
  stoL e_9 [.int .u32 x_8,.slice none 0 0] 0 <|
  ld (.sc (.int .u32)) (Addr.add e_9 0) fun (x_10:Int) =>
  callW Tryz.prog Z2 [.pointer s0,.int .i64 5] [.sc (.int .u64)] fun (x_11:Int) =>
  callW Tryz.prog Zl [.pointer s0,.int .u64 x_11] [.sc .sl] fun (x_12:Sl) =>
  stoL (Addr.add e_9 1) [.slice x_12.a x_12.n x_12.c] 0 <|
  ld (.agg [.int .u32,.sl]) e_9 fun (x_13:(Int × Sl)) =>
  newW 57 [.int .u32 x_13.1,.slice x_13.2.a x_13.2.n x_13.2.c] fun x_14 =>
  rawW Tryz.prog (Builtin.append_ #[23,23] 23 #[.slice s_3.1.a s_3.1.n s_3.1.c,.slice (some x_14) 1 1]) [.sc .sl] fun (x_15:Sl) =>
  K_2 (x_15,x_10,IntKind.wrap .u64 (s_3.2.2 - 1)))
   (retW s_3.1))
  ((⟨none,0,0⟩:Sl),0,x_1)
theorem Z98 {R:Type} (s0:Option Addr) (K:Res [.sc .sl]→W R) (Q:R→World→Prop) (w:World) (h:Z4g s0 (fun r w=>K r Q w) w):callW Tryz.prog Z1c [.pointer s0] [.sc .sl] K Q w:=den_c (K:=K) mix Tryz.func34 { reg:=[(4,[(18,.sc .bool)])],lop:=[(0,[(3,.sc .sl),(4,.sc (.int .u32)),(5,.sc (.int .u64))])] } trivial rfl (by kernel_rfl) h
def Z8o (l0:Sl):W (Int) :=
 loopW (σ:=Int) (fun K_1 s_2 =>
  cond (decide (s_2 < (l0.n:Int)))
   (idxW l0.a l0.n 2 s_2 fun x_3 =>
  ld (.agg [.int .u32,.sl]) x_3 fun (x_4:(Int × Sl)) =>
  newW 57 [.int .u32 0,.slice none 0 0] fun e_5 =>
  stoL e_5 [.int .u32 x_4.1,.slice x_4.2.a x_4.2.n x_4.2.c] 0 <|
  ld (.sc (.int .u32)) (Addr.add e_5 0) fun (x_6:Int) =>
  callW Tryz.prog Z5r [.int .u32 x_6] [.sc (.int .i64)] fun (x_7:Int) =>
  joinW (σ:=Bool) (fun J_8 =>
   drawW <|
   cond (decide (x_7 < 1))
    (J_8 true)
    (cond (decide (x_7 > 4194303))
      (J_8 true)
      (cond (decide (s_2 > 0))
         (ld (.sc (.int .u32)) (Addr.add e_5 0) fun (x_9:Int) =>
          idxW l0.a l0.n 2 (IntKind.wrap .i64 (s_2 - 1)) fun x_10 =>
              ld (.sc (.int .u32)) (Addr.add x_10 0) fun (x_11:Int) =>
                J_8 (decide (x_9≤x_11)))
         (J_8 false))))
  <| fun s_12 =>
  cond s_12
   (retW 4)
   (ld (.sc .sl) (Addr.add e_5 1) fun (x_13:Sl) =>
  callW Tryz.prog Z53 [.slice x_13.a x_13.n x_13.c] [.sc (.int .i64)] fun (x_14:Int) =>
  cond (x_14 != 0)
   (retW x_14)
   (ld (.sc .sl) (Addr.add e_5 1) fun (x_15:Sl) =>
  loopW (σ:=Int) (fun K_16 s_17 =>
   cond (decide (s_17 < (x_15.n:Int)))
    (idxW x_15.a x_15.n 4 s_17 fun x_18 =>
   ld (.agg [.int .u8,.int .i32,.int .i32,.int .i32]) x_18 fun (x_19:(Int × Int × Int × Int)) =>
   newW 92 [.int .u8 0,.int .i32 0,.int .i32 0,.int .i32 0] fun c_20 =>
   stoL c_20 [.int .u8 x_19.1,.int .i32 x_19.2.1,.int .i32 x_19.2.2.1,.int .i32 x_19.2.2.2] 0 <|
   ld (.sc (.int .u8)) (Addr.add c_20 0) fun (x_21:Int) =>
   callW Tryz.prog Z54 [.int .u8 x_21] [.sc .bool] fun (x_22:Bool) =>
   cond (!x_22)
    (retW 4)
    (K_16 (IntKind.wrap .i64 (s_17+1))))
    (K_1 (IntKind.wrap .i64 (s_2+1))))
   0)))
   (retW 0))
  0
theorem Zfa {R:Type} (l0:Sl) (K:Res [.sc (.int .i64)]→W R) (Q:R→World→Prop) (w:World) (h:Z8o l0 (fun r w=>K r Q w) w):callW Tryz.prog Zu [.slice l0.a l0.n l0.c] [.sc (.int .i64)] K Q w:=den_c (K:=K) mix Tryz.func35 { reg:=[(5,[(39,.sc .bool)])],lop:=[(0,[(11,.sc (.int .i64))]),(2,[(49,.sc (.int .i64))])],dr:=[(5,([],[[(0,[]),(1,[]),(2,[]),(3,[]),(4,[]),(5,[]),(6,[]),(7,[]),(8,[]),(9,[]),(10,[]),(11,[]),(12,[]),(13,[]),(14,[]),(15,[]),(16,[]),(17,[]),(18,[]),(19,[]),(20,[])]]))] } trivial rfl (by kernel_rfl) h
def Z43 (s0:Option Addr):W (Int) :=
 ptrW s0 fun x_1 =>
 ld (.sc .sl) (Addr.add x_1 0) fun (x_2:Sl) =>
 callW Tryz.prog Z46 [.slice x_2.a x_2.n x_2.c] [.sc (.int .u64),.sc .sl,.sc (.int .i64)] fun (x_3:Int × Sl × Int) =>
 ptrW s0 fun x_4 =>
 stoL (Addr.add x_4 0) [.slice x_3.2.1.a x_3.2.1.n x_3.2.1.c] 0 <|
 joinW (σ:=Unit) (fun J_5 =>
  ptrW s0 fun x_6 =>
  ld (.sc .bool) (Addr.add x_6 1) fun (x_7:Bool) =>
  cond x_7
   (ptrW s0 fun x_8 =>
    stoL (Addr.add x_8 1) [.bool true] 0 <|
    J_5 ())
   (ptrW s0 fun x_9 =>
    stoL (Addr.add x_9 1) [.bool (x_3.2.2 != 0)] 0 <|
    J_5 ()))
 <| fun s_10 =>
 retW x_3.1
theorem Z86 {R:Type} (s0:Option Addr) (K:Res [.sc (.int .u64)]→W R) (Q:R→World→Prop) (w:World) (h:Z43 s0 (fun r w=>K r Q w) w):callW Tryz.prog Z3 [.pointer s0] [.sc (.int .u64)] K Q w:=den_c (K:=K) mix Tryz.func36 { reg:=[(3,[])] } trivial rfl (by kernel_rfl) h
def Z5e (s0:Option Addr) (last1:Int):W (Int) :=
 callW Tryz.prog Z3 [.pointer s0] [.sc (.int .u64)] fun (x_1:Int) =>
 joinW (σ:=Unit) (fun J_2 =>
  ptrW s0 fun x_3 =>
  ld (.sc .bool) (Addr.add x_3 1) fun (x_4:Bool) =>
  cond x_4
   (ptrW s0 fun x_5 =>
    stoL (Addr.add x_5 1) [.bool true] 0 <|
    J_2 ())
   (ptrW s0 fun x_6 =>
    stoL (Addr.add x_6 1) [.bool (decide (x_1 > 4294967295))] 0 <|
    J_2 ()))
 <| fun s_7 =>
 retW (IntKind.wrap .u32 ((IntKind.wrap .u32 (last1+(IntKind.wrap .u32 x_1)))+1))
theorem Zaf {R:Type} (s0:Option Addr) (last1:Int) (K:Res [.sc (.int .u32)]→W R) (Q:R→World→Prop) (w:World) (h:Z5e s0 last1 (fun r w=>K r Q w) w):callW Tryz.prog Zd [.pointer s0,.int .u32 last1] [.sc (.int .u32)] K Q w:=den_c (K:=K) mix Tryz.func37 { reg:=[(2,[])] } trivial rfl (by kernel_rfl) h
def Z44 (s0:Option Addr) (n1:Int):W (Int) :=
 ptrW s0 fun x_1 =>
 ld (.sc .sl) (Addr.add x_1 0) fun (x_2:Sl) =>
 callW Tryz.prog Zs [.slice x_2.a x_2.n x_2.c,.int .i64 n1] [.sc (.int .u64),.sc .sl,.sc (.int .i64)] fun (x_3:Int × Sl × Int) =>
 ptrW s0 fun x_4 =>
 stoL (Addr.add x_4 0) [.slice x_3.2.1.a x_3.2.1.n x_3.2.1.c] 0 <|
 joinW (σ:=Unit) (fun J_5 =>
  ptrW s0 fun x_6 =>
  ld (.sc .bool) (Addr.add x_6 1) fun (x_7:Bool) =>
  cond x_7
   (ptrW s0 fun x_8 =>
    stoL (Addr.add x_8 1) [.bool true] 0 <|
    J_5 ())
   (ptrW s0 fun x_9 =>
    stoL (Addr.add x_9 1) [.bool (x_3.2.2 != 0)] 0 <|
    J_5 ()))
 <| fun s_10 =>
 retW x_3.1
theorem Z87 {R:Type} (s0:Option Addr) (n1:Int) (K:Res [.sc (.int .u64)]→W R) (Q:R→World→Prop) (w:World) (h:Z44 s0 n1 (fun r w=>K r Q w) w):callW Tryz.prog Z2 [.pointer s0,.int .i64 n1] [.sc (.int .u64)] K Q w:=den_c (K:=K) mix Tryz.func38 { reg:=[(3,[])] } trivial rfl (by kernel_rfl) h
def Z42 (s0:Option Addr) (mask1:Int):W (Sl) :=
 loopW (σ:=Sl × Int) (fun K_1 s_2 =>
  cond (decide (s_2.2 < 5))
   (joinW (σ:=Bool) (fun J_3 =>
   chkW (0≤s_2.2) <|
   cond ((Int.tmod (shR .u64 mask1 s_2.2) 2) == 1)
    (ptrW s0 fun x_4 =>
     ld (.sc .bool) (Addr.add x_4 1) fun (x_5:Bool) =>
       J_3 (!x_5))
    (J_3 false))
  <| fun s_6 =>
  joinW (σ:=Sl) (fun J_7 =>
   cond s_6
    (ptrW s0 fun x_8 =>
    ld (.sc .sl) (Addr.add x_8 0) fun (x_9:Sl) =>
    callW Tryz.prog Z5p [.slice x_9.a x_9.n x_9.c,.int .u8 s_2.2] [.agg [.int .u8,.int .i32,.int .i32,.int .i32],.sc .sl,.sc (.int .i64)] fun (x_10:(Int × Int × Int × Int) × Sl × Int) =>
    newW 92 [.int .u8 0,.int .i32 0,.int .i32 0,.int .i32 0] fun c_11 =>
    stoL c_11 [.int .u8 x_10.1.1,.int .i32 x_10.1.2.1,.int .i32 x_10.1.2.2.1,.int .i32 x_10.1.2.2.2] 0 <|
    ptrW s0 fun x_12 =>
    stoL (Addr.add x_12 0) [.slice x_10.2.1.a x_10.2.1.n x_10.2.1.c] 0 <|
    ptrW s0 fun x_13 =>
    stoL (Addr.add x_13 1) [.bool (x_10.2.2 != 0)] 0 <|
    ld (.agg [.int .u8,.int .i32,.int .i32,.int .i32]) c_11 fun (x_14:(Int × Int × Int × Int)) =>
    newW 92 [.int .u8 x_14.1,.int .i32 x_14.2.1,.int .i32 x_14.2.2.1,.int .i32 x_14.2.2.2] fun x_15 =>
    rawW Tryz.prog (Builtin.append_ #[55,55] 55 #[.slice s_2.1.a s_2.1.n s_2.1.c,.slice (some x_15) 1 1]) [.sc .sl] fun (x_16:Sl) =>
    J_7 x_16)
    (J_7 s_2.1))
  <| fun s_17 =>
  K_1 (s_17,IntKind.wrap .u8 (s_2.2+1)))
   (retW s_2.1))
  ((⟨none,0,0⟩:Sl),0)
theorem Z85 {R:Type} (s0:Option Addr) (mask1:Int) (K:Res [.sc .sl]→W R) (Q:R→World→Prop) (w:World) (h:Z42 s0 mask1 (fun r w=>K r Q w) w):callW Tryz.prog Zl [.pointer s0,.int .u64 mask1] [.sc .sl] K Q w:=den_c (K:=K) mix Tryz.func39 { reg:=[(5,[(24,.sc .bool)])],con:=[(7024,[(5,.sc .sl)])],lop:=[(0,[(5,.sc .sl),(10,.sc (.int .u8))])] } trivial rfl (by kernel_rfl) h
def Z8n (l0:Sl) (id1:Int):W (Int) :=
 loopW (σ:=Int) (fun K_1 s_2 =>
  cond (decide (s_2 < (l0.n:Int)))
   (idxW l0.a l0.n 2 s_2 fun x_3 =>
  ld (.agg [.int .u32,.sl]) x_3 fun (x_4:(Int × Sl)) =>
  newW 57 [.int .u32 0,.slice none 0 0] fun e_5 =>
  stoL e_5 [.int .u32 x_4.1,.slice x_4.2.a x_4.2.n x_4.2.c] 0 <|
  ld (.sc (.int .u32)) (Addr.add e_5 0) fun (x_6:Int) =>
  cond (x_6 == id1)
   (retW s_2)
   (K_1 (IntKind.wrap .i64 (s_2+1))))
   (retW (-1)))
  0
theorem Zf9 {R:Type} (l0:Sl) (id1:Int) (K:Res [.sc (.int .i64)]→W R) (Q:R→World→Prop) (w:World) (h:Z8n l0 id1 (fun r w=>K r Q w) w):callW Tryz.prog Z9 [.slice l0.a l0.n l0.c,.int .u32 id1] [.sc (.int .i64)] K Q w:=den_c (K:=K) mix Tryz.func40 { lop:=[(0,[(9,.sc (.int .i64))])] } trivial rfl (by kernel_rfl) h
def Z63 (d0:Sl) (o1:(Int × Int × Int × Int)):W ((Int × Int × Int × Int) × Sl × Int) :=
 newW 92 [.int .u8 o1.1,.int .i32 o1.2.1,.int .i32 o1.2.2.1,.int .i32 o1.2.2.2] fun x_1 =>
 newW 92 [.int .u8 0,.int .i32 0,.int .i32 0,.int .i32 0] fun x_2 =>
 ld (.agg [.int .u8,.int .i32,.int .i32,.int .i32]) x_1 fun (x_3:(Int × Int × Int × Int)) =>
 callW Tryz.prog Zo [.agg ⟨[.int .u8 x_3.1,.int .i32 x_3.2.1,.int .i32 x_3.2.2.1,.int .i32 x_3.2.2.2]⟩] [.sc (.int .i64)] fun (x_4:Int) =>
 cond (x_4 != 0)
  (stoL x_2 [.int .u8 0,.int .i32 0,.int .i32 0,.int .i32 0] 0 <|
  ld (.agg [.int .u8,.int .i32,.int .i32,.int .i32]) x_2 fun (x_5:(Int × Int × Int × Int)) =>
  retW (x_5,d0,x_4))
  (ld (.agg [.int .u8,.int .i32,.int .i32,.int .i32]) x_1 fun (x_6:(Int × Int × Int × Int)) =>
 newW 92 [.int .u8 0,.int .i32 0,.int .i32 0,.int .i32 0] fun x_7 =>
 stoL x_7 [.int .u8 x_6.1,.int .i32 x_6.2.1,.int .i32 x_6.2.2.1,.int .i32 x_6.2.2.2] 0 <|
 ld (.sc (.int .u8)) (Addr.add x_1 0) fun (x_8:Int) =>
 callW Tryz.prog Zc [.int .u8 x_8] [.sc (.int .i64)] fun (x_9:Int) =>
 loopW (σ:=Sl × Int) (fun K_10 s_11 =>
  cond (decide (s_11.2 < x_9))
   (joinW (σ:=Sl) (fun J_12 =>
   ld (.sc (.int .u8)) (Addr.add x_1 0) fun (x_13:Int) =>
   callW Tryz.prog Zp [.int .u8 x_13,.int .i64 s_11.2] [.sc (.int .i32),.sc (.int .i32),.sc (.int .i64)] fun (x_14:Int × Int × Int) =>
   callW Tryz.prog Zs [.slice s_11.1.a s_11.1.n s_11.1.c,.int .i64 1] [.sc (.int .u64),.sc .sl,.sc (.int .i64)] fun (x_15:Int × Sl × Int) =>
   cond (x_15.2.2 != 0)
    (stoL x_2 [.int .u8 0,.int .i32 0,.int .i32 0,.int .i32 0] 0 <|
    ld (.agg [.int .u8,.int .i32,.int .i32,.int .i32]) x_2 fun (x_16:(Int × Int × Int × Int)) =>
    retW (x_16,d0,x_15.2.2))
    (cond (x_15.1 == 0)
    (J_12 x_15.2.1)
    (callW Tryz.prog Zs [.slice x_15.2.1.a x_15.2.1.n x_15.2.1.c,.int .i64 1] [.sc (.int .u64),.sc .sl,.sc (.int .i64)] fun (x_17:Int × Sl × Int) =>
   cond (x_17.2.2 != 0)
    (stoL x_2 [.int .u8 0,.int .i32 0,.int .i32 0,.int .i32 0] 0 <|
    ld (.agg [.int .u8,.int .i32,.int .i32,.int .i32]) x_2 fun (x_18:(Int × Int × Int × Int)) =>
    retW (x_18,d0,x_17.2.2))
    (joinW (σ:=Sl × Int × Int) (fun J_19 =>
    cond (x_17.1 == 1)
     (callW Tryz.prog Zs [.slice x_17.2.1.a x_17.2.1.n x_17.2.1.c,.int .i64 4] [.sc (.int .u64),.sc .sl,.sc (.int .i64)] fun (x_20:Int × Sl × Int) =>
     drawW <|
     idxW (some (Addr.add x_1 1)) 3 1 s_11.2 fun x_21 =>
     ld (.sc (.int .i32)) x_21 fun (x_22:Int) =>
     callW Tryz.prog Z3t [.int .u64 (IntKind.wrap .u64 (x_20.1+1))] [.sc (.int .i64)] fun (x_23:Int) =>
     andW (fun w=>Rd w x_21 (.sc (.int .i32)) x_22) <|
     joinW (σ:=Bool) (fun J_24 =>
      cond (x_20.2.2 == 0)
       (cond (decide ((IntKind.wrap .i64 ((IntKind.wrap .i64 x_22) + x_23)) < (IntKind.wrap .i64 x_14.1)))
            (J_24 true)
            (J_24 (decide ((IntKind.wrap .i64 ((IntKind.wrap .i64 x_22)+x_23)) > (IntKind.wrap .i64 x_14.2.1)))))
       (J_24 false))
     <| fun s_25 =>
     joinW (σ:=Int) (fun J_26 =>
      cond s_25
       (J_26 5)
       (J_26 x_20.2.2))
     <| fun s_27 =>
     J_19 (x_20.2.1,s_27,IntKind.wrap .i64 ((IntKind.wrap .i64 x_22)+x_23)))
     (callW Tryz.prog Z18 [.slice x_17.2.1.a x_17.2.1.n x_17.2.1.c,.int .i64 (IntKind.wrap .i64 x_14.1),.int .i64 (IntKind.wrap .i64 x_14.2.1)] [.sc (.int .i64),.sc .sl,.sc (.int .i64)] fun (x_28:Int × Sl × Int) =>
     joinW (σ:=Bool) (fun J_29 =>
      cond (x_28.2.2 == 0)
       (idxW (some (Addr.add x_1 1)) 3 1 s_11.2 fun x_30 =>
          ld (.sc (.int .i32)) x_30 fun (x_31:Int) =>
           callW Tryz.prog Z3u [.int .i64 (IntKind.wrap .i64 (x_28.1 - (IntKind.wrap .i64 x_31)))] [.sc (.int .u64)] fun (x_32 : Int) =>
              J_29 (decide (x_32≤16)))
       (J_29 false))
     <| fun s_33 =>
     joinW (σ:=Int) (fun J_34 =>
      cond s_33
       (J_34 4)
       (J_34 x_28.2.2))
     <| fun s_35 =>
     J_19 (x_28.2.1,s_35,x_28.1)))
   <| fun s_36 =>
   cond (s_36.2.1 != 0)
    (stoL x_2 [.int .u8 0,.int .i32 0,.int .i32 0,.int .i32 0] 0 <|
    ld (.agg [.int .u8,.int .i32,.int .i32,.int .i32]) x_2 fun (x_37:(Int × Int × Int × Int)) =>
    retW (x_37,d0,s_36.2.1))
    (idxW (some (Addr.add x_7 1)) 3 1 s_11.2 fun x_38 =>
   stoL x_38 [.int .i32 (IntKind.wrap .i32 s_36.2.2)] 0 <|
   J_12 s_36.1)))))
  <| fun s_39 =>
  K_10 (s_39,IntKind.wrap .i64 (s_11.2+1)))
   (ld (.agg [.int .u8,.int .i32,.int .i32,.int .i32]) x_7 fun (x_40:(Int × Int × Int × Int)) =>
 stoL x_2 [.int .u8 x_40.1,.int .i32 x_40.2.1,.int .i32 x_40.2.2.1,.int .i32 x_40.2.2.2] 0 <|
 ld (.agg [.int .u8,.int .i32,.int .i32,.int .i32]) x_2 fun (x_41:(Int × Int × Int × Int)) =>
 retW (x_41,s_11.1,0)))
  (d0,0))
set_option maxRecDepth 100000 in
theorem Zbu {R:Type} (d0:Sl) (o1:(Int × Int × Int × Int)) (K:Res [.agg [.int .u8,.int .i32,.int .i32,.int .i32],.sc .sl,.sc (.int .i64)]→W R) (Q:R→World→Prop) (w:World) (h:Z63 d0 o1 (fun r w=>K r Q w) w):callW Tryz.prog Zb [.slice d0.a d0.n d0.c,.agg ⟨[.int .u8 o1.1,.int .i32 o1.2.1,.int .i32 o1.2.2.1,.int .i32 o1.2.2.2]⟩] [.agg [.int .u8,.int .i32,.int .i32,.int .i32],.sc .sl,.sc (.int .i64)] K Q w:=den_c (K:=K) mix Tryz.func42 { reg:=[(23,[(105,.sc .bool)]),(27,[(131,.sc .bool)])],con:=[(25105,[(16,.sc (.int .i64))]),(29131,[(16,.sc (.int .i64))]),(21074,[(9,.sc .sl),(16,.sc (.int .i64)),(17,.sc (.int .i64))])],blk:=[(1,[(9,.sc .sl)])],lop:=[(0,[(9,.sc .sl),(36,.sc (.int .i64))])],dr:=[(22,([],[[(0,[]),(1,[]),(2,[]),(3,[]),(4,[]),(5,[]),(6,[]),(7,[3]),(8,[]),(9,[])]]))] } ⟨by kernel_rfl,trivial⟩ rfl (by kernel_rfl) h
def Z7l (d0:Sl) (o1:(Sl × Sl × Sl)):W (Sl × Int) :=
 newW 80 [.slice o1.1.a o1.1.n o1.1.c,.slice o1.2.1.a o1.2.1.n o1.2.1.c,.slice o1.2.2.a o1.2.2.n o1.2.2.c] fun x_1 =>
 callW Tryz.prog Zu [.slice d0.a d0.n d0.c] [.sc (.int .i64)] fun (x_2:Int) =>
 cond (x_2 != 0)
  (retW ((⟨none,0,0⟩:Sl),x_2))
  (callW Tryz.prog Z0 [.slice d0.a d0.n d0.c] [.sc .sl] fun (x_3:Sl) =>
 ld (.sc .sl) (Addr.add x_1 0) fun (x_4:Sl) =>
 loopW (σ:=Sl × Int) (fun K_5 s_6 =>
  cond (decide (s_6.2 < (x_4.n:Int)))
   (idxW x_4.a x_4.n 1 s_6.2 fun x_7 =>
  ld (.sc (.int .u32)) x_7 fun (x_8:Int) =>
  callW Tryz.prog Z9 [.slice s_6.1.a s_6.1.n s_6.1.c,.int .u32 x_8] [.sc (.int .i64)] fun (x_9:Int) =>
  cond (decide (x_9 < 0))
   (retW ((⟨none,0,0⟩:Sl),4))
   (drawW <|
  slcW s_6.1.a s_6.1.n s_6.1.c 2 none (some x_9) fun x_10 =>
  slcW s_6.1.a s_6.1.n s_6.1.c 2 (some (IntKind.wrap .i64 (x_9+1))) none fun x_11 =>
  newW 57 [] fun x_12 =>
  rawW Tryz.prog (Builtin.append_ #[23,23] 23 #[.slice (some x_12) 0 0,.slice x_10.a x_10.n x_10.c]) [.sc .sl] fun (x_13:Sl) =>
  rawW Tryz.prog (Builtin.append_ #[23,23] 23 #[.slice x_13.a x_13.n x_13.c,.slice x_11.a x_11.n x_11.c]) [.sc .sl] fun (x_14:Sl) =>
  K_5 (x_14,IntKind.wrap .i64 (s_6.2+1))))
   (ld (.sc .sl) (Addr.add x_1 2) fun (x_15:Sl) =>
 loopW (σ:=Int) (fun K_16 s_17 =>
  cond (decide (s_17 < (x_15.n:Int)))
   (idxW x_15.a x_15.n 4 s_17 fun x_18 =>
  ld (.agg [.int .u32,.int .u8,.sl,.sl]) x_18 fun (x_19:(Int × Int × Sl × Sl)) =>
  newW 86 [.int .u32 0,.int .u8 0,.slice none 0 0,.slice none 0 0] fun x_20 =>
  stoL x_20 [.int .u32 x_19.1,.int .u8 x_19.2.1,.slice x_19.2.2.1.a x_19.2.2.1.n x_19.2.2.1.c,.slice x_19.2.2.2.a x_19.2.2.2.n x_19.2.2.2.c] 0 <|
  ld (.sc (.int .u32)) (Addr.add x_20 0) fun (x_21:Int) =>
  callW Tryz.prog Z9 [.slice s_6.1.a s_6.1.n s_6.1.c,.int .u32 x_21] [.sc (.int .i64)] fun (x_22:Int) =>
  cond (decide (x_22 < 0))
   (retW ((⟨none,0,0⟩:Sl),4))
   (idxW s_6.1.a s_6.1.n 2 x_22 fun x_23 =>
  ld (.sc .sl) (Addr.add x_23 1) fun (x_24:Sl) =>
  loopW (σ:=Sl × Int) (fun K_25 s_26 =>
   cond (decide (s_26.2 < 8))
    (joinW (σ:=Sl) (fun J_27 =>
    ld (.sc (.int .u8)) (Addr.add x_20 1) fun (x_28:Int) =>
    chkW (0≤s_26.2) <|
    cond ((Int.tmod (shR .u8 x_28 s_26.2) 2) == 0)
     (J_27 s_26.1)
     (callW Tryz.prog Z7 [.slice s_26.1.a s_26.1.n s_26.1.c,.int .u8 s_26.2] [.sc (.int .i64)] fun (x_29:Int) =>
    cond (decide (x_29 < 0))
     (retW ((⟨none,0,0⟩:Sl),4))
     (callW Tryz.prog Z3o [.slice s_26.1.a s_26.1.n s_26.1.c,.int .u8 s_26.2] [.sc .sl] fun (x_30:Sl) =>
    J_27 x_30)))
   <| fun s_31 =>
   K_25 (s_31,IntKind.wrap .u8 (s_26.2+1)))
    (ld (.sc .sl) (Addr.add x_20 2) fun (x_32:Sl) =>
  loopW (σ:=Sl × Int) (fun K_33 s_34 =>
   cond (decide (s_34.2 < (x_32.n:Int)))
    (idxW x_32.a x_32.n 4 s_34.2 fun x_35 =>
   ld (.agg [.int .u8,.int .i32,.int .i32,.int .i32]) x_35 fun (x_36:(Int × Int × Int × Int)) =>
   newW 92 [.int .u8 0,.int .i32 0,.int .i32 0,.int .i32 0] fun x_37 =>
   stoL x_37 [.int .u8 x_36.1,.int .i32 x_36.2.1,.int .i32 x_36.2.2.1,.int .i32 x_36.2.2.2] 0 <|
   drawW <|
   idxW s_6.1.a s_6.1.n 2 x_22 fun x_38 =>
   ld (.sc .sl) (Addr.add x_38 1) fun (x_39:Sl) =>
   ld (.sc (.int .u8)) (Addr.add x_37 0) fun (x_40:Int) =>
   callW Tryz.prog Z7 [.slice x_39.a x_39.n x_39.c,.int .u8 x_40] [.sc (.int .i64)] fun (x_41:Int) =>
   cond (decide (x_41 ≥ 0))
    (retW ((⟨none,0,0⟩:Sl),4))
    (ld (.agg [.int .u8,.int .i32,.int .i32,.int .i32]) x_37 fun (x_42:(Int × Int × Int × Int)) =>
   callW Tryz.prog Z32 [.slice s_34.1.a s_34.1.n s_34.1.c,.agg ⟨[.int .u8 x_42.1,.int .i32 x_42.2.1,.int .i32 x_42.2.2.1,.int .i32 x_42.2.2.2]⟩] [.sc .sl] fun (x_43:Sl) =>
   K_33 (x_43,IntKind.wrap .i64 (s_34.2+1))))
    (ld (.sc .sl) (Addr.add x_20 3) fun (x_44:Sl) =>
  loopW (σ:=Sl × Int) (fun K_45 s_46 =>
   cond (decide (s_46.2 < (x_44.n:Int)))
    (idxW x_44.a x_44.n 4 s_46.2 fun x_47 =>
   ld (.agg [.int .u8,.int .i32,.int .i32,.int .i32]) x_47 fun (x_48:(Int × Int × Int × Int)) =>
   newW 92 [.int .u8 0,.int .i32 0,.int .i32 0,.int .i32 0] fun x_49 =>
   stoL x_49 [.int .u8 x_48.1,.int .i32 x_48.2.1,.int .i32 x_48.2.2.1,.int .i32 x_48.2.2.2] 0 <|
   ld (.sc (.int .u8)) (Addr.add x_49 0) fun (x_50:Int) =>
   callW Tryz.prog Z7 [.slice s_46.1.a s_46.1.n s_46.1.c,.int .u8 x_50] [.sc (.int .i64)] fun (x_51:Int) =>
   cond (decide (x_51 < 0))
    (retW ((⟨none,0,0⟩:Sl),4))
    (ld (.agg [.int .u8,.int .i32,.int .i32,.int .i32]) x_49 fun (x_52:(Int × Int × Int × Int)) =>
   callW Tryz.prog Z32 [.slice s_46.1.a s_46.1.n s_46.1.c,.agg ⟨[.int .u8 x_52.1,.int .i32 x_52.2.1,.int .i32 x_52.2.2.1,.int .i32 x_52.2.2.2]⟩] [.sc .sl] fun (x_53:Sl) =>
   K_45 (x_53,IntKind.wrap .i64 (s_46.2+1))))
    (idxW s_6.1.a s_6.1.n 2 x_22 fun x_54 =>
  stoL (Addr.add x_54 1) [.slice s_46.1.a s_46.1.n s_46.1.c] 0 <|
  K_16 (IntKind.wrap .i64 (s_17+1))))
   (s_34.1,0)))
   (s_26.1,0)))
   (x_24,0)))
   (ld (.sc .sl) (Addr.add x_1 1) fun (x_55:Sl) =>
 loopW (σ:=Sl × Int) (fun K_56 s_57 =>
  cond (decide (s_57.2 < (x_55.n:Int)))
   (idxW x_55.a x_55.n 2 s_57.2 fun x_58 =>
  ld (.agg [.int .u32,.sl]) x_58 fun (x_59:(Int × Sl)) =>
  newW 57 [.int .u32 0,.slice none 0 0] fun x_60 =>
  stoL x_60 [.int .u32 x_59.1,.slice x_59.2.a x_59.2.n x_59.2.c] 0 <|
  ld (.sc (.int .u32)) (Addr.add x_60 0) fun (x_61:Int) =>
  callW Tryz.prog Z9 [.slice d0.a d0.n d0.c,.int .u32 x_61] [.sc (.int .i64)] fun (x_62:Int) =>
  cond (decide (x_62 ≥ 0))
   (retW ((⟨none,0,0⟩:Sl),4))
   (loopW (σ:=Sl × Bool × Int) (fun K_63 s_64 =>
   cond (decide (s_64.2.2 < (s_57.1.n:Int)))
    (idxW s_57.1.a s_57.1.n 2 s_64.2.2 fun x_65 =>
   ld (.agg [.int .u32,.sl]) x_65 fun (x_66:(Int × Sl)) =>
   newW 57 [.int .u32 0,.slice none 0 0] fun x_67 =>
   stoL x_67 [.int .u32 x_66.1,.slice x_66.2.a x_66.2.n x_66.2.c] 0 <|
   joinW (σ:=Bool) (fun J_68 =>
    cond (!s_64.2.1)
     (ld (.sc (.int .u32)) (Addr.add x_67 0) fun (x_69:Int) =>
      ld (.sc (.int .u32)) (Addr.add x_60 0) fun (x_70:Int) =>
        J_68 (decide (x_69 ≥ x_70)))
     (J_68 false))
   <| fun s_71 =>
   joinW (σ:=Sl × Bool) (fun J_72 =>
    cond s_71
     (ld (.agg [.int .u32,.sl]) x_60 fun (x_73:(Int × Sl)) =>
     newW 57 [.int .u32 x_73.1,.slice x_73.2.a x_73.2.n x_73.2.c] fun x_74 =>
     rawW Tryz.prog (Builtin.append_ #[23,23] 23 #[.slice s_64.1.a s_64.1.n s_64.1.c,.slice (some x_74) 1 1]) [.sc .sl] fun (x_75:Sl) =>
     J_72 (x_75,true))
     (J_72 (s_64.1,s_64.2.1)))
   <| fun s_76 =>
   ld (.agg [.int .u32,.sl]) x_67 fun (x_77:(Int × Sl)) =>
   newW 57 [.int .u32 x_77.1,.slice x_77.2.a x_77.2.n x_77.2.c] fun x_78 =>
   rawW Tryz.prog (Builtin.append_ #[23,23] 23 #[.slice s_76.1.a s_76.1.n s_76.1.c,.slice (some x_78) 1 1]) [.sc .sl] fun (x_79:Sl) =>
   K_63 (x_79,s_76.2,IntKind.wrap .i64 (s_64.2.2+1)))
    (joinW (σ:=Sl) (fun J_80 =>
   cond (!s_64.2.1)
    (ld (.agg [.int .u32,.sl]) x_60 fun (x_81:(Int × Sl)) =>
    newW 57 [.int .u32 x_81.1,.slice x_81.2.a x_81.2.n x_81.2.c] fun x_82 =>
    rawW Tryz.prog (Builtin.append_ #[23,23] 23 #[.slice s_64.1.a s_64.1.n s_64.1.c,.slice (some x_82) 1 1]) [.sc .sl] fun (x_83:Sl) =>
    J_80 x_83)
    (J_80 s_64.1))
  <| fun s_84 =>
  K_56 (s_84,IntKind.wrap .i64 (s_57.2+1))))
   ((⟨none,0,0⟩:Sl),false,0)))
   (callW Tryz.prog Z34 [.slice d0.a d0.n d0.c,.slice s_57.1.a s_57.1.n s_57.1.c] [.agg [.sl,.sl,.sl],.sc (.int .i64)] fun (x_85:(Sl × Sl × Sl) × Int) =>
 newW 80 [.slice none 0 0,.slice none 0 0,.slice none 0 0] fun x_86 =>
 stoL x_86 [.slice x_85.1.1.a x_85.1.1.n x_85.1.1.c,.slice x_85.1.2.1.a x_85.1.2.1.n x_85.1.2.1.c,.slice x_85.1.2.2.a x_85.1.2.2.n x_85.1.2.2.c] 0 <|
 joinW (σ:=Bool) (fun J_87 =>
  cond (x_85.2 != 0)
   (J_87 true)
   (ld (.agg [.sl,.sl,.sl]) x_86 fun (x_88:(Sl × Sl × Sl)) =>
   ld (.agg [.sl,.sl,.sl]) x_1 fun (x_89:(Sl × Sl × Sl)) =>
    callW Tryz.prog Z56 [.agg ⟨[.slice x_88.1.a x_88.1.n x_88.1.c,.slice x_88.2.1.a x_88.2.1.n x_88.2.1.c,.slice x_88.2.2.a x_88.2.2.n x_88.2.2.c]⟩,.agg ⟨[.slice x_89.1.a x_89.1.n x_89.1.c,.slice x_89.2.1.a x_89.2.1.n x_89.2.1.c,.slice x_89.2.2.a x_89.2.2.n x_89.2.2.c]⟩] [.sc .bool] fun (x_90:Bool) =>
     J_87 (!x_90)))
 <| fun s_91 =>
 cond s_91
  (retW ((⟨none,0,0⟩:Sl),4))
  (callW Tryz.prog Z0 [.slice s_57.1.a s_57.1.n s_57.1.c] [.sc .sl] fun (x_92:Sl) =>
 retW (x_92,0))))
  (s_6.1,0)))
  0))
  (x_3,0))
set_option maxRecDepth 100000 in
theorem Zdz {R:Type} (d0:Sl) (o1:(Sl × Sl × Sl)) (K:Res [.sc .sl,.sc (.int .i64)]→W R) (Q:R→World→Prop) (w:World) (h:Z7l d0 o1 (fun r w=>K r Q w) w):callW Tryz.prog Z4r [.slice d0.a d0.n d0.c,.agg ⟨[.slice o1.1.a o1.1.n o1.1.c,.slice o1.2.1.a o1.2.1.n o1.2.1.c,.slice o1.2.2.a o1.2.2.n o1.2.2.c]⟩] [.sc .sl,.sc (.int .i64)] K Q w:=den_c (K:=K) mix Tryz.func43 { reg:=[(54,[(161,.sc .bool)]),(64,[(192,.sc .bool)])],con:=[(56161,[(22,.sc .sl),(23,.sc .bool)]),(61172,[(22,.sc .sl)])],blk:=[(5,[(14,.sc .sl)])],lop:=[(0,[(7,.sc .sl),(38,.sc (.int .i64))]),(2,[(61,.sc (.int .i64))]),(4,[(14,.sc .sl),(76,.sc (.int .u8))]),(6,[(14,.sc .sl),(96,.sc (.int .i64))]),(8,[(14,.sc .sl),(116,.sc (.int .i64))]),(10,[(7,.sc .sl),(138,.sc (.int .i64))]),(12,[(22,.sc .sl),(23,.sc .bool),(149,.sc (.int .i64))])],dr:=[(11,([],[[(1,[]),(2,[]),(3,[]),(5,[]),(6,[]),(7,[]),(8,[]),(0,[]),(4,[]),(9,[]),(10,[])]])),(31,([],[[(0,[]),(1,[]),(2,[]),(3,[]),(4,[]),(5,[]),(6,[]),(7,[]),(8,[])]]))] } trivial rfl (by kernel_rfl) h
def Zn4 :W ((Option Addr)) :=
 newW 154 [.slice none 0 0,.int .i64 0] fun x_1 =>
 retW (some x_1)
theorem Ztm {R:Type}  (K:Res [.sc .ptr]→W R) (Q:R→World→Prop) (w:World) (h:Zn4 (fun r w=>K r Q w) w):callW Tryz.prog Zig [] [.sc .ptr] K Q w:=den_c (K:=K) mix Tryz.func45 {} trivial rfl (by kernel_rfl) h
def Z7c (w0:Option Addr) (h1:(Int × Int × Int × Int × Int)):W (Unit) :=
 newW 30 [.int .u8 h1.1,.int .u8 h1.2.1,.int .u32 h1.2.2.1,.int .u32 h1.2.2.2.1,.int .u32 h1.2.2.2.2] fun h_1 =>
 drawW <|
 ptrW w0 fun x_2 =>
 ld (.sc .ptr) (Addr.add x_2 0) fun (x_3:Option Addr) =>
 ld (.sc (.int .u8)) (Addr.add h_1 0) fun (x_4:Int) =>
 callW Tryz.prog Z71 [.pointer x_3,.int .i64 (IntKind.wrap .i64 x_4),.int .i64 1,.int .i64 5] [.sc (.int .i64)] fun (x_5:Int) =>
 callW Tryz.prog Z1 [.pointer w0,.int .i64 x_5] [] fun (x_6:Unit) =>
 drawW <|
 ptrW w0 fun x_7 =>
 ld (.sc .ptr) (Addr.add x_7 0) fun (x_8:Option Addr) =>
 ld (.sc (.int .u8)) (Addr.add h_1 1) fun (x_9:Int) =>
 callW Tryz.prog Z71 [.pointer x_8,.int .i64 (IntKind.wrap .i64 x_9),.int .i64 0,.int .i64 15] [.sc (.int .i64)] fun (x_10:Int) =>
 callW Tryz.prog Z1 [.pointer w0,.int .i64 x_10] [] fun (x_11:Unit) =>
 drawW <|
 ptrW w0 fun x_12 =>
 ld (.sc .ptr) (Addr.add x_12 0) fun (x_13:Option Addr) =>
 ld (.sc (.int .u32)) (Addr.add h_1 2) fun (x_14:Int) =>
 callW Tryz.prog Z2z [.pointer x_13,.int .u64 (IntKind.wrap .u64 x_14)] [.sc (.int .i64)] fun (x_15:Int) =>
 callW Tryz.prog Z1 [.pointer w0,.int .i64 x_15] [] fun (x_16:Unit) =>
 ld (.sc (.int .u8)) (Addr.add h_1 0) fun (x_17:Int) =>
 joinW (σ:=Unit) (fun J_18 =>
  cond (decide (x_17≤3))
   (ld (.sc (.int .u32)) (Addr.add h_1 3) fun (x_19:Int) =>
   callW Tryz.prog Zf [.pointer w0,.int .u64 (IntKind.wrap .u64 x_19),.int .i64 32] [] fun (x_20:Unit) =>
   J_18 ())
   (J_18 ()))
 <| fun s_21 =>
 ld (.sc (.int .u8)) (Addr.add h_1 0) fun (x_22:Int) =>
 joinW (σ:=Unit) (fun J_23 =>
  cond (x_22 == 2)
   (drawW <|
   ptrW w0 fun x_24 =>
   ld (.sc .ptr) (Addr.add x_24 0) fun (x_25:Option Addr) =>
   ld (.sc (.int .u32)) (Addr.add h_1 3) fun (x_26:Int) =>
   ld (.sc (.int .u32)) (Addr.add h_1 4) fun (x_27:Int) =>
   callW Tryz.prog Z2z [.pointer x_25,.int .u64 (IntKind.wrap .u64 (IntKind.wrap .u32 ((IntKind.wrap .u32 (x_26 - x_27)) - 1)))] [.sc (.int .i64)] fun (x_28:Int) =>
   callW Tryz.prog Z1 [.pointer w0,.int .i64 x_28] [] fun (x_29:Unit) =>
   J_23 ())
   (J_23 ()))
 <| fun s_30 =>
 retW ()
theorem Zdq {R:Type} (w0:Option Addr) (h1:(Int × Int × Int × Int × Int)) (K:Res []→W R) (Q:R→World→Prop) (w:World) (h:Z7c w0 h1 (fun r w=>K r Q w) w):callW Tryz.prog Z2j [.pointer w0,.agg ⟨[.int .u8 h1.1,.int .u8 h1.2.1,.int .u32 h1.2.2.1,.int .u32 h1.2.2.2.1,.int .u32 h1.2.2.2.2]⟩] [] K Q w:=den_c (K:=K) mix Tryz.func46 { con:=[(6036,[]),(8044,[])],dr:=[(1,([],[[(0,[]),(1,[]),(2,[]),(3,[]),(4,[]),(5,[]),(6,[]),(7,[]),(8,[]),(9,[])]])),(2,([],[[(0,[]),(1,[]),(2,[]),(3,[]),(4,[]),(5,[]),(6,[]),(7,[]),(8,[]),(9,[])]])),(3,([],[[(0,[]),(1,[]),(2,[]),(3,[]),(4,[]),(5,[]),(6,[]),(7,[]),(8,[]),(9,[])]])),(7,([],[[(0,[]),(1,[]),(2,[]),(3,[]),(4,[]),(5,[]),(6,[]),(7,[]),(8,[]),(9,[]),(10,[]),(11,[]),(12,[]),(13,[])]]))] } trivial rfl (by kernel_rfl) h
def Z7d (w0:Option Addr) (e1:Int):W (Unit) :=
 ptrW w0 fun x_1 =>
 ld (.sc (.int .i64)) (Addr.add x_1 1) fun (x_2:Int) =>
 joinW (σ:=Unit) (fun J_3 =>
  cond (x_2 == 0)
   (ptrW w0 fun x_4 =>
   stoL (Addr.add x_4 1) [.int .i64 e1] 0 <|
   J_3 ())
   (J_3 ()))
 <| fun s_5 =>
 retW ()
theorem Zdr {R:Type} (w0:Option Addr) (e1:Int) (K:Res []→W R) (Q:R→World→Prop) (w:World) (h:Z7d w0 e1 (fun r w=>K r Q w) w):callW Tryz.prog Z1 [.pointer w0,.int .i64 e1] [] K Q w:=den_c (K:=K) mix Tryz.func47 { con:=[(2008,[])] } trivial rfl (by kernel_rfl) h
def Z7b (w0:Option Addr) (l1:Sl):W (Unit) :=
 callW Tryz.prog Zx [.pointer w0,.int .i64 (l1.n:Int)] [] fun (x_1:Unit) =>
 newW 54 [.int .u32 0] fun last_2 =>
 stoL last_2 [.int .u32 0] 0 <|
 loopW (σ:=Int) (fun K_3 s_4 =>
  cond (decide (s_4 < (l1.n:Int)))
   (idxW l1.a l1.n 2 s_4 fun x_5 =>
  ld (.agg [.int .u32,.sl]) x_5 fun (x_6:(Int × Sl)) =>
  newW 57 [.int .u32 0,.slice none 0 0] fun e_7 =>
  stoL e_7 [.int .u32 x_6.1,.slice x_6.2.a x_6.2.n x_6.2.c] 0 <|
  ld (.sc (.int .u32)) (Addr.add e_7 0) fun (x_8:Int) =>
  callW Tryz.prog Z1q [.pointer w0,.pointer (some last_2),.int .u32 x_8] [] fun (x_9:Unit) =>
  ld (.sc .sl) (Addr.add e_7 1) fun (x_10:Sl) =>
  callW Tryz.prog Z14 [.slice x_10.a x_10.n x_10.c] [.sc (.int .u8)] fun (x_11:Int) =>
  callW Tryz.prog Zf [.pointer w0,.int .u64 (IntKind.wrap .u64 x_11),.int .i64 5] [] fun (x_12:Unit) =>
  ld (.sc .sl) (Addr.add e_7 1) fun (x_13:Sl) =>
  callW Tryz.prog Z1o [.pointer w0,.slice x_13.a x_13.n x_13.c] [] fun (x_14:Unit) =>
  K_3 (IntKind.wrap .i64 (s_4+1)))
   (retW ()))
  0
theorem Zdp {R:Type} (w0:Option Addr) (l1:Sl) (K:Res []→W R) (Q:R→World→Prop) (w:World) (h:Z7b w0 l1 (fun r w=>K r Q w) w):callW Tryz.prog Z1t [.pointer w0,.slice l1.a l1.n l1.c] [] K Q w:=den_c (K:=K) mix Tryz.func48 { lop:=[(0,[(13,.sc (.int .i64))])] } trivial rfl (by kernel_rfl) h
def Zkt (d0:Sl) (o1:Sl):W ((Sl × Sl × Sl) × Int) :=
 newW 80 [.slice none 0 0,.slice none 0 0,.slice none 0 0] fun x_1 =>
 newW 23 [.slice d0.a d0.n d0.c,.slice o1.a o1.n o1.c] fun x_2 =>
 loopW (σ:=Int) (fun K_3 s_4 =>
  cond (decide (s_4 < (2:Int)))
   (idxW (some x_2) 2 1 s_4 fun x_5 =>
  ld (.sc .sl) x_5 fun (x_6:Sl) =>
  callW Tryz.prog Z59 [.slice x_6.a x_6.n x_6.c] [.sc (.int .i64)] fun (x_7:Int) =>
  cond (x_7 != 0)
   (stoL x_1 [.slice none 0 0,.slice none 0 0,.slice none 0 0] 0 <|
   ld (.agg [.sl,.sl,.sl]) x_1 fun (x_8:(Sl × Sl × Sl)) =>
   retW (x_8,x_7))
   (K_3 (IntKind.wrap .i64 (s_4+1))))
   (newW 80 [.slice none 0 0,.slice none 0 0,.slice none 0 0] fun x_9 =>
 loopW (σ:=Int × Int) (fun K_10 s_11 =>
  joinW (σ:=Bool) (fun J_12 =>
   cond (decide (s_11.1 < (d0.n:Int)))
    (J_12 true)
    (J_12 (decide (s_11.2 < (o1.n:Int)))))
  <| fun s_13 =>
  cond s_13
   (joinW (σ:=Bool) (fun J_14 =>
   drawW <|
   cond (s_11.2 == (o1.n:Int))
    (J_14 true)
    (cond (decide (s_11.1 < (d0.n : Int)))
         (idxW d0.a d0.n 2 s_11.1 fun x_15 =>
           ld (.sc (.int .u32)) (Addr.add x_15 0) fun (x_16:Int) =>
             idxW o1.a o1.n 2 s_11.2 fun x_17 =>
                ld (.sc (.int .u32)) (Addr.add x_17 0) fun (x_18:Int) =>
                  J_14 (decide (x_16 < x_18)))
         (J_14 false)))
  <| fun s_19 =>
  joinW (σ:=Int × Int) (fun J_20 =>
   cond s_19
    (drawW <|
    ld (.sc .sl) (Addr.add x_9 0) fun (x_21:Sl) =>
    idxW d0.a d0.n 2 s_11.1 fun x_22 =>
    ld (.sc (.int .u32)) (Addr.add x_22 0) fun (x_23:Int) =>
    newW 54 [.int .u32 x_23] fun x_24 =>
    rawW Tryz.prog (Builtin.append_ #[77,77] 77 #[.slice x_21.a x_21.n x_21.c,.slice (some x_24) 1 1]) [.sc .sl] fun (x_25:Sl) =>
    stoL (Addr.add x_9 0) [.slice x_25.a x_25.n x_25.c] 0 <|
    J_20 (IntKind.wrap .i64 (s_11.1+1),s_11.2))
    (joinW (σ:=Bool) (fun J_26 =>
     drawW <|
     cond (s_11.1 == (d0.n:Int))
      (J_26 true)
      (idxW o1.a o1.n 2 s_11.2 fun x_27 =>
        ld (.sc (.int .u32)) (Addr.add x_27 0) fun (x_28:Int) =>
          idxW d0.a d0.n 2 s_11.1 fun x_29 =>
             ld (.sc (.int .u32)) (Addr.add x_29 0) fun (x_30:Int) =>
               J_26 (decide (x_28 < x_30))))
    <| fun s_31 =>
    joinW (σ:=Int × Int) (fun J_32 =>
     cond s_31
      (drawW <|
      ld (.sc .sl) (Addr.add x_9 1) fun (x_33:Sl) =>
      idxW o1.a o1.n 2 s_11.2 fun x_34 =>
      ld (.sc (.int .u32)) (Addr.add x_34 0) fun (x_35:Int) =>
      idxW o1.a o1.n 2 s_11.2 fun x_36 =>
      ld (.sc .sl) (Addr.add x_36 1) fun (x_37:Sl) =>
      callW Tryz.prog Z37 [.slice x_37.a x_37.n x_37.c] [.sc .sl] fun (x_38:Sl) =>
      andW (fun w=>Rd w (Addr.add x_34 0) (.sc (.int .u32)) x_35) <|
      andW (fun w=>Rd w (Addr.add x_9 1) (.sc .sl) x_33) <|
      newW 57 [.int .u32 x_35,.slice x_38.a x_38.n x_38.c] fun x_39 =>
      rawW Tryz.prog (Builtin.append_ #[23,23] 23 #[.slice x_33.a x_33.n x_33.c,.slice (some x_39) 1 1]) [.sc .sl] fun (x_40:Sl) =>
      stoL (Addr.add x_9 1) [.slice x_40.a x_40.n x_40.c] 0 <|
      J_32 (s_11.1,IntKind.wrap .i64 (s_11.2+1)))
      (joinW (σ:=(Option Addr)) (fun J_41 =>
       drawW <|
       bothW
        (idxW d0.a d0.n 2 s_11.1 fun x_42 =>
        ld (.agg [.int .u32,.sl]) x_42 fun (x_43:(Int × Sl)) =>
        idxW o1.a o1.n 2 s_11.2 fun x_44 =>
        ld (.agg [.int .u32,.sl]) x_44 fun (x_45:(Int × Sl)) =>
        callW Tryz.prog Z7w [.agg ⟨[.int .u32 x_43.1,.slice x_43.2.a x_43.2.n x_43.2.c]⟩,.agg ⟨[.int .u32 x_45.1,.slice x_45.2.a x_45.2.n x_45.2.c]⟩] [.agg [.int .u32,.int .u8,.sl,.sl]] fun (x_46:(Int × Int × Sl × Sl)) =>
        newW 86 [.int .u32 0,.int .u8 0,.slice none 0 0,.slice none 0 0] fun x_47 =>
        stoL x_47 [.int .u32 x_46.1,.int .u8 x_46.2.1,.slice x_46.2.2.1.a x_46.2.2.1.n x_46.2.2.1.c,.slice x_46.2.2.2.a x_46.2.2.2.n x_46.2.2.2.c] 0 <|
        J_41 (some x_47))
        (idxW d0.a d0.n 2 s_11.1 fun x_48 =>
        ld (.agg [.int .u32,.sl]) x_48 fun (x_49:(Int × Sl)) =>
        idxW o1.a o1.n 2 s_11.2 fun x_50 =>
        ld (.agg [.int .u32,.sl]) x_50 fun (x_51:(Int × Sl)) =>
        newW 86 [.int .u32 0,.int .u8 0,.slice none 0 0,.slice none 0 0] fun x_52 =>
        callW Tryz.prog Z7w [.agg ⟨[.int .u32 x_49.1,.slice x_49.2.a x_49.2.n x_49.2.c]⟩,.agg ⟨[.int .u32 x_51.1,.slice x_51.2.a x_51.2.n x_51.2.c]⟩] [.agg [.int .u32,.int .u8,.sl,.sl]] fun (x_53:(Int × Int × Sl × Sl)) =>
        stoL x_52 [.int .u32 x_53.1,.int .u8 x_53.2.1,.slice x_53.2.2.1.a x_53.2.2.1.n x_53.2.2.1.c,.slice x_53.2.2.2.a x_53.2.2.2.n x_53.2.2.2.c] 0 <|
        J_41 (some x_52)))
      <| fun s_54 =>
      ptrW s_54 fun x_55 =>
      ld (.agg [.int .u32,.int .u8,.sl,.sl]) x_55 fun (x_56:(Int × Int × Sl × Sl)) =>
      callW Tryz.prog Za8 [.agg ⟨[.int .u32 x_56.1,.int .u8 x_56.2.1,.slice x_56.2.2.1.a x_56.2.2.1.n x_56.2.2.1.c,.slice x_56.2.2.2.a x_56.2.2.2.n x_56.2.2.2.c]⟩] [.sc .bool] fun (x_57:Bool) =>
      joinW (σ:=Unit) (fun J_58 =>
       cond (!x_57)
        (ld (.sc .sl) (Addr.add x_9 2) fun (x_59:Sl) =>
        ptrW s_54 fun x_60 =>
        ld (.agg [.int .u32,.int .u8,.sl,.sl]) x_60 fun (x_61:(Int × Int × Sl × Sl)) =>
        newW 86 [.int .u32 x_61.1,.int .u8 x_61.2.1,.slice x_61.2.2.1.a x_61.2.2.1.n x_61.2.2.1.c,.slice x_61.2.2.2.a x_61.2.2.2.n x_61.2.2.2.c] fun x_62 =>
        rawW Tryz.prog (Builtin.append_ #[78,78] 78 #[.slice x_59.a x_59.n x_59.c,.slice (some x_62) 1 1]) [.sc .sl] fun (x_63:Sl) =>
        stoL (Addr.add x_9 2) [.slice x_63.a x_63.n x_63.c] 0 <|
        J_58 ())
        (J_58 ()))
      <| fun s_64 =>
      J_32 (IntKind.wrap .i64 (s_11.1+1),IntKind.wrap .i64 (s_11.2+1))))
    <| fun s_65 =>
    J_20 (s_65.1,s_65.2)))
  <| fun s_66 =>
  K_10 (s_66.1,s_66.2))
   (ld (.agg [.sl,.sl,.sl]) x_9 fun (x_67:(Sl × Sl × Sl)) =>
 stoL x_1 [.slice x_67.1.a x_67.1.n x_67.1.c,.slice x_67.2.1.a x_67.2.1.n x_67.2.1.c,.slice x_67.2.2.a x_67.2.2.n x_67.2.2.c] 0 <|
 ld (.agg [.sl,.sl,.sl]) x_1 fun (x_68:(Sl × Sl × Sl)) =>
 retW (x_68,0)))
  (0,0)))
  0
set_option maxRecDepth 100000 in
theorem Zr9 {R:Type} (d0:Sl) (o1:Sl) (K:Res [.agg [.sl,.sl,.sl],.sc (.int .i64)]→W R) (Q:R→World→Prop) (w:World) (h:Zkt d0 o1 (fun r w=>K r Q w) w):callW Tryz.prog Zba [.slice d0.a d0.n d0.c,.slice o1.a o1.n o1.c] [.agg [.sl,.sl,.sl],.sc (.int .i64)] K Q w:=den_c (K:=K) mix Tryz.func49 { reg:=[(10,[(37,.sc .bool)]),(16,[(60,.sc .bool)]),(19,[(96,.sc .bool)]),(11,[(12,.sc .ptr)])],con:=[(14049,[]),(21096,[(10,.sc (.int .i64)),(11,.sc (.int .i64))]),(18060,[(10,.sc (.int .i64)),(11,.sc (.int .i64))])],lop:=[(0,[(17,.sc (.int .i64))]),(2,[(10,.sc (.int .i64)),(11,.sc (.int .i64))])],dr:=[(16,([],[[(0,[]),(1,[]),(2,[]),(3,[]),(4,[]),(5,[]),(6,[]),(7,[]),(8,[]),(9,[]),(10,[]),(11,[]),(12,[]),(13,[]),(14,[]),(15,[]),(16,[]),(17,[]),(18,[]),(19,[]),(20,[]),(21,[]),(22,[]),(23,[])]])),(17,([],[[(0,[]),(1,[]),(2,[]),(3,[]),(4,[]),(5,[]),(6,[]),(7,[]),(8,[]),(9,[]),(10,[])]])),(19,([],[[(0,[]),(1,[]),(2,[]),(3,[]),(4,[]),(5,[]),(6,[]),(7,[]),(8,[]),(9,[]),(10,[]),(11,[]),(12,[]),(13,[]),(14,[]),(15,[]),(16,[]),(17,[])]])),(20,([],[[(0,[]),(1,[]),(2,[]),(3,[]),(4,[]),(5,[]),(6,[]),(7,[]),(8,[]),(9,[]),(10,[]),(11,[]),(12,[1,6]),(13,[]),(14,[]),(15,[]),(16,[]),(17,[])]])),(11,([(8,9)],[[(0,[]),(1,[]),(2,[]),(3,[]),(4,[]),(5,[]),(6,[]),(7,[]),(8,[]),(9,[]),(10,[])],[(0,[]),(1,[]),(2,[]),(3,[]),(4,[]),(5,[]),(6,[]),(7,[]),(9,[]),(8,[]),(10,[])]]))] } ⟨by kernel_rfl,trivial⟩ rfl (by kernel_rfl) h
def Z6s (d0:Option Addr) (o1:Sl) (p2:(Sl × Sl × Sl)):W (Unit) :=
 newW 80 [.slice p2.1.a p2.1.n p2.1.c,.slice p2.2.1.a p2.2.1.n p2.2.1.c,.slice p2.2.2.a p2.2.2.n p2.2.2.c] fun x_1 =>
 ld (.sc .sl) (Addr.add x_1 0) fun (x_2:Sl) =>
 callW Tryz.prog Zx [.pointer d0,.int .i64 (x_2.n:Int)] [] fun (x_3:Unit) =>
 newW 54 [.int .u32 0] fun x_4 =>
 stoL x_4 [.int .u32 0] 0 <|
 ld (.sc .sl) (Addr.add x_1 0) fun (x_5:Sl) =>
 loopW (σ:=Int) (fun K_6 s_7 =>
  cond (decide (s_7 < (x_5.n:Int)))
   (idxW x_5.a x_5.n 1 s_7 fun x_8 =>
  ld (.sc (.int .u32)) x_8 fun (x_9:Int) =>
  callW Tryz.prog Z1q [.pointer d0,.pointer (some x_4),.int .u32 x_9] [] fun (x_10:Unit) =>
  K_6 (IntKind.wrap .i64 (s_7+1)))
   (ld (.sc .sl) (Addr.add x_1 1) fun (x_11:Sl) =>
 callW Tryz.prog Z1t [.pointer d0,.slice x_11.a x_11.n x_11.c] [] fun (x_12:Unit) =>
 ld (.sc .sl) (Addr.add x_1 2) fun (x_13:Sl) =>
 callW Tryz.prog Zx [.pointer d0,.int .i64 (x_13.n:Int)] [] fun (x_14:Unit) =>
 stoL x_4 [.int .u32 0] 0 <|
 ld (.sc .sl) (Addr.add x_1 2) fun (x_15:Sl) =>
 loopW (σ:=Int) (fun K_16 s_17 =>
  cond (decide (s_17 < (x_15.n:Int)))
   (idxW x_15.a x_15.n 4 s_17 fun x_18 =>
  ld (.agg [.int .u32,.int .u8,.sl,.sl]) x_18 fun (x_19:(Int × Int × Sl × Sl)) =>
  newW 86 [.int .u32 0,.int .u8 0,.slice none 0 0,.slice none 0 0] fun x_20 =>
  stoL x_20 [.int .u32 x_19.1,.int .u8 x_19.2.1,.slice x_19.2.2.1.a x_19.2.2.1.n x_19.2.2.1.c,.slice x_19.2.2.2.a x_19.2.2.2.n x_19.2.2.2.c] 0 <|
  ld (.sc (.int .u32)) (Addr.add x_20 0) fun (x_21:Int) =>
  callW Tryz.prog Z1q [.pointer d0,.pointer (some x_4),.int .u32 x_21] [] fun (x_22:Unit) =>
  drawW <|
  ld (.sc (.int .u8)) (Addr.add x_20 1) fun (x_23:Int) =>
  ld (.sc .sl) (Addr.add x_20 2) fun (x_24:Sl) =>
  ld (.sc .sl) (Addr.add x_20 3) fun (x_25:Sl) =>
  callW Tryz.prog Z14 [.slice x_24.a x_24.n x_24.c] [.sc (.int .u8)] fun (x_26:Int) =>
  andW (fun w=>Rd w (Addr.add x_20 3) (.sc .sl) x_25) <|
  andW (fun w=>Rd w (Addr.add x_20 1) (.sc (.int .u8)) x_23) <|
  callW Tryz.prog Z14 [.slice x_25.a x_25.n x_25.c] [.sc (.int .u8)] fun (x_27:Int) =>
  andW (fun w=>Rd w (Addr.add x_20 1) (.sc (.int .u8)) x_23) <|
  newW 5 [.int .u8 x_23,.int .u8 x_26,.int .u8 x_27] fun x_28 =>
  loopW (σ:=Int) (fun K_29 s_30 =>
   cond (decide (s_30 < (3:Int)))
    (idxW (some x_28) 3 1 s_30 fun x_31 =>
   ld (.sc (.int .u8)) x_31 fun (x_32:Int) =>
   callW Tryz.prog Zf [.pointer d0,.int .u64 (IntKind.wrap .u64 x_32),.int .i64 5] [] fun (x_33:Unit) =>
   K_29 (IntKind.wrap .i64 (s_30+1)))
    (ld (.sc .sl) (Addr.add x_20 2) fun (x_34:Sl) =>
  callW Tryz.prog Z1o [.pointer d0,.slice x_34.a x_34.n x_34.c] [] fun (x_35:Unit) =>
  ld (.sc .sl) (Addr.add x_20 3) fun (x_36:Sl) =>
  loopW (σ:=Int) (fun K_37 s_38 =>
   cond (decide (s_38 < (x_36.n:Int)))
    (idxW x_36.a x_36.n 4 s_38 fun x_39 =>
   ld (.agg [.int .u8,.int .i32,.int .i32,.int .i32]) x_39 fun (x_40:(Int × Int × Int × Int)) =>
   newW 92 [.int .u8 0,.int .i32 0,.int .i32 0,.int .i32 0] fun x_41 =>
   stoL x_41 [.int .u8 x_40.1,.int .i32 x_40.2.1,.int .i32 x_40.2.2.1,.int .i32 x_40.2.2.2] 0 <|
   drawW <|
   ptrW d0 fun x_42 =>
   ld (.sc .ptr) (Addr.add x_42 0) fun (x_43:Option Addr) =>
   ld (.sc (.int .u32)) (Addr.add x_20 0) fun (x_44:Int) =>
   ld (.sc (.int .u8)) (Addr.add x_41 0) fun (x_45:Int) =>
   ld (.agg [.int .u8,.int .i32,.int .i32,.int .i32]) x_41 fun (x_46:(Int × Int × Int × Int)) =>
   callW Tryz.prog Z9v [.slice o1.a o1.n o1.c,.int .u32 x_44,.int .u8 x_45] [.agg [.int .u8,.int .i32,.int .i32,.int .i32]] fun (x_47:(Int × Int × Int × Int)) =>
   andW (fun w=>Rd w x_41 (.agg [.int .u8,.int .i32,.int .i32,.int .i32]) x_46) <|
   andW (fun w=>Rd w (Addr.add x_42 0) (.sc .ptr) x_43) <|
   callW Tryz.prog Za6 [.pointer x_43,.agg ⟨[.int .u8 x_47.1,.int .i32 x_47.2.1,.int .i32 x_47.2.2.1,.int .i32 x_47.2.2.2]⟩,.agg ⟨[.int .u8 x_46.1,.int .i32 x_46.2.1,.int .i32 x_46.2.2.1,.int .i32 x_46.2.2.2]⟩] [.sc (.int .i64)] fun (x_48:Int) =>
   callW Tryz.prog Z1 [.pointer d0,.int .i64 x_48] [] fun (x_49:Unit) =>
   K_37 (IntKind.wrap .i64 (s_38+1)))
    (K_16 (IntKind.wrap .i64 (s_17+1))))
   0))
   0)
   (retW ()))
  0))
  0
theorem Zc2 {R:Type} (d0:Option Addr) (o1:Sl) (p2:(Sl × Sl × Sl)) (K:Res []→W R) (Q:R→World→Prop) (w:World) (h:Z6s d0 o1 p2 (fun r w=>K r Q w) w):callW Tryz.prog Z2e [.pointer d0,.slice o1.a o1.n o1.c,.agg ⟨[.slice p2.1.a p2.1.n p2.1.c,.slice p2.2.1.a p2.2.1.n p2.2.1.c,.slice p2.2.2.a p2.2.2.n p2.2.2.c]⟩] [] K Q w:=den_c (K:=K) mix Tryz.func50 { lop:=[(0,[(23,.sc (.int .i64))]),(2,[(43,.sc (.int .i64))]),(4,[(61,.sc (.int .i64))]),(6,[(77,.sc (.int .i64))])],dr:=[(15,([],[[(0,[]),(1,[]),(2,[]),(3,[]),(5,[]),(6,[]),(10,[]),(4,[1,6]),(7,[1]),(8,[]),(9,[])]])),(24,([],[[(0,[]),(1,[]),(2,[]),(3,[]),(4,[]),(5,[]),(6,[]),(7,[]),(8,[]),(9,[]),(11,[]),(10,[4,11]),(12,[]),(13,[])]]))] } trivial rfl (by kernel_rfl) h
def Zj6 (body0:Sl):W (Sl × Int) :=
 cond (decide ((body0.n:Int) > 4096))
  (retW ((⟨none,0,0⟩:Sl),3))
  (callW Tryz.prog Z4b [.slice body0.a body0.n body0.c] [.sc .sl] fun (x_1:Sl) =>
 callW Tryz.prog Zbc [.slice body0.a body0.n body0.c] [.sc (.int .u32)] fun (x_2:Int) =>
 callW Tryz.prog Z9u [.int .u32 x_2] [.sc .sl] fun (x_3:Sl) =>
 rawW Tryz.prog (Builtin.append_ #[22,22] 22 #[.slice x_1.a x_1.n x_1.c,.slice x_3.a x_3.n x_3.c]) [.sc .sl] fun (x_4:Sl) =>
 retW (x_4,0))
theorem Zpk {R:Type} (body0:Sl) (K:Res [.sc .sl,.sc (.int .i64)]→W R) (Q:R→World→Prop) (w:World) (h:Zj6 body0 (fun r w=>K r Q w) w):callW Tryz.prog Zci [.slice body0.a body0.n body0.c] [.sc .sl,.sc (.int .i64)] K Q w:=den_c (K:=K) mix Tryz.func51 {} trivial rfl (by kernel_rfl) h
def Z88 (w0:Option Addr):W (Sl) :=
 cond (Option.isNone w0)
  (retW (⟨none,0,0⟩:Sl))
  (ptrW w0 fun x_1 =>
 ld (.sc .sl) (Addr.add x_1 0) fun (x_2:Sl) =>
 callW Tryz.prog Z4b [.slice x_2.a x_2.n x_2.c] [.sc .sl] fun (x_3:Sl) =>
 retW x_3)
theorem Zeu {R:Type} (w0:Option Addr) (K:Res [.sc .sl]→W R) (Q:R→World→Prop) (w:World) (h:Z88 w0 (fun r w=>K r Q w) w):callW Tryz.prog Z52 [.pointer w0] [.sc .sl] K Q w:=den_c (K:=K) mix Tryz.func52 {} trivial rfl (by kernel_rfl) h
def Z8r (h0:(Int × Int × Int × Int × Int)):W (Sl) :=
 newW 30 [.int .u8 h0.1,.int .u8 h0.2.1,.int .u32 h0.2.2.1,.int .u32 h0.2.2.2.1,.int .u32 h0.2.2.2.2] fun h_1 =>
 ld (.sc (.int .u8)) (Addr.add h_1 0) fun (x_2:Int) =>
 callW Tryz.prog Z20 [.int .i64 (IntKind.wrap .i64 x_2),.int .i64 1,.int .i64 5] [.sc .sl,.sc (.int .i64)] fun (x_3:Sl × Int) =>
 ld (.sc (.int .u8)) (Addr.add h_1 1) fun (x_4:Int) =>
 callW Tryz.prog Z20 [.int .i64 (IntKind.wrap .i64 x_4),.int .i64 0,.int .i64 15] [.sc .sl,.sc (.int .i64)] fun (x_5:Sl × Int) =>
 drawW <|
 ld (.sc (.int .u32)) (Addr.add h_1 2) fun (x_6:Int) =>
 rawW Tryz.prog (Builtin.append_ #[70,70] 70 #[.slice x_3.1.a x_3.1.n x_3.1.c,.slice x_5.1.a x_5.1.n x_5.1.c]) [.sc .sl] fun (x_7:Sl) =>
 andW (fun w=>Rd w (Addr.add h_1 2) (.sc (.int .u32)) x_6) <|
 callW Tryz.prog Zi [.int .u64 (IntKind.wrap .u64 x_6)] [.sc .sl] fun (x_8:Sl) =>
 rawW Tryz.prog (Builtin.append_ #[70,70] 70 #[.slice x_7.a x_7.n x_7.c,.slice x_8.a x_8.n x_8.c]) [.sc .sl] fun (x_9:Sl) =>
 ld (.sc (.int .u8)) (Addr.add h_1 0) fun (x_10:Int) =>
 joinW (σ:=Sl) (fun J_11 =>
  cond (decide (x_10≤3))
   (ld (.sc (.int .u32)) (Addr.add h_1 3) fun (x_12:Int) =>
   callW Tryz.prog Zh [.slice x_9.a x_9.n x_9.c,.int .u64 (IntKind.wrap .u64 x_12),.int .i64 32] [.sc .sl,.sc (.int .i64)] fun (x_13:Sl × Int) =>
   J_11 x_13.1)
   (J_11 x_9))
 <| fun s_14 =>
 ld (.sc (.int .u8)) (Addr.add h_1 0) fun (x_15:Int) =>
 joinW (σ:=Sl) (fun J_16 =>
  cond (x_15 == 2)
   (ld (.sc (.int .u32)) (Addr.add h_1 3) fun (x_17:Int) =>
   ld (.sc (.int .u32)) (Addr.add h_1 4) fun (x_18:Int) =>
   callW Tryz.prog Zi [.int .u64 (IntKind.wrap .u64 (IntKind.wrap .u32 ((IntKind.wrap .u32 (x_17 - x_18)) - 1)))] [.sc .sl] fun (x_19:Sl) =>
   rawW Tryz.prog (Builtin.append_ #[70,70] 70 #[.slice s_14.a s_14.n s_14.c,.slice x_19.a x_19.n x_19.c]) [.sc .sl] fun (x_20:Sl) =>
   J_16 x_20)
   (J_16 s_14))
 <| fun s_21 =>
 retW s_21
theorem Zfd {R:Type} (h0:(Int × Int × Int × Int × Int)) (K:Res [.sc .sl]→W R) (Q:R→World→Prop) (w:World) (h:Z8r h0 (fun r w=>K r Q w) w):callW Tryz.prog Z57 [.agg ⟨[.int .u8 h0.1,.int .u8 h0.2.1,.int .u32 h0.2.2.1,.int .u32 h0.2.2.2.1,.int .u32 h0.2.2.2.2]⟩] [.sc .sl] K Q w:=den_c (K:=K) mix Tryz.func53 { con:=[(6031,[(3,.sc .sl)]),(8042,[(3,.sc .sl)])],dr:=[(3,([],[[(0,[]),(1,[]),(3,[]),(4,[]),(5,[]),(2,[4]),(6,[]),(7,[]),(8,[])]]))] } trivial rfl (by kernel_rfl) h
def Z8v (l0:Sl) (e1:Sl):W (Sl) :=
 callW Tryz.prog Zi [.int .u64 (IntKind.wrap .u64 (e1.n:Int))] [.sc .sl] fun (x_1:Sl) =>
 rawW Tryz.prog (Builtin.append_ #[70,70] 70 #[.slice l0.a l0.n l0.c,.slice x_1.a x_1.n x_1.c]) [.sc .sl] fun (x_2:Sl) =>
 loopW (σ:=Sl × Int × Int) (fun K_3 s_4 =>
  cond (decide (s_4.2.2 < (e1.n:Int)))
   (idxW e1.a e1.n 2 s_4.2.2 fun x_5 =>
  ld (.agg [.int .u32,.sl]) x_5 fun (x_6:(Int × Sl)) =>
  newW 57 [.int .u32 0,.slice none 0 0] fun x_7 =>
  stoL x_7 [.int .u32 x_6.1,.slice x_6.2.a x_6.2.n x_6.2.c] 0 <|
  ld (.sc (.int .u32)) (Addr.add x_7 0) fun (x_8:Int) =>
  callW Tryz.prog Z2p [.slice s_4.1.a s_4.1.n s_4.1.c,.int .u32 s_4.2.1,.int .u32 x_8] [.sc .sl] fun (x_9:Sl) =>
  ld (.sc (.int .u32)) (Addr.add x_7 0) fun (x_10:Int) =>
  ld (.sc .sl) (Addr.add x_7 1) fun (x_11:Sl) =>
  callW Tryz.prog Z21 [.slice x_11.a x_11.n x_11.c] [.sc (.int .u8)] fun (x_12:Int) =>
  callW Tryz.prog Zh [.slice x_9.a x_9.n x_9.c,.int .u64 (IntKind.wrap .u64 x_12),.int .i64 5] [.sc .sl,.sc (.int .i64)] fun (x_13:Sl × Int) =>
  ld (.sc .sl) (Addr.add x_7 1) fun (x_14:Sl) =>
  callW Tryz.prog Z2m [.slice x_13.1.a x_13.1.n x_13.1.c,.slice x_14.a x_14.n x_14.c] [.sc .sl] fun (x_15:Sl) =>
  K_3 (x_15,x_10,IntKind.wrap .i64 (s_4.2.2+1)))
   (retW s_4.1))
  (x_2,0,0)
theorem Zfh {R:Type} (l0:Sl) (e1:Sl) (K:Res [.sc .sl]→W R) (Q:R→World→Prop) (w:World) (h:Z8v l0 e1 (fun r w=>K r Q w) w):callW Tryz.prog Z36 [.slice l0.a l0.n l0.c,.slice e1.a e1.n e1.c] [.sc .sl] K Q w:=den_c (K:=K) mix Tryz.func54 { lop:=[(0,[(0,.sc .sl),(5,.sc (.int .u32)),(16,.sc (.int .i64))])] } trivial rfl (by kernel_rfl) h
def Z8p (d0:Sl) (o1:Sl):W ((Sl × Sl × Sl) × Int) :=
 newW 80 [.slice none 0 0,.slice none 0 0,.slice none 0 0] fun x_1 =>
 callW Tryz.prog Zu [.slice d0.a d0.n d0.c] [.sc (.int .i64)] fun (x_2:Int) =>
 cond (x_2 != 0)
  (stoL x_1 [.slice none 0 0,.slice none 0 0,.slice none 0 0] 0 <|
  ld (.agg [.sl,.sl,.sl]) x_1 fun (x_3:(Sl × Sl × Sl)) =>
  retW (x_3,x_2))
  (callW Tryz.prog Zu [.slice o1.a o1.n o1.c] [.sc (.int .i64)] fun (x_4:Int) =>
 cond (x_4 != 0)
  (stoL x_1 [.slice none 0 0,.slice none 0 0,.slice none 0 0] 0 <|
  ld (.agg [.sl,.sl,.sl]) x_1 fun (x_5:(Sl × Sl × Sl)) =>
  retW (x_5,x_4))
  (newW 80 [.slice none 0 0,.slice none 0 0,.slice none 0 0] fun x_6 =>
 loopW (σ:=Int) (fun K_7 s_8 =>
  cond (decide (s_8 < (d0.n:Int)))
   (idxW d0.a d0.n 2 s_8 fun x_9 =>
  ld (.agg [.int .u32,.sl]) x_9 fun (x_10:(Int × Sl)) =>
  newW 57 [.int .u32 0,.slice none 0 0] fun x_11 =>
  stoL x_11 [.int .u32 x_10.1,.slice x_10.2.a x_10.2.n x_10.2.c] 0 <|
  ld (.sc (.int .u32)) (Addr.add x_11 0) fun (x_12:Int) =>
  callW Tryz.prog Z9 [.slice o1.a o1.n o1.c,.int .u32 x_12] [.sc (.int .i64)] fun (x_13:Int) =>
  joinW (σ:=Unit) (fun J_14 =>
   cond (decide (x_13 < 0))
    (ld (.sc .sl) (Addr.add x_6 0) fun (x_15:Sl) =>
    ld (.sc (.int .u32)) (Addr.add x_11 0) fun (x_16:Int) =>
    newW 54 [.int .u32 x_16] fun x_17 =>
    rawW Tryz.prog (Builtin.append_ #[77,77] 77 #[.slice x_15.a x_15.n x_15.c,.slice (some x_17) 1 1]) [.sc .sl] fun (x_18:Sl) =>
    stoL (Addr.add x_6 0) [.slice x_18.a x_18.n x_18.c] 0 <|
    J_14 ())
    (J_14 ()))
  <| fun s_19 =>
  K_7 (IntKind.wrap .i64 (s_8+1)))
   (loopW (σ:=Int) (fun K_20 s_21 =>
  cond (decide (s_21 < (o1.n:Int)))
   (joinW (σ:=Unit) (fun J_22 =>
   idxW o1.a o1.n 2 s_21 fun x_23 =>
   ld (.agg [.int .u32,.sl]) x_23 fun (x_24:(Int × Sl)) =>
   newW 57 [.int .u32 0,.slice none 0 0] fun x_25 =>
   stoL x_25 [.int .u32 x_24.1,.slice x_24.2.a x_24.2.n x_24.2.c] 0 <|
   ld (.sc (.int .u32)) (Addr.add x_25 0) fun (x_26:Int) =>
   callW Tryz.prog Z9 [.slice d0.a d0.n d0.c,.int .u32 x_26] [.sc (.int .i64)] fun (x_27:Int) =>
   cond (decide (x_27 < 0))
    (drawW <|
    ld (.sc .sl) (Addr.add x_6 1) fun (x_28:Sl) =>
    ld (.sc (.int .u32)) (Addr.add x_25 0) fun (x_29:Int) =>
    ld (.sc .sl) (Addr.add x_25 1) fun (x_30:Sl) =>
    callW Tryz.prog Z31 [.slice x_30.a x_30.n x_30.c] [.sc .sl] fun (x_31:Sl) =>
    andW (fun w=>Rd w (Addr.add x_25 0) (.sc (.int .u32)) x_29) <|
    andW (fun w=>Rd w (Addr.add x_6 1) (.sc .sl) x_28) <|
    newW 57 [.int .u32 x_29,.slice x_31.a x_31.n x_31.c] fun x_32 =>
    rawW Tryz.prog (Builtin.append_ #[23,23] 23 #[.slice x_28.a x_28.n x_28.c,.slice (some x_32) 1 1]) [.sc .sl] fun (x_33:Sl) =>
    stoL (Addr.add x_6 1) [.slice x_33.a x_33.n x_33.c] 0 <|
    J_22 ())
    (ld (.sc (.int .u32)) (Addr.add x_25 0) fun (x_34:Int) =>
   newW 86 [.int .u32 0,.int .u8 0,.slice none 0 0,.slice none 0 0] fun x_35 =>
   stoL x_35 [.int .u32 x_34,.int .u8 0,.slice none 0 0,.slice none 0 0] 0 <|
   loopW (σ:=Int) (fun K_36 s_37 =>
    cond (decide (s_37 < 6))
     (drawW <|
    idxW d0.a d0.n 2 x_27 fun x_38 =>
    ld (.sc .sl) (Addr.add x_38 1) fun (x_39:Sl) =>
    ld (.sc .sl) (Addr.add x_25 1) fun (x_40:Sl) =>
    callW Tryz.prog Z7 [.slice x_39.a x_39.n x_39.c,.int .u8 s_37] [.sc (.int .i64)] fun (x_41:Int) =>
    andW (fun w=>Rd w (Addr.add x_25 1) (.sc .sl) x_40) <|
    callW Tryz.prog Z7 [.slice x_40.a x_40.n x_40.c,.int .u8 s_37] [.sc (.int .i64)] fun (x_42:Int) =>
    joinW (σ:=Bool) (fun J_43 =>
     cond (decide (x_41 ≥ 0))
      (J_43 (decide (x_42 < 0)))
      (J_43 false))
    <| fun s_44 =>
    joinW (σ:=Unit) (fun J_45 =>
     cond s_44
      (ld (.sc (.int .u8)) (Addr.add x_35 1) fun (x_46:Int) =>
      chkW (0≤s_37) <|
      stoL (Addr.add x_35 1) [.int .u8 (IntKind.wrap .u8 (x_46+(shL .u8 1 s_37)))] 0 <|
      J_45 ())
      (joinW (σ:=Bool) (fun J_47 =>
       cond (decide (x_41 < 0))
        (J_47 (decide (x_42 ≥ 0)))
        (J_47 false))
      <| fun s_48 =>
      joinW (σ:=Unit) (fun J_49 =>
       cond s_48
        (drawW <|
        ld (.sc .sl) (Addr.add x_35 2) fun (x_50:Sl) =>
        ld (.sc .sl) (Addr.add x_25 1) fun (x_51:Sl) =>
        idxW x_51.a x_51.n 4 x_42 fun x_52 =>
        ld (.agg [.int .u8,.int .i32,.int .i32,.int .i32]) x_52 fun (x_53:(Int × Int × Int × Int)) =>
        newW 92 [.int .u8 x_53.1,.int .i32 x_53.2.1,.int .i32 x_53.2.2.1,.int .i32 x_53.2.2.2] fun x_54 =>
        rawW Tryz.prog (Builtin.append_ #[55,55] 55 #[.slice x_50.a x_50.n x_50.c,.slice (some x_54) 1 1]) [.sc .sl] fun (x_55:Sl) =>
        stoL (Addr.add x_35 2) [.slice x_55.a x_55.n x_55.c] 0 <|
        J_49 ())
        (joinW (σ:=Bool) (fun J_56 =>
         drawW <|
         cond (decide (x_41 ≥ 0))
          (idxW d0.a d0.n 2 x_27 fun x_57 =>
            ld (.sc .sl) (Addr.add x_57 1) fun (x_58:Sl) =>
              idxW x_58.a x_58.n 4 x_41 fun x_59 =>
                ld (.agg [.int .u8,.int .i32,.int .i32,.int .i32]) x_59 fun (x_60:(Int × Int × Int × Int)) =>
                 ld (.sc .sl) (Addr.add x_25 1) fun (x_61:Sl) =>
                   idxW x_61.a x_61.n 4 x_42 fun x_62 =>
                     ld (.agg [.int .u8,.int .i32,.int .i32,.int .i32]) x_62 fun (x_63:(Int × Int × Int × Int)) =>
                      rawQ Tryz.prog (do Go.eqGuard .neq 92 (.tmp 130) (.tmp 135) (.agg ⟨[.int .u8 x_60.1,.int .i32 x_60.2.1,.int .i32 x_60.2.2.1,.int .i32 x_60.2.2.2]⟩) (.agg ⟨[.int .u8 x_63.1,.int .i32 x_63.2.1,.int .i32 x_63.2.2.1,.int .i32 x_63.2.2.2]⟩); Go.binOp .neq 92 (.agg ⟨[.int .u8 x_60.1,.int .i32 x_60.2.1,.int .i32 x_60.2.2.1,.int .i32 x_60.2.2.2]⟩) (.agg ⟨[.int .u8 x_63.1,.int .i32 x_63.2.1,.int .i32 x_63.2.2.1,.int .i32 x_63.2.2.2]⟩)) [.sc .bool] fun (x_64:Bool) =>
                       J_56 x_64)
          (J_56 false))
        <| fun s_65 =>
        joinW (σ:=Unit) (fun J_66 =>
         cond s_65
          (drawW <|
          ld (.sc .sl) (Addr.add x_35 3) fun (x_67:Sl) =>
          ld (.sc .sl) (Addr.add x_25 1) fun (x_68:Sl) =>
          idxW x_68.a x_68.n 4 x_42 fun x_69 =>
          ld (.agg [.int .u8,.int .i32,.int .i32,.int .i32]) x_69 fun (x_70:(Int × Int × Int × Int)) =>
          newW 92 [.int .u8 x_70.1,.int .i32 x_70.2.1,.int .i32 x_70.2.2.1,.int .i32 x_70.2.2.2] fun x_71 =>
          rawW Tryz.prog (Builtin.append_ #[55,55] 55 #[.slice x_67.a x_67.n x_67.c,.slice (some x_71) 1 1]) [.sc .sl] fun (x_72:Sl) =>
          stoL (Addr.add x_35 3) [.slice x_72.a x_72.n x_72.c] 0 <|
          J_66 ())
          (J_66 ()))
        <| fun s_73 =>
        J_49 ()))
      <| fun s_74 =>
      J_45 ()))
    <| fun s_75 =>
    K_36 (IntKind.wrap .u8 (s_37+1)))
     (joinW (σ:=Bool) (fun J_76 =>
    ld (.sc (.int .u8)) (Addr.add x_35 1) fun (x_77:Int) =>
    cond (decide (x_77 > 0))
     (J_76 true)
     (ld (.sc .sl) (Addr.add x_35 2) fun (x_78:Sl) =>
      ld (.sc .sl) (Addr.add x_35 3) fun (x_79 : Sl) =>
         J_76 (decide ((IntKind.wrap .i64 ((x_78.n:Int)+(x_79.n:Int))) > 0))))
   <| fun s_80 =>
   joinW (σ:=Unit) (fun J_81 =>
    cond s_80
     (ld (.sc .sl) (Addr.add x_6 2) fun (x_82:Sl) =>
     ld (.agg [.int .u32,.int .u8,.sl,.sl]) x_35 fun (x_83:(Int × Int × Sl × Sl)) =>
     newW 86 [.int .u32 x_83.1,.int .u8 x_83.2.1,.slice x_83.2.2.1.a x_83.2.2.1.n x_83.2.2.1.c,.slice x_83.2.2.2.a x_83.2.2.2.n x_83.2.2.2.c] fun x_84 =>
     rawW Tryz.prog (Builtin.append_ #[78,78] 78 #[.slice x_82.a x_82.n x_82.c,.slice (some x_84) 1 1]) [.sc .sl] fun (x_85:Sl) =>
     stoL (Addr.add x_6 2) [.slice x_85.a x_85.n x_85.c] 0 <|
     J_81 ())
     (J_81 ()))
   <| fun s_86 =>
   J_22 ()))
    0))
  <| fun s_87 =>
  K_20 (IntKind.wrap .i64 (s_21+1)))
   (ld (.agg [.sl,.sl,.sl]) x_6 fun (x_88:(Sl × Sl × Sl)) =>
 stoL x_1 [.slice x_88.1.a x_88.1.n x_88.1.c,.slice x_88.2.1.a x_88.2.1.n x_88.2.1.c,.slice x_88.2.2.a x_88.2.2.n x_88.2.2.c] 0 <|
 ld (.agg [.sl,.sl,.sl]) x_1 fun (x_89:(Sl × Sl × Sl)) =>
 retW (x_89,0)))
  0))
  0))
set_option maxRecDepth 100000 in
theorem Zfb {R:Type} (d0:Sl) (o1:Sl) (K:Res [.agg [.sl,.sl,.sl],.sc (.int .i64)]→W R) (Q:R→World→Prop) (w:World) (h:Z8p d0 o1 (fun r w=>K r Q w) w):callW Tryz.prog Z34 [.slice d0.a d0.n d0.c,.slice o1.a o1.n o1.c] [.agg [.sl,.sl,.sl],.sc (.int .i64)] K Q w:=den_c (K:=K) mix Tryz.func55 { reg:=[(25,[(89,.sc .bool)]),(27,[(102,.sc .bool)]),(29,[(119,.sc .bool)]),(32,[(161,.sc .bool)])],con:=[(13040,[]),(31119,[]),(29102,[]),(27089,[]),(34161,[])],blk:=[(3,[])],lop:=[(0,[(32,.sc (.int .i64))]),(2,[(51,.sc (.int .i64))]),(4,[(75,.sc (.int .u8))])],dr:=[(19,([],[[(0,[]),(1,[]),(2,[]),(3,[]),(4,[]),(5,[]),(6,[1,3]),(7,[]),(8,[]),(9,[]),(10,[]),(11,[])]])),(24,([],[[(0,[]),(1,[]),(2,[]),(3,[]),(4,[]),(5,[]),(7,[]),(8,[]),(9,[]),(6,[8]),(10,[]),(11,[]),(12,[])]])),(28,([],[[(0,[]),(1,[]),(2,[]),(3,[]),(4,[]),(5,[]),(6,[]),(7,[]),(8,[]),(9,[]),(10,[])]])),(29,([],[[(0,[]),(1,[]),(2,[]),(3,[]),(4,[]),(5,[]),(6,[]),(7,[]),(8,[]),(9,[]),(10,[]),(11,[]),(12,[]),(13,[]),(14,[]),(15,[]),(16,[]),(17,[]),(18,[])]])),(30,([],[[(0,[]),(1,[]),(2,[]),(3,[]),(4,[]),(5,[]),(6,[]),(7,[]),(8,[]),(9,[]),(10,[])]]))] } ⟨by kernel_rfl,trivial⟩ rfl (by kernel_rfl) h
def Z9g (v0:Int):W (Sl) :=
 loopW (σ:=Int × Sl) (fun K_1 s_2 =>
  loopW (σ:=Int × Sl × Int) (fun K_3 s_4 =>
   cond (decide (s_4.2.2 < 4))
    (newW 4 [.bool ((Int.tmod s_4.1 2) == 1)] fun x_5 =>
   rawW Tryz.prog (Builtin.append_ #[70,70] 70 #[.slice s_4.2.1.a s_4.2.1.n s_4.2.1.c,.slice (some x_5) 1 1]) [.sc .sl] fun (x_6:Sl) =>
   K_3 (IntKind.wrap .u64 (Int.tdiv s_4.1 2),x_6,IntKind.wrap .i64 (s_4.2.2+1)))
    (newW 4 [.bool (decide (s_4.1 > 0))] fun x_7 =>
  rawW Tryz.prog (Builtin.append_ #[70,70] 70 #[.slice s_4.2.1.a s_4.2.1.n s_4.2.1.c,.slice (some x_7) 1 1]) [.sc .sl] fun (x_8:Sl) =>
  cond (s_4.1 == 0)
   (retW x_8)
   (K_1 (s_4.1,x_8))))
   (s_2.1,s_2.2,0))
  (v0,(⟨none,0,0⟩:Sl))
theorem Zgh {R:Type} (v0:Int) (K:Res [.sc .sl]→W R) (Q:R→World→Prop) (w:World) (h:Z9g v0 (fun r w=>K r Q w) w):callW Tryz.prog Zi [.int .u64 v0] [.sc .sl] K Q w:=den_c (K:=K) mix Tryz.func56 { lop:=[(0,[(0,.sc (.int .u64)),(3,.sc .sl)]),(2,[(0,.sc (.int .u64)),(3,.sc .sl),(4,.sc (.int .i64))])] } trivial rfl (by kernel_rfl) h
def Zal (l0:Sl) (last1:Int) (now2:Int):W (Sl) :=
 callW Tryz.prog Zi [.int .u64 (IntKind.wrap .u64 (IntKind.wrap .u32 ((IntKind.wrap .u32 (now2 - last1)) - 1)))] [.sc .sl] fun (x_1:Sl) =>
 rawW Tryz.prog (Builtin.append_ #[70,70] 70 #[.slice l0.a l0.n l0.c,.slice x_1.a x_1.n x_1.c]) [.sc .sl] fun (x_2:Sl) =>
 retW x_2
theorem Zi4 {R:Type} (l0:Sl) (last1:Int) (now2:Int) (K:Res [.sc .sl]→W R) (Q:R→World→Prop) (w:World) (h:Zal l0 last1 now2 (fun r w=>K r Q w) w):callW Tryz.prog Z2p [.slice l0.a l0.n l0.c,.int .u32 last1,.int .u32 now2] [.sc .sl] K Q w:=den_c (K:=K) mix Tryz.func57 {} trivial rfl (by kernel_rfl) h
def Z9f (l0:Sl) (v1:Int) (n2:Int):W (Sl × Int) :=
 joinW (σ:=Bool) (fun J_1 =>
  cond (decide (n2 < 0))
   (J_1 true)
   (J_1 (decide (n2 > 64))))
 <| fun s_2 =>
 cond s_2
  (retW (l0,1))
  (newW 4 [] fun x_3 =>
 rawW Tryz.prog (Builtin.append_ #[70,70] 70 #[.slice (some x_3) 0 0,.slice l0.a l0.n l0.c]) [.sc .sl] fun (x_4:Sl) =>
 loopW (σ:=Int × Sl × Int) (fun K_5 s_6 =>
  cond (decide (s_6.2.2 < n2))
   (newW 4 [.bool ((Int.tmod s_6.1 2) == 1)] fun x_7 =>
  rawW Tryz.prog (Builtin.append_ #[70,70] 70 #[.slice s_6.2.1.a s_6.2.1.n s_6.2.1.c,.slice (some x_7) 1 1]) [.sc .sl] fun (x_8:Sl) =>
  K_5 (IntKind.wrap .u64 (Int.tdiv s_6.1 2),x_8,IntKind.wrap .i64 (s_6.2.2+1)))
   (cond (s_6.1 != 0)
  (retW (l0,5))
  (cond (decide ((s_6.2.1.n:Int) > 1048576))
  (retW (l0,3))
  (retW (s_6.2.1,0)))))
  (v1,x_4,0))
theorem Zgg {R:Type} (l0:Sl) (v1:Int) (n2:Int) (K:Res [.sc .sl,.sc (.int .i64)]→W R) (Q:R→World→Prop) (w:World) (h:Z9f l0 v1 n2 (fun r w=>K r Q w) w):callW Tryz.prog Zh [.slice l0.a l0.n l0.c,.int .u64 v1,.int .i64 n2] [.sc .sl,.sc (.int .i64)] K Q w:=den_c (K:=K) mix Tryz.func58 { reg:=[(1,[(14,.sc .bool)])],lop:=[(0,[(1,.sc (.int .u64)),(8,.sc .sl),(20,.sc (.int .i64))])] } trivial rfl (by kernel_rfl) h
def Z7n (l0:Sl) (c1:Sl):W (Sl) :=
 loopW (σ:=Sl × Int) (fun K_1 s_2 =>
  cond (decide (s_2.2 < (c1.n:Int)))
   (idxW c1.a c1.n 4 s_2.2 fun x_3 =>
  ld (.agg [.int .u8,.int .i32,.int .i32,.int .i32]) x_3 fun (x_4:(Int × Int × Int × Int)) =>
  newW 92 [.int .u8 0,.int .i32 0,.int .i32 0,.int .i32 0] fun x_5 =>
  stoL x_5 [.int .u8 x_4.1,.int .i32 x_4.2.1,.int .i32 x_4.2.2.1,.int .i32 x_4.2.2.2] 0 <|
  ld (.agg [.int .u8,.int .i32,.int .i32,.int .i32]) x_5 fun (x_6:(Int × Int × Int × Int)) =>
  callW Tryz.prog Z5q [.agg ⟨[.int .u8 x_6.1,.int .i32 x_6.2.1,.int .i32 x_6.2.2.1,.int .i32 x_6.2.2.2]⟩] [.sc .sl,.sc (.int .i64)] fun (x_7:Sl × Int) =>
  rawW Tryz.prog (Builtin.append_ #[70,70] 70 #[.slice s_2.1.a s_2.1.n s_2.1.c,.slice x_7.1.a x_7.1.n x_7.1.c]) [.sc .sl] fun (x_8:Sl) =>
  K_1 (x_8,IntKind.wrap .i64 (s_2.2+1)))
   (retW s_2.1))
  (l0,0)
theorem Ze1 {R:Type} (l0:Sl) (c1:Sl) (K:Res [.sc .sl]→W R) (Q:R→World→Prop) (w:World) (h:Z7n l0 c1 (fun r w=>K r Q w) w):callW Tryz.prog Z2m [.slice l0.a l0.n l0.c,.slice c1.a c1.n c1.c] [.sc .sl] K Q w:=den_c (K:=K) mix Tryz.func60 { lop:=[(0,[(0,.sc .sl),(11,.sc (.int .i64))])] } trivial rfl (by kernel_rfl) h
def Z8l (d0:(Int × Int × Int × Int)) (o1:(Int × Int × Int × Int)):W (Sl × Int) :=
 newW 92 [.int .u8 d0.1,.int .i32 d0.2.1,.int .i32 d0.2.2.1,.int .i32 d0.2.2.2] fun x_1 =>
 newW 92 [.int .u8 o1.1,.int .i32 o1.2.1,.int .i32 o1.2.2.1,.int .i32 o1.2.2.2] fun x_2 =>
 ld (.agg [.int .u8,.int .i32,.int .i32,.int .i32]) x_1 fun (x_3:(Int × Int × Int × Int)) =>
 callW Tryz.prog Zo [.agg ⟨[.int .u8 x_3.1,.int .i32 x_3.2.1,.int .i32 x_3.2.2.1,.int .i32 x_3.2.2.2]⟩] [.sc (.int .i64)] fun (x_4:Int) =>
 cond (x_4 != 0)
  (retW ((⟨none,0,0⟩:Sl),x_4))
  (ld (.agg [.int .u8,.int .i32,.int .i32,.int .i32]) x_2 fun (x_5:(Int × Int × Int × Int)) =>
 callW Tryz.prog Zo [.agg ⟨[.int .u8 x_5.1,.int .i32 x_5.2.1,.int .i32 x_5.2.2.1,.int .i32 x_5.2.2.2]⟩] [.sc (.int .i64)] fun (x_6:Int) =>
 cond (x_6 != 0)
  (retW ((⟨none,0,0⟩:Sl),x_6))
  (ld (.sc (.int .u8)) (Addr.add x_1 0) fun (x_7:Int) =>
 ld (.sc (.int .u8)) (Addr.add x_2 0) fun (x_8:Int) =>
 cond (x_7 != x_8)
  (retW ((⟨none,0,0⟩:Sl),4))
  (ld (.sc (.int .u8)) (Addr.add x_2 0) fun (x_9:Int) =>
 callW Tryz.prog Zc [.int .u8 x_9] [.sc (.int .i64)] fun (x_10:Int) =>
 loopW (σ:=Sl × Int) (fun K_11 s_12 =>
  cond (decide (s_12.2 < x_10))
   (joinW (σ:=Sl) (fun J_13 =>
   drawW <|
   idxW (some (Addr.add x_2 1)) 3 1 s_12.2 fun x_14 =>
   ld (.sc (.int .i32)) x_14 fun (x_15:Int) =>
   idxW (some (Addr.add x_1 1)) 3 1 s_12.2 fun x_16 =>
   ld (.sc (.int .i32)) x_16 fun (x_17:Int) =>
   callW Tryz.prog Z3u [.int .i64 (IntKind.wrap .i64 ((IntKind.wrap .i64 x_15) - (IntKind.wrap .i64 x_17)))] [.sc (.int .u64)] fun (x_18:Int) =>
   newW 4 [.bool (decide (x_18 > 0))] fun x_19 =>
   rawW Tryz.prog (Builtin.append_ #[70,70] 70 #[.slice s_12.1.a s_12.1.n s_12.1.c,.slice (some x_19) 1 1]) [.sc .sl] fun (x_20:Sl) =>
   cond (x_18 == 0)
    (J_13 x_20)
    (newW 4 [.bool (decide (x_18≤16))] fun x_21 =>
   rawW Tryz.prog (Builtin.append_ #[70,70] 70 #[.slice x_20.a x_20.n x_20.c,.slice (some x_21) 1 1]) [.sc .sl] fun (x_22:Sl) =>
   cond (decide (x_18≤16))
    (callW Tryz.prog Zh [.slice x_22.a x_22.n x_22.c,.int .u64 (IntKind.wrap .u64 (x_18 - 1)),.int .i64 4] [.sc .sl,.sc (.int .i64)] fun (x_23:Sl × Int) =>
    J_13 x_23.1)
    (ld (.sc (.int .u8)) (Addr.add x_2 0) fun (x_24:Int) =>
   callW Tryz.prog Zp [.int .u8 x_24,.int .i64 s_12.2] [.sc (.int .i32),.sc (.int .i32),.sc (.int .i64)] fun (x_25:Int × Int × Int) =>
   idxW (some (Addr.add x_2 1)) 3 1 s_12.2 fun x_26 =>
   ld (.sc (.int .i32)) x_26 fun (x_27:Int) =>
   callW Tryz.prog Z20 [.int .i64 (IntKind.wrap .i64 x_27),.int .i64 (IntKind.wrap .i64 x_25.1),.int .i64 (IntKind.wrap .i64 x_25.2.1)] [.sc .sl,.sc (.int .i64)] fun (x_28:Sl × Int) =>
   rawW Tryz.prog (Builtin.append_ #[70,70] 70 #[.slice x_22.a x_22.n x_22.c,.slice x_28.1.a x_28.1.n x_28.1.c]) [.sc .sl] fun (x_29:Sl) =>
   J_13 x_29)))
  <| fun s_30 =>
  K_11 (s_30,IntKind.wrap .i64 (s_12.2+1)))
   (retW (s_12.1,0)))
  ((⟨none,0,0⟩:Sl),0))))
theorem Zf7 {R:Type} (d0:(Int × Int × Int × Int)) (o1:(Int × Int × Int × Int)) (K:Res [.sc .sl,.sc (.int .i64)]→W R) (Q:R→World→Prop) (w:World) (h:Z8l d0 o1 (fun r w=>K r Q w) w):callW Tryz.prog Z33 [.agg ⟨[.int .u8 d0.1,.int .i32 d0.2.1,.int .i32 d0.2.2.1,.int .i32 d0.2.2.2]⟩,.agg ⟨[.int .u8 o1.1,.int .i32 o1.2.1,.int .i32 o1.2.2.1,.int .i32 o1.2.2.2]⟩] [.sc .sl,.sc (.int .i64)] K Q w:=den_c (K:=K) mix Tryz.func61 { blk:=[(1,[(8,.sc .sl)])],lop:=[(0,[(8,.sc .sl),(34,.sc (.int .i64))])],dr:=[(13,([],[[(0,[]),(1,[]),(2,[]),(3,[]),(4,[]),(5,[]),(6,[]),(7,[]),(8,[]),(9,[]),(10,[]),(11,[]),(12,[])]]))] } trivial rfl (by kernel_rfl) h
def Z7f (l0:Sl):W (Sl) :=
 rawW Tryz.prog (Instr.makeSlice 22 (.int .i64 (IntKind.wrap .i64 (Int.tdiv (IntKind.wrap .i64 ((l0.n:Int)+7)) 8))) (.int .i64 (IntKind.wrap .i64 (Int.tdiv (IntKind.wrap .i64 ((l0.n:Int)+7)) 8)))) [.sc .sl] fun (x_1:Sl) =>
 loopW (σ:=Int) (fun K_2 s_3 =>
  cond (decide (s_3 < (l0.n:Int)))
   (idxW l0.a l0.n 1 s_3 fun x_4 =>
  ld (.sc .bool) x_4 fun (x_5:Bool) =>
  joinW (σ:=Unit) (fun J_6 =>
   cond x_5
    (idxW x_1.a x_1.n 1 (IntKind.wrap .i64 (Int.tdiv s_3 8)) fun x_7 =>
    ld (.sc (.int .u8)) x_7 fun (x_8:Int) =>
    chkW (0≤(IntKind.wrap .u64 (Int.tmod s_3 8))) <|
    idxW x_1.a x_1.n 1 (IntKind.wrap .i64 (Int.tdiv s_3 8)) fun x_9 =>
    stoL x_9 [.int .u8 (IntKind.wrap .u8 (x_8+(shL .u8 1 (IntKind.wrap .u64 (Int.tmod s_3 8)))))] 0 <|
    J_6 ())
    (J_6 ()))
  <| fun s_10 =>
  K_2 (IntKind.wrap .i64 (s_3+1)))
   (retW x_1))
  0
theorem Zdt {R:Type} (l0:Sl) (K:Res [.sc .sl]→W R) (Q:R→World→Prop) (w:World) (h:Z7f l0 (fun r w=>K r Q w) w):callW Tryz.prog Z4q [.slice l0.a l0.n l0.c] [.sc .sl] K Q w:=den_c (K:=K) mix Tryz.func62 { con:=[(7018,[])],lop:=[(0,[(13,.sc (.int .i64))])] } trivial rfl (by kernel_rfl) h
def Zj8 (s0:Int):W (Sl) :=
 rawW Tryz.prog (Instr.makeSlice 22 (.int .i64 4) (.int .i64 4)) [.sc .sl] fun (x_1:Sl) =>
 loopW (σ:=Int) (fun K_2 s_3 =>
  cond (decide (s_3 < (x_1.n:Int)))
   (chkW (0≤(IntKind.wrap .i64 (8 * s_3))) <|
  idxW x_1.a x_1.n 1 s_3 fun x_4 =>
  stoL x_4 [.int .u8 (IntKind.wrap .u8 (shR .u32 s0 (IntKind.wrap .i64 (8 * s_3))))] 0 <|
  K_2 (IntKind.wrap .i64 (s_3+1)))
   (retW x_1))
  0
theorem Zpm {R:Type} (s0:Int) (K:Res [.sc .sl]→W R) (Q:R→World→Prop) (w:World) (h:Zj8 s0 (fun r w=>K r Q w) w):callW Tryz.prog Z9u [.int .u32 s0] [.sc .sl] K Q w:=den_c (K:=K) mix Tryz.func63 { lop:=[(0,[(8,.sc (.int .i64))])] } trivial rfl (by kernel_rfl) h
def Zkx (p0:Sl):W (Int) :=
 loopW (σ:=Int × Int) (fun K_1 s_2 =>
  cond (decide (s_2.2 < (p0.n:Int)))
   (idxW p0.a p0.n 1 s_2.2 fun x_3 =>
  ld (.sc (.int .u8)) x_3 fun (x_4:Int) =>
  loopW (σ:=Int × Int) (fun K_5 s_6 =>
   cond (decide (s_6.2 < 8))
    (callW Tryz.prog Zcj [.int .u32 s_6.1] [.sc (.int .u32)] fun (x_7:Int) =>
   K_5 (x_7,IntKind.wrap .i64 (s_6.2+1)))
    (K_1 (s_6.1,IntKind.wrap .i64 (s_2.2+1))))
   (bXor .u32 s_2.1 (IntKind.wrap .u32 x_4),0))
   (retW (bXor .u32 (4294967295) s_2.1)))
  (4294967295,0)
theorem Zrd {R:Type} (p0:Sl) (K:Res [.sc (.int .u32)]→W R) (Q:R→World→Prop) (w:World) (h:Zkx p0 (fun r w=>K r Q w) w):callW Tryz.prog Zbc [.slice p0.a p0.n p0.c] [.sc (.int .u32)] K Q w:=den_c (K:=K) mix Tryz.func64 { lop:=[(0,[(3,.sc (.int .u32)),(8,.sc (.int .i64))]),(2,[(3,.sc (.int .u32)),(16,.sc (.int .i64))])] } trivial rfl (by kernel_rfl) h
def Zgs (b0:Sl):W (Sl) :=
 cond (Option.isNone b0.a)
  (retW (⟨none,0,0⟩:Sl))
  (newW 5 [] fun x_1 =>
 rawW Tryz.prog (Builtin.append_ #[22,22] 22 #[.slice (some x_1) 0 0,.slice b0.a b0.n b0.c]) [.sc .sl] fun (x_2:Sl) =>
 retW x_2)
theorem Znt {R:Type} (b0:Sl) (K:Res [.sc .sl]→W R) (Q:R→World→Prop) (w:World) (h:Zgs b0 (fun r w=>K r Q w) w):callW Tryz.prog Z4b [.slice b0.a b0.n b0.c] [.sc .sl] K Q w:=den_c (K:=K) mix Tryz.func65 {} trivial rfl (by kernel_rfl) h
def Zko (p0:Sl):W ((Option Addr)) :=
 callW Tryz.prog Z4b [.slice p0.a p0.n p0.c] [.sc .sl] fun (x_1:Sl) =>
 newW 173 [.slice x_1.a x_1.n x_1.c,.int .i64 0] fun x_2 =>
 retW (some x_2)
theorem Zr4 {R:Type} (p0:Sl) (K:Res [.sc .ptr]→W R) (Q:R→World→Prop) (w:World) (h:Zko p0 (fun r w=>K r Q w) w):callW Tryz.prog Zfp [.slice p0.a p0.n p0.c] [.sc .ptr] K Q w:=den_c (K:=K) mix Tryz.func67 {} trivial rfl (by kernel_rfl) h
def Z4l (d0:(Option Addr)):W (((Int × Int × Int × Int × Int)) ⊕ List PanicEntry) :=
 newW 62 [.pointer d0] fun o_1 =>
 newW 30 [.int .u8 0,.int .u8 0,.int .u32 0,.int .u32 0,.int .u32 0] fun x_2 =>
 joinW (σ:=(Option Addr)) (fun J_3 =>
  drawW <|
  bothW
   (ld (.sc .ptr) (Addr.add o_1 0) fun (x_4:Option Addr) =>
   ld (.sc .ptr) (Addr.add o_1 0) fun (x_5:Option Addr) =>
   callW Tryz.prog Zw [.pointer x_4,.int .i64 1,.int .i64 5] [.sc (.int .i64),.sc (.int .i64)] fun (x_6:Int × Int) =>
   andW (fun w=>Rd w (Addr.add o_1 0) (.sc .ptr) x_5) <|
   callP Tryz.prog Z6 [.int .i64 x_6.1,.int .i64 x_6.2] [.sc (.int .i64)] fun (x_7:Int) =>
   andW (fun w=>Rd w (Addr.add o_1 0) (.sc .ptr) x_5) <|
   callW Tryz.prog Zw [.pointer x_5,.int .i64 0,.int .i64 15] [.sc (.int .i64),.sc (.int .i64)] fun (x_8:Int × Int) =>
   callP Tryz.prog Z6 [.int .i64 x_8.1,.int .i64 x_8.2] [.sc (.int .i64)] fun (x_9:Int) =>
   newW 30 [.int .u8 0,.int .u8 0,.int .u32 0,.int .u32 0,.int .u32 0] fun x_10 =>
   stoL x_10 [.int .u8 (IntKind.wrap .u8 x_7),.int .u8 (IntKind.wrap .u8 x_9),.int .u32 0,.int .u32 0,.int .u32 0] 0 <|
   J_3 (some x_10))
   (bothW
   (ld (.sc .ptr) (Addr.add o_1 0) fun (x_11:Option Addr) =>
   ld (.sc .ptr) (Addr.add o_1 0) fun (x_12:Option Addr) =>
   callW Tryz.prog Zw [.pointer x_11,.int .i64 1,.int .i64 5] [.sc (.int .i64),.sc (.int .i64)] fun (x_13:Int × Int) =>
   andW (fun w=>Rd w (Addr.add o_1 0) (.sc .ptr) x_12) <|
   callP Tryz.prog Z6 [.int .i64 x_13.1,.int .i64 x_13.2] [.sc (.int .i64)] fun (x_14:Int) =>
   andW (fun w=>Rd w (Addr.add o_1 0) (.sc .ptr) x_12) <|
   callW Tryz.prog Zw [.pointer x_12,.int .i64 0,.int .i64 15] [.sc (.int .i64),.sc (.int .i64)] fun (x_15:Int × Int) =>
   newW 30 [.int .u8 0,.int .u8 0,.int .u32 0,.int .u32 0,.int .u32 0] fun x_16 =>
   callP Tryz.prog Z6 [.int .i64 x_15.1,.int .i64 x_15.2] [.sc (.int .i64)] fun (x_17:Int) =>
   stoL x_16 [.int .u8 (IntKind.wrap .u8 x_14),.int .u8 (IntKind.wrap .u8 x_17),.int .u32 0,.int .u32 0,.int .u32 0] 0 <|
   J_3 (some x_16))
   (bothW
   (ld (.sc .ptr) (Addr.add o_1 0) fun (x_18:Option Addr) =>
   ld (.sc .ptr) (Addr.add o_1 0) fun (x_19:Option Addr) =>
   callW Tryz.prog Zw [.pointer x_18,.int .i64 1,.int .i64 5] [.sc (.int .i64),.sc (.int .i64)] fun (x_20:Int × Int) =>
   andW (fun w=>Rd w (Addr.add o_1 0) (.sc .ptr) x_19) <|
   callP Tryz.prog Z6 [.int .i64 x_20.1,.int .i64 x_20.2] [.sc (.int .i64)] fun (x_21:Int) =>
   andW (fun w=>Rd w (Addr.add o_1 0) (.sc .ptr) x_19) <|
   newW 30 [.int .u8 0,.int .u8 0,.int .u32 0,.int .u32 0,.int .u32 0] fun x_22 =>
   callW Tryz.prog Zw [.pointer x_19,.int .i64 0,.int .i64 15] [.sc (.int .i64),.sc (.int .i64)] fun (x_23:Int × Int) =>
   callP Tryz.prog Z6 [.int .i64 x_23.1,.int .i64 x_23.2] [.sc (.int .i64)] fun (x_24:Int) =>
   stoL x_22 [.int .u8 (IntKind.wrap .u8 x_21),.int .u8 (IntKind.wrap .u8 x_24),.int .u32 0,.int .u32 0,.int .u32 0] 0 <|
   J_3 (some x_22))
   (bothW
   (ld (.sc .ptr) (Addr.add o_1 0) fun (x_25:Option Addr) =>
   ld (.sc .ptr) (Addr.add o_1 0) fun (x_26:Option Addr) =>
   callW Tryz.prog Zw [.pointer x_25,.int .i64 1,.int .i64 5] [.sc (.int .i64),.sc (.int .i64)] fun (x_27:Int × Int) =>
   andW (fun w=>Rd w (Addr.add o_1 0) (.sc .ptr) x_26) <|
   newW 30 [.int .u8 0,.int .u8 0,.int .u32 0,.int .u32 0,.int .u32 0] fun x_28 =>
   callP Tryz.prog Z6 [.int .i64 x_27.1,.int .i64 x_27.2] [.sc (.int .i64)] fun (x_29:Int) =>
   andW (fun w=>Rd w (Addr.add o_1 0) (.sc .ptr) x_26) <|
   callW Tryz.prog Zw [.pointer x_26,.int .i64 0,.int .i64 15] [.sc (.int .i64),.sc (.int .i64)] fun (x_30:Int × Int) =>
   callP Tryz.prog Z6 [.int .i64 x_30.1,.int .i64 x_30.2] [.sc (.int .i64)] fun (x_31:Int) =>
   stoL x_28 [.int .u8 (IntKind.wrap .u8 x_29),.int .u8 (IntKind.wrap .u8 x_31),.int .u32 0,.int .u32 0,.int .u32 0] 0 <|
   J_3 (some x_28))
   (ld (.sc .ptr) (Addr.add o_1 0) fun (x_32:Option Addr) =>
   ld (.sc .ptr) (Addr.add o_1 0) fun (x_33:Option Addr) =>
   newW 30 [.int .u8 0,.int .u8 0,.int .u32 0,.int .u32 0,.int .u32 0] fun x_34 =>
   callW Tryz.prog Zw [.pointer x_32,.int .i64 1,.int .i64 5] [.sc (.int .i64),.sc (.int .i64)] fun (x_35:Int × Int) =>
   andW (fun w=>Rd w (Addr.add o_1 0) (.sc .ptr) x_33) <|
   callP Tryz.prog Z6 [.int .i64 x_35.1,.int .i64 x_35.2] [.sc (.int .i64)] fun (x_36:Int) =>
   andW (fun w=>Rd w (Addr.add o_1 0) (.sc .ptr) x_33) <|
   callW Tryz.prog Zw [.pointer x_33,.int .i64 0,.int .i64 15] [.sc (.int .i64),.sc (.int .i64)] fun (x_37:Int × Int) =>
   callP Tryz.prog Z6 [.int .i64 x_37.1,.int .i64 x_37.2] [.sc (.int .i64)] fun (x_38:Int) =>
   stoL x_34 [.int .u8 (IntKind.wrap .u8 x_36),.int .u8 (IntKind.wrap .u8 x_38),.int .u32 0,.int .u32 0,.int .u32 0] 0 <|
   J_3 (some x_34))))))
 <| fun s_39 =>
 ld (.agg [.ptr]) o_1 fun (x_40:(Option Addr)) =>
 callP Tryz.prog Ze [.agg ⟨[.pointer x_40]⟩] [.sc (.int .u64)] fun (x_41:Int) =>
 ptrW s_39 fun x_42 =>
 stoL (Addr.add x_42 2) [.int .u32 (IntKind.wrap .u32 x_41)] 0 <|
 ptrW s_39 fun x_43 =>
 ld (.sc (.int .u8)) (Addr.add x_43 0) fun (x_44:Int) =>
 joinW (σ:=Unit) (fun J_45 =>
  cond (decide (x_44≤3))
   (ld (.agg [.ptr]) o_1 fun (x_46:(Option Addr)) =>
   callP Tryz.prog Zk [.agg ⟨[.pointer x_46]⟩,.int .i64 32] [.sc (.int .u64)] fun (x_47:Int) =>
   ptrW s_39 fun x_48 =>
   stoL (Addr.add x_48 3) [.int .u32 (IntKind.wrap .u32 x_47)] 0 <|
   J_45 ())
   (J_45 ()))
 <| fun s_49 =>
 ptrW s_39 fun x_50 =>
 ld (.sc (.int .u8)) (Addr.add x_50 0) fun (x_51:Int) =>
 joinW (σ:=Unit) (fun J_52 =>
  cond (x_51 == 2)
   (ld (.agg [.ptr]) o_1 fun (x_53:(Option Addr)) =>
   callP Tryz.prog Ze [.agg ⟨[.pointer x_53]⟩] [.sc (.int .u64)] fun (x_54:Int) =>
   ptrW s_39 fun x_55 =>
   ld (.sc (.int .u32)) (Addr.add x_55 3) fun (x_56:Int) =>
   joinW (σ:=Unit) (fun J_57 =>
    cond (decide (x_54 ≥ (IntKind.wrap .u64 x_56)))
     (panW (.iface 171 (.agg ⟨[]⟩)))
     (J_57 ()))
   <| fun s_58 =>
   ptrW s_39 fun x_59 =>
   ld (.sc (.int .u32)) (Addr.add x_59 3) fun (x_60:Int) =>
   ptrW s_39 fun x_61 =>
   stoL (Addr.add x_61 4) [.int .u32 (IntKind.wrap .u32 ((IntKind.wrap .u32 (x_60 - (IntKind.wrap .u32 x_54))) - 1))] 0 <|
   J_52 ())
   (J_52 ()))
 <| fun s_62 =>
 joinW (σ:=Bool) (fun J_63 =>
  ptrW s_39 fun x_64 =>
  ld (.sc (.int .u32)) (Addr.add x_64 2) fun (x_65:Int) =>
  cond ((IntKind.wrap .u64 x_65) != x_41)
   (J_63 true)
   (ptrW s_39 fun x_66 =>
   ld (.agg [.int .u8,.int .u8,.int .u32,.int .u32,.int .u32]) x_66 fun (x_67:(Int × Int × Int × Int × Int)) =>
   callW Tryz.prog Z6i [.agg ⟨[.int .u8 x_67.1,.int .u8 x_67.2.1,.int .u32 x_67.2.2.1,.int .u32 x_67.2.2.2.1,.int .u32 x_67.2.2.2.2]⟩] [.sc (.int .i64)] fun (x_68:Int) =>
    J_63 (x_68 != 0)))
 <| fun s_69 =>
 joinW (σ:=Unit) (fun J_70 =>
  cond s_69
   (panW (.iface 171 (.agg ⟨[]⟩)))
   (J_70 ()))
 <| fun s_71 =>
 ptrW s_39 fun x_72 =>
 ld (.agg [.int .u8,.int .u8,.int .u32,.int .u32,.int .u32]) x_72 fun (x_73:(Int × Int × Int × Int × Int)) =>
 stoL x_2 [.int .u8 x_73.1,.int .u8 x_73.2.1,.int .u32 x_73.2.2.1,.int .u32 x_73.2.2.2.1,.int .u32 x_73.2.2.2.2] 0 <|
 ld (.agg [.int .u8,.int .u8,.int .u32,.int .u32,.int .u32]) x_2 fun (x_74:(Int × Int × Int × Int × Int)) =>
 retW (.inl x_74)
def Z7r:Hints:={ reg:=[(1,[(3,.sc .ptr)]),(11,[(61,.sc .bool)])],con:=[(6028,[]),(10042,[]),(8035,[]),(13061,[])],dr:=[(1,([(2,15),(5,15),(9,15),(12,15)],[[(0,[]),(1,[]),(7,[]),(8,[]),(2,[8]),(3,[]),(4,[]),(5,[8]),(6,[]),(9,[]),(10,[]),(11,[]),(12,[]),(13,[]),(14,[]),(15,[]),(16,[])],[(0,[]),(1,[]),(7,[]),(8,[]),(2,[8]),(3,[]),(4,[]),(5,[8]),(6,[]),(9,[]),(10,[]),(11,[]),(15,[]),(12,[]),(13,[]),(14,[]),(16,[])],[(0,[]),(1,[]),(7,[]),(8,[]),(2,[8]),(3,[]),(4,[]),(5,[8]),(6,[]),(15,[]),(9,[]),(10,[]),(11,[]),(12,[]),(13,[]),(14,[]),(16,[])],[(0,[]),(1,[]),(7,[]),(8,[]),(2,[8]),(3,[]),(4,[]),(15,[]),(5,[8]),(6,[]),(9,[]),(10,[]),(11,[]),(12,[]),(13,[]),(14,[]),(16,[])],[(0,[]),(1,[]),(7,[]),(8,[]),(15,[]),(2,[8]),(3,[]),(4,[]),(5,[8]),(6,[]),(9,[]),(10,[]),(11,[]),(12,[]),(13,[]),(14,[]),(16,[])]]))],mp:=[106,108,109] }
set_option maxRecDepth 100000 in
theorem Ze5 (d0:(Option Addr)):denFP Tryz.prog Z7r Tryz.f68 [.agg [.int .u8,.int .u8,.int .u32,.int .u32,.int .u32]] [.agg ⟨[.pointer d0]⟩]=Z4l d0:=by kernel_rfl
theorem Zdo {R:Type} [Pan R] (d0:(Option Addr)) (K:Res [.agg [.int .u8,.int .u8,.int .u32,.int .u32,.int .u32]]→W R) (Q:R→World→Prop) (w:World) (h:Z4l d0 (kP K Q) w):callP Tryz.prog Z4o [.agg ⟨[.pointer d0]⟩] [.agg [.int .u8,.int .u8,.int .u32,.int .u32,.int .u32]] K Q w :=
 Z3g mix Tryz.func68 Z7r (ts:=[.agg [.int .u8,.int .u8,.int .u32,.int .u32,.int .u32]]) (post:=kP K Q) ⟨by kernel_rfl,trivial⟩ (by rw [Tryz.ntmps68]; simp) (by rw [Ze5]; exact h)
def Zna (e0:(Int × Sl)):W (Int) :=
 newW 57 [.int .u32 e0.1,.slice e0.2.a e0.2.n e0.2.c] fun e_1 =>
 ld (.sc (.int .u32)) (Addr.add e_1 0) fun (x_2:Int) =>
 callW Tryz.prog Zfx [.int .u32 x_2] [.sc (.int .i64)] fun (x_3:Int) =>
 joinW (σ:=Bool) (fun J_4 =>
  cond (decide (x_3 < 1))
   (J_4 true)
   (J_4 (decide (x_3 > 4194303))))
 <| fun s_5 =>
 cond s_5
  (retW 4)
  (ld (.sc .sl) (Addr.add e_1 1) fun (x_6:Sl) =>
 callW Tryz.prog Zbf [.slice x_6.a x_6.n x_6.c] [.sc (.int .i64)] fun (x_7:Int) =>
 retW x_7)
theorem Zts {R:Type} (e0:(Int × Sl)) (K:Res [.sc (.int .i64)]→W R) (Q:R→World→Prop) (w:World) (h:Zna e0 (fun r w=>K r Q w) w):callW Tryz.prog Zik [.agg ⟨[.int .u32 e0.1,.slice e0.2.a e0.2.n e0.2.c]⟩] [.sc (.int .i64)] K Q w:=den_c (K:=K) mix Tryz.func69 { reg:=[(2,[(12,.sc .bool)])] } trivial rfl (by kernel_rfl) h
def Z1l (s0:Sl):W (Bool) :=
 callW Tryz.prog Z15 [.slice s0.a s0.n s0.c,.func (.func 71) #[] #[]] [.sc (.int .i64)] fun (x_1:Int) =>
 retW (decide (x_1 ≥ 0))
theorem Z3w {R:Type} (s0:Sl) (K:Res [.sc .bool]→W R) (Q:R→World→Prop) (w:World) (h:Z1l s0 (fun r w=>K r Q w) w):callW Tryz.prog Z27 [.slice s0.a s0.n s0.c,.func (.func 71) #[] #[]] [.sc .bool] K Q w:=den_c (K:=K) mix Tryz.func70 {} trivial rfl (by kernel_rfl) h
def Zh6 (c0:(Int × Int × Int × Int)):W (Bool) :=
 newW 92 [.int .u8 c0.1,.int .i32 c0.2.1,.int .i32 c0.2.2.1,.int .i32 c0.2.2.2] fun c_1 =>
 ld (.sc (.int .u8)) (Addr.add c_1 0) fun (x_2:Int) =>
 callW Tryz.prog Zbg [.int .u8 x_2] [.sc .bool] fun (x_3:Bool) =>
 retW (!x_3)
theorem Zo7 {R:Type} (c0:(Int × Int × Int × Int)) (K:Res [.sc .bool]→W R) (Q:R→World→Prop) (w:World) (h:Zh6 c0 (fun r w=>K r Q w) w):callW Tryz.prog Zbh [.agg ⟨[.int .u8 c0.1,.int .i32 c0.2.1,.int .i32 c0.2.2.1,.int .i32 c0.2.2.2]⟩] [.sc .bool] K Q w:=den_c (K:=K) mix Tryz.func71 {} trivial rfl (by kernel_rfl) h
def Z4k (r0:(Option Addr)):W ((Sl) ⊕ List PanicEntry) :=
 newW 62 [.pointer r0] fun r_1 =>
 newW 54 [.int .u32 0] fun last_2 =>
 stoL last_2 [.int .u32 0] 0 <|
 ld (.agg [.ptr]) r_1 fun (x_3:(Option Addr)) =>
 callP Tryz.prog Ze [.agg ⟨[.pointer x_3]⟩] [.sc (.int .u64)] fun (x_4:Int) =>
 loopW (σ:=Sl × Int) (fun K_5 s_6 =>
  cond (decide (s_6.2 > 0))
   (ld (.agg [.ptr]) r_1 fun (x_7:(Option Addr)) =>
  callP Tryz.prog Z2d [.agg ⟨[.pointer x_7]⟩,.pointer (some last_2)] [.sc (.int .u32)] fun (x_8:Int) =>
  newW 57 [.int .u32 0,.slice none 0 0] fun e_9 =>
  stoL e_9 [.int .u32 x_8,.slice none 0 0] 0 <|
  drawW <|
  ld (.agg [.ptr]) r_1 fun (x_10:(Option Addr)) =>
  ld (.agg [.ptr]) r_1 fun (x_11:(Option Addr)) =>
  callP Tryz.prog Zk [.agg ⟨[.pointer x_11]⟩,.int .i64 5] [.sc (.int .u64)] fun (x_12:Int) =>
  andW (fun w=>Rd w r_1 (.agg [.ptr]) x_10) <|
  callP Tryz.prog Z2c [.agg ⟨[.pointer x_10]⟩,.int .u64 x_12] [.sc .sl] fun (x_13:Sl) =>
  stoL (Addr.add e_9 1) [.slice x_13.a x_13.n x_13.c] 0 <|
  ld (.agg [.int .u32,.sl]) e_9 fun (x_14:(Int × Sl)) =>
  newW 57 [.int .u32 x_14.1,.slice x_14.2.a x_14.2.n x_14.2.c] fun x_15 =>
  rawW Tryz.prog (Builtin.append_ #[23,23] 23 #[.slice s_6.1.a s_6.1.n s_6.1.c,.slice (some x_15) 1 1]) [.sc .sl] fun (x_16:Sl) =>
  K_5 (x_16,IntKind.wrap .u64 (s_6.2 - 1)))
   (retW (.inl s_6.1)))
  ((⟨none,0,0⟩:Sl),x_4)
def Z7q:Hints:={ lop:=[(0,[(3,.sc .sl),(5,.sc (.int .u64))])],dr:=[(7,([],[[(0,[]),(1,[]),(2,[0]),(3,[]),(4,[]),(5,[])]]))],mp:=[108,109,114,115] }
theorem Ze4 (r0:(Option Addr)):denFP Tryz.prog Z7q Tryz.f72 [.sc .sl] [.agg ⟨[.pointer r0]⟩]=Z4k r0:=by kernel_rfl
theorem Zdn {R:Type} [Pan R] (r0:(Option Addr)) (K:Res [.sc .sl]→W R) (Q:R→World→Prop) (w:World) (h:Z4k r0 (kP K Q) w):callP Tryz.prog Z4n [.agg ⟨[.pointer r0]⟩] [.sc .sl] K Q w :=
 Z3g mix Tryz.func72 Z7q (ts:=[.sc .sl]) (post:=kP K Q) trivial (by rw [Tryz.ntmps72]; simp) (by rw [Ze4]; exact h)
def Zj4 (d0:Sl) (o1:(Sl × Sl × Sl)):W (Sl × Int) :=
 newW 80 [.slice o1.1.a o1.1.n o1.1.c,.slice o1.2.1.a o1.2.1.n o1.2.1.c,.slice o1.2.2.a o1.2.2.n o1.2.2.c] fun x_1 =>
 callW Tryz.prog Z59 [.slice d0.a d0.n d0.c] [.sc (.int .i64)] fun (x_2:Int) =>
 cond (x_2 != 0)
  (retW ((⟨none,0,0⟩:Sl),x_2))
  (loopW (σ:=Sl × Int) (fun K_3 s_4 =>
  cond (decide (s_4.2 < (d0.n:Int)))
   (joinW (σ:=Sl) (fun J_5 =>
   idxW d0.a d0.n 2 s_4.2 fun x_6 =>
   ld (.agg [.int .u32,.sl]) x_6 fun (x_7:(Int × Sl)) =>
   newW 57 [.int .u32 0,.slice none 0 0] fun x_8 =>
   stoL x_8 [.int .u32 x_7.1,.slice x_7.2.a x_7.2.n x_7.2.c] 0 <|
   ld (.sc .sl) (Addr.add x_1 0) fun (x_9:Sl) =>
   ld (.sc (.int .u32)) (Addr.add x_8 0) fun (x_10:Int) =>
   callW Tryz.prog Z4s [.slice x_9.a x_9.n x_9.c,.int .u32 x_10] [.sc .bool] fun (x_11:Bool) =>
   cond x_11
    (J_5 s_4.1)
    (ld (.sc .sl) (Addr.add x_1 2) fun (x_12:Sl) =>
   callW Tryz.prog Z2h [.slice x_12.a x_12.n x_12.c,.func (.func 118) #[] #[.pointer (some x_8)]] [.sc (.int .i64)] fun (x_13:Int) =>
   joinW (σ:=Unit) (fun J_14 =>
    cond (decide (x_13 ≥ 0))
     (drawW <|
     ld (.agg [.int .u32,.sl]) x_8 fun (x_15:(Int × Sl)) =>
     ld (.sc .sl) (Addr.add x_1 2) fun (x_16:Sl) =>
     idxW x_16.a x_16.n 4 x_13 fun x_17 =>
     ld (.agg [.int .u32,.int .u8,.sl,.sl]) x_17 fun (x_18:(Int × Int × Sl × Sl)) =>
     callW Tryz.prog Zfv [.agg ⟨[.int .u32 x_15.1,.slice x_15.2.a x_15.2.n x_15.2.c]⟩,.agg ⟨[.int .u32 x_18.1,.int .u8 x_18.2.1,.slice x_18.2.2.1.a x_18.2.2.1.n x_18.2.2.1.c,.slice x_18.2.2.2.a x_18.2.2.2.n x_18.2.2.2.c]⟩] [.agg [.int .u32,.sl]] fun (x_19:(Int × Sl)) =>
     stoL x_8 [.int .u32 x_19.1,.slice x_19.2.a x_19.2.n x_19.2.c] 0 <|
     J_14 ())
     (J_14 ()))
   <| fun s_20 =>
   ld (.agg [.int .u32,.sl]) x_8 fun (x_21:(Int × Sl)) =>
   newW 57 [.int .u32 x_21.1,.slice x_21.2.a x_21.2.n x_21.2.c] fun x_22 =>
   rawW Tryz.prog (Builtin.append_ #[23,23] 23 #[.slice s_4.1.a s_4.1.n s_4.1.c,.slice (some x_22) 1 1]) [.sc .sl] fun (x_23:Sl) =>
   J_5 x_23))
  <| fun s_24 =>
  K_3 (s_24,IntKind.wrap .i64 (s_4.2+1)))
   (ld (.sc .sl) (Addr.add x_1 1) fun (x_25:Sl) =>
 rawW Tryz.prog (Builtin.append_ #[23,23] 23 #[.slice s_4.1.a s_4.1.n s_4.1.c,.slice x_25.a x_25.n x_25.c]) [.sc .sl] fun (x_26:Sl) =>
 callW Tryz.prog Z25 [.slice x_26.a x_26.n x_26.c,.func (.func 121) #[] #[]] [] fun (x_27:Unit) =>
 callW Tryz.prog Zba [.slice d0.a d0.n d0.c,.slice x_26.a x_26.n x_26.c] [.agg [.sl,.sl,.sl],.sc (.int .i64)] fun (x_28:(Sl × Sl × Sl) × Int) =>
 newW 80 [.slice none 0 0,.slice none 0 0,.slice none 0 0] fun x_29 =>
 stoL x_29 [.slice x_28.1.1.a x_28.1.1.n x_28.1.1.c,.slice x_28.1.2.1.a x_28.1.2.1.n x_28.1.2.1.c,.slice x_28.1.2.2.a x_28.1.2.2.n x_28.1.2.2.c] 0 <|
 joinW (σ:=Bool) (fun J_30 =>
  cond (x_28.2 != 0)
   (J_30 true)
   (ld (.agg [.sl,.sl,.sl]) x_29 fun (x_31:(Sl × Sl × Sl)) =>
   ld (.agg [.sl,.sl,.sl]) x_1 fun (x_32:(Sl × Sl × Sl)) =>
    callW Tryz.prog Zfu [.agg ⟨[.slice x_31.1.a x_31.1.n x_31.1.c,.slice x_31.2.1.a x_31.2.1.n x_31.2.1.c,.slice x_31.2.2.a x_31.2.2.n x_31.2.2.c]⟩,.agg ⟨[.slice x_32.1.a x_32.1.n x_32.1.c,.slice x_32.2.1.a x_32.2.1.n x_32.2.1.c,.slice x_32.2.2.a x_32.2.2.n x_32.2.2.c]⟩] [.sc .bool] fun (x_33:Bool) =>
     J_30 (!x_33)))
 <| fun s_34 =>
 cond s_34
  (retW ((⟨none,0,0⟩:Sl),4))
  (callW Tryz.prog Zfy [.slice x_26.a x_26.n x_26.c] [.sc .sl] fun (x_35:Sl) =>
 retW (x_35,0))))
  ((⟨none,0,0⟩:Sl),0))
theorem Zpi {R:Type} (d0:Sl) (o1:(Sl × Sl × Sl)) (K:Res [.sc .sl,.sc (.int .i64)]→W R) (Q:R→World→Prop) (w:World) (h:Zj4 d0 o1 (fun r w=>K r Q w) w):callW Tryz.prog Zjj [.slice d0.a d0.n d0.c,.agg ⟨[.slice o1.1.a o1.1.n o1.1.c,.slice o1.2.1.a o1.2.1.n o1.2.1.c,.slice o1.2.2.a o1.2.2.n o1.2.2.c]⟩] [.sc .sl,.sc (.int .i64)] K Q w:=den_c (K:=K) mix Tryz.func73 { reg:=[(17,[(66,.sc .bool)])],con:=[(12034,[])],blk:=[(1,[(7,.sc .sl)])],lop:=[(0,[(7,.sc .sl),(20,.sc (.int .i64))])],dr:=[(11,([],[[(0,[]),(1,[]),(2,[]),(3,[]),(4,[]),(5,[]),(6,[]),(7,[])]]))] } trivial rfl (by kernel_rfl) h
def Z40 (d0:(Option Addr)) (o1:Sl):W (((Sl × Sl × Sl)) ⊕ List PanicEntry) :=
 newW 62 [.pointer d0] fun x_1 =>
 newW 80 [.slice none 0 0,.slice none 0 0,.slice none 0 0] fun x_2 =>
 newW 80 [.slice none 0 0,.slice none 0 0,.slice none 0 0] fun x_3 =>
 newW 54 [.int .u32 0] fun x_4 =>
 stoL x_4 [.int .u32 0] 0 <|
 ld (.agg [.ptr]) x_1 fun (x_5:(Option Addr)) =>
 callP Tryz.prog Ze [.agg ⟨[.pointer x_5]⟩] [.sc (.int .u64)] fun (x_6:Int) =>
 loopW (σ:=Int) (fun K_7 s_8 =>
  cond (decide (s_8 > 0))
   (drawW <|
  ld (.sc .sl) (Addr.add x_3 0) fun (x_9:Sl) =>
  ld (.agg [.ptr]) x_1 fun (x_10:(Option Addr)) =>
  callP Tryz.prog Z2d [.agg ⟨[.pointer x_10]⟩,.pointer (some x_4)] [.sc (.int .u32)] fun (x_11:Int) =>
  andW (fun w=>Rd w (Addr.add x_3 0) (.sc .sl) x_9) <|
  newW 54 [.int .u32 x_11] fun x_12 =>
  rawW Tryz.prog (Builtin.append_ #[77,77] 77 #[.slice x_9.a x_9.n x_9.c,.slice (some x_12) 1 1]) [.sc .sl] fun (x_13:Sl) =>
  stoL (Addr.add x_3 0) [.slice x_13.a x_13.n x_13.c] 0 <|
  K_7 (IntKind.wrap .u64 (s_8 - 1)))
   (ld (.agg [.ptr]) x_1 fun (x_14:(Option Addr)) =>
 callP Tryz.prog Z4n [.agg ⟨[.pointer x_14]⟩] [.sc .sl] fun (x_15:Sl) =>
 stoL (Addr.add x_3 1) [.slice x_15.a x_15.n x_15.c] 0 <|
 stoL x_4 [.int .u32 0] 0 <|
 ld (.agg [.ptr]) x_1 fun (x_16:(Option Addr)) =>
 callP Tryz.prog Ze [.agg ⟨[.pointer x_16]⟩] [.sc (.int .u64)] fun (x_17:Int) =>
 loopW (σ:=Int) (fun K_18 s_19 =>
  cond (decide (s_19 > 0))
   (ld (.agg [.ptr]) x_1 fun (x_20:(Option Addr)) =>
  callP Tryz.prog Z2d [.agg ⟨[.pointer x_20]⟩,.pointer (some x_4)] [.sc (.int .u32)] fun (x_21:Int) =>
  newW 86 [.int .u32 0,.int .u8 0,.slice none 0 0,.slice none 0 0] fun x_22 =>
  stoL x_22 [.int .u32 x_21,.int .u8 0,.slice none 0 0,.slice none 0 0] 0 <|
  ld (.agg [.ptr]) x_1 fun (x_23:(Option Addr)) =>
  callP Tryz.prog Zk [.agg ⟨[.pointer x_23]⟩,.int .i64 5] [.sc (.int .u64)] fun (x_24:Int) =>
  stoL (Addr.add x_22 1) [.int .u8 (IntKind.wrap .u8 x_24)] 0 <|
  drawW <|
  ld (.agg [.ptr]) x_1 fun (x_25:(Option Addr)) =>
  ld (.agg [.ptr]) x_1 fun (x_26:(Option Addr)) =>
  callP Tryz.prog Zk [.agg ⟨[.pointer x_25]⟩,.int .i64 5] [.sc (.int .u64)] fun (x_27:Int) =>
  andW (fun w=>Rd w x_1 (.agg [.ptr]) x_26) <|
  callP Tryz.prog Zk [.agg ⟨[.pointer x_26]⟩,.int .i64 5] [.sc (.int .u64)] fun (x_28:Int) =>
  ld (.agg [.ptr]) x_1 fun (x_29:(Option Addr)) =>
  callP Tryz.prog Z2c [.agg ⟨[.pointer x_29]⟩,.int .u64 x_27] [.sc .sl] fun (x_30:Sl) =>
  stoL (Addr.add x_22 2) [.slice x_30.a x_30.n x_30.c] 0 <|
  callW Tryz.prog Z6j [.int .u64 x_28] [.sc .sl] fun (x_31:Sl) =>
  loopW (σ:=Int) (fun K_32 s_33 =>
   cond (decide (s_33 < (x_31.n:Int)))
    (idxW x_31.a x_31.n 1 s_33 fun x_34 =>
   ld (.sc (.int .u8)) x_34 fun (x_35:Int) =>
   ld (.sc (.int .u32)) (Addr.add x_22 0) fun (x_36:Int) =>
   callW Tryz.prog Z9v [.slice o1.a o1.n o1.c,.int .u32 x_36,.int .u8 x_35] [.agg [.int .u8,.int .i32,.int .i32,.int .i32]] fun (x_37:(Int × Int × Int × Int)) =>
   newW 92 [.int .u8 0,.int .i32 0,.int .i32 0,.int .i32 0] fun x_38 =>
   stoL x_38 [.int .u8 x_37.1,.int .i32 x_37.2.1,.int .i32 x_37.2.2.1,.int .i32 x_37.2.2.2] 0 <|
   ld (.sc (.int .u8)) (Addr.add x_38 0) fun (x_39:Int) =>
   joinW (σ:=Unit) (fun J_40 =>
    cond (x_39 != x_35)
     (panW (.iface 171 (.agg ⟨[]⟩)))
     (J_40 ()))
   <| fun s_41 =>
   drawW <|
   ld (.sc .sl) (Addr.add x_22 3) fun (x_42:Sl) =>
   ld (.sc .ptr) (Addr.add x_1 0) fun (x_43:Option Addr) =>
   ld (.agg [.int .u8,.int .i32,.int .i32,.int .i32]) x_38 fun (x_44:(Int × Int × Int × Int)) =>
   callW Tryz.prog Za5 [.pointer x_43,.agg ⟨[.int .u8 x_44.1,.int .i32 x_44.2.1,.int .i32 x_44.2.2.1,.int .i32 x_44.2.2.2]⟩] [.agg [.int .u8,.int .i32,.int .i32,.int .i32],.sc (.int .i64)] fun (x_45:(Int × Int × Int × Int) × Int) =>
   andW (fun w=>Rd w (Addr.add x_22 3) (.sc .sl) x_42) <|
   callP Tryz.prog Z3s [.agg ⟨[.int .u8 x_45.1.1,.int .i32 x_45.1.2.1,.int .i32 x_45.1.2.2.1,.int .i32 x_45.1.2.2.2]⟩,.int .i64 x_45.2] [.agg [.int .u8,.int .i32,.int .i32,.int .i32]] fun (x_46:(Int × Int × Int × Int)) =>
   andW (fun w=>Rd w (Addr.add x_22 3) (.sc .sl) x_42) <|
   newW 92 [.int .u8 x_46.1,.int .i32 x_46.2.1,.int .i32 x_46.2.2.1,.int .i32 x_46.2.2.2] fun x_47 =>
   rawW Tryz.prog (Builtin.append_ #[55,55] 55 #[.slice x_42.a x_42.n x_42.c,.slice (some x_47) 1 1]) [.sc .sl] fun (x_48:Sl) =>
   stoL (Addr.add x_22 3) [.slice x_48.a x_48.n x_48.c] 0 <|
   K_32 (IntKind.wrap .i64 (s_33+1)))
    (ld (.sc .sl) (Addr.add x_3 2) fun (x_49:Sl) =>
  ld (.agg [.int .u32,.int .u8,.sl,.sl]) x_22 fun (x_50:(Int × Int × Sl × Sl)) =>
  newW 86 [.int .u32 x_50.1,.int .u8 x_50.2.1,.slice x_50.2.2.1.a x_50.2.2.1.n x_50.2.2.1.c,.slice x_50.2.2.2.a x_50.2.2.2.n x_50.2.2.2.c] fun x_51 =>
  rawW Tryz.prog (Builtin.append_ #[78,78] 78 #[.slice x_49.a x_49.n x_49.c,.slice (some x_51) 1 1]) [.sc .sl] fun (x_52:Sl) =>
  stoL (Addr.add x_3 2) [.slice x_52.a x_52.n x_52.c] 0 <|
  K_18 (IntKind.wrap .u64 (s_19 - 1))))
   0)
   (ld (.agg [.sl,.sl,.sl]) x_3 fun (x_53:(Sl × Sl × Sl)) =>
 stoL x_2 [.slice x_53.1.a x_53.1.n x_53.1.c,.slice x_53.2.1.a x_53.2.1.n x_53.2.1.c,.slice x_53.2.2.a x_53.2.2.n x_53.2.2.c] 0 <|
 ld (.agg [.sl,.sl,.sl]) x_2 fun (x_54:(Sl × Sl × Sl)) =>
 retW (.inl x_54)))
  x_17))
  x_6
def Z6x:Hints:={ con:=[(22067,[])],lop:=[(0,[(7,.sc (.int .u64))]),(2,[(8,.sc (.int .u64))]),(4,[(55,.sc (.int .i64))])],dr:=[(6,([],[[(0,[]),(1,[]),(2,[]),(3,[1]),(4,[]),(5,[]),(6,[]),(7,[])]])),(14,([],[[(0,[]),(2,[]),(1,[2]),(3,[]),(4,[]),(5,[])]])),(22,([],[[(0,[]),(1,[]),(2,[]),(3,[]),(4,[]),(5,[1]),(6,[]),(7,[]),(8,[1]),(9,[]),(10,[]),(11,[]),(12,[])]]))],mp:=[72,108,109,114,115,126] }
set_option maxRecDepth 100000 in
theorem Zc7 (d0:(Option Addr)) (o1:Sl):denFP Tryz.prog Z6x Tryz.f74 [.agg [.sl,.sl,.sl]] [.agg ⟨[.pointer d0]⟩,.slice o1.a o1.n o1.c]=Z40 d0 o1:=by kernel_rfl
theorem Zby {R:Type} [Pan R] (d0:(Option Addr)) (o1:Sl) (K:Res [.agg [.sl,.sl,.sl]]→W R) (Q:R→World→Prop) (w:World) (h:Z40 d0 o1 (kP K Q) w):callP Tryz.prog Z73 [.agg ⟨[.pointer d0]⟩,.slice o1.a o1.n o1.c] [.agg [.sl,.sl,.sl]] K Q w :=
 Z3g mix Tryz.func74 Z6x (ts:=[.agg [.sl,.sl,.sl]]) (post:=kP K Q) ⟨by kernel_rfl,trivial⟩ (by rw [Tryz.ntmps74]; simp) (by rw [Zc7]; exact h)
def Z7g (l0:Sl) (lo1:Int) (hi2:Int):W (Int × Sl × Int) :=
 cond (decide (hi2 < lo1))
  (retW (0,l0,1))
  (callW Tryz.prog Z2k [.int .i64 lo1,.int .i64 hi2] [.sc (.int .i64)] fun (x_1:Int) =>
 callW Tryz.prog Zs [.slice l0.a l0.n l0.c,.int .i64 x_1] [.sc (.int .u64),.sc .sl,.sc (.int .i64)] fun (x_2:Int × Sl × Int) =>
 cond (x_2.2.2 != 0)
  (retW (0,l0,x_2.2.2))
  (cond (decide (x_2.1 > (IntKind.wrap .u64 ((IntKind.wrap .u64 hi2) - (IntKind.wrap .u64 lo1)))))
  (retW (0,l0,5))
  (retW (IntKind.wrap .i64 (IntKind.wrap .u64 ((IntKind.wrap .u64 lo1)+x_2.1)),x_2.2.1,0))))
theorem Zdu {R:Type} (l0:Sl) (lo1:Int) (hi2:Int) (K:Res [.sc (.int .i64),.sc .sl,.sc (.int .i64)]→W R) (Q:R→World→Prop) (w:World) (h:Z7g l0 lo1 hi2 (fun r w=>K r Q w) w):callW Tryz.prog Z18 [.slice l0.a l0.n l0.c,.int .i64 lo1,.int .i64 hi2] [.sc (.int .i64),.sc .sl,.sc (.int .i64)] K Q w:=den_c (K:=K) mix Tryz.func75 {} trivial rfl (by kernel_rfl) h
def Z6u (d0:Sl):W (Int × Sl × Int) :=
 loopW (σ:=Int) (fun K_1 s_2 =>
  cond (decide ((d0.n:Int) < (IntKind.wrap .i64 ((IntKind.wrap .i64 (5 * s_2))+5))))
   (retW (0,d0,2))
   (joinW (σ:=Bool) (fun J_3 =>
   cond ((IntKind.wrap .i64 (s_2+1)) == 16)
    (J_3 true)
    (idxW d0.a d0.n 1 (IntKind.wrap .i64 ((IntKind.wrap .i64 (5 * (IntKind.wrap .i64 (s_2 + 1)))) - 1)) fun x_4 =>
        ld (.sc .bool) x_4 fun (x_5:Bool) =>
         J_3 (!x_5)))
  <| fun s_6 =>
  cond s_6
   (idxW d0.a d0.n 1 (IntKind.wrap .i64 ((IntKind.wrap .i64 (5 * (IntKind.wrap .i64 (s_2+1)))) - 1)) fun x_7 =>
 ld (.sc .bool) x_7 fun (x_8:Bool) =>
 cond x_8
  (retW (0,d0,4))
  (loopW (σ:=Int × Int) (fun K_9 s_10 =>
  cond (decide (s_10.2 ≥ 0))
   (slcW d0.a d0.n d0.c 1 (some (IntKind.wrap .i64 (5 * s_10.2))) none fun x_11 =>
  callW Tryz.prog Zs [.slice x_11.a x_11.n x_11.c,.int .i64 4] [.sc (.int .u64),.sc .sl,.sc (.int .i64)] fun (x_12:Int × Sl × Int) =>
  K_9 (IntKind.wrap .u64 ((IntKind.wrap .u64 (16 * s_10.1))+x_12.1),IntKind.wrap .i64 (s_10.2 - 1)))
   (callW Tryz.prog Zi [.int .u64 s_10.1] [.sc .sl] fun (x_13:Sl) =>
 cond ((x_13.n:Int) != (IntKind.wrap .i64 (5 * (IntKind.wrap .i64 (s_2+1)))))
  (retW (0,d0,4))
  (drawW <|
 slcW d0.a d0.n d0.c 1 (some (IntKind.wrap .i64 (5 * (IntKind.wrap .i64 (s_2+1))))) none fun x_14 =>
 retW (s_10.1,x_14,0))))
  (0,IntKind.wrap .i64 ((IntKind.wrap .i64 (s_2+1)) - 1))))
   (K_1 (IntKind.wrap .i64 (s_2+1)))))
  0
theorem Zc4 {R:Type} (d0:Sl) (K:Res [.sc (.int .u64),.sc .sl,.sc (.int .i64)]→W R) (Q:R→World→Prop) (w:World) (h:Z6u d0 (fun r w=>K r Q w) w):callW Tryz.prog Z46 [.slice d0.a d0.n d0.c] [.sc (.int .u64),.sc .sl,.sc (.int .i64)] K Q w:=den_c (K:=K) mix Tryz.func79 { reg:=[(5,[(30,.sc .bool)])],lop:=[(0,[(5,.sc (.int .i64))]),(2,[(6,.sc (.int .u64)),(7,.sc (.int .i64))])],dr:=[(16,([],[[(0,[]),(1,[]),(2,[]),(3,[]),(4,[]),(5,[]),(6,[]),(7,[])]]))] } trivial rfl (by kernel_rfl) h
def Z9e (l0:Sl) (n1:Int):W (Int × Sl × Int) :=
 joinW (σ:=Bool) (fun J_1 =>
  cond (decide (n1 < 0))
   (J_1 true)
   (J_1 (decide (n1 > 64))))
 <| fun s_2 =>
 cond s_2
  (retW (0,l0,1))
  (cond (decide (n1 > (l0.n:Int)))
  (retW (0,l0,2))
  (loopW (σ:=Int × Int) (fun K_3 s_4 =>
  cond (decide (s_4.2 ≥ 0))
   (idxW l0.a l0.n 1 s_4.2 fun x_5 =>
  ld (.sc .bool) x_5 fun (x_6:Bool) =>
  joinW (σ:=Int) (fun J_7 =>
   cond x_6
    (J_7 (IntKind.wrap .u64 ((IntKind.wrap .u64 (s_4.1 * 2))+1)))
    (J_7 (IntKind.wrap .u64 (s_4.1 * 2))))
  <| fun s_8 =>
  K_3 (s_8,IntKind.wrap .i64 (s_4.2 - 1)))
   (drawW <|
 slcW l0.a l0.n l0.c 1 (some n1) none fun x_9 =>
 retW (s_4.1,x_9,0)))
  (0,IntKind.wrap .i64 (n1 - 1))))
theorem Zgf {R:Type} (l0:Sl) (n1:Int) (K:Res [.sc (.int .u64),.sc .sl,.sc (.int .i64)]→W R) (Q:R→World→Prop) (w:World) (h:Z9e l0 n1 (fun r w=>K r Q w) w):callW Tryz.prog Zs [.slice l0.a l0.n l0.c,.int .i64 n1] [.sc (.int .u64),.sc .sl,.sc (.int .i64)] K Q w:=den_c (K:=K) mix Tryz.func80 { reg:=[(1,[(14,.sc .bool)])],con:=[(12032,[(7,.sc (.int .u64))])],lop:=[(0,[(7,.sc (.int .u64)),(8,.sc (.int .i64))])],dr:=[(12,([],[[(0,[]),(1,[]),(2,[]),(3,[]),(4,[]),(5,[]),(6,[])]]))] } trivial rfl (by kernel_rfl) h
def Z9k (l0:Sl) (kind1:Int):W ((Int × Int × Int × Int) × Sl × Int) :=
 newW 92 [.int .u8 0,.int .i32 0,.int .i32 0,.int .i32 0] fun x_1 =>
 callW Tryz.prog Zc [.int .u8 kind1] [.sc (.int .i64)] fun (x_2:Int) =>
 cond (x_2 == 0)
  (stoL x_1 [.int .u8 0,.int .i32 0,.int .i32 0,.int .i32 0] 0 <|
  ld (.agg [.int .u8,.int .i32,.int .i32,.int .i32]) x_1 fun (x_3:(Int × Int × Int × Int)) =>
  retW (x_3,l0,1))
  (newW 92 [.int .u8 0,.int .i32 0,.int .i32 0,.int .i32 0] fun c_4 =>
 stoL c_4 [.int .u8 kind1,.int .i32 0,.int .i32 0,.int .i32 0] 0 <|
 callW Tryz.prog Zc [.int .u8 kind1] [.sc (.int .i64)] fun (x_5:Int) =>
 loopW (σ:=Sl × Int) (fun K_6 s_7 =>
  cond (decide (s_7.2 < x_5))
   (callW Tryz.prog Zp [.int .u8 kind1,.int .i64 s_7.2] [.sc (.int .i32),.sc (.int .i32),.sc (.int .i64)] fun (x_8:Int × Int × Int) =>
  callW Tryz.prog Z18 [.slice s_7.1.a s_7.1.n s_7.1.c,.int .i64 (IntKind.wrap .i64 x_8.1),.int .i64 (IntKind.wrap .i64 x_8.2.1)] [.sc (.int .i64),.sc .sl,.sc (.int .i64)] fun (x_9:Int × Sl × Int) =>
  cond (x_9.2.2 != 0)
   (stoL x_1 [.int .u8 0,.int .i32 0,.int .i32 0,.int .i32 0] 0 <|
   ld (.agg [.int .u8,.int .i32,.int .i32,.int .i32]) x_1 fun (x_10:(Int × Int × Int × Int)) =>
   retW (x_10,l0,x_9.2.2))
   (idxW (some (Addr.add c_4 1)) 3 1 s_7.2 fun x_11 =>
  stoL x_11 [.int .i32 (IntKind.wrap .i32 x_9.1)] 0 <|
  K_6 (x_9.2.1,IntKind.wrap .i64 (s_7.2+1))))
   (ld (.agg [.int .u8,.int .i32,.int .i32,.int .i32]) c_4 fun (x_12:(Int × Int × Int × Int)) =>
 stoL x_1 [.int .u8 x_12.1,.int .i32 x_12.2.1,.int .i32 x_12.2.2.1,.int .i32 x_12.2.2.2] 0 <|
 ld (.agg [.int .u8,.int .i32,.int .i32,.int .i32]) x_1 fun (x_13:(Int × Int × Int × Int)) =>
 retW (x_13,s_7.1,0)))
  (l0,0))
theorem Zgl {R:Type} (l0:Sl) (kind1:Int) (K:Res [.agg [.int .u8,.int .i32,.int .i32,.int .i32],.sc .sl,.sc (.int .i64)]→W R) (Q:R→World→Prop) (w:World) (h:Z9k l0 kind1 (fun r w=>K r Q w) w):callW Tryz.prog Z5p [.slice l0.a l0.n l0.c,.int .u8 kind1] [.agg [.int .u8,.int .i32,.int .i32,.int .i32],.sc .sl,.sc (.int .i64)] K Q w:=den_c (K:=K) mix Tryz.func81 { lop:=[(0,[(8,.sc .sl),(26,.sc (.int .i64))])] } ⟨by kernel_rfl,trivial⟩ rfl (by kernel_rfl) h
def Z9h (v0:Int):W (Int) :=
 cond ((Int.tmod v0 2) == 1)
  (retW (IntKind.wrap .i64 ((-1) - (IntKind.wrap .i64 (IntKind.wrap .u64 (Int.tdiv v0 2))))))
  (retW (IntKind.wrap .i64 (IntKind.wrap .u64 (Int.tdiv v0 2))))
theorem Zgi {R:Type} (v0:Int) (K:Res [.sc (.int .i64)]→W R) (Q:R→World→Prop) (w:World) (h:Z9h v0 (fun r w=>K r Q w) w):callW Tryz.prog Z3t [.int .u64 v0] [.sc (.int .i64)] K Q w:=den_c (K:=K) mix Tryz.func85 {} trivial rfl (by kernel_rfl) h
def Z9i (n0:Int):W (Int) :=
 cond (decide (n0 < 0))
  (retW (IntKind.wrap .u64 ((IntKind.wrap .u64 (2 * (IntKind.wrap .u64 (IntKind.wrap .i64 ((-1) - n0)))))+1)))
  (retW (IntKind.wrap .u64 (2 * (IntKind.wrap .u64 n0))))
theorem Zgj {R:Type} (n0:Int) (K:Res [.sc (.int .u64)]→W R) (Q:R→World→Prop) (w:World) (h:Z9i n0 (fun r w=>K r Q w) w):callW Tryz.prog Z3u [.int .i64 n0] [.sc (.int .u64)] K Q w:=den_c (K:=K) mix Tryz.func86 {} trivial rfl (by kernel_rfl) h
def Z8q (d0:(Sl × Sl × Sl)) (o1:(Sl × Sl × Sl)):W (Bool) :=
 newW 80 [.slice d0.1.a d0.1.n d0.1.c,.slice d0.2.1.a d0.2.1.n d0.2.1.c,.slice d0.2.2.a d0.2.2.n d0.2.2.c] fun x_1 =>
 newW 80 [.slice o1.1.a o1.1.n o1.1.c,.slice o1.2.1.a o1.2.1.n o1.2.1.c,.slice o1.2.2.a o1.2.2.n o1.2.2.c] fun x_2 =>
 joinW (σ:=Bool) (fun J_3 =>
  ld (.sc .sl) (Addr.add x_1 0) fun (x_4:Sl) =>
  ld (.sc .sl) (Addr.add x_2 0) fun (x_5:Sl) =>
  callW Tryz.prog Z55 [.slice x_4.a x_4.n x_4.c,.slice x_5.a x_5.n x_5.c] [.sc .bool] fun (x_6:Bool) =>
  cond (!x_6)
   (J_3 true)
   (ld (.sc .sl) (Addr.add x_1 1) fun (x_7:Sl) =>
    ld (.sc .sl) (Addr.add x_2 1) fun (x_8:Sl) =>
      callW Tryz.prog Z13 [.slice x_7.a x_7.n x_7.c,.slice x_8.a x_8.n x_8.c] [.sc .bool] fun (x_9:Bool) =>
       cond (!x_9)
         (J_3 true)
         (ld (.sc .sl) (Addr.add x_1 2) fun (x_10:Sl) =>
          ld (.sc .sl) (Addr.add x_2 2) fun (x_11 : Sl) =>
             J_3 ((x_10.n:Int) != (x_11.n:Int)))))
 <| fun s_12 =>
 cond s_12
  (retW false)
  (ld (.sc .sl) (Addr.add x_1 2) fun (x_13:Sl) =>
 loopW (σ:=Int) (fun K_14 s_15 =>
  cond (decide (s_15 < (x_13.n:Int)))
   (joinW (σ:=(Option Addr) × (Option Addr)) (fun J_16 =>
   drawW <|
   bothW
    (ld (.sc .sl) (Addr.add x_1 2) fun (x_17:Sl) =>
    idxW x_17.a x_17.n 4 s_15 fun x_18 =>
    ld (.agg [.int .u32,.int .u8,.sl,.sl]) x_18 fun (x_19:(Int × Int × Sl × Sl)) =>
    ld (.sc .sl) (Addr.add x_2 2) fun (x_20:Sl) =>
    idxW x_20.a x_20.n 4 s_15 fun x_21 =>
    ld (.agg [.int .u32,.int .u8,.sl,.sl]) x_21 fun (x_22:(Int × Int × Sl × Sl)) =>
    newW 86 [.int .u32 0,.int .u8 0,.slice none 0 0,.slice none 0 0] fun x_23 =>
    newW 86 [.int .u32 0,.int .u8 0,.slice none 0 0,.slice none 0 0] fun x_24 =>
    stoL x_23 [.int .u32 x_19.1,.int .u8 x_19.2.1,.slice x_19.2.2.1.a x_19.2.2.1.n x_19.2.2.1.c,.slice x_19.2.2.2.a x_19.2.2.2.n x_19.2.2.2.c] 0 <|
    andW (fun w=>Rd w x_21 (.agg [.int .u32,.int .u8,.sl,.sl]) x_22) <|
    andW (fun w=>Rd w (Addr.add x_2 2) (.sc .sl) x_20) <|
    stoL x_24 [.int .u32 x_22.1,.int .u8 x_22.2.1,.slice x_22.2.2.1.a x_22.2.2.1.n x_22.2.2.1.c,.slice x_22.2.2.2.a x_22.2.2.2.n x_22.2.2.2.c] 0 <|
    J_16 ((some x_23),(some x_24)))
    (ld (.sc .sl) (Addr.add x_1 2) fun (x_25:Sl) =>
    idxW x_25.a x_25.n 4 s_15 fun x_26 =>
    ld (.agg [.int .u32,.int .u8,.sl,.sl]) x_26 fun (x_27:(Int × Int × Sl × Sl)) =>
    ld (.sc .sl) (Addr.add x_2 2) fun (x_28:Sl) =>
    idxW x_28.a x_28.n 4 s_15 fun x_29 =>
    ld (.agg [.int .u32,.int .u8,.sl,.sl]) x_29 fun (x_30:(Int × Int × Sl × Sl)) =>
    newW 86 [.int .u32 0,.int .u8 0,.slice none 0 0,.slice none 0 0] fun x_31 =>
    newW 86 [.int .u32 0,.int .u8 0,.slice none 0 0,.slice none 0 0] fun x_32 =>
    stoL x_32 [.int .u32 x_27.1,.int .u8 x_27.2.1,.slice x_27.2.2.1.a x_27.2.2.1.n x_27.2.2.1.c,.slice x_27.2.2.2.a x_27.2.2.2.n x_27.2.2.2.c] 0 <|
    andW (fun w=>Rd w x_29 (.agg [.int .u32,.int .u8,.sl,.sl]) x_30) <|
    andW (fun w=>Rd w (Addr.add x_2 2) (.sc .sl) x_28) <|
    stoL x_31 [.int .u32 x_30.1,.int .u8 x_30.2.1,.slice x_30.2.2.1.a x_30.2.2.1.n x_30.2.2.1.c,.slice x_30.2.2.2.a x_30.2.2.2.n x_30.2.2.2.c] 0 <|
    J_16 ((some x_32),(some x_31))))
  <| fun s_33 =>
  joinW (σ:=Bool) (fun J_34 =>
   ptrW s_33.1 fun x_35 =>
   ld (.sc (.int .u32)) (Addr.add x_35 0) fun (x_36:Int) =>
   ptrW s_33.2 fun x_37 =>
   ld (.sc (.int .u32)) (Addr.add x_37 0) fun (x_38:Int) =>
   cond (x_36 != x_38)
    (J_34 true)
    (ptrW s_33.1 fun x_39 =>
    ld (.sc (.int .u8)) (Addr.add x_39 1) fun (x_40:Int) =>
     ptrW s_33.2 fun x_41 =>
      ld (.sc (.int .u8)) (Addr.add x_41 1) fun (x_42:Int) =>
       cond (x_40 != x_42)
         (J_34 true)
         (ptrW s_33.1 fun x_43 =>
         ld (.sc .sl) (Addr.add x_43 2) fun (x_44:Sl) =>
          ptrW s_33.2 fun x_45 =>
           ld (.sc .sl) (Addr.add x_45 2) fun (x_46:Sl) =>
            callW Tryz.prog Z22 [.slice x_44.a x_44.n x_44.c,.slice x_46.a x_46.n x_46.c] [.sc .bool] fun (x_47:Bool) =>
             cond (!x_47)
               (J_34 true)
               (ptrW s_33.1 fun x_48 =>
               ld (.sc .sl) (Addr.add x_48 3) fun (x_49:Sl) =>
                ptrW s_33.2 fun x_50 =>
                 ld (.sc .sl) (Addr.add x_50 3) fun (x_51:Sl) =>
                  callW Tryz.prog Z22 [.slice x_49.a x_49.n x_49.c,.slice x_51.a x_51.n x_51.c] [.sc .bool] fun (x_52:Bool) =>
                   J_34 (!x_52)))))
  <| fun s_53 =>
  cond s_53
   (retW false)
   (K_14 (IntKind.wrap .i64 (s_15+1))))
   (retW true))
  0)
set_option maxRecDepth 100000 in
theorem Zfc {R:Type} (d0:(Sl × Sl × Sl)) (o1:(Sl × Sl × Sl)) (K:Res [.sc .bool]→W R) (Q:R→World→Prop) (w:World) (h:Z8q d0 o1 (fun r w=>K r Q w) w):callW Tryz.prog Z56 [.agg ⟨[.slice d0.1.a d0.1.n d0.1.c,.slice d0.2.1.a d0.2.1.n d0.2.1.c,.slice d0.2.2.a d0.2.2.n d0.2.2.c]⟩,.agg ⟨[.slice o1.1.a o1.1.n o1.1.c,.slice o1.2.1.a o1.2.1.n o1.2.1.c,.slice o1.2.2.a o1.2.2.n o1.2.2.c]⟩] [.sc .bool] K Q w:=den_c (K:=K) mix Tryz.func89 { reg:=[(1,[(30,.sc .bool)]),(6,[(6,.sc .ptr),(7,.sc .ptr)]),(7,[(74,.sc .bool)])],lop:=[(0,[(34,.sc (.int .i64))])],dr:=[(6,([(10,11)],[[(0,[]),(1,[]),(2,[]),(3,[]),(4,[]),(5,[]),(6,[]),(7,[]),(8,[]),(9,[]),(10,[]),(11,[]),(12,[6,9]),(13,[])],[(0,[]),(1,[]),(2,[]),(3,[]),(4,[]),(5,[]),(6,[]),(7,[]),(8,[]),(9,[]),(11,[]),(10,[]),(12,[6,9]),(13,[])]]))] } trivial rfl (by kernel_rfl) h
def Zja (w0:Option Addr) (n1:Int) (lo2:Int) (hi3:Int):W (Int) :=
 cond (Option.isNone w0)
  (retW 10)
  (cond (decide (hi3 < lo2))
   (retW 1)
   (joinW (σ:=Bool) (fun J_1 =>
    cond (decide (n1 < lo2))
     (J_1 true)
     (J_1 (decide (n1 > hi3))))
   <| fun s_2 =>
   cond s_2
    (retW 5)
    (callW Tryz.prog Z72 [.int .i64 lo2,.int .i64 hi3] [.sc (.int .i64)] fun (x_3:Int) =>
 callW Tryz.prog Z1z [.pointer w0,.int .u64 (IntKind.wrap .u64 ((IntKind.wrap .u64 n1) - (IntKind.wrap .u64 lo2))),.int .i64 x_3] [.sc (.int .i64)] fun (x_4:Int) =>
 retW x_4)))
theorem Zpo {R:Type} (w0:Option Addr) (n1:Int) (lo2:Int) (hi3:Int) (K:Res [.sc (.int .i64)]→W R) (Q:R→World→Prop) (w:World) (h:Zja w0 n1 lo2 hi3 (fun r w=>K r Q w) w):callW Tryz.prog Z71 [.pointer w0,.int .i64 n1,.int .i64 lo2,.int .i64 hi3] [.sc (.int .i64)] K Q w:=den_c (K:=K) mix Tryz.func91 { reg:=[(5,[(16,.sc .bool)])] } trivial rfl (by kernel_rfl) h
def Zgx (w0:Option Addr) (v1:Int):W (Int) :=
 callW Tryz.prog Z7x [.int .u64 v1] [.sc (.int .i64)] fun (x_1:Int) =>
 cond (Option.isNone w0)
  (retW 10)
  (callW Tryz.prog Z4a [.pointer w0] [.sc (.int .i64)] fun (x_2:Int) =>
  cond (decide ((IntKind.wrap .i64 (x_2+(IntKind.wrap .i64 (x_1 * 5)))) > 1048576))
   (retW 3)
   (loopW (σ:=Int) (fun K_3 s_4 =>
  cond (decide (s_4 < x_1))
   (chkW (0≤(IntKind.wrap .i64 (4 * s_4))) <|
  joinW (σ:=Int) (fun J_5 =>
   cond (decide (s_4 < (IntKind.wrap .i64 (x_1 - 1))))
    (J_5 (bOr .u64 (bAnd .u64 (shR .u64 v1 (IntKind.wrap .i64 (4 * s_4))) 15) 16))
    (J_5 (bAnd .u64 (shR .u64 v1 (IntKind.wrap .i64 (4 * s_4))) 15)))
  <| fun s_6 =>
  callW Tryz.prog Z1z [.pointer w0,.int .u64 s_6,.int .i64 5] [.sc (.int .i64)] fun (x_7:Int) =>
  K_3 (IntKind.wrap .i64 (s_4+1)))
   (retW 0))
  0))
theorem Zny {R:Type} (w0:Option Addr) (v1:Int) (K:Res [.sc (.int .i64)]→W R) (Q:R→World→Prop) (w:World) (h:Zgx w0 v1 (fun r w=>K r Q w) w):callW Tryz.prog Z2z [.pointer w0,.int .u64 v1] [.sc (.int .i64)] K Q w:=den_c (K:=K) mix Tryz.func92 { con:=[(12032,[(7,.sc (.int .u64))])],lop:=[(1,[(21,.sc (.int .i64))])] } trivial rfl (by kernel_rfl) h
def Z6t (w0:Option Addr) (v1:Int) (n2:Int):W (Unit) :=
 ptrW w0 fun x_1 =>
 ld (.sc .ptr) (Addr.add x_1 0) fun (x_2:Option Addr) =>
 callW Tryz.prog Z1z [.pointer x_2,.int .u64 v1,.int .i64 n2] [.sc (.int .i64)] fun (x_3:Int) =>
 callW Tryz.prog Z1 [.pointer w0,.int .i64 x_3] [] fun (x_4:Unit) =>
 retW ()
theorem Zc3 {R:Type} (w0:Option Addr) (v1:Int) (n2:Int) (K:Res []→W R) (Q:R→World→Prop) (w:World) (h:Z6t w0 v1 n2 (fun r w=>K r Q w) w):callW Tryz.prog Zf [.pointer w0,.int .u64 v1,.int .i64 n2] [] K Q w:=den_c (K:=K) mix Tryz.func93 {} trivial rfl (by kernel_rfl) h
def Z6r (w0:Option Addr) (n1:Int):W (Unit) :=
 ptrW w0 fun x_1 =>
 ld (.sc .ptr) (Addr.add x_1 0) fun (x_2:Option Addr) =>
 callW Tryz.prog Z2z [.pointer x_2,.int .u64 (IntKind.wrap .u64 n1)] [.sc (.int .i64)] fun (x_3:Int) =>
 callW Tryz.prog Z1 [.pointer w0,.int .i64 x_3] [] fun (x_4:Unit) =>
 retW ()
theorem Zc1 {R:Type} (w0:Option Addr) (n1:Int) (K:Res []→W R) (Q:R→World→Prop) (w:World) (h:Z6r w0 n1 (fun r w=>K r Q w) w):callW Tryz.prog Zx [.pointer w0,.int .i64 n1] [] K Q w:=den_c (K:=K) mix Tryz.func94 {} trivial rfl (by kernel_rfl) h
def Z9d (w0:Option Addr) (last1:Option Addr) (id2:Int):W (Unit) :=
 drawW <|
 ptrW w0 fun x_1 =>
 ld (.sc .ptr) (Addr.add x_1 0) fun (x_2:Option Addr) =>
 ptrW last1 fun x_3 =>
 ld (.sc (.int .u32)) x_3 fun (x_4:Int) =>
 callW Tryz.prog Z2z [.pointer x_2,.int .u64 (IntKind.wrap .u64 (IntKind.wrap .u32 ((IntKind.wrap .u32 (id2 - x_4)) - 1)))] [.sc (.int .i64)] fun (x_5:Int) =>
 callW Tryz.prog Z1 [.pointer w0,.int .i64 x_5] [] fun (x_6:Unit) =>
 ptrW last1 fun x_7 =>
 stoL x_7 [.int .u32 id2] 0 <|
 retW ()
theorem Zge {R:Type} (w0:Option Addr) (last1:Option Addr) (id2:Int) (K:Res []→W R) (Q:R→World→Prop) (w:World) (h:Z9d w0 last1 id2 (fun r w=>K r Q w) w):callW Tryz.prog Z1q [.pointer w0,.pointer last1,.int .u32 id2] [] K Q w:=den_c (K:=K) mix Tryz.func95 { dr:=[(0,([],[[(0,[]),(1,[]),(2,[]),(3,[]),(4,[]),(5,[]),(6,[]),(7,[]),(8,[]),(9,[]),(10,[]),(11,[]),(12,[]),(13,[])]]))] } trivial rfl (by kernel_rfl) h
def Z6q (w0:Option Addr) (l1:Sl):W (Unit) :=
 loopW (σ:=Int) (fun K_1 s_2 =>
  cond (decide (s_2 < (l1.n:Int)))
   (idxW l1.a l1.n 4 s_2 fun x_3 =>
  ld (.agg [.int .u8,.int .i32,.int .i32,.int .i32]) x_3 fun (x_4:(Int × Int × Int × Int)) =>
  newW 92 [.int .u8 0,.int .i32 0,.int .i32 0,.int .i32 0] fun c_5 =>
  stoL c_5 [.int .u8 x_4.1,.int .i32 x_4.2.1,.int .i32 x_4.2.2.1,.int .i32 x_4.2.2.2] 0 <|
  drawW <|
  ptrW w0 fun x_6 =>
  ld (.sc .ptr) (Addr.add x_6 0) fun (x_7:Option Addr) =>
  ld (.agg [.int .u8,.int .i32,.int .i32,.int .i32]) c_5 fun (x_8:(Int × Int × Int × Int)) =>
  callW Tryz.prog Zii [.pointer x_7,.agg ⟨[.int .u8 x_8.1,.int .i32 x_8.2.1,.int .i32 x_8.2.2.1,.int .i32 x_8.2.2.2]⟩] [.sc (.int .i64)] fun (x_9:Int) =>
  callW Tryz.prog Z1 [.pointer w0,.int .i64 x_9] [] fun (x_10:Unit) =>
  K_1 (IntKind.wrap .i64 (s_2+1)))
   (retW ()))
  0
theorem Zc0 {R:Type} (w0:Option Addr) (l1:Sl) (K:Res []→W R) (Q:R→World→Prop) (w:World) (h:Z6q w0 l1 (fun r w=>K r Q w) w):callW Tryz.prog Z1o [.pointer w0,.slice l1.a l1.n l1.c] [] K Q w:=den_c (K:=K) mix Tryz.func97 { lop:=[(0,[(8,.sc (.int .i64))])],dr:=[(3,([],[[(0,[]),(1,[]),(2,[]),(3,[]),(4,[]),(5,[]),(6,[]),(7,[])]]))] } trivial rfl (by kernel_rfl) h
def Zgv (was0:(Int × Sl)) (now1:(Int × Sl)):W ((Int × Int × Sl × Sl)) :=
 newW 57 [.int .u32 was0.1,.slice was0.2.a was0.2.n was0.2.c] fun was_1 =>
 newW 57 [.int .u32 now1.1,.slice now1.2.a now1.2.n now1.2.c] fun now_2 =>
 newW 86 [.int .u32 0,.int .u8 0,.slice none 0 0,.slice none 0 0] fun x_3 =>
 joinW (σ:=(Option Addr)) (fun J_4 =>
  drawW <|
  bothW
   (ld (.sc (.int .u32)) (Addr.add now_2 0) fun (x_5:Int) =>
   ld (.sc .sl) (Addr.add was_1 1) fun (x_6:Sl) =>
   ld (.sc .sl) (Addr.add now_2 1) fun (x_7:Sl) =>
   callW Tryz.prog Z14 [.slice x_6.a x_6.n x_6.c] [.sc (.int .u8)] fun (x_8:Int) =>
   andW (fun w=>Rd w (Addr.add now_2 1) (.sc .sl) x_7) <|
   andW (fun w=>Rd w (Addr.add now_2 0) (.sc (.int .u32)) x_5) <|
   callW Tryz.prog Z14 [.slice x_7.a x_7.n x_7.c] [.sc (.int .u8)] fun (x_9:Int) =>
   andW (fun w=>Rd w (Addr.add now_2 0) (.sc (.int .u32)) x_5) <|
   newW 86 [.int .u32 0,.int .u8 0,.slice none 0 0,.slice none 0 0] fun d_10 =>
   stoL d_10 [.int .u32 x_5,.int .u8 (bNot .u8 x_8 x_9),.slice none 0 0,.slice none 0 0] 0 <|
   J_4 (some d_10))
   (bothW
   (ld (.sc (.int .u32)) (Addr.add now_2 0) fun (x_11:Int) =>
   ld (.sc .sl) (Addr.add was_1 1) fun (x_12:Sl) =>
   ld (.sc .sl) (Addr.add now_2 1) fun (x_13:Sl) =>
   callW Tryz.prog Z14 [.slice x_12.a x_12.n x_12.c] [.sc (.int .u8)] fun (x_14:Int) =>
   andW (fun w=>Rd w (Addr.add now_2 1) (.sc .sl) x_13) <|
   andW (fun w=>Rd w (Addr.add now_2 0) (.sc (.int .u32)) x_11) <|
   newW 86 [.int .u32 0,.int .u8 0,.slice none 0 0,.slice none 0 0] fun d_15 =>
   callW Tryz.prog Z14 [.slice x_13.a x_13.n x_13.c] [.sc (.int .u8)] fun (x_16:Int) =>
   andW (fun w=>Rd w (Addr.add now_2 0) (.sc (.int .u32)) x_11) <|
   stoL d_15 [.int .u32 x_11,.int .u8 (bNot .u8 x_14 x_16),.slice none 0 0,.slice none 0 0] 0 <|
   J_4 (some d_15))
   (ld (.sc (.int .u32)) (Addr.add now_2 0) fun (x_17:Int) =>
   ld (.sc .sl) (Addr.add was_1 1) fun (x_18:Sl) =>
   ld (.sc .sl) (Addr.add now_2 1) fun (x_19:Sl) =>
   newW 86 [.int .u32 0,.int .u8 0,.slice none 0 0,.slice none 0 0] fun d_20 =>
   callW Tryz.prog Z14 [.slice x_18.a x_18.n x_18.c] [.sc (.int .u8)] fun (x_21:Int) =>
   andW (fun w=>Rd w (Addr.add now_2 1) (.sc .sl) x_19) <|
   andW (fun w=>Rd w (Addr.add now_2 0) (.sc (.int .u32)) x_17) <|
   callW Tryz.prog Z14 [.slice x_19.a x_19.n x_19.c] [.sc (.int .u8)] fun (x_22:Int) =>
   andW (fun w=>Rd w (Addr.add now_2 0) (.sc (.int .u32)) x_17) <|
   stoL d_20 [.int .u32 x_17,.int .u8 (bNot .u8 x_21 x_22),.slice none 0 0,.slice none 0 0] 0 <|
   J_4 (some d_20))))
 <| fun s_23 =>
 ld (.sc .sl) (Addr.add now_2 1) fun (x_24:Sl) =>
 loopW (σ:=Int) (fun K_25 s_26 =>
  cond (decide (s_26 < (x_24.n:Int)))
   (idxW x_24.a x_24.n 4 s_26 fun x_27 =>
  ld (.agg [.int .u8,.int .i32,.int .i32,.int .i32]) x_27 fun (x_28:(Int × Int × Int × Int)) =>
  newW 92 [.int .u8 0,.int .i32 0,.int .i32 0,.int .i32 0] fun c_29 =>
  stoL c_29 [.int .u8 x_28.1,.int .i32 x_28.2.1,.int .i32 x_28.2.2.1,.int .i32 x_28.2.2.2] 0 <|
  ld (.sc .sl) (Addr.add was_1 1) fun (x_30:Sl) =>
  ld (.sc (.int .u8)) (Addr.add c_29 0) fun (x_31:Int) =>
  callW Tryz.prog Zbb [.slice x_30.a x_30.n x_30.c,.int .u8 x_31] [.agg [.int .u8,.int .i32,.int .i32,.int .i32],.sc .bool] fun (x_32:(Int × Int × Int × Int) × Bool) =>
  newW 92 [.int .u8 0,.int .i32 0,.int .i32 0,.int .i32 0] fun x_33 =>
  stoL x_33 [.int .u8 x_32.1.1,.int .i32 x_32.1.2.1,.int .i32 x_32.1.2.2.1,.int .i32 x_32.1.2.2.2] 0 <|
  joinW (σ:=Unit) (fun J_34 =>
   cond (!x_32.2)
    (ptrW s_23 fun x_35 =>
    ld (.sc .sl) (Addr.add x_35 2) fun (x_36:Sl) =>
    ld (.agg [.int .u8,.int .i32,.int .i32,.int .i32]) c_29 fun (x_37:(Int × Int × Int × Int)) =>
    newW 92 [.int .u8 x_37.1,.int .i32 x_37.2.1,.int .i32 x_37.2.2.1,.int .i32 x_37.2.2.2] fun x_38 =>
    rawW Tryz.prog (Builtin.append_ #[55,55] 55 #[.slice x_36.a x_36.n x_36.c,.slice (some x_38) 1 1]) [.sc .sl] fun (x_39:Sl) =>
    ptrW s_23 fun x_40 =>
    stoL (Addr.add x_40 2) [.slice x_39.a x_39.n x_39.c] 0 <|
    J_34 ())
    (ld (.agg [.int .u8,.int .i32,.int .i32,.int .i32]) x_33 fun (x_41:(Int × Int × Int × Int)) =>
    ld (.agg [.int .u8,.int .i32,.int .i32,.int .i32]) c_29 fun (x_42:(Int × Int × Int × Int)) =>
    rawQ Tryz.prog (do Go.eqGuard .neq 92 (.tmp 45) (.tmp 46) (.agg ⟨[.int .u8 x_41.1,.int .i32 x_41.2.1,.int .i32 x_41.2.2.1,.int .i32 x_41.2.2.2]⟩) (.agg ⟨[.int .u8 x_42.1,.int .i32 x_42.2.1,.int .i32 x_42.2.2.1,.int .i32 x_42.2.2.2]⟩); Go.binOp .neq 92 (.agg ⟨[.int .u8 x_41.1,.int .i32 x_41.2.1,.int .i32 x_41.2.2.1,.int .i32 x_41.2.2.2]⟩) (.agg ⟨[.int .u8 x_42.1,.int .i32 x_42.2.1,.int .i32 x_42.2.2.1,.int .i32 x_42.2.2.2]⟩)) [.sc .bool] fun (x_43:Bool) =>
    joinW (σ:=Unit) (fun J_44 =>
     cond x_43
      (ptrW s_23 fun x_45 =>
      ld (.sc .sl) (Addr.add x_45 3) fun (x_46:Sl) =>
      ld (.agg [.int .u8,.int .i32,.int .i32,.int .i32]) c_29 fun (x_47:(Int × Int × Int × Int)) =>
      newW 92 [.int .u8 x_47.1,.int .i32 x_47.2.1,.int .i32 x_47.2.2.1,.int .i32 x_47.2.2.2] fun x_48 =>
      rawW Tryz.prog (Builtin.append_ #[55,55] 55 #[.slice x_46.a x_46.n x_46.c,.slice (some x_48) 1 1]) [.sc .sl] fun (x_49:Sl) =>
      ptrW s_23 fun x_50 =>
      stoL (Addr.add x_50 3) [.slice x_49.a x_49.n x_49.c] 0 <|
      J_44 ())
      (J_44 ()))
    <| fun s_51 =>
    J_34 ()))
  <| fun s_52 =>
  K_25 (IntKind.wrap .i64 (s_26+1)))
   (ptrW s_23 fun x_53 =>
 ld (.agg [.int .u32,.int .u8,.sl,.sl]) x_53 fun (x_54:(Int × Int × Sl × Sl)) =>
 stoL x_3 [.int .u32 x_54.1,.int .u8 x_54.2.1,.slice x_54.2.2.1.a x_54.2.2.1.n x_54.2.2.1.c,.slice x_54.2.2.2.a x_54.2.2.2.n x_54.2.2.2.c] 0 <|
 ld (.agg [.int .u32,.int .u8,.sl,.sl]) x_3 fun (x_55:(Int × Int × Sl × Sl)) =>
 retW x_55))
  0
set_option maxRecDepth 100000 in
theorem Znw {R:Type} (was0:(Int × Sl)) (now1:(Int × Sl)) (K:Res [.agg [.int .u32,.int .u8,.sl,.sl]]→W R) (Q:R→World→Prop) (w:World) (h:Zgv was0 now1 (fun r w=>K r Q w) w):callW Tryz.prog Z7w [.agg ⟨[.int .u32 was0.1,.slice was0.2.a was0.2.n was0.2.c]⟩,.agg ⟨[.int .u32 now1.1,.slice now1.2.a now1.2.n now1.2.c]⟩] [.agg [.int .u32,.int .u8,.sl,.sl]] K Q w:=den_c (K:=K) mix Tryz.func99 { reg:=[(1,[(5,.sc .ptr)])],con:=[(10044,[]),(8035,[])],lop:=[(0,[(23,.sc (.int .i64))])],dr:=[(1,([(4,10),(7,10)],[[(0,[]),(1,[]),(2,[]),(3,[]),(5,[]),(6,[]),(4,[1,6]),(7,[1]),(8,[]),(9,[]),(10,[]),(11,[])],[(0,[]),(1,[]),(2,[]),(3,[]),(5,[]),(6,[]),(4,[1,6]),(10,[]),(7,[1]),(8,[]),(9,[]),(11,[])],[(0,[]),(1,[]),(2,[]),(3,[]),(5,[]),(6,[]),(10,[]),(4,[1,6]),(7,[1]),(8,[]),(9,[]),(11,[])]]))] } ⟨by kernel_rfl,trivial⟩ rfl (by kernel_rfl) h
def Zeb (d0:(Int × Int × Sl × Sl)):W (Bool) :=
 newW 86 [.int .u32 d0.1,.int .u8 d0.2.1,.slice d0.2.2.1.a d0.2.2.1.n d0.2.2.1.c,.slice d0.2.2.2.a d0.2.2.2.n d0.2.2.2.c] fun d_1 =>
 joinW (σ:=Bool) (fun J_2 =>
  ld (.sc (.int .u8)) (Addr.add d_1 1) fun (x_3:Int) =>
  cond (x_3 == 0)
   (ld (.sc .sl) (Addr.add d_1 2) fun (x_4:Sl) =>
    cond ((x_4.n : Int) == 0)
       (ld (.sc .sl) (Addr.add d_1 3) fun (x_5:Sl) =>
        J_2 ((x_5.n:Int) == 0))
       (J_2 false))
   (J_2 false))
 <| fun s_6 =>
 retW s_6
theorem Zmb {R:Type} (d0:(Int × Int × Sl × Sl)) (K:Res [.sc .bool]→W R) (Q:R→World→Prop) (w:World) (h:Zeb d0 (fun r w=>K r Q w) w):callW Tryz.prog Za8 [.agg ⟨[.int .u32 d0.1,.int .u8 d0.2.1,.slice d0.2.2.1.a d0.2.2.1.n d0.2.2.1.c,.slice d0.2.2.2.a d0.2.2.2.n d0.2.2.2.c]⟩] [.sc .bool] K Q w:=den_c (K:=K) mix Tryz.func100 { reg:=[(1,[(2,.sc .bool)])] } trivial rfl (by kernel_rfl) h
def Ze9 (w0:Option Addr) (was1:(Int × Int × Int × Int)) (c2:(Int × Int × Int × Int)):W (Int) :=
 newW 92 [.int .u8 was1.1,.int .i32 was1.2.1,.int .i32 was1.2.2.1,.int .i32 was1.2.2.2] fun was_1 =>
 newW 92 [.int .u8 c2.1,.int .i32 c2.2.1,.int .i32 c2.2.2.1,.int .i32 c2.2.2.2] fun c_2 =>
 cond (Option.isNone w0)
  (retW 10)
  (ld (.agg [.int .u8,.int .i32,.int .i32,.int .i32]) was_1 fun (x_3:(Int × Int × Int × Int)) =>
 ld (.agg [.int .u8,.int .i32,.int .i32,.int .i32]) c_2 fun (x_4:(Int × Int × Int × Int)) =>
 callW Tryz.prog Zfr [.agg ⟨[.int .u8 x_3.1,.int .i32 x_3.2.1,.int .i32 x_3.2.2.1,.int .i32 x_3.2.2.2]⟩,.agg ⟨[.int .u8 x_4.1,.int .i32 x_4.2.1,.int .i32 x_4.2.2.1,.int .i32 x_4.2.2.2]⟩] [.sc (.int .i64)] fun (x_5:Int) =>
 cond (x_5 != 0)
  (retW x_5)
  (ld (.agg [.int .u8,.int .i32,.int .i32,.int .i32]) was_1 fun (x_6:(Int × Int × Int × Int)) =>
 ld (.agg [.int .u8,.int .i32,.int .i32,.int .i32]) c_2 fun (x_7:(Int × Int × Int × Int)) =>
 callW Tryz.prog Zft [.agg ⟨[.int .u8 x_6.1,.int .i32 x_6.2.1,.int .i32 x_6.2.2.1,.int .i32 x_6.2.2.2]⟩,.agg ⟨[.int .u8 x_7.1,.int .i32 x_7.2.1,.int .i32 x_7.2.2.1,.int .i32 x_7.2.2.2]⟩] [.sc .sl] fun (x_8:Sl) =>
 callW Tryz.prog Zdf [.pointer w0,.slice x_8.a x_8.n x_8.c] [.sc (.int .i64)] fun (x_9:Int) =>
 retW x_9))
theorem Zm9 {R:Type} (w0:Option Addr) (was1:(Int × Int × Int × Int)) (c2:(Int × Int × Int × Int)) (K:Res [.sc (.int .i64)]→W R) (Q:R→World→Prop) (w:World) (h:Ze9 w0 was1 c2 (fun r w=>K r Q w) w):callW Tryz.prog Za6 [.pointer w0,.agg ⟨[.int .u8 was1.1,.int .i32 was1.2.1,.int .i32 was1.2.2.1,.int .i32 was1.2.2.2]⟩,.agg ⟨[.int .u8 c2.1,.int .i32 c2.2.1,.int .i32 c2.2.2.1,.int .i32 c2.2.2.2]⟩] [.sc (.int .i64)] K Q w:=den_c (K:=K) mix Tryz.func101 {} trivial rfl (by kernel_rfl) h
def Zjc (was0:Sl) (id1:Int) (kind2:Int):W ((Int × Int × Int × Int)) :=
 newW 92 [.int .u8 0,.int .i32 0,.int .i32 0,.int .i32 0] fun x_1 =>
 callW Tryz.prog Zfz [.slice was0.a was0.n was0.c,.int .u32 id1] [.sc (.int .i64)] fun (x_2:Int) =>
 cond (decide (x_2 < 0))
  (stoL x_1 [.int .u8 0,.int .i32 0,.int .i32 0,.int .i32 0] 0 <|
  ld (.agg [.int .u8,.int .i32,.int .i32,.int .i32]) x_1 fun (x_3:(Int × Int × Int × Int)) =>
  retW x_3)
  (idxW was0.a was0.n 2 x_2 fun x_4 =>
 ld (.sc .sl) (Addr.add x_4 1) fun (x_5:Sl) =>
 loopW (σ:=Int) (fun K_6 s_7 =>
  cond (decide (s_7 < (x_5.n:Int)))
   (idxW x_5.a x_5.n 4 s_7 fun x_8 =>
  ld (.agg [.int .u8,.int .i32,.int .i32,.int .i32]) x_8 fun (x_9:(Int × Int × Int × Int)) =>
  newW 92 [.int .u8 0,.int .i32 0,.int .i32 0,.int .i32 0] fun c_10 =>
  stoL c_10 [.int .u8 x_9.1,.int .i32 x_9.2.1,.int .i32 x_9.2.2.1,.int .i32 x_9.2.2.2] 0 <|
  ld (.sc (.int .u8)) (Addr.add c_10 0) fun (x_11:Int) =>
  cond (x_11 == kind2)
   (ld (.agg [.int .u8,.int .i32,.int .i32,.int .i32]) c_10 fun (x_12:(Int × Int × Int × Int)) =>
   stoL x_1 [.int .u8 x_12.1,.int .i32 x_12.2.1,.int .i32 x_12.2.2.1,.int .i32 x_12.2.2.2] 0 <|
   ld (.agg [.int .u8,.int .i32,.int .i32,.int .i32]) x_1 fun (x_13:(Int × Int × Int × Int)) =>
   retW x_13)
   (K_6 (IntKind.wrap .i64 (s_7+1))))
   (stoL x_1 [.int .u8 0,.int .i32 0,.int .i32 0,.int .i32 0] 0 <|
 ld (.agg [.int .u8,.int .i32,.int .i32,.int .i32]) x_1 fun (x_14:(Int × Int × Int × Int)) =>
 retW x_14))
  0)
theorem Zpq {R:Type} (was0:Sl) (id1:Int) (kind2:Int) (K:Res [.agg [.int .u8,.int .i32,.int .i32,.int .i32]]→W R) (Q:R→World→Prop) (w:World) (h:Zjc was0 id1 kind2 (fun r w=>K r Q w) w):callW Tryz.prog Z9v [.slice was0.a was0.n was0.c,.int .u32 id1,.int .u8 kind2] [.agg [.int .u8,.int .i32,.int .i32,.int .i32]] K Q w:=den_c (K:=K) mix Tryz.func102 { lop:=[(0,[(22,.sc (.int .i64))])] } ⟨by kernel_rfl,trivial⟩ rfl (by kernel_rfl) h
def Zak (n0:Int) (lo1:Int) (hi2:Int):W (Sl × Int) :=
 cond (decide (hi2 < lo1))
  (retW ((⟨none,0,0⟩:Sl),1))
  (joinW (σ:=Bool) (fun J_1 =>
  cond (decide (n0 < lo1))
   (J_1 true)
   (J_1 (decide (n0 > hi2))))
 <| fun s_2 =>
 cond s_2
  (retW ((⟨none,0,0⟩:Sl),5))
  (callW Tryz.prog Z2k [.int .i64 lo1,.int .i64 hi2] [.sc (.int .i64)] fun (x_3:Int) =>
 callW Tryz.prog Zh [.slice none 0 0,.int .u64 (IntKind.wrap .u64 ((IntKind.wrap .u64 n0) - (IntKind.wrap .u64 lo1))),.int .i64 x_3] [.sc .sl,.sc (.int .i64)] fun (x_4:Sl × Int) =>
 retW (x_4.1,0)))
theorem Zi3 {R:Type} (n0:Int) (lo1:Int) (hi2:Int) (K:Res [.sc .sl,.sc (.int .i64)]→W R) (Q:R→World→Prop) (w:World) (h:Zak n0 lo1 hi2 (fun r w=>K r Q w) w):callW Tryz.prog Z20 [.int .i64 n0,.int .i64 lo1,.int .i64 hi2] [.sc .sl,.sc (.int .i64)] K Q w:=den_c (K:=K) mix Tryz.func103 { reg:=[(3,[(20,.sc .bool)])] } trivial rfl (by kernel_rfl) h
def Z9l (c0:(Int × Int × Int × Int)):W (Sl × Int) :=
 newW 92 [.int .u8 c0.1,.int .i32 c0.2.1,.int .i32 c0.2.2.1,.int .i32 c0.2.2.2] fun c_1 =>
 ld (.agg [.int .u8,.int .i32,.int .i32,.int .i32]) c_1 fun (x_2:(Int × Int × Int × Int)) =>
 callW Tryz.prog Zo [.agg ⟨[.int .u8 x_2.1,.int .i32 x_2.2.1,.int .i32 x_2.2.2.1,.int .i32 x_2.2.2.2]⟩] [.sc (.int .i64)] fun (x_3:Int) =>
 cond (x_3 != 0)
  (retW ((⟨none,0,0⟩:Sl),x_3))
  (ld (.sc (.int .u8)) (Addr.add c_1 0) fun (x_4:Int) =>
 callW Tryz.prog Zc [.int .u8 x_4] [.sc (.int .i64)] fun (x_5:Int) =>
 loopW (σ:=Sl × Int) (fun K_6 s_7 =>
  cond (decide (s_7.2 < x_5))
   (ld (.sc (.int .u8)) (Addr.add c_1 0) fun (x_8:Int) =>
  callW Tryz.prog Zp [.int .u8 x_8,.int .i64 s_7.2] [.sc (.int .i32),.sc (.int .i32),.sc (.int .i64)] fun (x_9:Int × Int × Int) =>
  idxW (some (Addr.add c_1 1)) 3 1 s_7.2 fun x_10 =>
  ld (.sc (.int .i32)) x_10 fun (x_11:Int) =>
  callW Tryz.prog Z20 [.int .i64 (IntKind.wrap .i64 x_11),.int .i64 (IntKind.wrap .i64 x_9.1),.int .i64 (IntKind.wrap .i64 x_9.2.1)] [.sc .sl,.sc (.int .i64)] fun (x_12:Sl × Int) =>
  rawW Tryz.prog (Builtin.append_ #[70,70] 70 #[.slice s_7.1.a s_7.1.n s_7.1.c,.slice x_12.1.a x_12.1.n x_12.1.c]) [.sc .sl] fun (x_13:Sl) =>
  K_6 (x_13,IntKind.wrap .i64 (s_7.2+1)))
   (retW (s_7.1,0)))
  ((⟨none,0,0⟩:Sl),0))
theorem Zgm {R:Type} (c0:(Int × Int × Int × Int)) (K:Res [.sc .sl,.sc (.int .i64)]→W R) (Q:R→World→Prop) (w:World) (h:Z9l c0 (fun r w=>K r Q w) w):callW Tryz.prog Z5q [.agg ⟨[.int .u8 c0.1,.int .i32 c0.2.1,.int .i32 c0.2.2.1,.int .i32 c0.2.2.2]⟩] [.sc .sl,.sc (.int .i64)] K Q w:=den_c (K:=K) mix Tryz.func104 { lop:=[(0,[(5,.sc .sl),(20,.sc (.int .i64))])] } trivial rfl (by kernel_rfl) h
def Zj7 (c0:Int):W (Int) :=
 cond ((bAnd .u32 c0 1) != 0)
  (retW (bXor .u32 (shR .u32 c0 1) 3988292384))
  (retW (shR .u32 c0 1))
theorem Zpl {R:Type} (c0:Int) (K:Res [.sc (.int .u32)]→W R) (Q:R→World→Prop) (w:World) (h:Zj7 c0 (fun r w=>K r Q w) w):callW Tryz.prog Zcj [.int .u32 c0] [.sc (.int .u32)] K Q w:=den_c (K:=K) mix Tryz.func105 {} trivial rfl (by kernel_rfl) h
def Z51 (v0:Int) (e1:Int):W ((Int) ⊕ List PanicEntry) :=
 joinW (σ:=Unit) (fun J_1 =>
  cond (e1 != 0)
   (panW (.iface 171 (.agg ⟨[]⟩)))
   (J_1 ()))
 <| fun s_2 =>
 retW (.inl v0)
def Z8z:Hints:={ con:=[(3006,[])] }
theorem Zfl (v0:Int) (e1:Int):denFP Tryz.prog Z8z Tryz.f106 [.sc (.int .i64)] [.int .i64 v0,.int .i64 e1]=Z51 v0 e1:=by kernel_rfl
theorem Zev {R:Type} [Pan R] (v0:Int) (e1:Int) (K:Res [.sc (.int .i64)]→W R) (Q:R→World→Prop) (w:World) (h:Z51 v0 e1 (kP K Q) w):callP Tryz.prog Z6 [.int .i64 v0,.int .i64 e1] [.sc (.int .i64)] K Q w :=
 Z3g mix Tryz.func106 Z8z (ts:=[.sc (.int .i64)]) (post:=kP K Q) trivial (by rw [Tryz.ntmps106]; simp) (by rw [Zfl]; exact h)
def Zj9 (r0:Option Addr) (lo1:Int) (hi2:Int):W (Int × Int) :=
 newW 2 [.int .i64 lo1] fun lo_1 =>
 newW 2 [.int .i64 hi2] fun hi_2 =>
 joinW (σ:=Bool) (fun J_3 =>
  ld (.sc (.int .i64)) hi_2 fun (x_4:Int) =>
  ld (.sc (.int .i64)) lo_1 fun (x_5:Int) =>
  cond (decide (x_4 < x_5))
   (J_3 (!Option.isNone r0))
   (J_3 false))
 <| fun s_6 =>
 cond s_6
  (retW (0,1))
  (callW Tryz.prog Zbn [.pointer r0,.func (.func 141) #[] #[.pointer (some lo_1),.pointer (some hi_2)]] [.sc (.int .i64),.sc (.int .i64)] fun (x_7:Int × Int) =>
 retW (x_7.1,x_7.2))
theorem Zpn {R:Type} (r0:Option Addr) (lo1:Int) (hi2:Int) (K:Res [.sc (.int .i64),.sc (.int .i64)]→W R) (Q:R→World→Prop) (w:World) (h:Zj9 r0 lo1 hi2 (fun r w=>K r Q w) w):callW Tryz.prog Zw [.pointer r0,.int .i64 lo1,.int .i64 hi2] [.sc (.int .i64),.sc (.int .i64)] K Q w:=den_c (K:=K) mix Tryz.func107 { reg:=[(1,[(14,.sc .bool)])] } trivial rfl (by kernel_rfl) h
def Z3z (r0:(Option Addr)):W ((Int) ⊕ List PanicEntry) :=
 newW 62 [.pointer r0] fun r_1 =>
 ld (.sc .ptr) (Addr.add r_1 0) fun (x_2:Option Addr) =>
 callW Tryz.prog Zbd [.pointer x_2] [.sc (.int .u64),.sc (.int .i64)] fun (x_3:Int × Int) =>
 callP Tryz.prog Z2i [.int .u64 x_3.1,.int .i64 x_3.2] [.sc (.int .u64)] fun (x_4:Int) =>
 retW (.inl x_4)
def Z6w:Hints:={ mp:=[143] }
theorem Zc6 (r0:(Option Addr)):denFP Tryz.prog Z6w Tryz.f108 [.sc (.int .u64)] [.agg ⟨[.pointer r0]⟩]=Z3z r0:=by kernel_rfl
theorem Zbx {R:Type} [Pan R] (r0:(Option Addr)) (K:Res [.sc (.int .u64)]→W R) (Q:R→World→Prop) (w:World) (h:Z3z r0 (kP K Q) w):callP Tryz.prog Ze [.agg ⟨[.pointer r0]⟩] [.sc (.int .u64)] K Q w :=
 Z3g mix Tryz.func108 Z6w (ts:=[.sc (.int .u64)]) (post:=kP K Q) trivial (by rw [Tryz.ntmps108]; simp) (by rw [Zc6]; exact h)
def Z41 (r0:(Option Addr)) (n1:Int):W ((Int) ⊕ List PanicEntry) :=
 newW 62 [.pointer r0] fun r_1 =>
 ld (.sc .ptr) (Addr.add r_1 0) fun (x_2:Option Addr) =>
 callW Tryz.prog Zv [.pointer x_2,.int .i64 n1] [.sc (.int .u64),.sc (.int .i64)] fun (x_3:Int × Int) =>
 callP Tryz.prog Z2i [.int .u64 x_3.1,.int .i64 x_3.2] [.sc (.int .u64)] fun (x_4:Int) =>
 retW (.inl x_4)
def Z6y:Hints:={ mp:=[143] }
theorem Zc8 (r0:(Option Addr)) (n1:Int):denFP Tryz.prog Z6y Tryz.f109 [.sc (.int .u64)] [.agg ⟨[.pointer r0]⟩,.int .i64 n1]=Z41 r0 n1:=by kernel_rfl
theorem Zbz {R:Type} [Pan R] (r0:(Option Addr)) (n1:Int) (K:Res [.sc (.int .u64)]→W R) (Q:R→World→Prop) (w:World) (h:Z41 r0 n1 (kP K Q) w):callP Tryz.prog Zk [.agg ⟨[.pointer r0]⟩,.int .i64 n1] [.sc (.int .u64)] K Q w :=
 Z3g mix Tryz.func109 Z6y (ts:=[.sc (.int .u64)]) (post:=kP K Q) trivial (by rw [Tryz.ntmps109]; simp) (by rw [Zc8]; exact h)
def Z1s (s0:Sl) (f1c0:Option Addr):W (Int) :=
 loopW (σ:=Int) (fun K_1 s_2 =>
  cond (decide (s_2 < (s0.n:Int)))
   (idxW s0.a s0.n 4 s_2 fun x_3 =>
  ld (.agg [.int .u8,.int .i32,.int .i32,.int .i32]) x_3 fun (x_4:(Int × Int × Int × Int)) =>
  callW Tryz.prog Za7 [.agg ⟨[.int .u8 x_4.1,.int .i32 x_4.2.1,.int .i32 x_4.2.2.1,.int .i32 x_4.2.2.2]⟩,.pointer f1c0] [.sc .bool] fun (x_5:Bool) =>
  cond x_5
   (retW s_2)
   (K_1 (IntKind.wrap .i64 (s_2+1))))
   (retW (-1)))
  0
theorem Z4i {R:Type} (s0:Sl) (f1c0:Option Addr) (K:Res [.sc (.int .i64)]→W R) (Q:R→World→Prop) (w:World) (h:Z1s s0 f1c0 (fun r w=>K r Q w) w):callW Tryz.prog Z15 [.slice s0.a s0.n s0.c,.func (.func 165) #[] #[.pointer f1c0]] [.sc (.int .i64)] K Q w:=den_c (K:=K) mix Tryz.func112 { lop:=[(0,[(8,.sc (.int .i64))])] } trivial rfl (by kernel_rfl) h
def Z1y (s0:Sl):W (Int) :=
 loopW (σ:=Int) (fun K_1 s_2 =>
  cond (decide (s_2 < (s0.n:Int)))
   (idxW s0.a s0.n 4 s_2 fun x_3 =>
  ld (.agg [.int .u8,.int .i32,.int .i32,.int .i32]) x_3 fun (x_4:(Int × Int × Int × Int)) =>
  callW Tryz.prog Zbh [.agg ⟨[.int .u8 x_4.1,.int .i32 x_4.2.1,.int .i32 x_4.2.2.1,.int .i32 x_4.2.2.2]⟩] [.sc .bool] fun (x_5:Bool) =>
  cond x_5
   (retW s_2)
   (K_1 (IntKind.wrap .i64 (s_2+1))))
   (retW (-1)))
  0
theorem Z4u {R:Type} (s0:Sl) (K:Res [.sc (.int .i64)]→W R) (Q:R→World→Prop) (w:World) (h:Z1y s0 (fun r w=>K r Q w) w):callW Tryz.prog Z15 [.slice s0.a s0.n s0.c,.func (.func 71) #[] #[]] [.sc (.int .i64)] K Q w:=den_c (K:=K) mix Tryz.func112 { lop:=[(0,[(8,.sc (.int .i64))])] } trivial rfl (by kernel_rfl) h
def Z5h (r0:(Option Addr)) (last1:Option Addr):W ((Int) ⊕ List PanicEntry) :=
 newW 62 [.pointer r0] fun r_1 =>
 ld (.agg [.ptr]) r_1 fun (x_2:(Option Addr)) =>
 callP Tryz.prog Ze [.agg ⟨[.pointer x_2]⟩] [.sc (.int .u64)] fun (x_3:Int) =>
 joinW (σ:=Unit) (fun J_4 =>
  cond (decide (x_3 ≥ 4294967296))
   (panW (.iface 171 (.agg ⟨[]⟩)))
   (J_4 ()))
 <| fun s_5 =>
 ptrW last1 fun x_6 =>
 ld (.sc (.int .u32)) x_6 fun (x_7:Int) =>
 ptrW last1 fun x_8 =>
 stoL x_8 [.int .u32 (IntKind.wrap .u32 (x_7+(IntKind.wrap .u32 ((IntKind.wrap .u32 x_3)+1))))] 0 <|
 ptrW last1 fun x_9 =>
 ld (.sc (.int .u32)) x_9 fun (x_10:Int) =>
 retW (.inl x_10)
def Z9q:Hints:={ con:=[(4009,[])],mp:=[108] }
theorem Zgr (r0:(Option Addr)) (last1:Option Addr):denFP Tryz.prog Z9q Tryz.f114 [.sc (.int .u32)] [.agg ⟨[.pointer r0]⟩,.pointer last1]=Z5h r0 last1:=by kernel_rfl
theorem Zgd {R:Type} [Pan R] (r0:(Option Addr)) (last1:Option Addr) (K:Res [.sc (.int .u32)]→W R) (Q:R→World→Prop) (w:World) (h:Z5h r0 last1 (kP K Q) w):callP Tryz.prog Z2d [.agg ⟨[.pointer r0]⟩,.pointer last1] [.sc (.int .u32)] K Q w :=
 Z3g mix Tryz.func114 Z9q (ts:=[.sc (.int .u32)]) (post:=kP K Q) trivial (by rw [Tryz.ntmps114]; simp) (by rw [Zgr]; exact h)
def Z3y (r0:(Option Addr)) (mask1:Int):W ((Sl) ⊕ List PanicEntry) :=
 newW 62 [.pointer r0] fun r_1 =>
 callW Tryz.prog Z6j [.int .u64 mask1] [.sc .sl] fun (x_2:Sl) =>
 loopW (σ:=Sl × Int) (fun K_3 s_4 =>
  cond (decide (s_4.2 < (x_2.n:Int)))
   (idxW x_2.a x_2.n 1 s_4.2 fun x_5 =>
  ld (.sc (.int .u8)) x_5 fun (x_6:Int) =>
  ld (.sc .ptr) (Addr.add r_1 0) fun (x_7:Option Addr) =>
  callW Tryz.prog Zih [.pointer x_7,.int .u8 x_6] [.agg [.int .u8,.int .i32,.int .i32,.int .i32],.sc (.int .i64)] fun (x_8:(Int × Int × Int × Int) × Int) =>
  callP Tryz.prog Z3s [.agg ⟨[.int .u8 x_8.1.1,.int .i32 x_8.1.2.1,.int .i32 x_8.1.2.2.1,.int .i32 x_8.1.2.2.2]⟩,.int .i64 x_8.2] [.agg [.int .u8,.int .i32,.int .i32,.int .i32]] fun (x_9:(Int × Int × Int × Int)) =>
  newW 92 [.int .u8 x_9.1,.int .i32 x_9.2.1,.int .i32 x_9.2.2.1,.int .i32 x_9.2.2.2] fun x_10 =>
  rawW Tryz.prog (Builtin.append_ #[55,55] 55 #[.slice s_4.1.a s_4.1.n s_4.1.c,.slice (some x_10) 1 1]) [.sc .sl] fun (x_11:Sl) =>
  K_3 (x_11,IntKind.wrap .i64 (s_4.2+1)))
   (retW (.inl s_4.1)))
  ((⟨none,0,0⟩:Sl),0)
def Z6v:Hints:={ lop:=[(0,[(5,.sc .sl),(11,.sc (.int .i64))])],mp:=[126] }
theorem Zc5 (r0:(Option Addr)) (mask1:Int):denFP Tryz.prog Z6v Tryz.f115 [.sc .sl] [.agg ⟨[.pointer r0]⟩,.int .u64 mask1]=Z3y r0 mask1:=by kernel_rfl
theorem Zbw {R:Type} [Pan R] (r0:(Option Addr)) (mask1:Int) (K:Res [.sc .sl]→W R) (Q:R→World→Prop) (w:World) (h:Z3y r0 mask1 (kP K Q) w):callP Tryz.prog Z2c [.agg ⟨[.pointer r0]⟩,.int .u64 mask1] [.sc .sl] K Q w :=
 Z3g mix Tryz.func115 Z6v (ts:=[.sc .sl]) (post:=kP K Q) trivial (by rw [Tryz.ntmps115]; simp) (by rw [Zc5]; exact h)
def Z1k (s0:Sl) (f1c0:Option Addr):W (Int) :=
 loopW (σ:=Int) (fun K_1 s_2 =>
  cond (decide (s_2 < (s0.n:Int)))
   (idxW s0.a s0.n 4 s_2 fun x_3 =>
  ld (.agg [.int .u32,.int .u8,.sl,.sl]) x_3 fun (x_4:(Int × Int × Sl × Sl)) =>
  callW Tryz.prog Zch [.agg ⟨[.int .u32 x_4.1,.int .u8 x_4.2.1,.slice x_4.2.2.1.a x_4.2.2.1.n x_4.2.2.1.c,.slice x_4.2.2.2.a x_4.2.2.2.n x_4.2.2.2.c]⟩,.pointer f1c0] [.sc .bool] fun (x_5:Bool) =>
  cond x_5
   (retW s_2)
   (K_1 (IntKind.wrap .i64 (s_2+1))))
   (retW (-1)))
  0
theorem Z3v {R:Type} (s0:Sl) (f1c0:Option Addr) (K:Res [.sc (.int .i64)]→W R) (Q:R→World→Prop) (w:World) (h:Z1k s0 f1c0 (fun r w=>K r Q w) w):callW Tryz.prog Z2h [.slice s0.a s0.n s0.c,.func (.func 118) #[] #[.pointer f1c0]] [.sc (.int .i64)] K Q w:=den_c (K:=K) mix Tryz.func117 { lop:=[(0,[(8,.sc (.int .i64))])] } trivial rfl (by kernel_rfl) h
def Zc9 (c0:(Int × Int × Sl × Sl)) (c1:Option Addr):W (Bool) :=
 newW 86 [.int .u32 c0.1,.int .u8 c0.2.1,.slice c0.2.2.1.a c0.2.2.1.n c0.2.2.1.c,.slice c0.2.2.2.a c0.2.2.2.n c0.2.2.2.c] fun c_1 =>
 ld (.sc (.int .u32)) (Addr.add c_1 0) fun (x_2:Int) =>
 ptrW c1 fun x_3 =>
 ld (.sc (.int .u32)) (Addr.add x_3 0) fun (x_4:Int) =>
 retW (x_2 == x_4)
theorem Zkl {R:Type} (c0:(Int × Int × Sl × Sl)) (c1:Option Addr) (K:Res [.sc .bool]→W R) (Q:R→World→Prop) (w:World) (h:Zc9 c0 c1 (fun r w=>K r Q w) w):callW Tryz.prog Zch [.agg ⟨[.int .u32 c0.1,.int .u8 c0.2.1,.slice c0.2.2.1.a c0.2.2.1.n c0.2.2.1.c,.slice c0.2.2.2.a c0.2.2.2.n c0.2.2.2.c]⟩,.pointer c1] [.sc .bool] K Q w:=den_c (K:=K) mix Tryz.func118 {} trivial rfl (by kernel_rfl) h
def Zkw (e0:(Int × Sl)) (c1:(Int × Int × Sl × Sl)):W ((Int × Sl)) :=
 newW 57 [.int .u32 e0.1,.slice e0.2.a e0.2.n e0.2.c] fun e_1 =>
 newW 86 [.int .u32 c1.1,.int .u8 c1.2.1,.slice c1.2.2.1.a c1.2.2.1.n c1.2.2.1.c,.slice c1.2.2.2.a c1.2.2.2.n c1.2.2.2.c] fun c_2 =>
 newW 57 [.int .u32 0,.slice none 0 0] fun x_3 =>
 ld (.sc .sl) (Addr.add e_1 1) fun (x_4:Sl) =>
 loopW (σ:=Sl × Int) (fun K_5 s_6 =>
  cond (decide (s_6.2 < (x_4.n:Int)))
   (joinW (σ:=Sl) (fun J_7 =>
   idxW x_4.a x_4.n 4 s_6.2 fun x_8 =>
   ld (.agg [.int .u8,.int .i32,.int .i32,.int .i32]) x_8 fun (x_9:(Int × Int × Int × Int)) =>
   newW 92 [.int .u8 0,.int .i32 0,.int .i32 0,.int .i32 0] fun x_10 =>
   stoL x_10 [.int .u8 x_9.1,.int .i32 x_9.2.1,.int .i32 x_9.2.2.1,.int .i32 x_9.2.2.2] 0 <|
   joinW (σ:=Bool) (fun J_11 =>
    ld (.sc (.int .u8)) (Addr.add x_10 0) fun (x_12:Int) =>
    cond (decide (x_12 < 6))
     (ld (.sc (.int .u8)) (Addr.add c_2 1) fun (x_13:Int) =>
      ld (.sc (.int .u8)) (Addr.add x_10 0) fun (x_14:Int) =>
        chkW (0≤x_14) <|
         J_11 ((bAnd .u8 (shR .u8 x_13 x_14) 1) == 1))
     (J_11 false))
   <| fun s_15 =>
   cond s_15
    (J_7 s_6.1)
    (ld (.sc .sl) (Addr.add c_2 3) fun (x_16:Sl) =>
   ld (.sc (.int .u8)) (Addr.add x_10 0) fun (x_17:Int) =>
   callW Tryz.prog Zbb [.slice x_16.a x_16.n x_16.c,.int .u8 x_17] [.agg [.int .u8,.int .i32,.int .i32,.int .i32],.sc .bool] fun (x_18:(Int × Int × Int × Int) × Bool) =>
   newW 92 [.int .u8 0,.int .i32 0,.int .i32 0,.int .i32 0] fun y_19 =>
   stoL y_19 [.int .u8 x_18.1.1,.int .i32 x_18.1.2.1,.int .i32 x_18.1.2.2.1,.int .i32 x_18.1.2.2.2] 0 <|
   joinW (σ:=Unit) (fun J_20 =>
    cond x_18.2
     (ld (.agg [.int .u8,.int .i32,.int .i32,.int .i32]) y_19 fun (x_21:(Int × Int × Int × Int)) =>
     stoL x_10 [.int .u8 x_21.1,.int .i32 x_21.2.1,.int .i32 x_21.2.2.1,.int .i32 x_21.2.2.2] 0 <|
     J_20 ())
     (J_20 ()))
   <| fun s_22 =>
   ld (.agg [.int .u8,.int .i32,.int .i32,.int .i32]) x_10 fun (x_23:(Int × Int × Int × Int)) =>
   newW 92 [.int .u8 x_23.1,.int .i32 x_23.2.1,.int .i32 x_23.2.2.1,.int .i32 x_23.2.2.2] fun x_24 =>
   rawW Tryz.prog (Builtin.append_ #[55,55] 55 #[.slice s_6.1.a s_6.1.n s_6.1.c,.slice (some x_24) 1 1]) [.sc .sl] fun (x_25:Sl) =>
   J_7 x_25))
  <| fun s_26 =>
  K_5 (s_26,IntKind.wrap .i64 (s_6.2+1)))
   (ld (.sc .sl) (Addr.add c_2 2) fun (x_27:Sl) =>
 rawW Tryz.prog (Builtin.append_ #[55,55] 55 #[.slice s_6.1.a s_6.1.n s_6.1.c,.slice x_27.a x_27.n x_27.c]) [.sc .sl] fun (x_28:Sl) =>
 callW Tryz.prog Z1w [.slice x_28.a x_28.n x_28.c,.func (.func 150) #[] #[]] [] fun (x_29:Unit) =>
 ld (.sc (.int .u32)) (Addr.add e_1 0) fun (x_30:Int) =>
 stoL x_3 [.int .u32 x_30,.slice x_28.a x_28.n x_28.c] 0 <|
 ld (.agg [.int .u32,.sl]) x_3 fun (x_31:(Int × Sl)) =>
 retW x_31))
  ((⟨none,0,0⟩:Sl),0)
theorem Zrc {R:Type} (e0:(Int × Sl)) (c1:(Int × Int × Sl × Sl)) (K:Res [.agg [.int .u32,.sl]]→W R) (Q:R→World→Prop) (w:World) (h:Zkw e0 c1 (fun r w=>K r Q w) w):callW Tryz.prog Zfv [.agg ⟨[.int .u32 e0.1,.slice e0.2.a e0.2.n e0.2.c]⟩,.agg ⟨[.int .u32 c1.1,.int .u8 c1.2.1,.slice c1.2.2.1.a c1.2.2.1.n c1.2.2.1.c,.slice c1.2.2.2.a c1.2.2.2.n c1.2.2.2.c]⟩] [.agg [.int .u32,.sl]] K Q w:=den_c (K:=K) mix Tryz.func119 { reg:=[(5,[(28,.sc .bool)])],con:=[(9037,[])],blk:=[(1,[(5,.sc .sl)])],lop:=[(0,[(5,.sc .sl),(13,.sc (.int .i64))])] } ⟨by kernel_rfl,trivial⟩ rfl (by kernel_rfl) h
def Z1b (x0:Sl):W (Unit) :=
 callW Tryz.prog Z29 [.slice x0.a x0.n x0.c,.int .i64 (x0.n:Int),.func (.func 121) #[] #[]] [] fun (x_1:Unit) =>
 retW ()
theorem Z3d {R:Type} (x0:Sl) (K:Res []→W R) (Q:R→World→Prop) (w:World) (h:Z1b x0 (fun r w=>K r Q w) w):callW Tryz.prog Z25 [.slice x0.a x0.n x0.c,.func (.func 121) #[] #[]] [] K Q w:=den_c (K:=K) mix Tryz.func120 {} trivial rfl (by kernel_rfl) h
def Zca (a0:(Int × Sl)) (b1:(Int × Sl)):W (Int) :=
 newW 57 [.int .u32 a0.1,.slice a0.2.a a0.2.n a0.2.c] fun a_1 =>
 newW 57 [.int .u32 b1.1,.slice b1.2.a b1.2.n b1.2.c] fun b_2 =>
 ld (.sc (.int .u32)) (Addr.add a_1 0) fun (x_3:Int) =>
 ld (.sc (.int .u32)) (Addr.add b_2 0) fun (x_4:Int) =>
 callW Tryz.prog Z4y [.int .u32 x_3,.int .u32 x_4] [.sc (.int .i64)] fun (x_5:Int) =>
 retW x_5
theorem Zkm {R:Type} (a0:(Int × Sl)) (b1:(Int × Sl)) (K:Res [.sc (.int .i64)]→W R) (Q:R→World→Prop) (w:World) (h:Zca a0 b1 (fun r w=>K r Q w) w):callW Tryz.prog Z1n [.agg ⟨[.int .u32 a0.1,.slice a0.2.a a0.2.n a0.2.c]⟩,.agg ⟨[.int .u32 b1.1,.slice b1.2.a b1.2.n b1.2.c]⟩] [.sc (.int .i64)] K Q w:=den_c (K:=K) mix Tryz.func121 {} trivial rfl (by kernel_rfl) h
def Zkv (a0:(Sl × Sl × Sl)) (b1:(Sl × Sl × Sl)):W (Bool) :=
 newW 80 [.slice a0.1.a a0.1.n a0.1.c,.slice a0.2.1.a a0.2.1.n a0.2.1.c,.slice a0.2.2.a a0.2.2.n a0.2.2.c] fun a_1 =>
 newW 80 [.slice b1.1.a b1.1.n b1.1.c,.slice b1.2.1.a b1.2.1.n b1.2.1.c,.slice b1.2.2.a b1.2.2.n b1.2.2.c] fun b_2 =>
 joinW (σ:=Bool) (fun J_3 =>
  ld (.sc .sl) (Addr.add a_1 0) fun (x_4:Sl) =>
  ld (.sc .sl) (Addr.add b_2 0) fun (x_5:Sl) =>
  callW Tryz.prog Z6a [.slice x_4.a x_4.n x_4.c,.slice x_5.a x_5.n x_5.c] [.sc .bool] fun (x_6:Bool) =>
  cond x_6
   (ld (.sc .sl) (Addr.add a_1 1) fun (x_7:Sl) =>
    ld (.sc .sl) (Addr.add b_2 1) fun (x_8:Sl) =>
      callW Tryz.prog Zg0 [.slice x_7.a x_7.n x_7.c,.slice x_8.a x_8.n x_8.c] [.sc .bool] fun (x_9:Bool) =>
       cond x_9
        (ld (.sc .sl) (Addr.add a_1 2) fun (x_10:Sl) =>
         ld (.sc .sl) (Addr.add b_2 2) fun (x_11:Sl) =>
           callW Tryz.prog Z4w [.slice x_10.a x_10.n x_10.c,.slice x_11.a x_11.n x_11.c,.func (.func 157) #[] #[]] [.sc .bool] fun (x_12:Bool) =>
            J_3 x_12)
        (J_3 false))
   (J_3 false))
 <| fun s_13 =>
 retW s_13
theorem Zrb {R:Type} (a0:(Sl × Sl × Sl)) (b1:(Sl × Sl × Sl)) (K:Res [.sc .bool]→W R) (Q:R→World→Prop) (w:World) (h:Zkv a0 b1 (fun r w=>K r Q w) w):callW Tryz.prog Zfu [.agg ⟨[.slice a0.1.a a0.1.n a0.1.c,.slice a0.2.1.a a0.2.1.n a0.2.1.c,.slice a0.2.2.a a0.2.2.n a0.2.2.c]⟩,.agg ⟨[.slice b1.1.a b1.1.n b1.1.c,.slice b1.2.1.a b1.2.1.n b1.2.1.c,.slice b1.2.2.a b1.2.2.n b1.2.2.c]⟩] [.sc .bool] K Q w:=den_c (K:=K) mix Tryz.func123 { reg:=[(1,[(4,.sc .bool)])] } trivial rfl (by kernel_rfl) h
def Zl1 (l0:Sl):W (Sl) :=
 callW Tryz.prog Z5t [.slice l0.a l0.n l0.c] [.sc .sl] fun (x_1:Sl) =>
 loopW (σ:=Int) (fun K_2 s_3 =>
  cond (decide (s_3 < (x_1.n:Int)))
   (idxW x_1.a x_1.n 2 s_3 fun x_4 =>
  ld (.agg [.int .u32,.sl]) x_4 fun (x_5:(Int × Sl)) =>
  newW 57 [.int .u32 0,.slice none 0 0] fun e_6 =>
  stoL e_6 [.int .u32 x_5.1,.slice x_5.2.a x_5.2.n x_5.2.c] 0 <|
  ld (.sc .sl) (Addr.add e_6 1) fun (x_7:Sl) =>
  callW Tryz.prog Z37 [.slice x_7.a x_7.n x_7.c] [.sc .sl] fun (x_8:Sl) =>
  idxW x_1.a x_1.n 2 s_3 fun x_9 =>
  stoL (Addr.add x_9 1) [.slice x_8.a x_8.n x_8.c] 0 <|
  K_2 (IntKind.wrap .i64 (s_3+1)))
   (retW x_1))
  0
theorem Zrh {R:Type} (l0:Sl) (K:Res [.sc .sl]→W R) (Q:R→World→Prop) (w:World) (h:Zl1 l0 (fun r w=>K r Q w) w):callW Tryz.prog Zfy [.slice l0.a l0.n l0.c] [.sc .sl] K Q w:=den_c (K:=K) mix Tryz.func124 { lop:=[(0,[(10,.sc (.int .i64))])] } trivial rfl (by kernel_rfl) h
def Zef (mask0:Int):W (Sl) :=
 loopW (σ:=Sl × Int) (fun K_1 s_2 =>
  cond (decide (s_2.2 < 5))
   (chkW (0≤s_2.2) <|
  joinW (σ:=Sl) (fun J_3 =>
   cond ((bAnd .u64 (shR .u64 mask0 s_2.2) 1) == 1)
    (newW 5 [.int .u8 s_2.2] fun x_4 =>
    rawW Tryz.prog (Builtin.append_ #[22,22] 22 #[.slice s_2.1.a s_2.1.n s_2.1.c,.slice (some x_4) 1 1]) [.sc .sl] fun (x_5:Sl) =>
    J_3 x_5)
    (J_3 s_2.1))
  <| fun s_6 =>
  K_1 (s_6,IntKind.wrap .u8 (s_2.2+1)))
   (retW s_2.1))
  ((⟨none,0,0⟩:Sl),0)
theorem Zmf {R:Type} (mask0:Int) (K:Res [.sc .sl]→W R) (Q:R→World→Prop) (w:World) (h:Zef mask0 (fun r w=>K r Q w) w):callW Tryz.prog Z6j [.int .u64 mask0] [.sc .sl] K Q w:=den_c (K:=K) mix Tryz.func125 { con:=[(7012,[(3,.sc .sl)])],lop:=[(0,[(3,.sc .sl),(5,.sc (.int .u8))])] } trivial rfl (by kernel_rfl) h
def Z5g (v0:(Int × Int × Int × Int)) (e1:Int):W (((Int × Int × Int × Int)) ⊕ List PanicEntry) :=
 newW 92 [.int .u8 v0.1,.int .i32 v0.2.1,.int .i32 v0.2.2.1,.int .i32 v0.2.2.2] fun v_1 =>
 newW 92 [.int .u8 0,.int .i32 0,.int .i32 0,.int .i32 0] fun x_2 =>
 joinW (σ:=Unit) (fun J_3 =>
  cond (e1 != 0)
   (panW (.iface 171 (.agg ⟨[]⟩)))
   (J_3 ()))
 <| fun s_4 =>
 ld (.agg [.int .u8,.int .i32,.int .i32,.int .i32]) v_1 fun (x_5:(Int × Int × Int × Int)) =>
 stoL x_2 [.int .u8 x_5.1,.int .i32 x_5.2.1,.int .i32 x_5.2.2.1,.int .i32 x_5.2.2.2] 0 <|
 ld (.agg [.int .u8,.int .i32,.int .i32,.int .i32]) x_2 fun (x_6:(Int × Int × Int × Int)) =>
 retW (.inl x_6)
def Z9p:Hints:={ con:=[(3006,[])] }
theorem Zgq (v0:(Int × Int × Int × Int)) (e1:Int):denFP Tryz.prog Z9p Tryz.f126 [.agg [.int .u8,.int .i32,.int .i32,.int .i32]] [.agg ⟨[.int .u8 v0.1,.int .i32 v0.2.1,.int .i32 v0.2.2.1,.int .i32 v0.2.2.2]⟩,.int .i64 e1]=Z5g v0 e1:=by kernel_rfl
theorem Zgc {R:Type} [Pan R] (v0:(Int × Int × Int × Int)) (e1:Int) (K:Res [.agg [.int .u8,.int .i32,.int .i32,.int .i32]]→W R) (Q:R→World→Prop) (w:World) (h:Z5g v0 e1 (kP K Q) w):callP Tryz.prog Z3s [.agg ⟨[.int .u8 v0.1,.int .i32 v0.2.1,.int .i32 v0.2.2.1,.int .i32 v0.2.2.2]⟩,.int .i64 e1] [.agg [.int .u8,.int .i32,.int .i32,.int .i32]] K Q w :=
 Z3g mix Tryz.func126 Z9p (ts:=[.agg [.int .u8,.int .i32,.int .i32,.int .i32]]) (post:=kP K Q) ⟨by kernel_rfl,trivial⟩ (by rw [Tryz.ntmps126]; simp) (by rw [Zgq]; exact h)
def Ze8 (r0:Option Addr) (was1:(Int × Int × Int × Int)):W ((Int × Int × Int × Int) × Int) :=
 newW 60 [.pointer r0] fun r_1 =>
 newW 92 [.int .u8 was1.1,.int .i32 was1.2.1,.int .i32 was1.2.2.1,.int .i32 was1.2.2.2] fun was_2 =>
 newW 92 [.int .u8 0,.int .i32 0,.int .i32 0,.int .i32 0] fun x_3 =>
 ld (.sc .ptr) r_1 fun (x_4:Option Addr) =>
 cond (Option.isNone x_4)
  (stoL x_3 [.int .u8 0,.int .i32 0,.int .i32 0,.int .i32 0] 0 <|
  ld (.agg [.int .u8,.int .i32,.int .i32,.int .i32]) x_3 fun (x_5:(Int × Int × Int × Int)) =>
  retW (x_5,10))
  (ld (.agg [.int .u8,.int .i32,.int .i32,.int .i32]) was_2 fun (x_6:(Int × Int × Int × Int)) =>
 callW Tryz.prog Z2f [.agg ⟨[.int .u8 x_6.1,.int .i32 x_6.2.1,.int .i32 x_6.2.2.1,.int .i32 x_6.2.2.2]⟩] [.sc (.int .i64)] fun (x_7:Int) =>
 cond (x_7 != 0)
  (stoL x_3 [.int .u8 0,.int .i32 0,.int .i32 0,.int .i32 0] 0 <|
  ld (.agg [.int .u8,.int .i32,.int .i32,.int .i32]) x_3 fun (x_8:(Int × Int × Int × Int)) =>
  retW (x_8,x_7))
  (ld (.sc .ptr) r_1 fun (x_9:Option Addr) =>
 ld (.agg [.int .u8,.int .i32,.int .i32,.int .i32]) was_2 fun (x_10:(Int × Int × Int × Int)) =>
 callW Tryz.prog Zb9 [.pointer x_9,.agg ⟨[.int .u8 x_10.1,.int .i32 x_10.2.1,.int .i32 x_10.2.2.1,.int .i32 x_10.2.2.2]⟩,.func (.func 161) #[] #[.pointer (some r_1),.pointer (some was_2)]] [.agg [.int .u8,.int .i32,.int .i32,.int .i32],.sc (.int .i64)] fun (x_11:(Int × Int × Int × Int) × Int) =>
 stoL x_3 [.int .u8 x_11.1.1,.int .i32 x_11.1.2.1,.int .i32 x_11.1.2.2.1,.int .i32 x_11.1.2.2.2] 0 <|
 ld (.agg [.int .u8,.int .i32,.int .i32,.int .i32]) x_3 fun (x_12:(Int × Int × Int × Int)) =>
 retW (x_12,x_11.2)))
theorem Zm8 {R:Type} (r0:Option Addr) (was1:(Int × Int × Int × Int)) (K:Res [.agg [.int .u8,.int .i32,.int .i32,.int .i32],.sc (.int .i64)]→W R) (Q:R→World→Prop) (w:World) (h:Ze8 r0 was1 (fun r w=>K r Q w) w):callW Tryz.prog Za5 [.pointer r0,.agg ⟨[.int .u8 was1.1,.int .i32 was1.2.1,.int .i32 was1.2.2.1,.int .i32 was1.2.2.2]⟩] [.agg [.int .u8,.int .i32,.int .i32,.int .i32],.sc (.int .i64)] K Q w:=den_c (K:=K) mix Tryz.func127 {} ⟨by kernel_rfl,trivial⟩ rfl (by kernel_rfl) h
def Z7h (lo0:Int) (hi1:Int):W (Int) :=
 joinW (σ:=Int) (fun J_1 =>
  cond (decide (hi1 ≥ lo0))
   (loopW (σ:=Int × Int) (fun K_2 s_3 =>
    cond (decide (s_3.2 > 0))
     (K_2 (IntKind.wrap .i64 (s_3.1+1),IntKind.wrap .u64 (Int.tdiv s_3.2 2)))
     (J_1 s_3.1))
    (0,IntKind.wrap .u64 ((IntKind.wrap .u64 hi1) - (IntKind.wrap .u64 lo0))))
   (J_1 0))
 <| fun s_4 =>
 retW s_4
theorem Zdv {R:Type} (lo0:Int) (hi1:Int) (K:Res [.sc (.int .i64)]→W R) (Q:R→World→Prop) (w:World) (h:Z7h lo0 hi1 (fun r w=>K r Q w) w):callW Tryz.prog Z2k [.int .i64 lo0,.int .i64 hi1] [.sc (.int .i64)] K Q w:=den_c (K:=K) mix Tryz.func128 { con:=[(4009,[(5,.sc (.int .i64))])],lop:=[(0,[(5,.sc (.int .i64)),(6,.sc (.int .u64))])] } trivial rfl (by kernel_rfl) h
def Zai (d0:Option Addr) (o1:Int) (p2:Int):W (Int) :=
 cond (Option.isNone d0)
  (retW 10)
  (joinW (σ:=Bool) (fun J_1 =>
   cond (decide (p2 < 0))
    (J_1 true)
    (J_1 (decide (p2 > 64))))
  <| fun s_2 =>
  cond s_2
   (retW 1)
   (joinW (σ:=Bool) (fun J_3 =>
    cond (decide (p2 < 64))
     (chkW (0≤p2) <|
       J_3 ((shR .u64 o1 p2) != 0))
     (J_3 false))
   <| fun s_4 =>
   cond s_4
    (retW 5)
    (ptrW d0 fun x_5 =>
    ld (.sc (.int .i64)) (Addr.add x_5 1) fun (x_6:Int) =>
    cond (decide ((IntKind.wrap .i64 (x_6+p2)) > 1048576))
     (retW 3)
     (loopW (σ:=Int) (fun K_7 s_8 =>
  cond (decide (s_8 < p2))
   (ptrW d0 fun x_9 =>
  ld (.sc (.int .i64)) (Addr.add x_9 1) fun (x_10:Int) =>
  joinW (σ:=Unit) (fun J_11 =>
   cond ((Int.tmod x_10 8) == 0)
    (ptrW d0 fun x_12 =>
    ld (.sc .sl) (Addr.add x_12 0) fun (x_13:Sl) =>
    newW 5 [.int .u8 0] fun x_14 =>
    rawW Tryz.prog (Builtin.append_ #[22,22] 22 #[.slice x_13.a x_13.n x_13.c,.slice (some x_14) 1 1]) [.sc .sl] fun (x_15:Sl) =>
    ptrW d0 fun x_16 =>
    stoL (Addr.add x_16 0) [.slice x_15.a x_15.n x_15.c] 0 <|
    J_11 ())
    (J_11 ()))
  <| fun s_17 =>
  drawW <|
  ptrW d0 fun x_18 =>
  ld (.sc .sl) (Addr.add x_18 0) fun (x_19:Sl) =>
  ptrW d0 fun x_20 =>
  ld (.sc (.int .i64)) (Addr.add x_20 1) fun (x_21:Int) =>
  idxW x_19.a x_19.n 1 (IntKind.wrap .i64 (Int.tdiv x_21 8)) fun x_22 =>
  ld (.sc (.int .u8)) x_22 fun (x_23:Int) =>
  chkW (0≤s_8) <|
  ptrW d0 fun x_24 =>
  ld (.sc (.int .i64)) (Addr.add x_24 1) fun (x_25:Int) =>
  chkW (0≤(Int.tmod x_25 8)) <|
  idxW x_19.a x_19.n 1 (IntKind.wrap .i64 (Int.tdiv x_21 8)) fun x_26 =>
  stoL x_26 [.int .u8 (bOr .u8 x_23 (shL .u8 (IntKind.wrap .u8 (bAnd .u64 (shR .u64 o1 s_8) 1)) (Int.tmod x_25 8)))] 0 <|
  ptrW d0 fun x_27 =>
  ld (.sc (.int .i64)) (Addr.add x_27 1) fun (x_28:Int) =>
  ptrW d0 fun x_29 =>
  stoL (Addr.add x_29 1) [.int .i64 (IntKind.wrap .i64 (x_28+1))] 0 <|
  K_7 (IntKind.wrap .i64 (s_8+1)))
   (retW 0))
  0))))
theorem Zi1 {R:Type} (d0:Option Addr) (o1:Int) (p2:Int) (K:Res [.sc (.int .i64)]→W R) (Q:R→World→Prop) (w:World) (h:Zai d0 o1 p2 (fun r w=>K r Q w) w):callW Tryz.prog Z1z [.pointer d0,.int .u64 o1,.int .i64 p2] [.sc (.int .i64)] K Q w:=den_c (K:=K) mix Tryz.func130 { reg:=[(3,[(11,.sc .bool)]),(5,[(18,.sc .bool)])],con:=[(14044,[])],lop:=[(1,[(36,.sc (.int .i64))])],dr:=[(14,([],[[(0,[]),(1,[]),(2,[]),(3,[]),(4,[]),(5,[]),(6,[]),(7,[]),(8,[]),(9,[]),(10,[]),(11,[]),(12,[]),(13,[]),(14,[]),(15,[]),(16,[]),(17,[]),(18,[]),(19,[]),(20,[]),(21,[]),(22,[]),(23,[]),(24,[])]]))] } trivial rfl (by kernel_rfl) h
def Zjb (lo0:Int) (hi1:Int):W (Int) :=
 cond (decide (hi1 < lo0))
  (retW 0)
  (callW Tryz.prog Z68 [.int .u64 (IntKind.wrap .u64 ((IntKind.wrap .u64 hi1) - (IntKind.wrap .u64 lo0)))] [.sc (.int .i64)] fun (x_1:Int) =>
 retW x_1)
theorem Zpp {R:Type} (lo0:Int) (hi1:Int) (K:Res [.sc (.int .i64)]→W R) (Q:R→World→Prop) (w:World) (h:Zjb lo0 hi1 (fun r w=>K r Q w) w):callW Tryz.prog Z72 [.int .i64 lo0,.int .i64 hi1] [.sc (.int .i64)] K Q w:=den_c (K:=K) mix Tryz.func131 {} trivial rfl (by kernel_rfl) h
def Zgy (v0:Int):W (Int) :=
 callW Tryz.prog Z68 [.int .u64 v0] [.sc (.int .i64)] fun (x_1:Int) =>
 retW (if (IntKind.wrap .i64 (Int.tdiv (IntKind.wrap .i64 ((IntKind.wrap .i64 (x_1+4)) - 1)) 4)) > 1 then (IntKind.wrap .i64 (Int.tdiv (IntKind.wrap .i64 ((IntKind.wrap .i64 (x_1+4)) - 1)) 4)) else 1)
theorem Znz {R:Type} (v0:Int) (K:Res [.sc (.int .i64)]→W R) (Q:R→World→Prop) (w:World) (h:Zgy v0 (fun r w=>K r Q w) w):callW Tryz.prog Z7x [.int .u64 v0] [.sc (.int .i64)] K Q w:=den_c (K:=K) mix Tryz.func132 {} trivial rfl (by kernel_rfl) h
def Zah (w0:Option Addr):W (Int) :=
 cond (Option.isNone w0)
  (retW 0)
  (ptrW w0 fun x_1 =>
 ld (.sc (.int .i64)) (Addr.add x_1 1) fun (x_2:Int) =>
 retW x_2)
theorem Zi0 {R:Type} (w0:Option Addr) (K:Res [.sc (.int .i64)]→W R) (Q:R→World→Prop) (w:World) (h:Zah w0 (fun r w=>K r Q w) w):callW Tryz.prog Z4a [.pointer w0] [.sc (.int .i64)] K Q w:=den_c (K:=K) mix Tryz.func133 {} trivial rfl (by kernel_rfl) h
def Zn6 (w0:Option Addr) (c1:(Int × Int × Int × Int)):W (Int) :=
 newW 92 [.int .u8 c1.1,.int .i32 c1.2.1,.int .i32 c1.2.2.1,.int .i32 c1.2.2.2] fun c_1 =>
 cond (Option.isNone w0)
  (retW 10)
  (ld (.agg [.int .u8,.int .i32,.int .i32,.int .i32]) c_1 fun (x_2:(Int × Int × Int × Int)) =>
 callW Tryz.prog Z2f [.agg ⟨[.int .u8 x_2.1,.int .i32 x_2.2.1,.int .i32 x_2.2.2.1,.int .i32 x_2.2.2.2]⟩] [.sc (.int .i64)] fun (x_3:Int) =>
 cond (x_3 != 0)
  (retW x_3)
  (ld (.agg [.int .u8,.int .i32,.int .i32,.int .i32]) c_1 fun (x_4:(Int × Int × Int × Int)) =>
 callW Tryz.prog Zcg [.agg ⟨[.int .u8 x_4.1,.int .i32 x_4.2.1,.int .i32 x_4.2.2.1,.int .i32 x_4.2.2.2]⟩] [.sc .sl] fun (x_5:Sl) =>
 callW Tryz.prog Zdf [.pointer w0,.slice x_5.a x_5.n x_5.c] [.sc (.int .i64)] fun (x_6:Int) =>
 retW x_6))
theorem Zto {R:Type} (w0:Option Addr) (c1:(Int × Int × Int × Int)) (K:Res [.sc (.int .i64)]→W R) (Q:R→World→Prop) (w:World) (h:Zn6 w0 c1 (fun r w=>K r Q w) w):callW Tryz.prog Zii [.pointer w0,.agg ⟨[.int .u8 c1.1,.int .i32 c1.2.1,.int .i32 c1.2.2.1,.int .i32 c1.2.2.2]⟩] [.sc (.int .i64)] K Q w:=den_c (K:=K) mix Tryz.func134 {} trivial rfl (by kernel_rfl) h
def Zku (l0:Sl) (kind1:Int):W ((Int × Int × Int × Int) × Bool) :=
 newW 5 [.int .u8 kind1] fun kind_1 =>
 newW 92 [.int .u8 0,.int .i32 0,.int .i32 0,.int .i32 0] fun x_2 =>
 callW Tryz.prog Z15 [.slice l0.a l0.n l0.c,.func (.func 165) #[] #[.pointer (some kind_1)]] [.sc (.int .i64)] fun (x_3:Int) =>
 cond (decide (x_3 < 0))
  (stoL x_2 [.int .u8 0,.int .i32 0,.int .i32 0,.int .i32 0] 0 <|
  ld (.agg [.int .u8,.int .i32,.int .i32,.int .i32]) x_2 fun (x_4:(Int × Int × Int × Int)) =>
  retW (x_4,false))
  (idxW l0.a l0.n 4 x_3 fun x_5 =>
 ld (.agg [.int .u8,.int .i32,.int .i32,.int .i32]) x_5 fun (x_6:(Int × Int × Int × Int)) =>
 stoL x_2 [.int .u8 x_6.1,.int .i32 x_6.2.1,.int .i32 x_6.2.2.1,.int .i32 x_6.2.2.2] 0 <|
 ld (.agg [.int .u8,.int .i32,.int .i32,.int .i32]) x_2 fun (x_7:(Int × Int × Int × Int)) =>
 retW (x_7,true))
theorem Zra {R:Type} (l0:Sl) (kind1:Int) (K:Res [.agg [.int .u8,.int .i32,.int .i32,.int .i32],.sc .bool]→W R) (Q:R→World→Prop) (w:World) (h:Zku l0 kind1 (fun r w=>K r Q w) w):callW Tryz.prog Zbb [.slice l0.a l0.n l0.c,.int .u8 kind1] [.agg [.int .u8,.int .i32,.int .i32,.int .i32],.sc .bool] K Q w:=den_c (K:=K) mix Tryz.func135 {} ⟨by kernel_rfl,trivial⟩ rfl (by kernel_rfl) h
def Zkq (was0:(Int × Int × Int × Int)) (c1:(Int × Int × Int × Int)):W (Int) :=
 newW 92 [.int .u8 was0.1,.int .i32 was0.2.1,.int .i32 was0.2.2.1,.int .i32 was0.2.2.2] fun was_1 =>
 newW 92 [.int .u8 c1.1,.int .i32 c1.2.1,.int .i32 c1.2.2.1,.int .i32 c1.2.2.2] fun c_2 =>
 ld (.agg [.int .u8,.int .i32,.int .i32,.int .i32]) was_1 fun (x_3:(Int × Int × Int × Int)) =>
 callW Tryz.prog Z2f [.agg ⟨[.int .u8 x_3.1,.int .i32 x_3.2.1,.int .i32 x_3.2.2.1,.int .i32 x_3.2.2.2]⟩] [.sc (.int .i64)] fun (x_4:Int) =>
 cond (x_4 != 0)
  (retW x_4)
  (ld (.agg [.int .u8,.int .i32,.int .i32,.int .i32]) c_2 fun (x_5:(Int × Int × Int × Int)) =>
 callW Tryz.prog Z2f [.agg ⟨[.int .u8 x_5.1,.int .i32 x_5.2.1,.int .i32 x_5.2.2.1,.int .i32 x_5.2.2.2]⟩] [.sc (.int .i64)] fun (x_6:Int) =>
 cond (x_6 != 0)
  (retW x_6)
  (ld (.sc (.int .u8)) (Addr.add was_1 0) fun (x_7:Int) =>
 ld (.sc (.int .u8)) (Addr.add c_2 0) fun (x_8:Int) =>
 cond (x_7 != x_8)
  (retW 4)
  (retW 0)))
theorem Zr6 {R:Type} (was0:(Int × Int × Int × Int)) (c1:(Int × Int × Int × Int)) (K:Res [.sc (.int .i64)]→W R) (Q:R→World→Prop) (w:World) (h:Zkq was0 c1 (fun r w=>K r Q w) w):callW Tryz.prog Zfr [.agg ⟨[.int .u8 was0.1,.int .i32 was0.2.1,.int .i32 was0.2.2.1,.int .i32 was0.2.2.2]⟩,.agg ⟨[.int .u8 c1.1,.int .i32 c1.2.1,.int .i32 c1.2.2.1,.int .i32 c1.2.2.2]⟩] [.sc (.int .i64)] K Q w:=den_c (K:=K) mix Tryz.func136 {} trivial rfl (by kernel_rfl) h
def Zn7 (w0:Option Addr) (l1:Sl):W (Int) :=
 callW Tryz.prog Z4a [.pointer w0] [.sc (.int .i64)] fun (x_1:Int) =>
 callW Tryz.prog Zfs [.slice l1.a l1.n l1.c] [.sc (.int .i64)] fun (x_2:Int) =>
 cond (decide ((IntKind.wrap .i64 (x_1+x_2)) > 1048576))
  (retW 3)
  (loopW (σ:=Int) (fun K_3 s_4 =>
  cond (decide (s_4 < (l1.n:Int)))
   (idxW l1.a l1.n 2 s_4 fun x_5 =>
  ld (.agg [.int .u64,.int .i64]) x_5 fun (x_6:(Int × Int)) =>
  newW 231 [.int .u64 0,.int .i64 0] fun p_7 =>
  stoL p_7 [.int .u64 x_6.1,.int .i64 x_6.2] 0 <|
  ld (.sc (.int .u64)) (Addr.add p_7 0) fun (x_8:Int) =>
  ld (.sc (.int .i64)) (Addr.add p_7 1) fun (x_9:Int) =>
  callW Tryz.prog Z1z [.pointer w0,.int .u64 x_8,.int .i64 x_9] [.sc (.int .i64)] fun (x_10:Int) =>
  K_3 (IntKind.wrap .i64 (s_4+1)))
   (retW 0))
  0)
theorem Ztp {R:Type} (w0:Option Addr) (l1:Sl) (K:Res [.sc (.int .i64)]→W R) (Q:R→World→Prop) (w:World) (h:Zn7 w0 l1 (fun r w=>K r Q w) w):callW Tryz.prog Zdf [.pointer w0,.slice l1.a l1.n l1.c] [.sc (.int .i64)] K Q w:=den_c (K:=K) mix Tryz.func137 { lop:=[(0,[(15,.sc (.int .i64))])] } trivial rfl (by kernel_rfl) h
def Zks (was0:(Int × Int × Int × Int)) (c1:(Int × Int × Int × Int)):W (Sl) :=
 newW 92 [.int .u8 was0.1,.int .i32 was0.2.1,.int .i32 was0.2.2.1,.int .i32 was0.2.2.2] fun was_1 =>
 newW 92 [.int .u8 c1.1,.int .i32 c1.2.1,.int .i32 c1.2.2.1,.int .i32 c1.2.2.2] fun c_2 =>
 ld (.sc (.int .u8)) (Addr.add c_2 0) fun (x_3:Int) =>
 callW Tryz.prog Z2g [.int .u8 x_3] [.sc (.int .i64)] fun (x_4:Int) =>
 loopW (σ:=Sl × Int) (fun K_5 s_6 =>
  cond (decide (s_6.2 < x_4))
   (ld (.agg [.int .u8,.int .i32,.int .i32,.int .i32]) was_1 fun (x_7:(Int × Int × Int × Int)) =>
  ld (.agg [.int .u8,.int .i32,.int .i32,.int .i32]) c_2 fun (x_8:(Int × Int × Int × Int)) =>
  callW Tryz.prog Zfq [.agg ⟨[.int .u8 x_7.1,.int .i32 x_7.2.1,.int .i32 x_7.2.2.1,.int .i32 x_7.2.2.2]⟩,.agg ⟨[.int .u8 x_8.1,.int .i32 x_8.2.1,.int .i32 x_8.2.2.1,.int .i32 x_8.2.2.2]⟩,.int .i64 s_6.2] [.sc (.int .u64)] fun (x_9:Int) =>
  joinW (σ:=Sl) (fun J_10 =>
   cond (x_9 == 0)
    (newW 231 [.int .u64 0,.int .i64 1] fun x_11 =>
    rawW Tryz.prog (Builtin.append_ #[202,202] 202 #[.slice s_6.1.a s_6.1.n s_6.1.c,.slice (some x_11) 1 1]) [.sc .sl] fun (x_12:Sl) =>
    J_10 x_12)
    (joinW (σ:=Sl) (fun J_13 =>
     cond (decide (x_9≤16))
      (newW 231 [.int .u64 1,.int .i64 1,.int .u64 1,.int .i64 1,.int .u64 (IntKind.wrap .u64 (x_9 - 1)),.int .i64 4] fun x_14 =>
      rawW Tryz.prog (Builtin.append_ #[202,202] 202 #[.slice s_6.1.a s_6.1.n s_6.1.c,.slice (some x_14) 3 3]) [.sc .sl] fun (x_15:Sl) =>
      J_13 x_15)
      (ld (.agg [.int .u8,.int .i32,.int .i32,.int .i32]) c_2 fun (x_16:(Int × Int × Int × Int)) =>
      callW Tryz.prog Z9t [.agg ⟨[.int .u8 x_16.1,.int .i32 x_16.2.1,.int .i32 x_16.2.2.1,.int .i32 x_16.2.2.2]⟩,.int .i64 s_6.2] [.agg [.int .u64,.int .i64]] fun (x_17:(Int × Int)) =>
      newW 231 [.int .u64 1,.int .i64 1,.int .u64 0,.int .i64 1,.int .u64 x_17.1,.int .i64 x_17.2] fun x_18 =>
      rawW Tryz.prog (Builtin.append_ #[202,202] 202 #[.slice s_6.1.a s_6.1.n s_6.1.c,.slice (some x_18) 3 3]) [.sc .sl] fun (x_19:Sl) =>
      J_13 x_19))
    <| fun s_20 =>
    J_10 s_20))
  <| fun s_21 =>
  K_5 (s_21,IntKind.wrap .i64 (s_6.2+1)))
   (retW s_6.1))
  ((⟨none,0,0⟩:Sl),0)
theorem Zr8 {R:Type} (was0:(Int × Int × Int × Int)) (c1:(Int × Int × Int × Int)) (K:Res [.sc .sl]→W R) (Q:R→World→Prop) (w:World) (h:Zks was0 c1 (fun r w=>K r Q w) w):callW Tryz.prog Zft [.agg ⟨[.int .u8 was0.1,.int .i32 was0.2.1,.int .i32 was0.2.2.1,.int .i32 was0.2.2.2]⟩,.agg ⟨[.int .u8 c1.1,.int .i32 c1.2.1,.int .i32 c1.2.2.1,.int .i32 c1.2.2.2]⟩] [.sc .sl] K Q w:=den_c (K:=K) mix Tryz.func138 { con:=[(11033,[(5,.sc .sl)]),(9026,[(5,.sc .sl)])],lop:=[(0,[(5,.sc .sl),(11,.sc (.int .i64))])] } trivial rfl (by kernel_rfl) h
def Zl2 (l0:Sl) (id1:Int):W (Int) :=
 callW Tryz.prog Z3e [.slice l0.a l0.n l0.c,.int .u32 id1,.func (.func 171) #[] #[]] [.sc (.int .i64),.sc .bool] fun (x_1:Int × Bool) =>
 cond (!x_1.2)
  (retW (-1))
  (retW x_1.1)
theorem Zri {R:Type} (l0:Sl) (id1:Int) (K:Res [.sc (.int .i64)]→W R) (Q:R→World→Prop) (w:World) (h:Zl2 l0 id1 (fun r w=>K r Q w) w):callW Tryz.prog Zfz [.slice l0.a l0.n l0.c,.int .u32 id1] [.sc (.int .i64)] K Q w:=den_c (K:=K) mix Tryz.func139 {} trivial rfl (by kernel_rfl) h
def Z2n (r0:Option Addr) (read1c0:Option Addr) (read1c1:Option Addr):W (Int × Int) :=
 cond (Option.isNone r0)
  (retW (0,10))
  (ptrW r0 fun x_1 =>
 ld (.agg [.sl,.int .i64]) x_1 fun (x_2:(Sl × Int)) =>
 newW 173 [.slice none 0 0,.int .i64 0] fun was_3 =>
 stoL was_3 [.slice x_2.1.a x_2.1.n x_2.1.c,.int .i64 x_2.2] 0 <|
 callW Tryz.prog Zck [.pointer r0,.pointer read1c0,.pointer read1c1] [.sc (.int .i64),.sc (.int .i64)] fun (x_4:Int × Int) =>
 cond (x_4.2 != 0)
  (ld (.agg [.sl,.int .i64]) was_3 fun (x_5:(Sl × Int)) =>
  ptrW r0 fun x_6 =>
  stoL x_6 [.slice x_5.1.a x_5.1.n x_5.1.c,.int .i64 x_5.2] 0 <|
  retW (0,x_4.2))
  (retW (x_4.1,0)))
theorem Z66 {R:Type} (r0:Option Addr) (read1c0:Option Addr) (read1c1:Option Addr) (K:Res [.sc (.int .i64),.sc (.int .i64)]→W R) (Q:R→World→Prop) (w:World) (h:Z2n r0 read1c0 read1c1 (fun r w=>K r Q w) w):callW Tryz.prog Zbn [.pointer r0,.func (.func 141) #[] #[.pointer read1c0,.pointer read1c1]] [.sc (.int .i64),.sc (.int .i64)] K Q w:=den_c (K:=K) mix Tryz.func140 {} trivial rfl (by kernel_rfl) h
def Zcb (r0:Option Addr) (c1:Option Addr) (c2:Option Addr):W (Int × Int) :=
 ptrW c1 fun x_1 =>
 ld (.sc (.int .i64)) x_1 fun (x_2:Int) =>
 ptrW c2 fun x_3 =>
 ld (.sc (.int .i64)) x_3 fun (x_4:Int) =>
 callW Tryz.prog Z72 [.int .i64 x_2,.int .i64 x_4] [.sc (.int .i64)] fun (x_5:Int) =>
 callW Tryz.prog Zv [.pointer r0,.int .i64 x_5] [.sc (.int .u64),.sc (.int .i64)] fun (x_6:Int × Int) =>
 cond (x_6.2 != 0)
  (retW (0,x_6.2))
  (ptrW c2 fun x_7 =>
  ld (.sc (.int .i64)) x_7 fun (x_8:Int) =>
  ptrW c1 fun x_9 =>
  ld (.sc (.int .i64)) x_9 fun (x_10:Int) =>
  cond (decide (x_6.1 > (IntKind.wrap .u64 ((IntKind.wrap .u64 x_8) - (IntKind.wrap .u64 x_10)))))
   (retW (0,5))
   (ptrW c1 fun x_11 =>
 ld (.sc (.int .i64)) x_11 fun (x_12:Int) =>
 retW (IntKind.wrap .i64 (IntKind.wrap .u64 ((IntKind.wrap .u64 x_12)+x_6.1)),0)))
theorem Zkn {R:Type} (r0:Option Addr) (c1:Option Addr) (c2:Option Addr) (K:Res [.sc (.int .i64),.sc (.int .i64)]→W R) (Q:R→World→Prop) (w:World) (h:Zcb r0 c1 c2 (fun r w=>K r Q w) w):callW Tryz.prog Zck [.pointer r0,.pointer c1,.pointer c2] [.sc (.int .i64),.sc (.int .i64)] K Q w:=den_c (K:=K) mix Tryz.func141 {} trivial rfl (by kernel_rfl) h
def Zag (r0:Option Addr) (n1:Int):W (Int × Int) :=
 cond (Option.isNone r0)
  (retW (0,10))
  (joinW (σ:=Bool) (fun J_1 =>
   cond (decide (n1 < 0))
    (J_1 true)
    (J_1 (decide (n1 > 64))))
  <| fun s_2 =>
  cond s_2
   (retW (0,1))
   (callW Tryz.prog Z5n [.pointer r0] [.sc (.int .i64)] fun (x_3:Int) =>
   cond (decide (n1 > x_3))
    (retW (0,2))
    (loopW (σ:=Int × Int) (fun K_4 s_5 =>
  cond (decide (s_5.2 < n1))
   (drawW <|
  ptrW r0 fun x_6 =>
  ld (.sc .sl) (Addr.add x_6 0) fun (x_7:Sl) =>
  ptrW r0 fun x_8 =>
  ld (.sc (.int .i64)) (Addr.add x_8 1) fun (x_9:Int) =>
  idxW x_7.a x_7.n 1 (IntKind.wrap .i64 (Int.tdiv x_9 8)) fun x_10 =>
  ld (.sc (.int .u8)) x_10 fun (x_11:Int) =>
  ptrW r0 fun x_12 =>
  ld (.sc (.int .i64)) (Addr.add x_12 1) fun (x_13:Int) =>
  chkW (0≤(Int.tmod x_13 8)) <|
  chkW (0≤s_5.2) <|
  ptrW r0 fun x_14 =>
  ld (.sc (.int .i64)) (Addr.add x_14 1) fun (x_15:Int) =>
  ptrW r0 fun x_16 =>
  stoL (Addr.add x_16 1) [.int .i64 (IntKind.wrap .i64 (x_15+1))] 0 <|
  K_4 (bOr .u64 s_5.1 (shL .u64 (IntKind.wrap .u64 (bAnd .u8 (shR .u8 x_11 (Int.tmod x_13 8)) 1)) s_5.2),IntKind.wrap .i64 (s_5.2+1)))
   (retW (s_5.1,0)))
  (0,0))))
theorem Zhz {R:Type} (r0:Option Addr) (n1:Int) (K:Res [.sc (.int .u64),.sc (.int .i64)]→W R) (Q:R→World→Prop) (w:World) (h:Zag r0 n1 (fun r w=>K r Q w) w):callW Tryz.prog Zv [.pointer r0,.int .i64 n1] [.sc (.int .u64),.sc (.int .i64)] K Q w:=den_c (K:=K) mix Tryz.func142 { reg:=[(3,[(11,.sc .bool)])],lop:=[(1,[(6,.sc (.int .u64)),(24,.sc (.int .i64))])],dr:=[(11,([],[[(0,[]),(1,[]),(2,[]),(3,[]),(4,[]),(5,[]),(6,[]),(7,[]),(8,[]),(9,[]),(10,[]),(11,[]),(12,[]),(13,[]),(14,[]),(15,[]),(16,[]),(17,[]),(18,[]),(19,[]),(20,[]),(21,[]),(22,[]),(23,[])]]))] } trivial rfl (by kernel_rfl) h
def Z4j (v0:Int) (e1:Int):W ((Int) ⊕ List PanicEntry) :=
 joinW (σ:=Unit) (fun J_1 =>
  cond (e1 != 0)
   (panW (.iface 171 (.agg ⟨[]⟩)))
   (J_1 ()))
 <| fun s_2 =>
 retW (.inl v0)
def Z7p:Hints:={ con:=[(3006,[])] }
theorem Ze3 (v0:Int) (e1:Int):denFP Tryz.prog Z7p Tryz.f143 [.sc (.int .u64)] [.int .u64 v0,.int .i64 e1]=Z4j v0 e1:=by kernel_rfl
theorem Zdm {R:Type} [Pan R] (v0:Int) (e1:Int) (K:Res [.sc (.int .u64)]→W R) (Q:R→World→Prop) (w:World) (h:Z4j v0 e1 (kP K Q) w):callP Tryz.prog Z2i [.int .u64 v0,.int .i64 e1] [.sc (.int .u64)] K Q w :=
 Z3g mix Tryz.func143 Z7p (ts:=[.sc (.int .u64)]) (post:=kP K Q) trivial (by rw [Tryz.ntmps143]; simp) (by rw [Ze3]; exact h)
def Zgw (r0:Option Addr):W (Int × Int) :=
 callW Tryz.prog Zas [.pointer r0,.func (.func 174) #[] #[]] [.sc (.int .u64),.sc (.int .i64)] fun (x_1:Int × Int) =>
 retW (x_1.1,x_1.2)
theorem Znx {R:Type} (r0:Option Addr) (K:Res [.sc (.int .u64),.sc (.int .i64)]→W R) (Q:R→World→Prop) (w:World) (h:Zgw r0 (fun r w=>K r Q w) w):callW Tryz.prog Zbd [.pointer r0] [.sc (.int .u64),.sc (.int .i64)] K Q w:=den_c (K:=K) mix Tryz.func144 {} trivial rfl (by kernel_rfl) h
def Zn5 (r0:Option Addr) (kind1:Int):W ((Int × Int × Int × Int) × Int) :=
 newW 60 [.pointer r0] fun r_1 =>
 newW 5 [.int .u8 kind1] fun kind_2 =>
 newW 92 [.int .u8 0,.int .i32 0,.int .i32 0,.int .i32 0] fun x_3 =>
 ld (.sc .ptr) r_1 fun (x_4:Option Addr) =>
 cond (Option.isNone x_4)
  (stoL x_3 [.int .u8 0,.int .i32 0,.int .i32 0,.int .i32 0] 0 <|
  ld (.agg [.int .u8,.int .i32,.int .i32,.int .i32]) x_3 fun (x_5:(Int × Int × Int × Int)) =>
  retW (x_5,10))
  (ld (.sc (.int .u8)) kind_2 fun (x_6:Int) =>
  callW Tryz.prog Z2g [.int .u8 x_6] [.sc (.int .i64)] fun (x_7:Int) =>
  cond (x_7 == 0)
   (stoL x_3 [.int .u8 0,.int .i32 0,.int .i32 0,.int .i32 0] 0 <|
   ld (.agg [.int .u8,.int .i32,.int .i32,.int .i32]) x_3 fun (x_8:(Int × Int × Int × Int)) =>
   retW (x_8,1))
   (ld (.sc .ptr) r_1 fun (x_9:Option Addr) =>
 ld (.sc (.int .u8)) kind_2 fun (x_10:Int) =>
 callW Tryz.prog Zb9 [.pointer x_9,.agg ⟨[.int .u8 x_10,.int .i32 0,.int .i32 0,.int .i32 0]⟩,.func (.func 175) #[] #[.pointer (some r_1),.pointer (some kind_2)]] [.agg [.int .u8,.int .i32,.int .i32,.int .i32],.sc (.int .i64)] fun (x_11:(Int × Int × Int × Int) × Int) =>
 stoL x_3 [.int .u8 x_11.1.1,.int .i32 x_11.1.2.1,.int .i32 x_11.1.2.2.1,.int .i32 x_11.1.2.2.2] 0 <|
 ld (.agg [.int .u8,.int .i32,.int .i32,.int .i32]) x_3 fun (x_12:(Int × Int × Int × Int)) =>
 retW (x_12,x_11.2)))
theorem Ztn {R:Type} (r0:Option Addr) (kind1:Int) (K:Res [.agg [.int .u8,.int .i32,.int .i32,.int .i32],.sc (.int .i64)]→W R) (Q:R→World→Prop) (w:World) (h:Zn5 r0 kind1 (fun r w=>K r Q w) w):callW Tryz.prog Zih [.pointer r0,.int .u8 kind1] [.agg [.int .u8,.int .i32,.int .i32,.int .i32],.sc (.int .i64)] K Q w:=den_c (K:=K) mix Tryz.func147 {} ⟨by kernel_rfl,trivial⟩ rfl (by kernel_rfl) h
def Z1a (x0:Sl):W (Unit) :=
 callW Tryz.prog Z47 [.slice x0.a x0.n x0.c,.int .i64 (x0.n:Int),.func (.func 150) #[] #[]] [] fun (x_1:Unit) =>
 retW ()
theorem Z3c {R:Type} (x0:Sl) (K:Res []→W R) (Q:R→World→Prop) (w:World) (h:Z1a x0 (fun r w=>K r Q w) w):callW Tryz.prog Z1w [.slice x0.a x0.n x0.c,.func (.func 150) #[] #[]] [] K Q w:=den_c (K:=K) mix Tryz.func149 {} trivial rfl (by kernel_rfl) h
def Zed (a0:(Int × Int × Int × Int)) (b1:(Int × Int × Int × Int)):W (Int) :=
 newW 92 [.int .u8 a0.1,.int .i32 a0.2.1,.int .i32 a0.2.2.1,.int .i32 a0.2.2.2] fun a_1 =>
 newW 92 [.int .u8 b1.1,.int .i32 b1.2.1,.int .i32 b1.2.2.1,.int .i32 b1.2.2.2] fun b_2 =>
 ld (.sc (.int .u8)) (Addr.add a_1 0) fun (x_3:Int) =>
 ld (.sc (.int .u8)) (Addr.add b_2 0) fun (x_4:Int) =>
 callW Tryz.prog Z9s [.int .u8 x_3,.int .u8 x_4] [.sc (.int .i64)] fun (x_5:Int) =>
 retW x_5
theorem Zmd {R:Type} (a0:(Int × Int × Int × Int)) (b1:(Int × Int × Int × Int)) (K:Res [.sc (.int .i64)]→W R) (Q:R→World→Prop) (w:World) (h:Zed a0 b1 (fun r w=>K r Q w) w):callW Tryz.prog Z6h [.agg ⟨[.int .u8 a0.1,.int .i32 a0.2.1,.int .i32 a0.2.2.1,.int .i32 a0.2.2.2]⟩,.agg ⟨[.int .u8 b1.1,.int .i32 b1.2.1,.int .i32 b1.2.2.1,.int .i32 b1.2.2.2]⟩] [.sc (.int .i64)] K Q w:=den_c (K:=K) mix Tryz.func150 {} trivial rfl (by kernel_rfl) h
def Z1g (data0:Sl) (n1:Int):W (Unit) :=
 loopW (σ:=Int × Int) (fun K_1 s_2 =>
  cond (decide (s_2.2≤n1))
   (callW Tryz.prog Zj [.slice data0.a data0.n data0.c,.int .i64 s_2.1,.int .i64 s_2.2,.func (.func 121) #[] #[]] [] fun (x_3:Unit) =>
  K_1 (s_2.2,IntKind.wrap .i64 (s_2.2+20)))
   (callW Tryz.prog Zj [.slice data0.a data0.n data0.c,.int .i64 s_2.1,.int .i64 n1,.func (.func 121) #[] #[]] [] fun (x_4:Unit) =>
 loopW (σ:=Int) (fun K_5 s_6 =>
  cond (decide (s_6 < n1))
   (loopW (σ:=Int × Int) (fun K_7 s_8 =>
   cond (decide (s_8.2≤n1))
    (callW Tryz.prog Za [.slice data0.a data0.n data0.c,.int .i64 s_8.1,.int .i64 (IntKind.wrap .i64 (s_8.1+s_6)),.int .i64 s_8.2,.func (.func 121) #[] #[]] [] fun (x_9:Unit) =>
   K_7 (s_8.2,IntKind.wrap .i64 (s_8.2+(IntKind.wrap .i64 (2 * s_6)))))
    (joinW (σ:=Unit) (fun J_10 =>
   cond (decide ((IntKind.wrap .i64 (s_8.1+s_6)) < n1))
    (callW Tryz.prog Za [.slice data0.a data0.n data0.c,.int .i64 s_8.1,.int .i64 (IntKind.wrap .i64 (s_8.1+s_6)),.int .i64 n1,.func (.func 121) #[] #[]] [] fun (x_11:Unit) =>
    J_10 ())
    (J_10 ()))
  <| fun s_12 =>
  K_5 (IntKind.wrap .i64 (s_6 * 2))))
   (0,IntKind.wrap .i64 (2 * s_6)))
   (retW ()))
  20))
  (0,20)
theorem Z3m {R:Type} (data0:Sl) (n1:Int) (K:Res []→W R) (Q:R→World→Prop) (w:World) (h:Z1g data0 n1 (fun r w=>K r Q w) w):callW Tryz.prog Z29 [.slice data0.a data0.n data0.c,.int .i64 n1,.func (.func 121) #[] #[]] [] K Q w:=den_c (K:=K) mix Tryz.func152 { con:=[(16054,[])],lop:=[(0,[(7,.sc (.int .i64)),(8,.sc (.int .i64))]),(2,[(6,.sc (.int .i64))]),(4,[(7,.sc (.int .i64)),(8,.sc (.int .i64))])] } trivial rfl (by kernel_rfl) h
def Zl4 (a0:Sl) (b1:Sl):W (Bool) :=
 callW Tryz.prog Z65 [.slice a0.a a0.n a0.c,.slice b1.a b1.n b1.c,.func (.func 182) #[] #[]] [.sc .bool] fun (x_1:Bool) =>
 retW x_1
theorem Zrk {R:Type} (a0:Sl) (b1:Sl) (K:Res [.sc .bool]→W R) (Q:R→World→Prop) (w:World) (h:Zl4 a0 b1 (fun r w=>K r Q w) w):callW Tryz.prog Zg0 [.slice a0.a a0.n a0.c,.slice b1.a b1.n b1.c] [.sc .bool] K Q w:=den_c (K:=K) mix Tryz.func155 {} trivial rfl (by kernel_rfl) h
def Z1m (s10:Sl) (s21:Sl):W (Bool) :=
 cond ((s10.n:Int) != (s21.n:Int))
  (retW false)
  (loopW (σ:=Int) (fun K_1 s_2 =>
  cond (decide (s_2 < (s10.n:Int)))
   (idxW s10.a s10.n 4 s_2 fun x_3 =>
  ld (.agg [.int .u32,.int .u8,.sl,.sl]) x_3 fun (x_4:(Int × Int × Sl × Sl)) =>
  newW 86 [.int .u32 0,.int .u8 0,.slice none 0 0,.slice none 0 0] fun v1_5 =>
  stoL v1_5 [.int .u32 x_4.1,.int .u8 x_4.2.1,.slice x_4.2.2.1.a x_4.2.2.1.n x_4.2.2.1.c,.slice x_4.2.2.2.a x_4.2.2.2.n x_4.2.2.2.c] 0 <|
  idxW s21.a s21.n 4 s_2 fun x_6 =>
  ld (.agg [.int .u32,.int .u8,.sl,.sl]) x_6 fun (x_7:(Int × Int × Sl × Sl)) =>
  newW 86 [.int .u32 0,.int .u8 0,.slice none 0 0,.slice none 0 0] fun v2_8 =>
  stoL v2_8 [.int .u32 x_7.1,.int .u8 x_7.2.1,.slice x_7.2.2.1.a x_7.2.2.1.n x_7.2.2.1.c,.slice x_7.2.2.2.a x_7.2.2.2.n x_7.2.2.2.c] 0 <|
  ld (.agg [.int .u32,.int .u8,.sl,.sl]) v1_5 fun (x_9:(Int × Int × Sl × Sl)) =>
  ld (.agg [.int .u32,.int .u8,.sl,.sl]) v2_8 fun (x_10:(Int × Int × Sl × Sl)) =>
  callW Tryz.prog Za9 [.agg ⟨[.int .u32 x_9.1,.int .u8 x_9.2.1,.slice x_9.2.2.1.a x_9.2.2.1.n x_9.2.2.1.c,.slice x_9.2.2.2.a x_9.2.2.2.n x_9.2.2.2.c]⟩,.agg ⟨[.int .u32 x_10.1,.int .u8 x_10.2.1,.slice x_10.2.2.1.a x_10.2.2.1.n x_10.2.2.1.c,.slice x_10.2.2.2.a x_10.2.2.2.n x_10.2.2.2.c]⟩] [.sc .bool] fun (x_11:Bool) =>
  cond (!x_11)
   (retW false)
   (K_1 (IntKind.wrap .i64 (s_2+1))))
   (retW true))
  0)
theorem Z3x {R:Type} (s10:Sl) (s21:Sl) (K:Res [.sc .bool]→W R) (Q:R→World→Prop) (w:World) (h:Z1m s10 s21 (fun r w=>K r Q w) w):callW Tryz.prog Z4w [.slice s10.a s10.n s10.c,.slice s21.a s21.n s21.c,.func (.func 157) #[] #[]] [.sc .bool] K Q w:=den_c (K:=K) mix Tryz.func156 { lop:=[(0,[(17,.sc (.int .i64))])] } trivial rfl (by kernel_rfl) h
def Zec (x0:(Int × Int × Sl × Sl)) (y1:(Int × Int × Sl × Sl)):W (Bool) :=
 newW 86 [.int .u32 x0.1,.int .u8 x0.2.1,.slice x0.2.2.1.a x0.2.2.1.n x0.2.2.1.c,.slice x0.2.2.2.a x0.2.2.2.n x0.2.2.2.c] fun x_1 =>
 newW 86 [.int .u32 y1.1,.int .u8 y1.2.1,.slice y1.2.2.1.a y1.2.2.1.n y1.2.2.1.c,.slice y1.2.2.2.a y1.2.2.2.n y1.2.2.2.c] fun y_2 =>
 joinW (σ:=Bool) (fun J_3 =>
  ld (.sc (.int .u32)) (Addr.add x_1 0) fun (x_4:Int) =>
  ld (.sc (.int .u32)) (Addr.add y_2 0) fun (x_5:Int) =>
  cond (x_4 == x_5)
   (ld (.sc (.int .u8)) (Addr.add x_1 1) fun (x_6:Int) =>
    ld (.sc (.int .u8)) (Addr.add y_2 1) fun (x_7:Int) =>
      cond (x_6 == x_7)
        (ld (.sc .sl) (Addr.add x_1 2) fun (x_8:Sl) =>
         ld (.sc .sl) (Addr.add y_2 2) fun (x_9:Sl) =>
           callW Tryz.prog Z24 [.slice x_8.a x_8.n x_8.c,.slice x_9.a x_9.n x_9.c] [.sc .bool] fun (x_10:Bool) =>
            cond x_10
             (ld (.sc .sl) (Addr.add x_1 3) fun (x_11:Sl) =>
              ld (.sc .sl) (Addr.add y_2 3) fun (x_12:Sl) =>
                callW Tryz.prog Z24 [.slice x_11.a x_11.n x_11.c,.slice x_12.a x_12.n x_12.c] [.sc .bool] fun (x_13:Bool) =>
                 J_3 x_13)
             (J_3 false))
        (J_3 false))
   (J_3 false))
 <| fun s_14 =>
 retW s_14
theorem Zmc {R:Type} (x0:(Int × Int × Sl × Sl)) (y1:(Int × Int × Sl × Sl)) (K:Res [.sc .bool]→W R) (Q:R→World→Prop) (w:World) (h:Zec x0 y1 (fun r w=>K r Q w) w):callW Tryz.prog Za9 [.agg ⟨[.int .u32 x0.1,.int .u8 x0.2.1,.slice x0.2.2.1.a x0.2.2.1.n x0.2.2.1.c,.slice x0.2.2.2.a x0.2.2.2.n x0.2.2.2.c]⟩,.agg ⟨[.int .u32 y1.1,.int .u8 y1.2.1,.slice y1.2.2.1.a y1.2.2.1.n y1.2.2.1.c,.slice y1.2.2.2.a y1.2.2.2.n y1.2.2.2.c]⟩] [.sc .bool] K Q w:=den_c (K:=K) mix Tryz.func157 { reg:=[(1,[(4,.sc .bool)])] } trivial rfl (by kernel_rfl) h
def Z9o (s0:Sl):W (Sl) :=
 cond (Option.isNone s0.a)
  (retW (⟨none,0,0⟩:Sl))
  (newW 57 [] fun x_1 =>
 rawW Tryz.prog (Builtin.append_ #[23,23] 23 #[.slice (some x_1) 0 0,.slice s0.a s0.n s0.c]) [.sc .sl] fun (x_2:Sl) =>
 retW x_2)
end Go.Proofs.YtchhhjlpnecjkaaGreat
