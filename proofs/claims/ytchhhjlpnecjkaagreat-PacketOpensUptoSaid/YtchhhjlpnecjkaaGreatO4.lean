/-
  What the proof of packetOpens_holds leans on, laid together by a program of this session (wip/pack.py) out of its own texts; the last of these texts holds packetOpens_holds.
-/
import Derived.Test.YtchhhjlpnecjkaaGreatO3
set_option linter.unusedVariables false
namespace Go.Proofs.YtchhhjlpnecjkaaGreat
open Go Go.RowKit Go.Proofs.YtchhhjlpnecjkaaGreat.Den
theorem Zcp {s:WS} {v n:Int} (hs:s.2=0) (hn:0≤n∧n≤64) (hv:v.toNat < 2 ^ n.toNat) (hl:(s.1.length:Int)+n≤1048576):plainM s v n=(s.1 ++ bitsOf v.toNat n.toNat,0):=by
 unfold plainM doM putB keepM
 rw [if_neg (by omega),if_neg (by rw [Nat.div_eq_of_lt hv]; simp),if_neg (by omega),if_pos hs]
theorem Zzu {s:WS} {v:Nat} (hs:s.2=0) (hl:s.1.length+5 * groupsM v≤1048576):varM s v=(s.1 ++ varB v,0):=by
 unfold varM doM putVarM keepM
 rw [if_neg (by omega),if_pos hs]
theorem Zot (L:List Bool):∀ x∈packM L,0≤x∧x≤255:=fun x hx=>by
 unfold packM at hx
 obtain ⟨j,_,rfl⟩:=List.mem_map.1 hx
 have:=Zuj L j
 omega
theorem Zqq {l:List Comp} (h:Rising (l.map (·.1))) {p q:Nat} {a b:Comp} (hpq:p < q) (ha:l[p]?=some a) (hb:l[q]?=some b):a.1 < b.1:=by
 have h:(l.map (·.1)).Pairwise (· < ·):=h
 obtain ⟨h1,rfl⟩:=List.getElem?_eq_some_iff.1 ha
 obtain ⟨h2,rfl⟩:=List.getElem?_eq_some_iff.1 hb
 have:=List.pairwise_iff_getElem.1 h p q (by simpa using h1) (by simpa using h2) hpq
 simpa using this
end Go.Proofs.YtchhhjlpnecjkaaGreat
namespace Go.Proofs.YtchhhjlpnecjkaaGreat
open Go Go.RowKit Go.Proofs.YtchhhjlpnecjkaaGreat.Den
def valB:List Bool→Nat
 | []=>0
 | b :: r=>bitN b+2 * valB r
def getN (n:Nat) (L:List Bool):Option (Nat × List Bool):=if n≤L.length then some (valB (L.take n),L.drop n) else none
def varD:Nat→Nat→Nat→List Bool→Option (Nat × List Bool)
 | 0,_,_,_=>none
 | k+1,i,v,L=>match getN 5 L with
  | none=>none
  | some (x,r)=>if x / 16=0 then (if groupsM (v+x % 16 * 2 ^ (4 * i))=i+1 then some (v+x % 16 * 2 ^ (4 * i),r) else none) else varD k (i+1) (v+x % 16 * 2 ^ (4 * i)) r
def getVar (L:List Bool):Option (Nat × List Bool):=varD 16 0 0 L
def getIn (lo hi:Int) (L:List Bool):Option (Int × List Bool):=match getN (widthM lo hi) L with
 | none=>none
 | some (v,r)=>if (v:Int)≤hi - lo then some (lo+(v:Int),r) else none
def inB (n lo hi:Int):List Bool:=bitsOf (n - lo).toNat (widthM lo hi)
def partB (p:Part):List Bool:=bitsOf p.1.toNat p.2.toNat
theorem fieldB {c:Comp} {i:Nat} (h1:(rangeM c.1 (i:Int)).1≤fl c i) (h2:fl c i≤(rangeM c.1 (i:Int)).2.1):partB (fieldP c i)=inB (fl c i) (rangeM c.1 (i:Int)).1 (rangeM c.1 (i:Int)).2.1:=by
 obtain ⟨r1,r2⟩:=Z19 c.1 (i:Int)
 unfold partB fieldP inB
 rw [wU64 (by omega),Int.toNat_natCast]
def readF (k:Int):List Nat→List Bool→Option (List Int × List Bool)
 | [],L=>some ([],L)
 | i :: r,L=>match getIn (rangeM k (i:Int)).1 (rangeM k (i:Int)).2.1 L with
  | none=>none
  | some (v,L2)=>match readF k r L2 with
   | none=>none
   | some (vs,L3)=>some (v :: vs,L3)
def mkC (k:Int) (vs:List Int):Comp:=(k,vs.getD 0 0,vs.getD 1 0,vs.getD 2 0)
def compD (k:Int) (L:List Bool):Option (Comp × List Bool):=if cntM k=0 then none else match readF k (List.range (cntM k)) L with
 | none=>none
 | some (vs,r)=>some (mkC k vs,r)
theorem Zzd {c:Comp} (h:checkM c=0) {i:Nat} (hi:i < 3) (hc:cntM c.1≤i):fl c i=0:=by
 have hall:(List.range 3).all (inR c)=true:=by
  unfold checkM at h
  split at h
  ·cases h
  ·split at h
   ·cases h
   ·split at h
    ·assumption
    ·cases h
 have:=List.all_eq_true.1 hall i (List.mem_range.2 hi)
 unfold inR at this
 rw [List.getElem?_eq_none (by exact hc)] at this
 simpa using this
def compB (c:Comp):List Bool:=partsB (wholeP c)
theorem Zsl (c:Comp):compB c=(List.range (cntM c.1)).flatMap fun i=>partB (fieldP c i):=by
 unfold compB partsB wholeP
 rw [List.flatMap_map]
 rfl
def zagM (v:Int):Int:=if v % 2=1 then -1 - v / 2 else v / 2
theorem Zzw (n:Int):0≤zigM n:=by unfold zigM; split <;> omega
def movedD (was:Comp) (i:Nat) (L:List Bool):Option (Int × List Bool):=match getN 1 L with
 | none=>none
 | some (b,L1)=>if b=0 then some (fl was i,L1) else match getN 1 L1 with
  | none=>none
  | some (b2,L2)=>if b2=0 then (match getIn (rangeM was.1 (i:Int)).1 (rangeM was.1 (i:Int)).2.1 L2 with
    | none=>none
    | some (n,L3)=>if zigM (n - fl was i)≤16 then none else some (n,L3))
   else match getN 4 L2 with
    | none=>none
    | some (z,L3)=>if fl was i+zagM ((z:Int)+1) < (rangeM was.1 (i:Int)).1∨(rangeM was.1 (i:Int)).2.1 < fl was i+zagM ((z:Int)+1) then none else some (fl was i+zagM ((z:Int)+1),L3)
def readS (was:Comp):List Nat→List Bool→Option (List Int × List Bool)
 | [],L=>some ([],L)
 | i :: r,L=>match movedD was i L with
  | none=>none
  | some (v,L2)=>match readS was r L2 with
   | none=>none
   | some (vs,L3)=>some (v :: vs,L3)
def stepDec (was:Comp) (L:List Bool):Option (Comp × List Bool):=if checkM was≠0 then none else match readS was (List.range (cntM was.1)) L with
 | none=>none
 | some (vs,r)=>some (mkC was.1 vs,r)
def stepB2 (was c:Comp):List Bool:=partsB (stepP was c)
end Go.Proofs.YtchhhjlpnecjkaaGreat
namespace Go.Proofs.YtchhhjlpnecjkaaGreat
open Go Go.RowKit Go.Proofs.YtchhhjlpnecjkaaGreat.Den
def encs {α:Type} (enc:Int→α→List Bool) (id:α→Int):Int→List α→List Bool
 | _,[]=>[]
 | last,a :: r=>enc last a ++ encs enc id (id a) r
def repD {β:Type} (f:Int→List Bool→Option (β × List Bool)) (id:β→Int):Nat→Int→List Bool→Option (List β × List Bool)
 | 0,_,L=>some ([],L)
 | n+1,last,L=>match f last L with
  | none=>none
  | some (b,r)=>match repD f id n (id b) r with
   | none=>none
   | some (bs,r2)=>some (b :: bs,r2)
def headB (h:Head):List Bool :=
 inB h.1 1 5 ++ (inB h.2.1 0 15 ++ (varB h.2.2.1.toNat ++ ((if h.1≤3 then bitsOf h.2.2.2.1.toNat 32 else []) ++ (if h.1=2 then varB (idD h.2.2.2.2 h.2.2.2.1) else []))))
def headD (L:List Bool):Option (Head × List Bool):=match getIn 1 5 L with
 | none=>none
 | some (k,L)=>match getIn 0 15 L with
  | none=>none
  | some (c,L)=>match getVar L with
   | none=>none
   | some (e,L)=>match (if k≤3 then getN 32 L else some (0,L)) with
    | none=>none
    | some (t,L)=>match (if k=2 then (match getVar L with
      | none=>none
      | some (b,L)=>if t≤b then none else some (((t - b - 1:Nat):Int),L)) else some (0,L)) with
     | none=>none
     | some (b,L)=>if e≤4294967295∧headE (k,c,(e:Int),(t:Int),b)=0 then some ((k,c,(e:Int),(t:Int),b),L) else none
end Go.Proofs.YtchhhjlpnecjkaaGreat
namespace Go.Proofs.YtchhhjlpnecjkaaGreat
open Go Go.RowKit Go.Proofs.YtchhhjlpnecjkaaGreat.Den
def compsB (l:List Comp):List Bool:=l.flatMap compB
def compsD:List Int→List Bool→Option (List Comp × List Bool)
 | [],L=>some ([],L)
 | k :: r,L=>match compD k L with
  | none=>none
  | some (c,L2)=>match compsD r L2 with
   | none=>none
   | some (cs,L3)=>some (c :: cs,L3)
structure Masked (l:List Comp):Prop where
 list:listE l=0
 mask:maskN l < 32
theorem Masked.kinds {l:List Comp} (h:Masked l):kindsOf (maskN l)=l.map (·.1):=(Valid.kinds ⟨h.list,rfl⟩).symm
theorem Masked.check {l:List Comp} (h:Masked l):∀ c∈l,checkM c=0:=(Z1r.1 h.list).1
def idBits (last id:Int):List Bool:=varB (idD last id)
def idDec (last:Int) (L:List Bool):Option (Int × List Bool):=match getVar L with
 | none=>none
 | some (v,r)=>if 4294967296≤v then none else some ((last+(v:Int)+1) % 4294967296,r)
def entB (last:Int) (e:Ent):List Bool:=idBits last e.1 ++ (bitsOf (maskN e.2) 5 ++ compsB e.2)
def entD (last:Int) (L:List Bool):Option (Ent × List Bool):=match idDec last L with
 | none=>none
 | some (id,L)=>match getN 5 L with
  | none=>none
  | some (m,L)=>match compsD (kindsOf m) L with
   | none=>none
   | some (cs,L)=>some ((id,cs),L)
def entsB (l:List Ent):List Bool:=varB l.length ++ encs entB (fun e:Ent=>e.1) 0 l
def entsD (L:List Bool):Option (List Ent × List Bool):=match getVar L with
 | none=>none
 | some (n,L)=>repD entD (fun e:Ent=>e.1) n 0 L
def goneB (l:List Int):List Bool:=varB l.length ++ encs idBits (fun i:Int=>i) 0 l
def goneD (L:List Bool):Option (List Int × List Bool):=match getVar L with
 | none=>none
 | some (n,L)=>repD idDec (fun i:Int=>i) n 0 L
def setsB (was:List Ent) (id:Int) (l:List Comp):List Bool:=l.flatMap fun c=>stepB2 (oldM was id c.1) c
def setsD (was:List Ent) (id:Int):List Int→List Bool→Option (List Comp × List Bool)
 | [],L=>some ([],L)
 | k :: r,L=>if (oldM was id k).1≠k then none else match stepDec (oldM was id k) L with
  | none=>none
  | some (c,L2)=>match setsD was id r L2 with
   | none=>none
   | some (cs,L3)=>some (c :: cs,L3)
theorem Zvz {was c:Comp} (h:pairM was c=0):was.1=c.1∧checkM c=0:=by
 unfold pairM at h
 split at h
 ·omega
 ·split at h
  ·omega
  ·split at h
   ·exact ⟨by assumption,by omega⟩
   ·omega
def chgB (was:List Ent) (last:Int) (d:Chg):List Bool :=
 idBits last d.1 ++ (bitsOf d.2.1.toNat 5 ++ (bitsOf (maskN d.2.2.1) 5 ++ (bitsOf (maskN d.2.2.2) 5 ++ (compsB d.2.2.1 ++ setsB was d.1 d.2.2.2))))
def chgD (was:List Ent) (last:Int) (L:List Bool):Option (Chg × List Bool):=match idDec last L with
 | none=>none
 | some (id,L)=>match getN 5 L with
  | none=>none
  | some (lost,L)=>match getN 5 L with
   | none=>none
   | some (fresh,L)=>match getN 5 L with
    | none=>none
    | some (set,L)=>match compsD (kindsOf fresh) L with
     | none=>none
     | some (ns,L)=>match setsD was id (kindsOf set) L with
      | none=>none
      | some (ss,L)=>some ((id,(lost:Int),ns,ss),L)
def chgsB (was:List Ent) (l:List Chg):List Bool:=varB l.length ++ encs (chgB was) (fun d:Chg=>d.1) 0 l
def chgsD (was:List Ent) (L:List Bool):Option (List Chg × List Bool):=match getVar L with
 | none=>none
 | some (n,L)=>repD (chgD was) (fun d:Chg=>d.1) n 0 L
def deltaB (was:List Ent) (gone:List Int) (come:List Ent) (chg:List Chg):List Bool:=goneB gone ++ (entsB come ++ chgsB was chg)
abbrev Delta:=List Int × List Ent × List Chg
def deltaD (was:List Ent) (L:List Bool):Option (Delta × List Bool):=match goneD L with
 | none=>none
 | some (g,L)=>match entsD L with
  | none=>none
  | some (c,L)=>match chgsD was L with
   | none=>none
   | some (d,L)=>some ((g,c,d),L)
end Go.Proofs.YtchhhjlpnecjkaaGreat
namespace Go.Proofs.YtchhhjlpnecjkaaGreat
open Go Go.RowKit Go.Proofs.YtchhhjlpnecjkaaGreat.Den
theorem FormOk.six {L:List Ent} (h:FormOk L) {e:Ent} (he:e∈L):e.2.length≤6:=(Valid.mk (h.list he) rfl:Valid (maskN e.2) e.2).small
end Go.Proofs.YtchhhjlpnecjkaaGreat
namespace Go.Proofs.YtchhhjlpnecjkaaGreat.Den
open Go Go.RowKit
variable {R:Type} {Q:R→World→Prop} {w:World} {P:Program} {T E ty:TypeId} {t:Ty} {bytes:Nat}
theorem Zn3 {z':Value} {z:t.T} (hzc:z'.cells.toList=t.cells z) (hpos:0 < t.size) (n:Nat):(Builtin.zeroCells z'.cells n).toList=(List.replicate n z).flatMap t.cells:=by
 apply List.ext_getElem?
 intro j
 have hzs:z'.cells=⟨t.cells z⟩:=by rw [← hzc]
 have hsz:(t.cells z).length=t.size:=t.cells_len z
 by_cases hj:j < n * t.size
 ·have hq:j / t.size < n:=Nat.div_lt_of_lt_mul (by rw [Nat.mul_comm]; exact hj)
  have hml:j % t.size < (t.cells z).length:=by rw [hsz]; exact Nat.mod_lt _ hpos
  have e1:=Zfn (l:=List.replicate n z) (i:=j / t.size) (x:=z) (by simp [hq]) (j % t.size) _ (List.getElem?_eq_getElem hml)
  rw [Nat.mul_comm,Nat.div_add_mod] at e1
  rw [e1,hzs]
  have hj':j < (Builtin.zeroCells ⟨t.cells z⟩ n).size:=by rw [size_zeroCells]; simp [hsz]; exact hj
  rw [Array.getElem?_toList,Array.getElem?_eq_getElem hj']
  simp only [Builtin.zeroCells,Array.getElem_map,Array.getElem_range,List.size_toArray,hsz]
  congr 1
  rw [getElem!_pos (c:=(⟨t.cells z⟩:Array Value)) (i:=j % t.size) (by simpa using hml)]
  simp
 ·rw [List.getElem?_eq_none,List.getElem?_eq_none]
  ·rw [Z1v]; simp; omega
  ·rw [Array.length_toList,size_zeroCells,hzs]; simp [hsz]; omega
theorem Zcv (w:World) (tn:TypeId) (i:TypeInfo) (z:Value) (k kn:IntKind) (ht:P.underlying T=some (.slice E)) (htn:P.underlying tn=some (.int kn)) (hi:P.info? E=some i) (hz:i.zero=some z)
  (g sLen sCap:Nat) (cur:Array Value) (hg:w.heap[g]?=some (.cells cur E (0,0))) (n:Nat) (h0:0 < n * i.size) (hroom:sLen+n≤sCap) (h48:n * i.bytes≤281474976710656) (h63:(n:Int)≤9223372036854775807) (hfit:sLen * i.size+n * z.cells.size≤cur.size) (h1:∀ u∈(Builtin.zeroCells z.cells n).toList,u.oneCell'=true) :
  (Builtin.append_ #[T,tn] ty #[.slice (some ⟨g,0,none⟩) sLen sCap,.int k n]).run P w =
   .ok (.slice (some ⟨g,0,none⟩) (sLen+n) sCap) (w.setRow g (cur.toList.take (sLen * i.size) ++ (Builtin.zeroCells z.cells n).toList ++ cur.toList.drop (sLen * i.size+(Builtin.zeroCells z.cells n).toList.length)).toArray):=by
 have hw:IntKind.i64.wrap (n:Int)=n:=by rw [IntKind.wrap_i64]; omega
 have h48i:¬ (281474976710656 < (n:Int) * (i.bytes:Int)):=by rw [← Int.natCast_mul]; omega
 have hns':¬ (n=0∨i.size=0):=by
  rintro (h | h)
  ·rw [h] at h0; simp at h0
  ·rw [h] at h0; simp at h0
 have hst:=run_storeCells_at P g (sLen * i.size) E (Builtin.zeroCells z.cells n).toList 0 cur w hg (by rw [Array.length_toList,size_zeroCells]; simpa using hfit) h1
 simp only [Nat.add_zero] at hst
 simp [Builtin.append_,run_underlying ht,run_underlying htn,sizeOf,typeInfo,zeroValue,hi,hz,asInt,asIntOf,hw,h48i,show ¬ (n * i.size=0) by omega,hroom,show ¬ ((n:Int) < 0) by omega,Addr.add_lit,hst]
theorem appZ (H:SlTy P T E t bytes) {z:t.T} {zv:Value} (hz:(P.info? E).bind (·.zero)=some zv) (hzc:zv.cells.toList=t.cells z) {tn:TypeId} {kn:IntKind} (htn:P.underlying tn=some (.int kn)) {S S':Nat→Prop} {s:Sl} {l:List t.T} (h:Own S w E t s l) {n:Nat} (hn:0 < n) {k:IntKind} {ni:Int} (hni:ni=(n:Int))
  (hb:(l.length+n) * bytes≤140737488355328) (hm:l.length+n≤maxLen) (h1:∀ k,S k→S' k) (h1':S' w.heap.size) {K:Sl→W R}
  (hk:∀ r w',Own S' w' E t r (l ++ List.replicate n z)→Fr (fun k=>s.v.ownBlock=some k) w w'→w'.heap.size≤w.heap.size+1→K r Q w'):rawW P (Builtin.append_ #[T,tn] ty #[.slice s.a s.n s.c,.int k ni]) [.sc .sl] K Q w:=by
 subst hni
 obtain ⟨i,z',hi,hz',hs,hby,hzs⟩:=H.info
 rw [hi] at hz
 simp only [Option.bind_some,hz',Option.some.injEq] at hz
 subst hz
 have flat:(l ++ List.replicate n z).flatMap t.cells=l.flatMap t.cells ++ (List.replicate n z).flatMap t.cells:=List.flatMap_append
 have hlen:(l ++ List.replicate n z).length=l.length+n:=by simp
 have hmi:((l.length+n:Nat):Int)≤9223372036854775807:=by simp only [maxLen] at hm; omega
 have hzf:=Zn3 (t:=t) hzc H.pos
 have hns:0 < n * i.size:=by rw [hs]; exact Nat.mul_pos hn H.pos
 have hnb:n * i.bytes≤140737488355328:=by
  rw [hby]
  exact Nat.le_trans (Nat.mul_le_mul_right _ (by omega)) hb
 have one:∀ u∈(Builtin.zeroCells z'.cells n).toList,u.oneCell'=true:=fun u hu=>by
  rw [hzf] at hu
  obtain ⟨x,_,hx⟩:=List.mem_flatMap.1 hu
  exact t.one x H.fine u hx
 have grown:∀ (old:Nat) {v:Value} {w':World},old < l.length+n→v=.slice (some ⟨w.heap.size,0,none⟩) (l.length+n) (grownCap w (l.length+n) old E) →
   w'=w.drew.alloc (.cells ((l.flatMap t.cells).toArray ++ Builtin.zeroCells z'.cells n ++ Builtin.zeroCells z'.cells (grownCap w (l.length+n) old E - (l.length+n))) E) →
   ∃ r:Sl,v=r.v∧K r Q w':=by
  intro old v w' ho hv hw
  have hge:=grownCap_ge w (l.length+n) old E
  have hcm:=grownCap_le_maxLen w (l.length+n) old E hm
  generalize grownCap w (l.length+n) old E=G at hge hcm hv hw
  subst hv; subst hw
  refine ⟨⟨_,_,_⟩,rfl,hk _ _ ?_ ((Fr.refl _ w).drew.alloc _) (by simp)⟩
  rw [← hlen]
  refine Own.mk' h1' (heap_alloc_new w.drew _) (by rw [hlen]; exact hge) hcm ?_ ?_
  ·simp only [Array.size_append,List.size_toArray,Z1v,size_zeroCells,hzs,← Nat.add_mul]
   congr 1
   omega
  ·simp only [Array.toList_append,List.append_assoc,hzf]
   rw [← List.append_assoc,flat,← Z1v (l ++ List.replicate n z),flat]
   exact List.take_left
 have hsn:=h.len
 rcases h.cases with ⟨rfl,rfl⟩ | ⟨g,c,cur,rfl,hS,h3,h4,h5,h6,h7⟩
 ·have hr:=Lib.run_append_nil_zeros (P:=P) w T tn ty E i z' k kn H.under htn hi hz' n hn (by rw [hs]; exact H.pos) (by simpa using hmi) (by omega)
  obtain ⟨r,hv,hK⟩:=grown 0 (by simpa using hn) (v:=.slice (some ⟨w.heap.size,0,none⟩) n (grownCap w n 0 E))
   (w':=w.drew.alloc (.cells (Builtin.zeroCells z'.cells n ++ Builtin.zeroCells z'.cells (grownCap w n 0 E - n)) E)) (by simp) (by simp)
  refine ⟨r,_,?_,hK⟩
  rw [hv] at hr
  exact hr
 ·by_cases hroom:l.length+n≤c
  ·have hfit:l.length * i.size+n * z'.cells.size≤cur.size:=by rw [hzs,hs,h6,← Nat.add_mul]; exact Nat.mul_le_mul_right _ hroom
   have hr:=Zcv (P:=P) (T:=T) (E:=E) (ty:=ty) w tn i z' k kn H.under htn hi hz' g l.length c cur h3 n hns hroom (by omega) (by omega) hfit one
   refine ⟨⟨some ⟨g,0,none⟩,l.length+n,c⟩,_,hr,hk _ _ ?_ ?_ (by simp [World.setRow])⟩
   ·rw [← hlen]
    have hzl:(Builtin.zeroCells z'.cells n).toList.length=n * t.size:=by rw [Array.length_toList,size_zeroCells,hzs]
    refine Own.mk' (h1 g hS) (setRow_heap w g cur _ E _ h3) (by rw [hlen]; exact hroom) h5 ?_ ?_
    ·rw [hzs,hs] at hfit
     have hcl:cur.toList.length=cur.size:=Array.length_toList
     simp only [List.size_toArray,List.length_append,List.length_take,List.length_drop,hzl,hcl,hs]
     omega
    ·rw [hs,h7,hzf,← flat,← Z1v (l ++ List.replicate n z)]
     exact List.take_left
   ·exact ⟨rfl,rfl,rfl,by simp [World.setRow],fun k _ hk=>setRow_other w g k _ (fun e=>hk (by simp [Sl.v,Value.ownBlock,e]))⟩
  ·have holds:∀ j u,(l.flatMap t.cells)[j]?=some u→w.cell? ((⟨g,0,none⟩:Addr).add j)=some u:=h.sl.cellsAt rfl
   have hr:=Zcu (P:=P) (T:=T) (E:=E) (ty:=ty) w tn i z' k kn H.under htn hi hz' ⟨g,0,none⟩ l.length c _ (by rw [Z1v,hs]) holds n hns (by omega) hmi (growslice_fits (by omega) (by rw [hby]; exact hb)) (by omega)
   obtain ⟨r,hv,hK⟩:=grown c (by omega) rfl rfl
   refine ⟨r,_,?_,hK⟩
   rw [hv] at hr
   exact hr
end Go.Proofs.YtchhhjlpnecjkaaGreat.Den
namespace Go.Proofs.YtchhhjlpnecjkaaGreat
open Go Go.RowKit Go.Proofs.YtchhhjlpnecjkaaGreat.Den
variable {R:Type} {Q:R→World→Prop} {w:World}
abbrev BytesOk (l:List Int):Prop:=∀ x∈l,0≤x∧x≤255
theorem Znr:Tryz.prog.underlying 9=some .string:=by kernel_rfl
theorem strI {ok:Nat→Prop} {s:Sl} {l:List Int} (hS:SlT ok w u8T s l) {K:ByteArray→W R} (hk:K (strOfNums l) Q w):rawQ Tryz.prog (Go.convert 22 9 (.slice s.a s.n s.c)) [.sc .str] K Q w:=by
 refine ⟨strOfNums l,?_,hk⟩
 have hlen:=hS.len
 rcases hS.at_ with rfl | ⟨b,o,ha,h1,h2,h3⟩
 ·rw [run_convert_bytes_string w _ _ _ _ _ _ Z3r.under Ztk Znr]
  have hn:s.n=0:=hlen
  rw [hn]
  cases hsa:s.a with
  | none=>simp [Conv.bytesToString]; rfl
  | some a =>
   have hl:(loadCells a 0).run Tryz.prog w=.ok #[] w:=by have:=run_loadCells_list (P:=Tryz.prog) w a [] (fun j v h=>by simp at h); simpa using this
   rw [run_bytesToString w a 0 s.c [] hl]
   rfl
 ·rw [ha]
  refine run_convert_bytes_arg w _ _ Z3r.under Ztk b o s.n s.c l hlen.symm (fun i hi=>?_) _ Znr
  have hx:l[i]?=some l[i]:=List.getElem?_eq_getElem (by omega)
  have:=h3 i _ hx
  rw [show i * u8T.size=i from Nat.mul_one i] at this
  rw [this]
  simp [List.getD,hx]
theorem Zvr {x y:Int} (hx:0≤x∧x≤255) (hy:0≤y∧y≤255) (h:UInt8.ofNat x.toNat=UInt8.ofNat y.toNat):x=y:=by
 have:=congrArg UInt8.toNat h
 simp at this
 omega
theorem Zyy {l l2:List Int} (h1:BytesOk l) (h2:BytesOk l2):((strOfNums l).toList == (strOfNums l2).toList)=decide (l=l2):=by
 rw [ByteArray.toList_eq,ByteArray.toList_eq,strOfNums_data,strOfNums_data,Bool.eq_iff_iff]
 simp only [beq_iff_eq,decide_eq_true_eq]
 refine ⟨fun h=>?_,fun h=>by rw [h]⟩
 induction l generalizing l2 with
 | nil=>cases l2 with
  | nil=>rfl
  | cons y r=>simp at h
 | cons x r ih=>cases l2 with
  | nil=>simp at h
  | cons y r2 =>
   rw [List.map_cons,List.map_cons,List.cons.injEq] at h
   rw [Zvr (h1 x List.mem_cons_self) (h2 y List.mem_cons_self) h.1,ih (fun z hz=>h1 z (List.mem_cons_of_mem _ hz)) (fun z hz=>h2 z (List.mem_cons_of_mem _ hz)) h.2]
theorem Z9z {ok ok2:Nat→Prop} {s s2:Sl} {l l2:List Int} (hS:SlT ok w u8T s l) (hS2:SlT ok2 w u8T s2 l2) (h1:BytesOk l) (h2:BytesOk l2) {K:Res [.sc .bool]→W R} (hk:K (decide (l=l2)) Q w) :
  callW Tryz.prog Z1i [.slice s.a s.n s.c,.slice s2.a s2.n s2.c] [.sc .bool] K Q w:=by
 refine Zex s s2 K Q w ?_
 unfold Z8b
 refine strI hS (strI hS2 ?_)
 rw [Zyy h1 h2]
 exact hk
def bitsU (l:List Int):List Bool:=l.flatMap fun x=>bitsOf x.toNat 8
theorem Z5j (l:List Int):(bitsU l).length=8 * l.length:=by
 induction l with
 | nil=>rfl
 | cons x r ih =>
  have:bitsU (x :: r)=bitsOf x.toNat 8 ++ bitsU r:=rfl
  rw [this,List.length_append,ih,Z4,List.length_cons]
  omega
theorem Zjq {ok:Nat→Prop} {s:Sl} {l:List Int} (hS:SlT ok w u8T s l) (hb:BytesOk l) (hm:l.length≤1048576) {K:Res [.sc .sl]→W R} (hk:∀ r w',Own (Up w.heap.size) w' 4 boolT r (bitsU l)→Fr None w w'→K r Q w') :
  callW Tryz.prog Z1h [.slice s.a s.n s.c] [.sc .sl] K Q w:=by
 refine Zew s K Q w ?_
 unfold Z8a
 have hlen:=hS.len
 refine forI (N:=s.n) (fun s:Sl × Int=>s.2) (fun j st v=>st.2=(j:Int)∧Own (Up w.heap.size) v 4 boolT st.1 (bitsU (l.take j))∧Fr None w v) ⟨rfl,Own.nil _ _ _ _,Fr.refl _ _⟩ (fun j s w' h=>h.1) ?_ ?_
 ·rintro j ⟨z,_⟩ v K' hj ⟨rfl,o,fv⟩ - hK
  refine (hS.fr0 fv).get rfl rfl (by omega) fun x hx=>?_
  have hx1:=hb x (List.mem_of_getElem? hx)
  have e:bitsU (l.take (j+1))=bitsU (l.take j) ++ bitsOf x.toNat 8:=by unfold bitsU; rw [Z8 hx,List.flatMap_append]; simp
  have hll:(bitsU (l.take j)).length≤8 * 1048576:=by rw [Z5j]; simp; omega
  refine forI (N:=8) (fun s:Sl × Int × Int=>s.2.2) (fun i st u=>st.2.2=(i:Int)∧st.2.1=((x.toNat / 2 ^ i:Nat):Int)∧Own (Up w.heap.size) u 4 boolT st.1 (bitsU (l.take j) ++ bitsOf x.toNat i)∧Fr None w u) ⟨rfl,by simp; omega,by simpa [bitsOf] using o,fv⟩ (fun j s w' h=>h.1) ?_ ?_
  ·rintro i ⟨z2,b,_⟩ u K2 hi ⟨rfl,rfl,o2,fu⟩ - hK2
   have hz:=fu.size
   have hbl:=Z4 x.toNat i
   have hd:x.toNat / 2 ^ i≤255:=Nat.le_trans (Nat.div_le_self _ _) (by omega)
   refine appP (x:=(Int.tmod ((x.toNat / 2 ^ i:Nat):Int) 2 == 1)) Z6g rfl o2 (fun k e=>by show w.heap.size≤k; omega) (by simp only [List.length_append,hbl]; omega) (by simp only [List.length_append,hbl]; omega) fun r u2 o3 f3=>?_
   refine hK2 _ _ ⟨wsucc hi (by omega),?_,?_,fu.newer f3 fun k e=>o2.own k e⟩
   ·show IntKind.wrap .u8 (Int.tdiv ((x.toNat / 2 ^ i:Nat):Int) 2)=_
    rw [Nat.pow_succ,← Nat.div_div_eq_div_mul]
    generalize x.toNat / 2 ^ i=q at hd ⊢
    rw [Int.tdiv_eq_ediv_of_nonneg (by omega),wu8 (by omega)]
    omega
   ·show Own _ u2 _ boolT r (bitsU (l.take j) ++ (bitsOf x.toNat i ++ [x.toNat.testBit i]))
    have e:x.toNat.testBit i=(Int.tmod ((x.toNat / 2 ^ i:Nat):Int) 2 == 1):=by
     rw [Nat.testBit_eq_decide_div_mod_eq]
     generalize x.toNat / 2 ^ i=q at hd ⊢
     rw [Int.tmod_eq_emod_of_nonneg (by omega),Bool.eq_iff_iff]
     simp only [decide_eq_true_eq,beq_iff_eq]
     omega
    rw [e,← List.append_assoc]
    exact o3
  ·rintro ⟨z2,b,_⟩ u ⟨rfl,_,o2,fu⟩
   refine hK _ _ ⟨wsucc hj (by omega),?_,fu⟩
   rw [e]
   exact o2
 ·rintro ⟨z,_⟩ v ⟨_,o,fv⟩
  rw [List.take_of_length_le (by omega)] at o
  exact hk z v o fv
def tapsD:List Nat:=[0,1,2,4,5,7,8,10,11,12,16,22,23,26]
def tapBlk:List Value:=tapsD.map fun (k:Nat)=>.int .i64 (k:Int)
theorem Zwk:tapBlk=[.int .i64 0,.int .i64 1,.int .i64 2,.int .i64 4,.int .i64 5,.int .i64 7,.int .i64 8,.int .i64 10,.int .i64 11,.int .i64 12,.int .i64 16,.int .i64 22,.int .i64 23,.int .i64 26]:=rfl
theorem taps14:tapsD.take 14=tapsD:=rfl
theorem Zti:∀ k∈tapsD,k≤26:=by decide
def flipAt (L:List Bool) (i:Nat):List Bool:=L.set i (!((L[i]?).getD false))
theorem Z84 (L:List Bool) (i:Nat):(flipAt L i).length=L.length:=List.length_set
def tapD (i:Nat) (L:List Bool) (k:Nat):List Bool:=flipAt L (i+32 - k)
def stepD (L:List Bool) (i:Nat):List Bool:=if (L[i]?).getD false=true then tapsD.foldl (tapD i) L else L
def initD (m:List Bool):List Bool:=(List.range 32).foldl flipAt (m ++ List.replicate 32 false)
def divD (m:List Bool) (j:Nat):List Bool:=(List.range j).foldl stepD (initD m)
def numD (left:List Bool):Nat→Int
 | 0=>0
 | k+1=>if (left[31 - k]?).getD false=false then IntKind.wrap .u32 (IntKind.wrap .u32 (numD left k * 2)+1) else IntKind.wrap .u32 (numD left k * 2)
def sumD (l:List Int):Int:=numD ((divD (bitsU l) (bitsU l).length).drop (bitsU l).length) 32
theorem Z91 {α:Type} (f:List Bool→α→List Bool) (hf:∀ L a,(f L a).length=L.length):∀ (l:List α) (L:List Bool),(l.foldl f L).length=L.length
 | [],_=>rfl
 | a :: r,L=>by rw [List.foldl_cons,Z91 f hf r,hf]
theorem Zwh (L:List Bool) (i:Nat):(stepD L i).length=L.length:=by
 unfold stepD
 split
 ·exact Z91 _ (fun L a=>Z84 L _) _ _
 ·rfl
theorem Zvb (m:List Bool):(initD m).length=m.length+32:=by
 unfold initD
 rw [Z91 _ Z84]
 simp
theorem Zk9 (m:List Bool) (j:Nat):(divD m j).length=m.length+32:=by
 unfold divD
 rw [Z91 _ Zwh,Zvb]
theorem Zuw (m:List Bool):divD m 0=(List.range 32).foldl flipAt (m ++ List.replicate 32 false):=by unfold divD initD; rw [List.range_zero,List.foldl_nil]
theorem flipI {S:Nat→Prop} {s:Sl} {l:List Bool} (o:Own S w 4 boolT s l) {i:Nat} (hi:i < l.length) {i1 i2:Int} (h1:i1=(i:Int)) (h2:i2=(i:Int)) {K:W R} (hk:∀ w',Own S w' 4 boolT s (flipAt l i)→Fr (fun k=>s.v.ownBlock=some k) w w'→w'.heap.size=w.heap.size→K Q w') :
  idxW s.a s.n 1 i1 (fun x=>ld (.sc .bool) x fun b=>idxW s.a s.n 1 i2 fun y=>stoL y [.bool (!b)] 0 K) Q w:=by
 subst h1; subst h2
 refine o.idx rfl (by omega) (by omega) fun g x hg hx hr=>?_
 rw [Int.toNat_natCast] at hx hr ⊢
 refine ldI x hr ?_
 refine o.idx rfl (by omega) (by omega) fun g2 x2 hg2 hx2 hr2=>?_
 rw [hg] at hg2
 cases hg2
 rw [Int.toNat_natCast]
 refine o.set rfl hi hg (!x) fun w' o' f' s'=>hk w' ?_ f' s'
 unfold flipAt
 rw [hx]
 exact o'
theorem Zsb {ok:Nat→Prop} {s:Sl} {l:List Int} (hS:SlT ok w u8T s l) (hb:BytesOk l) (hm:l.length≤1048576) {K:Res [.sc (.int .u32)]→W R} (hk:∀ w',Fr None w w'→K (sumD l) Q w') :
  callW Tryz.prog Z5o [.slice s.a s.n s.c] [.sc (.int .u32)] K Q w:=by
 refine Zgk s K Q w ?_
 unfold Z9j
 refine Zjq hS hb hm fun r w1 o1 f1=>?_
 have hl:=Z5j l
 generalize hB:bitsU l=B at o1 hl
 refine appZ Z6g (z:=false) (zv:=.bool false) (by kernel_rfl) rfl (tn:=3) (kn:=.i64) (by kernel_rfl) (S':=Up w.heap.size) (n:=32) o1 (by decide) rfl (by omega) (by rw [Zm]; omega) (fun _ h=>h) (by have:=f1.size; show w.heap.size≤_; omega) fun x w2 o2 f2 z2=>?_
 have f02:Fr None w w2:=f1.newer f2 fun k e=>o1.own k e
 have upx:∀ {a b c:World} {L:List Bool},Fr None w a→Own (Up w.heap.size) c 4 boolT x L→Fr (fun k=>x.v.ownBlock=some k) a b→Fr None w b:=fun f o g=>f.newer g fun k e=>o.own k e
 refine forI (N:=32) (fun s:Int=>s) (fun j i v=>i=(j:Int)∧Own (Up w.heap.size) v 4 boolT x ((List.range j).foldl flipAt (B ++ List.replicate 32 false))∧Fr None w v) ⟨rfl,o2,f02⟩ (fun j s w' h=>h.1) ?_ ?_
 ·rintro j i v K' hj ⟨rfl,o,fv⟩ - hK
  refine flipI o (i:=j) (by rw [Z91 _ Z84]; simp; omega) rfl rfl fun v2 o' f' s'=>hK _ _ ⟨wsucc hj (by omega),?_,upx fv o f'⟩
  rw [List.range_succ,List.foldl_append]
  exact o'
 rintro i v ⟨_,o,fv⟩
 have hxn:x.n=B.length+32:=by rw [o2.len]; simp
 rw [← Zwk]
 refine newI fun v1 B1 e1 t1=>?_
 have hzv:=fv.size
 have nx0:¬ x.v.ownBlock=some v.heap.size:=fun e=>by have:=o.lt e; omega
 have o:=o.none e1
 have fv1:=fv.then0 e1
 refine loopI (fun (st:Int) u=>∃ j:Nat,st=(j:Int)∧j≤B.length∧Own (Up w.heap.size) u 4 boolT x (divD B j)∧Blk u v.heap.size 3 tapBlk∧Fr None w u)
  (fun st _=>B.length - st.toNat) ⟨0,rfl,by omega,by rw [Zuw]; exact o,B1,fv1⟩ ?_
 rintro st u ⟨j,rfl,hj,oj,Bj,fu⟩
 rw [w64 (x:=(j:Int)+32) (by omega)]
 refine condD (fun hlt=>?_) fun hge=>?_
 ·have hlt:(j:Int)+32 < (x.n:Int):=hlt
  have hjl:j < B.length:=by omega
  have hdl:=Zk9 B j
  refine joinI (fun (_:Unit) u'=>Own (Up w.heap.size) u' 4 boolT x (divD B (j+1))∧Blk u' v.heap.size 3 tapBlk∧Fr None w u') ?_ ?_
  ·have estep:divD B (j+1)=stepD (divD B j) j:=by unfold divD; rw [List.range_succ,List.foldl_append]; rfl
   refine oj.idx rfl (by omega) (by omega) fun g y hg hy hr=>?_
   rw [Int.toNat_natCast] at hy hr ⊢
   refine ldI y hr ?_
   refine condI (fun hn=>?_) fun hn=>?_
   ·have hn:y=false:=by simpa using hn
    have:divD B (j+1)=divD B j:=by rw [estep]; unfold stepD; rw [hy,hn]; rfl
    rw [this]
    exact ⟨oj,Bj,fu⟩
   ·have hn:y=true:=by simpa using hn
    have e2:divD B (j+1)=tapsD.foldl (tapD j) (divD B j):=by rw [estep]; unfold stepD; rw [hy,hn]; rfl
    rw [e2]
    refine forI (N:=14) (fun s:Int=>s) (fun q i u'=>i=(q:Int)∧Own (Up w.heap.size) u' 4 boolT x ((tapsD.take q).foldl (tapD j) (divD B j))∧Blk u' v.heap.size 3 tapBlk∧Fr None w u') ⟨rfl,by rw [List.take_zero]; exact oj,Bj,fu⟩ (fun j s w' h=>h.1) ?_ ?_
    ·rintro q i u' K2 hq ⟨rfl,o',B',f'⟩ - hK2
     refine idxB (by omega) (by omega) ?_
     have go:∀ {k:Nat},tapsD[q]?=some k→k≤26→idxW x.a x.n 1 (IntKind.wrap .i64 ((j:Int)+32 - (k:Int))) (fun x_18=>ld (.sc .bool) x_18 fun (x_19:Bool)=>idxW x.a x.n 1 (IntKind.wrap .i64 ((j:Int)+32 - (k:Int))) fun x_20=>stoL x_20 [.bool (!x_19)] 0 <| K2 (IntKind.wrap .i64 ((q:Int)+1))) (fun r w=>K r Q w) u':=by
      intro k hk hk26
      have ew:IntKind.wrap .i64 ((j:Int)+32 - (k:Int))=((j+32 - k:Nat):Int):=by rw [w64 (by omega)]; omega
      refine flipI o' (i:=j+32 - k) (by rw [Z91 (tapD j) (fun L a=>Z84 L _),hdl]; omega) ew ew fun u2 o2 g2 s2=>hK2 _ _ ⟨wsucc hq (by omega),?_,B'.fr g2 nx0,upx f' o' g2⟩
      rw [Z8 hk,List.foldl_append]
      exact o2
     obtain ⟨k,hk⟩:∃ k,tapsD[q]?=some k:=⟨_,List.getElem?_eq_getElem (show q < tapsD.length from hq)⟩
     refine fld0 B' (i:=0+(q:Int).toNat * 1) (x:=(k:Int)) ?_ (go hk (Zti k (List.mem_of_getElem? hk)))
     rw [Int.toNat_natCast,Nat.zero_add,Nat.mul_one,tapBlk,List.getElem?_map,hk]
     rfl
    ·rintro i u' ⟨_,o',B',f'⟩
     rw [taps14] at o'
     exact ⟨o',B',f'⟩
  ·rintro _ u' ⟨o',B',f'⟩
   refine ⟨⟨j+1,by rw [w64 (by omega)]; rfl,by omega,o',B',f'⟩,?_⟩
   rw [w64 (by omega)]
   simp only [Int.toNat_natCast]
   omega
 ·have hge:¬ (j:Int)+32 < (x.n:Int):=hge
  have hjl:j=B.length:=by omega
  subst hjl
  have hdl:=Zk9 B B.length
  refine oj.sl.from (n:=B.length) rfl (by rw [w64 (by omega)]; omega) (by omega) fun y hy _=>?_
  have hyl:((divD B B.length).drop B.length).length=32:=by rw [List.length_drop,hdl]; omega
  have eS:sumD l=numD ((divD B B.length).drop B.length) 32:=by unfold sumD; rw [hB]
  generalize (divD B B.length).drop B.length=left at hy hyl eS
  refine loopI (fun (st:Int × Int) u'=>∃ k:Nat,k≤32∧st=(numD left k,31 - (k:Int))∧Fr None w u'∧SlT (Up w.heap.size) u' boolT y left) (fun st _=>(st.2+1).toNat) ⟨0,by omega,rfl,fu,hy⟩ ?_
  rintro st u2 ⟨k,hk32,rfl,fu2,hy2⟩
  dsimp only
  refine condD (fun hg=>?_) fun hg=>?_
  ·have hg:(31 - (k:Int)) ≥ 0:=hg
   refine hy2.get (j:=31 - k) rfl (by omega) (by omega) fun b hb=>?_
   refine joinI (fun z u'=>z=numD left (k+1)∧u2=u') ?_ ?_
   ·refine condI (fun hbn=>⟨?_,rfl⟩) fun hbn=>⟨?_,rfl⟩
    ·have hbn:b=false:=by simpa using hbn
     rw [numD,hb,hbn]
     simp
    ·have hbn:b=true:=by simpa using hbn
     rw [numD,hb,hbn]
     simp
   ·rintro z u3 ⟨rfl,rfl⟩
    refine ⟨⟨k+1,by omega,?_,fu2,hy2⟩,?_⟩
    ·rw [w64 (by omega)]
     congr 1
     omega
    ·rw [w64 (by omega)]
     omega
  ·have hg:¬ (31 - (k:Int)) ≥ 0:=hg
   have hk':k=32:=by omega
   subst hk'
   have:=hk u2 fu2
   rw [eS] at this
   exact this
end Go.Proofs.YtchhhjlpnecjkaaGreat
namespace Go.Proofs.YtchhhjlpnecjkaaGreat
open Go Go.RowKit Go.Proofs.YtchhhjlpnecjkaaGreat.Den
def polyB:BitVec 32:=3988292384#32
def stepB (c:BitVec 32):BitVec 32:=if c.getLsbD 0=true then (c >>> 1) ^^^ polyB else c >>> 1
def oneB (b:Bool):BitVec 32:=if b=true then 1#32 else 0#32
def bitB (c:BitVec 32) (m:Bool):BitVec 32:=stepB (c ^^^ oneB m)
def stepsB:Nat→BitVec 32→BitVec 32
 | 0,c=>c
 | n+1,c=>stepB (stepsB n c)
def toI (c:BitVec 32):Int:=(c.toNat:Int)
theorem Zm6 (c:BitVec 32):BitVec.ofInt 32 (toI c)=c:=by
 apply BitVec.eq_of_toNat_eq
 have:=c.isLt
 simp [toI]
theorem Zns (c:BitVec 32):IntKind.wrap .u32 (c.toNat:Int)=toI c:=by
 have:=c.isLt
 rw [wu32 (by omega)]
 rfl
theorem Zo8 (c d:BitVec 32):bXor .u32 (toI c) (toI d)=toI (c ^^^ d):=by
 unfold bXor
 show IntKind.wrap .u32 (((BitVec.ofInt 32 (toI c)) ^^^ (BitVec.ofInt 32 (toI d))).toNat:Int)=_
 rw [Zm6,Zm6,Zns]
theorem Zwi (c:BitVec 32):stepF (toI c)=toI (stepB c):=by
 unfold stepF stepB
 have h1:bAnd .u32 (toI c) 1=toI (c &&& 1#32):=by
  unfold bAnd
  show IntKind.wrap .u32 (((BitVec.ofInt 32 (toI c)) &&& (BitVec.ofInt 32 1)).toNat:Int)=_
  rw [Zm6,Zns]
  rfl
 have h2:shR .u32 (toI c) 1=toI (c >>> 1):=by
  unfold shR
  rw [show min (Int.toNat 1) (IntKind.bits .u32)=1 from rfl,Int.fdiv_eq_ediv_of_nonneg _ (by decide)]
  unfold toI
  rw [BitVec.toNat_ushiftRight,Nat.shiftRight_eq_div_pow]
  simp
 have h3:toI (c &&& 1#32)≠0↔c.getLsbD 0=true:=by
  have e:(c &&& 1#32).toNat=c.toNat % 2:=by
   rw [BitVec.toNat_and]
   show c.toNat &&& 1=_
   rw [Nat.and_one_is_mod]
  unfold toI
  rw [e,BitVec.getLsbD,Nat.testBit_zero]
  simp only [decide_eq_true_eq]
  omega
 rw [h1,h2]
 by_cases h:c.getLsbD 0=true
 ·rw [if_pos (h3.2 h),if_pos h]
  exact Zo8 (c >>> 1) polyB
 ·rw [if_neg (fun x=>h (h3.1 x)),if_neg h]
theorem Zub (n:Nat) (c:BitVec 32):stepsF n (toI c)=toI (stepsB n c):=by
 induction n with
 | zero=>rfl
 | succ n ih=>rw [stepsF,stepsB,ih,Zwi]
theorem Zr0 (n:Nat) (c:BitVec 32):stepsB (n+1) c=stepsB n (stepB c):=by
 induction n with
 | zero=>rfl
 | succ n ih=>rw [stepsB,ih,stepsB]
theorem Zpb (c:BitVec 32) (p:Nat):(stepB c).getLsbD p=(c.getLsbD (p+1) ^^ (c.getLsbD 0 && polyB.getLsbD p)):=by
 unfold stepB
 split
 ·rename_i h
  rw [BitVec.getLsbD_xor,BitVec.getLsbD_ushiftRight,h,Nat.add_comm]
  simp
 ·rename_i h
  have h:c.getLsbD 0=false:=by simpa using h
  rw [BitVec.getLsbD_ushiftRight,h,Nat.add_comm]
  simp
theorem Zos (b:Bool) (p:Nat):(oneB b).getLsbD p=(decide (p=0) && b):=by
 unfold oneB
 cases b
 ·simp
 ·rw [if_pos rfl]
  rcases p with _ | p
  ·rfl
  ·simp [BitVec.getLsbD,Nat.testBit_succ]
theorem Zwg (c d:BitVec 32):stepB (c ^^^ d)=bitB c (d.getLsbD 0) ^^^ (d >>> 1):=by
 apply BitVec.eq_of_getLsbD_eq
 intro p _
 rw [bitB,BitVec.getLsbD_xor,Zpb,Zpb,BitVec.getLsbD_ushiftRight,BitVec.getLsbD_xor,BitVec.getLsbD_xor,BitVec.getLsbD_xor,BitVec.getLsbD_xor,Zos,Zos,Nat.add_comm 1 p]
 simp only [Nat.add_eq_zero_iff,Nat.one_ne_zero,and_false,decide_false,Bool.false_and,Bool.xor_false,decide_true,Bool.true_and]
 cases c.getLsbD (p+1) <;> cases d.getLsbD (p+1) <;> simp
theorem Zje (v:Nat):∀ n,bitsOf v (n+1)=v.testBit 0 :: bitsOf (v / 2) n
 | 0=>rfl
 | n+1=>by
  rw [bitsOf,Zje v n,bitsOf,List.cons_append]
  congr 3
  rw [Nat.testBit_succ]
theorem Zm5:∀ (n:Nat) (c d:BitVec 32),d.toNat < 2 ^ n→stepsB n (c ^^^ d)=(bitsOf d.toNat n).foldl bitB c
 | 0,c,d,h=>by
  have:d=0#32:=BitVec.eq_of_toNat_eq (by simp at h ⊢; omega)
  subst this
  show c ^^^ 0#32=c
  simp
 | n+1,c,d,h=>by
  have hd:(d >>> 1).toNat=d.toNat / 2:=by rw [BitVec.toNat_ushiftRight,Nat.shiftRight_eq_div_pow]
  rw [Zr0,Zwg,Zm5 n _ _ (by rw [hd]; omega),hd,Zje,List.foldl_cons]
  rfl
theorem Zuk (c:BitVec 32) {x:Int} (hx:0≤x∧x≤255):byteF (toI c) x=toI ((bitsOf x.toNat 8).foldl bitB c):=by
 have hw:IntKind.wrap .u32 x=toI (BitVec.ofNat 32 x.toNat):=by
  rw [wu32 (by omega)]
  unfold toI
  rw [BitVec.toNat_ofNat,Nat.mod_eq_of_lt (by omega)]
  omega
 have hn:(BitVec.ofNat 32 x.toNat).toNat=x.toNat:=by rw [BitVec.toNat_ofNat,Nat.mod_eq_of_lt (by omega)]
 unfold byteF
 rw [hw,Zo8,Zub,Zm5 8 _ _ (by rw [hn]; omega),hn]
def regB (m:List Bool):BitVec 32:=m.foldl bitB 4294967295#32
theorem regF:∀ (l:List Int) (c:BitVec 32),BytesOk l→l.foldl byteF (toI c)=toI ((bitsU l).foldl bitB c)
 | [],_,_=>rfl
 | x :: r,c,h=>by
  have e:bitsU (x :: r)=bitsOf x.toNat 8 ++ bitsU r:=rfl
  rw [List.foldl_cons,Zuk c (h x List.mem_cons_self),regF r _ fun y hy=>h y (List.mem_cons_of_mem _ hy),e,List.foldl_append]
theorem Ztg {l:List Int} (h:BytesOk l):sumF l=toI (4294967295#32 ^^^ regB (bitsU l)):=by
 unfold sumF
 have e:(4294967295:Int)=toI 4294967295#32:=rfl
 rw [e,regF l _ h,Zo8]
 rfl
theorem Zq8 (L:List Bool) (i k:Nat):bitAt (flipAt L i) k=if k=i∧i < L.length then !bitAt L k else bitAt L k:=by
 unfold bitAt flipAt
 rw [List.getElem?_set]
 by_cases h:i=k
 ·subst h
  by_cases hl:i < L.length
  ·rw [if_pos rfl,if_pos hl,if_pos ⟨rfl,hl⟩]; rfl
  ·rw [if_pos rfl,if_neg hl,if_neg (fun x=>hl x.2),List.getElem?_eq_none (by omega)]
 ·rw [if_neg h,if_neg (fun x=>h x.1.symm)]
theorem Zwl (j:Nat):∀ (ks:List Nat) (L:List Bool),ks.Nodup→(∀ k∈ks,k≤32)→j+32 < L.length→∀ q,bitAt (ks.foldl (tapD j) L) q=(bitAt L q ^^ decide (∃ k∈ks,q=j+32 - k))
 | [],L,_,_,_,q=>by simp
 | k :: ks,L,hn,hk,hl,q=>by
  have hn':=List.nodup_cons.1 hn
  have hk0:=hk k List.mem_cons_self
  rw [List.foldl_cons,Zwl j ks (tapD j L k) hn'.2 (fun x hx=>hk x (List.mem_cons_of_mem _ hx)) (by unfold tapD; rw [Z84]; exact hl) q]
  unfold tapD
  rw [Zq8]
  by_cases hq:q=j+32 - k
  ·rw [if_pos ⟨hq,by omega⟩]
   have h1:¬ ∃ k'∈ks,q=j+32 - k':=by
    rintro ⟨k',hk',e⟩
    have:=hk k' (List.mem_cons_of_mem _ hk')
    have:k'=k:=by omega
    subst this
    exact hn'.1 hk'
   have h2:∃ k'∈k :: ks,q=j+32 - k':=⟨k,List.mem_cons_self,hq⟩
   rw [decide_eq_false h1,decide_eq_true h2]
   simp
  ·rw [if_neg (fun x=>hq x.1)]
   congr 1
   rw [decide_eq_decide]
   constructor
   ·rintro ⟨k',hk',e⟩; exact ⟨k',List.mem_cons_of_mem _ hk',e⟩
   ·rintro ⟨k',hk',e⟩
    rcases List.mem_cons.1 hk' with rfl | hk'
    ·exact absurd e hq
    ·exact ⟨k',hk',e⟩
theorem Zzm:∀ p:Fin 32,polyB.getLsbD p.val=decide (∃ k∈tapsD,p.val+k=31):=by decide +kernel
theorem Zyd {L:List Bool} {j:Nat} (hl:j+32 < L.length) (q:Nat):bitAt (stepD L j) q=(bitAt L q ^^ (bitAt L j && decide (∃ k∈tapsD,q=j+32 - k))):=by
 unfold stepD
 show bitAt (if bitAt L j=true then _ else _) q=_
 by_cases h:bitAt L j=true
 ·rw [if_pos h,Zwl j tapsD L (by decide) (by decide) hl,h,Bool.true_and]
 ·rw [if_neg h]
  have h:bitAt L j=false:=by simpa using h
  rw [h]; simp
theorem Zlo (m:List Bool):∀ (n:Nat),n≤m.length→∀ q,bitAt ((List.range n).foldl flipAt m) q=(bitAt m q ^^ decide (q < n))
 | 0,_,q=>by simp
 | n+1,h,q=>by
  rw [List.range_succ,List.foldl_append]
  show bitAt (flipAt _ n) q=_
  have hl:((List.range n).foldl flipAt m).length=m.length:=Z91 _ Z84 _ _
  rw [Zq8,Zlo m n (by omega) q,hl]
  by_cases hq:q=n
  ·subst hq
   rw [if_pos ⟨rfl,by omega⟩]
   simp
  ·rw [if_neg (fun x=>hq x.1)]
   congr 1
   rw [decide_eq_decide]
   omega
theorem Zjd (m r:List Bool) (q:Nat):bitAt (m ++ r) q=if q < m.length then bitAt m q else bitAt r (q - m.length):=by
 unfold bitAt
 split
 ·rename_i h; rw [List.getElem?_append_left h]
 ·rename_i h; rw [List.getElem?_append_right (by omega)]
theorem Zrl (n q:Nat):bitAt (List.replicate n false) q=false:=by
 unfold bitAt
 rw [List.getElem?_replicate]
 split <;> rfl
theorem Zxk (m:List Bool) (q:Nat):bitAt (initD m) q=(bitAt m q ^^ decide (q < 32)):=by
 unfold initD
 rw [Zlo _ 32 (by simp),Zjd,Zrl]
 congr 1
 split
 ·rfl
 ·rw [Zo9 (by omega)]
theorem Zw6 {m:List Bool} {j:Nat} (h:j < m.length):regB (m.take (j+1))=bitB (regB (m.take j)) (bitAt m j):=by
 have hj:m[j]?=some (bitAt m j):=by unfold bitAt; rw [List.getElem?_eq_getElem h]; rfl
 unfold regB
 rw [Z8 hj,List.foldl_append]
 rfl
theorem Zvt:∀ p:Fin 32,(4294967295#32).getLsbD p.val=true:=by decide +kernel
theorem Zux (m:List Bool):∀ j,j≤m.length→∀ p,bitAt (divD m j) (j+p)=((regB (m.take j)).getLsbD p ^^ bitAt m (j+p))
 | 0,_,p=>by
  have e:divD m 0=initD m:=by unfold divD; rw [List.range_zero,List.foldl_nil]
  have hr:(regB (m.take 0)).getLsbD p=decide (p < 32):=by
   have:regB (m.take 0)=4294967295#32:=by unfold regB; rw [List.take_zero,List.foldl_nil]
   rw [this]
   by_cases hp:p < 32
   ·rw [Zvt ⟨p,hp⟩]; simp [hp]
   ·rw [BitVec.getLsbD_of_ge _ _ (by omega)]; simp [hp]
  rw [e,Zxk,Nat.zero_add,hr,Bool.xor_comm]
 | j+1,hj,p=>by
  have ih:=Zux m j (by omega)
  have e:divD m (j+1)=stepD (divD m j) j:=by unfold divD; rw [List.range_succ,List.foldl_append]; rfl
  have hb:bitAt (divD m j) j=((regB (m.take j)).getLsbD 0 ^^ bitAt m j):=ih 0
  rw [e,Zyd (by rw [Zk9]; omega),show j+1+p=j+(p+1) by omega,ih (p+1),Zw6 (by omega),bitB,Zpb,BitVec.getLsbD_xor,BitVec.getLsbD_xor,Zos,Zos,hb]
  have ht:decide (∃ k∈tapsD,j+(p+1)=j+32 - k)=polyB.getLsbD p:=by
   by_cases hp:p < 32
   ·rw [Zzm ⟨p,hp⟩,decide_eq_decide]
    constructor
    ·rintro ⟨k,hk,e⟩; exact ⟨k,hk,by have:=Zti k hk; show p+k=31; omega⟩
    ·rintro ⟨k,hk,e⟩; exact ⟨k,hk,by have:p+k=31:=e; omega⟩
   ·rw [BitVec.getLsbD_of_ge _ _ (by omega)]
    apply decide_eq_false
    rintro ⟨k,hk,e⟩
    omega
  rw [ht]
  simp only [Nat.add_eq_zero_iff,Nat.one_ne_zero,and_false,decide_false,Bool.false_and,Bool.xor_false,decide_true,Bool.true_and]
  cases (regB (List.take j m)).getLsbD (p+1) <;> cases bitAt m (j+(p+1)) <;> simp
theorem Zt6 (c:BitVec 32) {left:List Bool} (hl:left.length=32) (h:∀ p,p < 32→bitAt left p=!c.getLsbD p):∀ k,k≤32→numD left k=((c.toNat / 2 ^ (32 - k):Nat):Int)
 | 0,_=>by
  have:=c.isLt
  show (0:Int)=_
  rw [Nat.div_eq_of_lt (by simpa using this)]
  rfl
 | k+1,hk=>by
  have ih:=Zt6 c hl h k (by omega)
  have hb:(left[31 - k]?).getD false=!c.getLsbD (31 - k):=h (31 - k) (by omega)
  rw [numD,ih,hb]
  have hlt:=c.isLt
  have e1:32 - k=(31 - k)+1:=by omega
  have e2:32 - (k+1)=31 - k:=by omega
  rw [e1,e2,Nat.pow_succ,← Nat.div_div_eq_div_mul]
  have ht:c.getLsbD (31 - k)=decide (c.toNat / 2 ^ (31 - k) % 2=1):=by rw [BitVec.getLsbD,Nat.testBit_eq_decide_div_mod_eq]
  rw [ht]
  have hv:c.toNat / 2 ^ (31 - k)≤4294967295:=Nat.le_trans (Nat.div_le_self _ _) (by omega)
  generalize c.toNat / 2 ^ (31 - k)=v at hv ⊢
  have ew:IntKind.wrap .u32 (((v / 2:Nat):Int) * 2)=((v / 2 * 2:Nat):Int):=by rw [wu32 (by omega)]; omega
  rw [ew]
  by_cases h1:v % 2=1
  ·rw [if_pos (by simp [h1]),wu32 (by omega)]
   omega
  ·rw [if_neg (by simp [h1])]
   omega
theorem Zyf {l:List Int} (h:BytesOk l):sumD l=sumF l:=by
 rw [Ztg h]
 unfold sumD
 have hlen:=Z5j l
 generalize bitsU l=m
 have hd:=Zk9 m m.length
 rw [Zt6 (4294967295#32 ^^^ regB m) (by rw [List.length_drop,hd]; omega) (fun p hp=>?_) 32 (Nat.le_refl _)]
 ·simp [toI]
 ·have:=Zux m m.length (Nat.le_refl _) p
  rw [List.take_length,Zo9 (L:=m) (by omega),Bool.xor_false] at this
  have e:bitAt ((divD m m.length).drop m.length) p=bitAt (divD m m.length) (m.length+p):=by unfold bitAt; rw [List.getElem?_drop]
  rw [e,this,BitVec.getLsbD_xor]
  rw [Zvt ⟨p,hp⟩]
  simp
end Go.Proofs.YtchhhjlpnecjkaaGreat
namespace Go.Proofs.YtchhhjlpnecjkaaGreat
open Go Go.RowKit Go.Proofs.YtchhhjlpnecjkaaGreat.Den
variable {R:Type} {Q:R→World→Prop} {w:World}
theorem Zuc {l:List Int} (h:BytesOk l):0≤sumF l∧sumF l≤4294967295:=by
 rw [Ztg h]
 have:=(4294967295#32 ^^^ regB (bitsU l)).isLt
 unfold toI
 omega
theorem Zyg {s:Int} (h:0≤s∧s≤4294967295):tailF s=[IntKind.wrap .u8 s,IntKind.wrap .u8 (IntKind.wrap .u32 (Int.tdiv s 256)),IntKind.wrap .u8 (IntKind.wrap .u32 (Int.tdiv s 65536)),IntKind.wrap .u8 (IntKind.wrap .u32 (Int.tdiv s 16777216))]:=by
 have sh:∀ i:Nat,i < 4→shR .u32 s (8 * (i:Int))=s / 2 ^ (8 * i):=fun i hi=>by
  unfold shR
  have:min (8 * (i:Int)).toNat (IntKind.bits .u32)=8 * i:=by
   show min (8 * (i:Int)).toNat 32=8 * i
   omega
  rw [this,Int.fdiv_eq_ediv_of_nonneg _ (by exact_mod_cast Nat.zero_le (2 ^ (8 * i)))]
 unfold tailF
 show [IntKind.wrap .u8 (shR .u32 s (8 * ((0:Nat):Int))),IntKind.wrap .u8 (shR .u32 s (8 * ((1:Nat):Int))),IntKind.wrap .u8 (shR .u32 s (8 * ((2:Nat):Int))),IntKind.wrap .u8 (shR .u32 s (8 * ((3:Nat):Int)))]=_
 rw [sh 0 (by decide),sh 1 (by decide),sh 2 (by decide),sh 3 (by decide),Int.tdiv_eq_ediv_of_nonneg h.1,Int.tdiv_eq_ediv_of_nonneg h.1,Int.tdiv_eq_ediv_of_nonneg h.1,wu32 (x:=s / 256) (by omega),wu32 (x:=s / 65536) (by omega),wu32 (x:=s / 16777216) (by omega)]
 simp
theorem Zth (s:Int):BytesOk (tailF s):=fun x hx=>by
 unfold tailF at hx
 obtain ⟨i,_,rfl⟩:=List.mem_map.1 hx
 rw [IntKind.wrap_u8]
 omega
theorem Zhx (s:Int):(tailF s).length=4:=by simp [tailF]
theorem Zki {l:List Int} (h:BytesOk l):BytesOk (sealF l):=fun x hx=>by
 rcases List.mem_append.1 hx with hx | hx
 ·exact h x hx
 ·exact Zth _ x hx
theorem Zwc (l:List Int):(sealF l).length=l.length+4:=by unfold sealF; rw [List.length_append,Zhx]
theorem blkSl {b:Nat} {T:TypeId} {cs:List Value} {t:Ty} {l:List t.T} (B:Blk w b T cs) (hc:cs=l.flatMap t.cells) {n:Nat} (hn:n=l.length):SlT (fun k=>k=b) w t ⟨some ⟨b,0,none⟩,n,n⟩ l :=
 ⟨hn,Nat.le_refl _,.inr ⟨b,0,rfl,rfl,B.lt,fun i x hx=>Rd.cells.2 (B.cells _ _ fun j u hj=>by rw [hc,Nat.zero_add]; exact Zfn hx j u hj)⟩⟩
theorem freshB {ok:Nat→Prop} {s:Sl} {l:List Int} (hS:SlT ok w u8T s l) (hm:l.length≤140737488355328) {K:Sl→W R} (hk:∀ r w',Own (Up w.heap.size) w' 5 u8T r l→Fr None w w'→K r Q w') :
  newW 5 [] (fun x=>rawW Tryz.prog (Builtin.append_ #[22,22] 22 #[.slice (some x) 0 0,.slice s.a s.n s.c]) [.sc .sl] K) Q w:=by
 refine newI fun w1 B1 f1 s1=>?_
 have own:=Own.mk' (S:=Up w.heap.size) (w:=w1) (E:=5) (t:=u8T) (l:=[]) (g:=w.heap.size) (c:=0) (cur:=⟨[]⟩) (Nat.le_refl _) B1 (Nat.le_refl _) (Nat.zero_le _) (by simp) (by simp)
 refine appI (s:=⟨some ⟨w.heap.size,0,none⟩,0,0⟩) (s2:=s) (S':=Up w.heap.size) Z3r own (hS.fr0 f1) (by simp; omega) (by rw [Zm]; simp; omega) (fun _ h=>h) (by show _≤_; omega) fun r w2 o2 f2 s2=>hk r w2 (by simpa using o2) (f1.newer f2 (fun x e=>own.own x e))
theorem Zjs {ok:Nat→Prop} {s:Sl} {l:List Int} (hS:SlT ok w u8T s l) (hb:BytesOk l) (hm:l.length≤140737488355000) {K:Res [.sc .sl,.sc (.int .i64)]→W R} (h1:4096 < l.length→K (⟨none,0,0⟩,3) Q w) (hk:l.length≤4096→∀ r w',Own (Up w.heap.size) w' 5 u8T r (sealF l)→Fr None w w'→K (r,0) Q w') :
  callW Tryz.prog Z30 [.slice s.a s.n s.c] [.sc .sl,.sc (.int .i64)] K Q w:=by
 refine Zez s K Q w ?_
 unfold Z8d
 have hlen:=hS.len
 refine condD (fun h=>h1 (by omega)) fun h=>?_
 refine Zsb hS hb (by omega) fun w1 f1=>?_
 rw [Zyf hb]
 have hr:=Zuc hb
 refine freshB (hS.fr0 f1) (by omega) fun x w2 o2 f2=>?_
 have z1:=f1.size
 have z2:=f2.size
 refine newI fun w3 B3 f3 t3=>?_
 have hS3:=blkSl (t:=u8T) (l:=tailF (sumF l)) (n:=4) B3 (by rw [Zyg hr]; rfl) (by rw [Zhx])
 refine appI Z3r (S':=Up w.heap.size) (s2:=⟨some ⟨w2.heap.size,0,none⟩,4,4⟩) (o2.none f3) hS3 (by rw [Zhx]; omega) (by rw [Zm,Zhx]; omega) (fun k h=>by have h:w1.heap.size≤k:=h; show w.heap.size≤k; omega) (by show w.heap.size≤_; omega) fun r w4 o4 f4 _=>?_
 exact hk (by omega) r w4 o4 (((f1.then0 f2).then0 f3).newer f4 fun k e=>by have:=o2.own k e; have:w1.heap.size≤k:=this; omega)
theorem Zjr {ok:Nat→Prop} {s:Sl} {l:List Int} (hS:SlT ok w u8T s l) (hb:BytesOk l) (hm:l.length≤140737488355000) {K:Res [.sc .sl,.sc (.int .i64)]→W R} (h1:∀ w',Fr None w w'→(l.length < 4→K (⟨none,0,0⟩,2) Q w')∧(4100 < l.length→K (⟨none,0,0⟩,3) Q w')∧(4≤l.length→l.length≤4100→sealF (l.take (l.length - 4))≠l→K (⟨none,0,0⟩,6) Q w'))
  (hk:4≤l.length→l.length≤4100→sealF (l.take (l.length - 4))=l→∀ r w',Own (Up w.heap.size) w' 5 u8T r (l.take (l.length - 4))→Fr None w w'→K (r,0) Q w') :
  callW Tryz.prog Z1j [.slice s.a s.n s.c] [.sc .sl,.sc (.int .i64)] K Q w:=by
 refine Zey s K Q w ?_
 unfold Z8c
 have hlen:=hS.len
 refine condD (fun h=>(h1 w (Fr.refl _ _)).1 (by omega)) fun ha=>?_
 refine condD (fun h=>(h1 w (Fr.refl _ _)).2.1 (by omega)) fun hc=>?_
 refine hS.cutI (n:=l.length - 4) (by rw [w64 (by omega)]; omega) (by omega) fun s' _ hs'=>?_
 have hS':=hs' ok w hS
 have hbt:BytesOk (l.take (l.length - 4)):=fun x hx=>hb x (List.mem_of_mem_take hx)
 have hlt:(l.take (l.length - 4)).length=l.length - 4:=by rw [List.length_take]; omega
 refine Zjs hS' hbt (by omega) (fun h=>by omega) fun _ r w1 o1 f1=>?_
 refine Z9z o1.sl (hS.fr0 f1) (Zki hbt) hb ?_
 refine condI (fun h=>?_) fun h=>?_
 ·exact (h1 w1 f1).2.2 (by omega) (by omega) (by simpa using h)
 ·refine freshB (hS'.fr0 f1) (by omega) fun r2 w2 o2 f2=>?_
  exact hk (by omega) (by omega) (by simpa using h) r2 w2 (o2.up f1.size) (f1.then0 f2)
end Go.Proofs.YtchhhjlpnecjkaaGreat
namespace Go.Proofs.YtchhhjlpnecjkaaGreat
open Go Go.RowKit Go.Proofs.YtchhhjlpnecjkaaGreat.Den
theorem Znb (v:Nat):∀ n i,bitAt (bitsOf v n) i=(decide (i < n) && v.testBit i)
 | 0,i=>by simp [bitsOf,bitAt]
 | n+1,i=>by
  rw [bitsOf,Zi7,Z4,Znb v n i]
  by_cases h:i=n
  ·subst h; simp
  ·rw [if_neg h]
   congr 1
   rw [decide_eq_decide]
   omega
theorem Zl5:∀ (l:List Int) (j i:Nat) (x:Int),l[j]?=some x→i < 8→bitAt (bitsU l) (8 * j+i)=x.toNat.testBit i
 | [],j,i,x,h,_=>by simp at h
 | y :: r,j,i,x,h,hi=>by
  have e:bitsU (y :: r)=bitsOf y.toNat 8 ++ bitsU r:=rfl
  rw [e,Zjd,Z4]
  rcases j with _ | j
  ·simp at h
   subst h
   rw [if_pos (by omega),Znb,Nat.mul_zero,Nat.zero_add]
   simp [hi]
  ·rw [if_neg (by omega),show 8 * (j+1)+i - 8=8 * j+i by omega]
   exact Zl5 r j i x (by simpa using h) hi
theorem Zbj (a b:List Comp) {k:Nat} (hk:k < 6):(lostM a b).toNat.testBit k=(has a k && !has b k):=by
 have h1:=Z6l a
 have h2:=Z6l b
 have e:(lostM a b).toNat=(BitVec.ofInt 8 (maskN a:Int) &&& ~~~BitVec.ofInt 8 (maskN b:Int)).toNat:=by
  unfold lostM bNot
  have:=(BitVec.ofInt 8 (maskN a:Int) &&& ~~~BitVec.ofInt 8 (maskN b:Int)).isLt
  show (IntKind.wrap .u8 ((BitVec.ofInt 8 (maskN a:Int) &&& ~~~BitVec.ofInt 8 (maskN b:Int)).toNat:Int)).toNat=_
  rw [wu8 (by omega),Int.toNat_natCast]
 have e2:∀ m:Nat,m < 64→(BitVec.ofInt 8 (m:Int)).getLsbD k=m.testBit k:=fun m hm=>by
  rw [BitVec.getLsbD,BitVec.toNat_ofInt]
  congr 1
  omega
 rw [e]
 show (BitVec.ofInt 8 (maskN a:Int) &&& ~~~BitVec.ofInt 8 (maskN b:Int)).getLsbD k=_
 rw [BitVec.getLsbD_and,BitVec.getLsbD_not,e2 _ h1,e2 _ h2,Zau a hk,Zau b hk]
 simp [show k < 8 by omega]
theorem Zcd {l:List Comp} {k:Nat}:has l k=true↔∃ c∈l,c.1=(k:Int):=by simp [has]
theorem Z5f {l:List Comp} {k:Int} (h:(findC l k).2=false):∀ c∈l,c.1≠k:=by
 unfold findC at h
 split at h
 ·cases h
 ·rename_i hn
  rw [List.findIdx?_eq_none_iff] at hn
  intro c hc
  simpa using hn c hc
theorem Z1p {l:List Comp} {k:Int} (h:(findC l k).2=true):(findC l k).1∈l∧(findC l k).1.1=k:=by
 unfold findC at h ⊢
 split at h
 ·rename_i i hi
  rw [List.findIdx?_eq_some_iff_getElem] at hi
  obtain ⟨hl,he,_⟩:=hi
  simp only
  rw [List.getElem?_eq_getElem hl]
  exact ⟨List.getElem_mem hl,by simpa using he⟩
 ·cases h
theorem Zbi {l:List Comp} (h:listE l=0) {a b:Comp} (ha:a∈l) (hb:b∈l) (e:a.1=b.1):a=b:=by
 have hr:=(Z1r.1 h).2
 obtain ⟨i,hi⟩:=List.mem_iff_getElem?.1 ha
 obtain ⟨j,hj⟩:=List.mem_iff_getElem?.1 hb
 rcases Nat.lt_trichotomy i j with h1 | h1 | h1
 ·have:=Zqq hr h1 hi hj; omega
 ·subst h1; rw [hi] at hj; cases hj; rfl
 ·have:=Zqq hr h1 hj hi; omega
theorem Zdb {a b:Ent} (ha:listE a.2=0) (hb:listE b.2=0) (c:Comp):c∈b.2↔(c∈newM a.2 b.2∨c∈chM a.2 b.2∨(c∈a.2∧(lostM a.2 b.2).toNat.testBit c.1.toNat=false∧∀ d∈chM a.2 b.2,d.1≠c.1)):=by
 have kr:∀ {l:List Comp},listE l=0→∀ x∈l,0≤x.1∧x.1 < 6:=fun hl x hx=>by have:=Z2x ((Z1r.1 hl).1 x hx); omega
 constructor
 ·intro hc
  by_cases hf:(findC a.2 c.1).2=true
  ·by_cases he:(findC a.2 c.1).1=c
   ·obtain ⟨h1,h2⟩:=Z1p hf
    rw [he] at h1
    refine .inr (.inr ⟨h1,?_,fun d hd e=>?_⟩)
    ·have:=kr hb c hc
     rw [Zbj _ _ (by omega)]
     have:has b.2 c.1.toNat=true:=Zcd.2 ⟨c,hc,by omega⟩
     rw [this]; simp
    ·obtain ⟨h3,h4⟩:=List.mem_filter.1 hd
     have hdc:=Zbi hb h3 hc e
     subst hdc
     rw [he] at h4
     simp at h4
   ·exact .inr (.inl (List.mem_filter.2 ⟨hc,by simp [hf,he]⟩))
  ·exact .inl (List.mem_filter.2 ⟨hc,by simpa using hf⟩)
 ·rintro (hc | hc | ⟨hc,hl,hs⟩)
  ·exact (List.mem_filter.1 hc).1
  ·exact (List.mem_filter.1 hc).1
  ·have hk:=kr ha c hc
   rw [Zbj _ _ (by omega)] at hl
   have h1:has a.2 c.1.toNat=true:=Zcd.2 ⟨c,hc,by omega⟩
   rw [h1] at hl
   have h2:has b.2 c.1.toNat=true:=by simpa using hl
   obtain ⟨d,hd,e⟩:=Zcd.1 h2
   have e:d.1=c.1:=by omega
   have hf:(findC a.2 d.1).2=true:=by
    refine Classical.byContradiction fun hn=>?_
    have hn:(findC a.2 d.1).2=false:=by simpa using hn
    exact Z5f hn c hc e.symm
   obtain ⟨g1,g2⟩:=Z1p hf
   have hx:=Zbi ha g1 hc (by rw [g2,e])
   by_cases hcd:c=d
   ·rw [hcd]; exact hd
   ·refine absurd e (hs d (List.mem_filter.2 ⟨hd,?_⟩))
    rw [hf,hx]
    simp [hcd]
theorem Zpz {l k:List Comp} (hl:listE l=0) (hk:listE k=0) (h:∀ c,c∈l↔c∈k):l=k:=by
 have hr:=Zip (Z1r.1 hl).2 (Z1r.1 hk).2 fun x=>by
  simp only [List.mem_map]
  exact ⟨fun ⟨c,hc,e⟩=>⟨c,(h c).1 hc,e⟩,fun ⟨c,hc,e⟩=>⟨c,(h c).2 hc,e⟩⟩
 have hlen:l.length=k.length:=by have:=congrArg List.length hr; simpa using this
 apply List.ext_getElem hlen
 intro i h1 h2
 have e:(l.map (·.1))[i]?=(k.map (·.1))[i]?:=by rw [hr]
 rw [List.getElem?_map,List.getElem?_map,List.getElem?_eq_getElem h1,List.getElem?_eq_getElem h2] at e
 have e:l[i].1=k[i].1:=by simpa using e
 exact Zbi hk ((h _).1 (List.getElem_mem h1)) (List.getElem_mem h2) e
theorem Znd {a b b':Ent} (ha:listE a.2=0) (hb:listE b.2=0) (hb':listE b'.2=0) (h:(changeM a b).2=(changeM a b').2):b.2=b'.2:=by
 have h1:lostM a.2 b.2=lostM a.2 b'.2:=congrArg (·.1) h
 have h2:newM a.2 b.2=newM a.2 b'.2:=congrArg (·.2.1) h
 have h3:chM a.2 b.2=chM a.2 b'.2:=congrArg (·.2.2) h
 refine Zpz hb hb' fun c=>?_
 rw [Zdb ha hb,Zdb ha hb',h1,h2,h3]
theorem Zrz:∀ {l k:List Ent},(l.Pairwise fun a b=>a.1 < b.1)→(k.Pairwise fun a b=>a.1 < b.1)→(∀ x,x∈l↔x∈k)→l=k
 | [],[],_,_,_=>rfl
 | [],y :: k,_,_,h=>by have:=(h y).2 List.mem_cons_self; cases this
 | x :: l,[],_,_,h=>by have:=(h x).1 List.mem_cons_self; cases this
 | x :: l,y :: k,hl,hk,h=>by
  obtain ⟨l1,l2⟩:=List.pairwise_cons.1 hl
  obtain ⟨k1,k2⟩:=List.pairwise_cons.1 hk
  have hxy:x=y:=by
   rcases List.mem_cons.1 ((h x).1 List.mem_cons_self) with e | e
   ·exact e
   ·rcases List.mem_cons.1 ((h y).2 List.mem_cons_self) with e2 | e2
    ·exact e2.symm
    ·have:=k1 x e; have:=l1 y e2; omega
  subst hxy
  rw [Zrz l2 k2 fun z=>?_]
  constructor
  ·intro hz
   rcases List.mem_cons.1 ((h z).1 (List.mem_cons_of_mem _ hz)) with e | e
   ·subst e; have:=l1 z hz; omega
   ·exact e
  ·intro hz
   rcases List.mem_cons.1 ((h z).2 (List.mem_cons_of_mem _ hz)) with e | e
   ·subst e; have:=k1 z hz; omega
   ·exact e
theorem Znf {L:List Ent} (h:L.Pairwise fun a b=>a.1 < b.1) {a b:Ent} (ha:a∈L) (hb:b∈L) (e:a.1=b.1):a=b:=by
 obtain ⟨i,hi⟩:=List.mem_iff_getElem?.1 ha
 obtain ⟨j,hj⟩:=List.mem_iff_getElem?.1 hb
 rcases Nat.lt_trichotomy i j with h1 | h1 | h1
 ·have:=Z9r h h1 hi hj; omega
 ·subst h1; rw [hi] at hj; cases hj; rfl
 ·have:=Z9r h h1 hj hi; omega
theorem Zb3 {was:List Ent} (hw:was.Pairwise fun a b=>a.1 < b.1) {a e:Ent} (ha:a∈was) (he:a.1=e.1):chgOne was e=if nothingM (changeM a e)=true then none else some (changeM a e):=by
 obtain ⟨i,hi⟩:=List.mem_iff_getElem?.1 ha
 unfold chgOne
 rw [← he,Zv3 hw hi]
theorem Z5k {was:List Ent} {e:Ent} {d:Chg} (h:chgOne was e=some d):d.1=e.1∧∃ a∈was,a.1=e.1∧d=changeM a e∧nothingM (changeM a e)=false:=by
 unfold chgOne at h
 split at h
 ·cases h
 ·rename_i a ha
  split at h
  ·cases h
  ·rename_i hn
   cases h
   exact ⟨rfl,a,List.mem_of_find?_eq_some ha,by have:=List.find?_some ha; simpa using this,rfl,by simpa using hn⟩
theorem Zio {d:Chg} (h:nothingM d=true):d.2=(0,[],[]):=by
 unfold nothingM at h
 obtain ⟨a,b,c⟩:=of_decide_eq_true h
 exact Prod.ext a (Prod.ext (List.length_eq_zero_iff.1 b) (List.length_eq_zero_iff.1 c))
theorem Zq3 {was x y:List Ent} (hw:FormOk was) (hx:FormOk x) (hy:FormOk y) (hg:goneM was x=goneM was y) (hc:comeM was x=comeM was y) (hd:chgsM was x=chgsM was y):∀ e∈x,e∈y:=by
 intro e he
 by_cases hh:hasE was e.1=true
 ·obtain ⟨a,ha,hae⟩:=Z2y.1 hh
  have hny:hasE y a.1=true:=by
   refine Classical.byContradiction fun hn=>?_
   have hn:hasE y a.1=false:=by simpa using hn
   have:a.1∈goneM was y:=List.mem_map.2 ⟨a,List.mem_filter.2 ⟨ha,by rw [hn]; rfl⟩,rfl⟩
   rw [← hg] at this
   obtain ⟨a2,ha2,e2⟩:=List.mem_map.1 this
   have h3:=(List.mem_filter.1 ha2).2
   have:hasE x a2.1=true:=Z2y.2 ⟨e,he,by rw [e2,hae]⟩
   rw [this] at h3
   cases h3
  obtain ⟨e',he',hid⟩:=Z2y.1 hny
  have hee:e.1=e'.1:=by rw [hid,hae]
  have o1:=Zb3 hw.rise ha hae
  have o2:=Zb3 hw.rise ha hid.symm
  have key:(changeM a e).2=(changeM a e').2:=by
   by_cases hn:nothingM (changeM a e)=true
   ·by_cases hn':nothingM (changeM a e')=true
    ·rw [Zio hn,Zio hn']
    ·rw [if_neg hn'] at o2
     have:changeM a e'∈chgsM was y:=List.mem_filterMap.2 ⟨e',he',o2⟩
     rw [← hd] at this
     obtain ⟨e2,h2,h3⟩:=List.mem_filterMap.1 this
     have h4:=(Z5k h3).1
     have:e2=e:=Znf hx.rise h2 he (by rw [← h4,hee]; rfl)
     subst this
     rw [o1,if_pos hn] at h3
     cases h3
   ·rw [if_neg hn] at o1
    have:changeM a e∈chgsM was x:=List.mem_filterMap.2 ⟨e,he,o1⟩
    rw [hd] at this
    obtain ⟨e2,h2,h3⟩:=List.mem_filterMap.1 this
    have h4:=(Z5k h3).1
    have:e2=e':=Znf hy.rise h2 he' (by rw [← h4,← hee]; rfl)
    subst this
    rw [o2] at h3
    split at h3
    ·cases h3
    ·injection h3 with h3
     rw [h3]
  have:=Znd (hw.list ha) (hx.list he) (hy.list he') key
  have:e=e':=Prod.ext hee this
  rw [this]
  exact he'
 ·have hh:hasE was e.1=false:=by simpa using hh
  have:e∈comeM was x:=List.mem_filter.2 ⟨he,by rw [hh]; rfl⟩
  rw [hc] at this
  exact (List.mem_filter.1 this).1
theorem Zuu {was x y:List Ent} (hw:FormOk was) (hx:FormOk x) (hy:FormOk y) (hg:goneM was x=goneM was y) (hc:comeM was x=comeM was y) (hd:chgsM was x=chgsM was y):x=y :=
 Zrz hx.rise hy.rise fun e=>⟨Zq3 hw hx hy hg hc hd e,Zq3 hw hy hx hg.symm hc.symm hd.symm e⟩
end Go.Proofs.YtchhhjlpnecjkaaGreat
namespace Go.Proofs.YtchhhjlpnecjkaaGreat
open Go Go.RowKit Go.Proofs.YtchhhjlpnecjkaaGreat.Den
end Go.Proofs.YtchhhjlpnecjkaaGreat
namespace Go.Proofs.YtchhhjlpnecjkaaGreat
open Go Go.RowKit Go.Proofs.YtchhhjlpnecjkaaGreat.Den
def turnP (l:List Comp) (d:Chg):List Comp:=((l.filter fun c=>!(decide (c.1 < 6) && d.2.1.toNat.testBit c.1.toNat)).map fun c=>if (findC d.2.2.2 c.1).2=true then (findC d.2.2.2 c.1).1 else c) ++ d.2.2.1
def TurnOf (e:Ent) (d:Chg) (e':Ent):Prop:=e'.1=e.1∧e'.2.Perm (turnP e.2 d)∧e'.2.Pairwise fun a b=>a.1≤b.1
def KeepR (chg:List Chg) (e e':Ent):Prop:=(∀ d,chg.find? (fun d=>d.1 == e.1)=some d→TurnOf e d e')∧(chg.find? (fun d=>d.1 == e.1)=none→e'=e)
structure PatchOk (was:List Ent) (gone:List Int) (come:List Ent) (chg:List Chg) (now:List Ent):Prop where
 form:FormOk now
 gone:goneM was now=gone
 come:comeM was now=come
 chg:chgsM was now=chg
theorem Zng {l:List Comp} (h:listE l=0):l.Pairwise fun a b=>a.1≠b.1:=by
 have:=(Z1r.1 h).2
 rw [Rising,List.pairwise_map] at this
 exact this.imp fun h=>by omega
theorem Zq4 {α:Type} {key:α→Int} {l:List α} (h:l.Pairwise fun a b=>key a≤key b) (hd:l.Pairwise fun a b=>key a≠key b):l.Pairwise fun a b=>key a < key b:=by
 have:=h.and hd
 exact this.imp fun h=>by have:=h.1; have:=h.2; omega
theorem Zzt {a b e':Ent} (ha:listE a.2=0) (hb:listE b.2=0) (hid:a.1=b.1) (h:TurnOf a (changeM a b) e'):e'=b:=by
 obtain ⟨h1,h2,h3⟩:=h
 have ka:∀ c∈a.2,0≤c.1∧c.1≤5:=fun c hc=>Z2x ((Z1r.1 ha).1 c hc)
 have kb:∀ c∈b.2,0≤c.1∧c.1≤5:=fun c hc=>Z2x ((Z1r.1 hb).1 c hc)
 have hk:∀ c:Comp,(if (findC (changeM a b).2.2.2 c.1).2=true then (findC (changeM a b).2.2.2 c.1).1 else c).1=c.1:=fun c=>by
  split
  ·rename_i h; exact (Z1p h).2
  ·rfl
 have dist:(turnP a.2 (changeM a b)).Pairwise fun x y=>x.1≠y.1:=by
  unfold turnP
  rw [List.pairwise_append]
  refine ⟨?_,(Zng hb).filter _,?_⟩
  ·rw [List.pairwise_map]
   exact ((Zng ha).filter _).imp fun {x y} h=>by rw [hk x,hk y]; exact h
  ·intro x hx y hy e
   obtain ⟨c,hc,rfl⟩:=List.mem_map.1 hx
   rw [hk c] at e
   have hc:=(List.mem_filter.1 hc).1
   have hy2:=(List.mem_filter.1 hy).2
   have:(findC a.2 y.1).2=false:=by simpa using hy2
   exact Z5f this c hc e
 have mem:∀ c,c∈turnP a.2 (changeM a b)↔c∈b.2:=by
  intro c
  rw [Zdb ha hb c]
  unfold turnP
  rw [List.mem_append]
  show _∨c∈newM a.2 b.2↔_
  constructor
  ·rintro (h | h)
   ·obtain ⟨x,hx,rfl⟩:=List.mem_map.1 h
    obtain ⟨hx,hl⟩:=List.mem_filter.1 hx
    split
    ·rename_i hf
     exact .inr (.inl (Z1p hf).1)
    ·rename_i hf
     have hf:(findC (changeM a b).2.2.2 x.1).2=false:=by simpa using hf
     refine .inr (.inr ⟨hx,?_,Z5f hf⟩)
     have:=ka x hx
     rw [decide_eq_true (by omega:x.1 < 6),Bool.true_and] at hl
     have hl:(!(lostM a.2 b.2).toNat.testBit x.1.toNat)=true:=hl
     simpa using hl
   ·exact .inl h
  ·rintro (h | h | ⟨h,hl,hs⟩)
   ·exact .inr h
   ·refine .inl ?_
    obtain ⟨hb',hp⟩:=List.mem_filter.1 h
    have hf:(findC a.2 c.1).2=true:=by
     rw [Bool.and_eq_true] at hp
     exact hp.1
    obtain ⟨g1,g2⟩:=Z1p hf
    refine List.mem_map.2 ⟨(findC a.2 c.1).1,List.mem_filter.2 ⟨g1,?_⟩,?_⟩
    ·have:=kb c hb'
     rw [g2]
     have e:(changeM a b).2.1.toNat.testBit c.1.toNat=false:=by
      show (lostM a.2 b.2).toNat.testBit c.1.toNat=false
      rw [Zbj _ _ (by omega)]
      have:has b.2 c.1.toNat=true:=Zcd.2 ⟨c,hb',by omega⟩
      rw [this]; simp
     rw [e]; simp
    ·rw [g2]
     have hf2:(findC (changeM a b).2.2.2 c.1).2=true:=by
      refine Classical.byContradiction fun hn=>?_
      have hn:(findC (changeM a b).2.2.2 c.1).2=false:=by simpa using hn
      exact Z5f hn c h rfl
     rw [if_pos hf2]
     obtain ⟨q1,q2⟩:=Z1p hf2
     exact Zbi hb (List.mem_filter.1 q1).1 hb' q2
   ·refine .inl (List.mem_map.2 ⟨c,List.mem_filter.2 ⟨h,?_⟩,?_⟩)
    ·have e:(changeM a b).2.1.toNat.testBit c.1.toNat=false:=hl
     rw [e]; simp
    ·rw [if_neg]
     intro hf
     obtain ⟨q1,q2⟩:=Z1p hf
     exact hs _ q1 q2
 have dist2:e'.2.Pairwise fun x y=>x.1≠y.1:=(h2.pairwise_iff (R:=fun x y:Comp=>x.1≠y.1) fun h=>fun e=>h e.symm).2 dist
 have rise:=Zq4 h3 dist2
 have mem2:∀ c,c∈e'.2↔c∈b.2:=fun c=>(h2.mem_iff).trans (mem c)
 have hle:listE e'.2=0:=Z1r.2 ⟨fun c hc=>(Z1r.1 hb).1 c ((mem2 c).1 hc),by rw [Rising,List.pairwise_map]; exact rise⟩
 exact Prod.ext (h1.trans hid) (Zpz hle hb mem2)
theorem Zqr {a:Ent} (ha:listE a.2=0):(changeM a a).2=(0,[],[]):=by
 have hf:∀ c∈a.2,findC a.2 c.1=(c,true):=by
  intro c hc
  have h2:(findC a.2 c.1).2=true:=by
   refine Classical.byContradiction fun hn=>?_
   have hn:(findC a.2 c.1).2=false:=by simpa using hn
   exact Z5f hn c hc rfl
  obtain ⟨q1,q2⟩:=Z1p h2
  exact Prod.ext (Zbi ha q1 hc q2) h2
 refine Prod.ext ?_ (Prod.ext ?_ ?_)
 ·show lostM a.2 a.2=0
  have h0:(lostM a.2 a.2).toNat=0:=by
   refine Nat.eq_of_testBit_eq fun i=>?_
   by_cases hi:i < 6
   ·rw [Zbj _ _ hi]; simp
   ·rw [Nat.zero_testBit]
    refine Nat.testBit_lt_two_pow ?_
    have h1:=Z6l a.2
    have:(lostM a.2 a.2).toNat < 2 ^ 6:=by
     have e:lostM a.2 a.2=IntKind.wrap .u8 (((BitVec.ofInt 8 (maskN a.2:Int) &&& ~~~BitVec.ofInt 8 (maskN a.2:Int)).toNat:Nat):Int):=rfl
     rw [e,BitVec.and_not_self]
     decide
    exact Nat.lt_of_lt_of_le this (Nat.pow_le_pow_right (by decide) (by omega))
  have hnn:0≤lostM a.2 a.2:=by
   have:lostM a.2 a.2=IntKind.wrap .u8 (((BitVec.ofInt 8 (maskN a.2:Int) &&& ~~~BitVec.ofInt 8 (maskN a.2:Int)).toNat:Nat):Int):=rfl
   rw [this,IntKind.wrap_u8]
   omega
  omega
 ·show newM a.2 a.2=[]
  unfold newM
  rw [List.filter_eq_nil_iff]
  intro c hc
  rw [hf c hc]; simp
 ·show chM a.2 a.2=[]
  unfold chM
  rw [List.filter_eq_nil_iff]
  intro c hc
  rw [hf c hc]; simp
theorem Zoc {was now:List Ent} (hw:FormOk was) (hn:FormOk now) {a b:Ent} (ha:a∈was) (hb:b∈now) (hab:a.1=b.1) (h:∀ d∈chgsM was now,d.1≠a.1):a=b:=by
 have o:=Zb3 hw.rise ha hab
 by_cases hn2:nothingM (changeM a b)=true
 ·have e1:=Zio hn2
  have:=Znd (hw.list ha) (hn.list hb) (hw.list ha) (e1.trans (Zqr (hw.list ha)).symm)
  exact Prod.ext hab this.symm
 ·rw [if_neg hn2] at o
  exact absurd hab.symm (h _ (List.mem_filterMap.2 ⟨b,hb,o⟩))
theorem Zx1 {was now:List Ent} (hw:FormOk was) (hn:FormOk now) {a b:Ent} (ha:a∈was) (hb:b∈now) (hab:a.1=b.1) {d:Chg} (hd:d∈chgsM was now) (he:d.1=a.1):d=changeM a b:=by
 obtain ⟨b2,hb2,h2⟩:=List.mem_filterMap.1 hd
 obtain ⟨g1,a2,ha2,g2,g3,_⟩:=Z5k h2
 have e1:b2=b:=Znf hn.rise hb2 hb (by rw [← g1,he,hab])
 have e2:a2=a:=Znf hw.rise ha2 ha (by rw [g2,← g1,he])
 rw [g3,e1,e2]
theorem Zvd {was now:List Ent} (hw:FormOk was) (hn:FormOk now) {a b e':Ent} (ha:a∈was) (hb:b∈now) (hab:a.1=b.1) (h:KeepR (chgsM was now) a e'):e'=b:=by
 cases hf:(chgsM was now).find? (fun d=>d.1 == a.1) with
 | none =>
  rw [h.2 hf]
  refine Zoc hw hn ha hb hab fun d hd e=>?_
  have:=List.find?_eq_none.1 hf d hd
  simp [e] at this
 | some d =>
  have hd:=List.mem_of_find?_eq_some hf
  have he:d.1=a.1:=by have:=List.find?_some hf; simpa using this
  have ht:=h.1 d hf
  rw [Zx1 hw hn ha hb hab hd he] at ht
  exact Zzt (hw.list ha) (hn.list hb) hab ht
theorem Zw1 {was now:List Ent} {gone:List Int} {come:List Ent} {chg:List Chg} (hw:FormOk was) (hp:PatchOk was gone come chg now) {K:List Ent} (hK:All2 (KeepR chg) (was.filter fun e=>!decide (e.1∈gone)) K) (hid:∀ (i:Nat) a b,(was.filter fun e=>!decide (e.1∈gone))[i]?=some a→K[i]?=some b→b.1=a.1)
  {l:List Ent} (hl:l.Perm (K ++ come)) (hs:l.Pairwise fun a b=>a.1≤b.1):l=now:=by
 obtain ⟨hn,rfl,rfl,rfl⟩:=hp
 have stay:∀ a∈was,decide (a.1∈goneM was now)=false→hasE now a.1=true:=fun a ha h=>by
  refine Classical.byContradiction fun hx=>?_
  have hx:hasE now a.1=false:=by simpa using hx
  have:a.1∈goneM was now:=List.mem_map.2 ⟨a,List.mem_filter.2 ⟨ha,by rw [hx]; rfl⟩,rfl⟩
  rw [decide_eq_true this] at h
  cases h
 have notgone:∀ a∈was,hasE now a.1=true→decide (a.1∈goneM was now)=false:=fun a ha h=>by
  refine decide_eq_false fun hx=>?_
  obtain ⟨a2,h2,e2⟩:=List.mem_map.1 hx
  have h3:=(List.mem_filter.1 h2).2
  rw [e2,h] at h3
  cases h3
 have one:∀ (i:Nat) a x,(was.filter fun e=>!decide (e.1∈goneM was now))[i]?=some a→K[i]?=some x→x∈now∧hasE was x.1=true:=fun i a x ha hx=>by
  obtain ⟨m1,m2⟩:=List.mem_filter.1 (List.mem_of_getElem? ha)
  obtain ⟨b,hb,e⟩:=Z2y.1 (stay a m1 (by simpa using m2))
  have:=Zvd hw hn m1 hb e.symm (hK.at_ i a x ha hx)
  subst this
  exact ⟨hb,Z2y.2 ⟨a,m1,e.symm⟩⟩
 have mem:∀ x,x∈K ++ comeM was now↔x∈now:=fun x=>by
  rw [List.mem_append]
  constructor
  ·rintro (h | h)
   ·obtain ⟨i,hi⟩:=List.mem_iff_getElem?.1 h
    obtain ⟨a,ha,_⟩:=hK.get hi
    exact (one i a x ha hi).1
   ·exact (List.mem_filter.1 h).1
  ·intro h
   by_cases hh:hasE was x.1=true
   ·obtain ⟨a,ha,e⟩:=Z2y.1 hh
    have hm:a∈was.filter fun e=>!decide (e.1∈goneM was now):=List.mem_filter.2 ⟨ha,by rw [notgone a ha (Z2y.2 ⟨x,h,e.symm⟩)]; rfl⟩
    obtain ⟨i,hi⟩:=List.mem_iff_getElem?.1 hm
    obtain ⟨y,hy,hr⟩:=hK.getL hi
    have:=Zvd hw hn ha h e hr
    subst this
    exact .inl (List.mem_of_getElem? hy)
   ·exact .inr (List.mem_filter.2 ⟨h,by simpa using hh⟩)
 have dist:(K ++ comeM was now).Pairwise fun a b=>a.1≠b.1:=by
  rw [List.pairwise_append]
  refine ⟨?_,((hn.rise.filter _).imp fun {a b} h=>by omega),fun x hx y hy e=>?_⟩
  ·rw [List.pairwise_iff_getElem]
   intro i j hi hj hij
   have hl:=hK.len
   have r:=List.pairwise_iff_getElem.1 (hw.rise.filter fun e=>!decide (e.1∈goneM was now)) i j (by omega) (by omega) hij
   have a1:=hid i _ _ (List.getElem?_eq_getElem (by omega)) (List.getElem?_eq_getElem hi)
   have a2:=hid j _ _ (List.getElem?_eq_getElem (by omega)) (List.getElem?_eq_getElem hj)
   omega
  ·obtain ⟨i,hi⟩:=List.mem_iff_getElem?.1 hx
   obtain ⟨a,ha,_⟩:=hK.get hi
   have h1:=(one i a x ha hi).2
   have h2:=(List.mem_filter.1 hy).2
   rw [← e,h1] at h2
   cases h2
 have dist2:=(hl.pairwise_iff (R:=fun x y:Ent=>x.1≠y.1) fun h=>fun e=>h e.symm).2 dist
 exact Zrz (Zq4 hs dist2) hn.rise fun x=>(hl.mem_iff).trans (mem x)
end Go.Proofs.YtchhhjlpnecjkaaGreat
namespace Go.Proofs.YtchhhjlpnecjkaaGreat
open Go Go.RowKit Go.Proofs.YtchhhjlpnecjkaaGreat.Den
variable {α:Type} {l m r:List α} {a b i j k:Nat}
inductive ShK (a b:Nat):List α→List α→Prop
 | refl (l:List α):ShK a b l l
 | step {l m:List α} {i j:Nat} {x y:α}:ShK a b l m→a≤i→i < b→a≤j→j < b→m[i]?=some x→m[j]?=some y→ShK a b l ((m.set i y).set j x)
theorem Zde {x y:α} (hx:m[i]?=some x) (hy:m[j]?=some y) (k:Nat):((m.set i y).set j x)[k]?=if k=j then m[i]? else if k=i then m[j]? else m[k]?:=by
 have hi:=(List.getElem?_eq_some_iff.1 hx).1
 have hj:=(List.getElem?_eq_some_iff.1 hy).1
 rw [List.getElem?_set,List.length_set,List.getElem?_set]
 by_cases h1:j=k
 ·subst h1; simp [hj,hx]
 ·rw [if_neg h1,if_neg (fun e:k=j=>h1 e.symm)]
  by_cases h2:i=k
  ·subst h2; rw [if_pos rfl,if_pos hi,if_pos rfl]; exact hy.symm
  ·rw [if_neg h2,if_neg (fun e:k=i=>h2 e.symm)]
theorem ShK.trans {n:List α} (h:ShK a b l m) (g:ShK a b m n):ShK a b l n:=by
 induction g with
 | refl=>exact h
 | step _ h1 h2 h3 h4 h5 h6 ih=>exact .step ih h1 h2 h3 h4 h5 h6
theorem ShK.mono {a' b':Nat} (h:ShK a b l m) (ha:a'≤a) (hb:b≤b'):ShK a' b' l m:=by
 induction h with
 | refl=>exact .refl _
 | step _ h1 h2 h3 h4 h5 h6 ih=>exact .step ih (by omega) (by omega) (by omega) (by omega) h5 h6
theorem ShK.len (h:ShK a b l m):m.length=l.length:=by
 induction h with
 | refl=>rfl
 | step _ _ _ _ _ _ _ ih=>rw [List.length_set,List.length_set,ih]
theorem ShK.out (h:ShK a b l m) (hk:k < a∨b≤k):m[k]?=l[k]?:=by
 induction h with
 | refl=>rfl
 | step _ h1 h2 h3 h4 h5 h6 ih=>rw [Zde h5 h6,if_neg (by omega),if_neg (by omega),ih]
theorem ShK.mem (h:ShK a b l m) (h1:a≤k) (h2:k < b):∃ k',a≤k'∧k' < b∧m[k]?=l[k']?:=by
 induction h generalizing k with
 | refl=>exact ⟨k,h1,h2,rfl⟩
 | step _ g1 g2 g3 g4 g5 g6 ih =>
  rw [Zde g5 g6]
  split
  ·exact ih g1 g2
  ·split
   ·exact ih g3 g4
   ·exact ih h1 h2
theorem ShK.perm (h:ShK a b l m):m.Perm l:=by
 induction h with
 | refl=>exact List.Perm.refl _
 | step _ g1 g2 g3 g4 g5 g6 ih =>
  obtain ⟨i1,i2⟩:=List.getElem?_eq_some_iff.1 g5
  obtain ⟨j1,j2⟩:=List.getElem?_eq_some_iff.1 g6
  subst i2
  subst j2
  exact (List.set_set_perm i1 j1).trans ih
section
variable (key:α→Int)
def So (a b:Nat) (l:List α):Prop:=∀ p q x y,a≤p→p < q→q < b→l[p]?=some x→l[q]?=some y→key x≤key y
variable {key}
theorem So.mono {a' b':Nat} (h:So key a b l) (ha:a≤a') (hb:b'≤b):So key a' b' l:=fun p q x y h1 h2 h3=>h p q x y (by omega) h2 (by omega)
theorem So.same (h:So key a b l) (hs:∀ k,a≤k→k < b→m[k]?=l[k]?):So key a b m:=fun p q x y h1 h2 h3 hx hy=>h p q x y h1 h2 h3 ((hs p h1 (by omega)).symm.trans hx) ((hs q (by omega) h3).symm.trans hy)
theorem So.one (h:b≤a+1):So key a b l:=fun p q x y h1 h2 h3=>by omega
def InsK (key:α→Int) (a i j:Nat) (l:List α):Prop:=∀ p q x y,a≤p→p < q→q≤i→q≠j→l[p]?=some x→l[q]?=some y→key x≤key y
theorem InsK.start (h:So key a i l):InsK key a i i l:=fun p q x y h1 h2 h3 h4=>h p q x y h1 h2 (by omega)
theorem InsK.stop {x y:α} (h:InsK key a i j l) (he:j=a∨l[j]?=some x∧l[j - 1]?=some y∧key y≤key x) (haj:a≤j):So key a (i+1) l:=by
 intro p q u v h1 h2 h3 hu hv
 by_cases e:q=j
 ·subst e
  rcases he with e | ⟨e1,e2,e3⟩
  ·omega
  ·rw [e1] at hv; cases hv
   by_cases e4:p=q - 1
   ·subst e4; rw [e2] at hu; cases hu; exact e3
   ·exact Int.le_trans (h p (q - 1) u y h1 (by omega) (by omega) (by omega) hu e2) e3
 ·exact h p q u v h1 h2 (by omega) e hu hv
theorem InsK.step {x y:α} (h:InsK key a i j l) (haj:a < j) (hji:j≤i) (hx:l[j]?=some x) (hy:l[j - 1]?=some y) (hlt:key x < key y):InsK key a i (j - 1) ((l.set j y).set (j - 1) x):=by
 intro p q u v h1 h2 h3 h4 hu hv
 rw [Zde hx hy] at hu hv
 rw [if_neg h4] at hv
 by_cases e:q=j
 ·rw [if_pos e,hy] at hv; cases hv
  by_cases e2:p=j - 1
  ·rw [if_pos e2,hx] at hu; cases hu; omega
  ·rw [if_neg e2,if_neg (by omega)] at hu
   exact h p (j - 1) u y h1 (by omega) (by omega) (by omega) hu hy
 ·rw [if_neg e] at hv
  by_cases e2:p=j - 1
  ·rw [if_pos e2,hx] at hu; cases hu
   exact h j q x v (by omega) (by omega) h3 e hx hv
  ·rw [if_neg e2] at hu
   by_cases e3:p=j
   ·rw [if_pos e3,hy] at hu; cases hu
    exact h (j - 1) q y v (by omega) (by omega) h3 e hy hv
   ·rw [if_neg e3] at hu
    exact h p q u v h1 h2 h3 e hu hv
def rot (l:List α) (a m b k:Nat):Option α:=if a≤k∧k < b then (if k < a+(b - m) then l[k+(m - a)]? else l[k - (b - m)]?) else l[k]?
def Rot (a m b:Nat) (l r:List α):Prop:=∀ k,r[k]?=rot l a m b k
def Swp (a b n:Nat) (l r:List α):Prop:=∀ k,r[k]?=if a≤k∧k < a+n then l[k - a+b]? else if b≤k∧k < b+n then l[k - b+a]? else l[k]?
theorem Swp.zero:Swp a b 0 l l:=fun k=>by rw [if_neg (by omega),if_neg (by omega)]
theorem Swp.step {n:Nat} {x y:α} (h:Swp a b n l r) (hab:a+n < b) (hx:r[a+n]?=some x) (hy:r[b+n]?=some y):Swp a b (n+1) l ((r.set (a+n) y).set (b+n) x):=by
 intro k
 have e1:r[a+n]?=l[a+n]?:=by rw [h,if_neg (by omega),if_neg (by omega)]
 have e2:r[b+n]?=l[b+n]?:=by rw [h,if_neg (by omega),if_neg (by omega)]
 rw [Zde hx hy,e1,e2]
 by_cases c1:k=b+n
 ·rw [if_pos c1,if_neg (by omega),if_pos (by omega),show k - b+a=a+n by omega]
 ·rw [if_neg c1]
  by_cases c2:k=a+n
  ·rw [if_pos c2,if_pos (by omega),show k - a+b=b+n by omega]
  ·rw [if_neg c2,h k]
   by_cases c3:a≤k∧k < a+n
   ·rw [if_pos c3,if_pos (by omega)]
   ·rw [if_neg c3]
    by_cases c4:b≤k∧k < b+n
    ·rw [if_pos c4,if_neg (by omega),if_pos (by omega)]
    ·rw [if_neg c4,if_neg (by omega),if_neg (by omega)]
theorem Zy2 {c:List α} {m i k:Nat} (hi:i≤m) (hk:k < i) (hs:Swp (m - i) m k l c) (ht:∀ p,r[p]?=rot c (m - (i - k)) m (m+k) p):∀ p,r[p]?=rot l (m - i) m (m+k) p:=by
 intro p
 rw [ht p]
 unfold rot
 have h:=hs
 unfold Swp at h
 by_cases e1:m - i≤p∧p < m+k
 ·rw [if_pos e1]
  by_cases e2:m - (i - k)≤p
  ·rw [if_pos ⟨e2,e1.2⟩]
   by_cases e3:p < m - (i - k)+(m+k - m)
   ·rw [if_pos e3,h,if_neg (by omega)]
    by_cases e4:p < m - i+(m+k - m)
    ·omega
    ·rw [if_neg e4,if_pos (by omega)]
     congr 1; omega
   ·rw [if_neg e3,h,if_neg (by omega),if_neg (by omega),if_neg (by omega)]
  ·rw [if_neg (by omega),h,if_pos (by omega),if_pos (by omega)]
   congr 1; omega
 ·rw [if_neg e1,if_neg (by omega),h,if_neg (by omega),if_neg (by omega)]
theorem Zwa {c:List α} {m i k:Nat} (hi:i≤m) (hk:i < k) (hs:Swp (m - i) (m+k - i) i l c) (ht:∀ p,r[p]?=rot c (m - i) m (m+(k - i)) p):∀ p,r[p]?=rot l (m - i) m (m+k) p:=by
 intro p
 rw [ht p]
 unfold rot
 have h:=hs
 unfold Swp at h
 by_cases e1:m - i≤p∧p < m+k
 ·rw [if_pos e1]
  by_cases e2:p < m+(k - i)
  ·rw [if_pos ⟨e1.1,e2⟩]
   by_cases e3:p < m - i+(m+(k - i) - m)
   ·rw [if_pos e3,if_pos (by omega),h,if_neg (by omega)]
    by_cases e4:m+k - i≤p+(m - (m - i))
    ·omega
    ·rw [if_neg (by omega)]
   ·rw [if_neg e3,h]
    by_cases e4:p < m - i+(m+k - m)
    ·rw [if_pos e4,if_pos (by omega)]
     congr 1; omega
    ·omega
  ·rw [if_neg (by omega),h,if_neg (by omega),if_pos (by omega),if_neg (by omega)]
   congr 1; omega
 ·rw [if_neg e1,if_neg (by omega),h,if_neg (by omega),if_neg (by omega)]
theorem Zy3 {c:List α} {m i:Nat} (hi:i≤m) (hs:Swp (m - i) m i l c):Rot (m - i) m (m+i) l c:=by
 intro p
 rw [hs p]
 unfold rot
 by_cases e1:m - i≤p∧p < m+i
 ·rw [if_pos e1]
  by_cases e2:p < m
  ·rw [if_pos (by omega),if_pos (by omega)]
   congr 1; omega
  ·rw [if_neg (by omega),if_pos (by omega),if_neg (by omega)]
   congr 1; omega
 ·rw [if_neg e1,if_neg (by omega),if_neg (by omega)]
theorem Zs0 {m s e mid:Nat} {r:List α} (hb:b≤l.length) (h1:So key a m l) (h2:So key m b l) (has:a≤s) (hsm:s≤m) (hme:m≤e) (heb:e≤b) (hmid:mid=s+(e - m))
  (hl:s=a∨e=b∨∀ x y,l[s - 1]?=some x→l[e]?=some y→key x≤key y) (hg:s=m∨e=m∨∀ x y,l[e - 1]?=some x→l[s]?=some y→key x≤key y) (hr:Rot s m e l r) :
  So key a s r∧So key s mid r∧So key mid e r∧So key e b r∧∀ p q x y,a≤p→p < mid→mid≤q→q < b→r[p]?=some x→r[q]?=some y→key x≤key y:=by
 subst hmid
 unfold Rot rot at hr
 have sub:∀ p,a≤p→p < s→r[p]?=l[p]?:=fun p _ h=>by rw [hr p,if_neg (by omega)]
 have sup:∀ p,e≤p→r[p]?=l[p]?:=fun p h=>by rw [hr p,if_neg (by omega)]
 have lo:∀ p,s≤p→p < s+(e - m)→r[p]?=l[p+(m - s)]?:=fun p h h'=>by rw [hr p,if_pos (by omega),if_pos h']
 have hi:∀ p,s+(e - m)≤p→p < e→r[p]?=l[p - (e - m)]?:=fun p h h'=>by rw [hr p,if_pos (by omega),if_neg (by omega)]
 have gt:∀ k,k < b→∃ x,l[k]?=some x:=fun k hk=>⟨l[k],List.getElem?_eq_getElem (by omega)⟩
 have A:∀ p q x y,a≤p→p < s→e≤q→q < b→l[p]?=some x→l[q]?=some y→key x≤key y:=by
  intro p q x y g1 g2 g3 g4 hx hy
  obtain ⟨x',hx'⟩:=gt (s - 1) (by omega)
  obtain ⟨y',hy'⟩:=gt e (by omega)
  have k1:key x≤key x':=by
   by_cases c:p=s - 1
   ·subst c; rw [hx] at hx'; cases hx'; exact Int.le_refl _
   ·exact h1 p (s - 1) x x' g1 (by omega) (by omega) hx hx'
  have k2:key y'≤key y:=by
   by_cases c:q=e
   ·subst c; rw [hy] at hy'; cases hy'; exact Int.le_refl _
   ·exact h2 e q y' y (by omega) (by omega) g4 hy' hy
  rcases hl with c | c | c
  ·omega
  ·omega
  ·have:=c x' y' hx' hy'; omega
 have B:∀ p q x y,m≤p→p < e→s≤q→q < m→l[p]?=some x→l[q]?=some y→key x≤key y:=by
  intro p q x y g1 g2 g3 g4 hx hy
  obtain ⟨x',hx'⟩:=gt (e - 1) (by omega)
  obtain ⟨y',hy'⟩:=gt s (by omega)
  have k1:key x≤key x':=by
   by_cases c:p=e - 1
   ·subst c; rw [hx] at hx'; cases hx'; exact Int.le_refl _
   ·exact h2 p (e - 1) x x' g1 (by omega) (by omega) hx hx'
  have k2:key y'≤key y:=by
   by_cases c:q=s
   ·subst c; rw [hy] at hy'; cases hy'; exact Int.le_refl _
   ·exact h1 s q y' y has (by omega) g4 hy' hy
  rcases hg with c | c | c
  ·omega
  ·omega
  ·have:=c x' y' hx' hy'; omega
 refine ⟨(h1.mono (Nat.le_refl _) hsm).same fun k g1 g2=>sub k g1 g2,?_,?_,(h2.mono hme (Nat.le_refl _)).same fun k g1 g2=>sup k g1,?_⟩
 ·intro p q x y g1 g2 g3 hx hy
  rw [lo p g1 (by omega)] at hx
  rw [lo q (by omega) g3] at hy
  exact h2 _ _ x y (by omega) (by omega) (by omega) hx hy
 ·intro p q x y g1 g2 g3 hx hy
  rw [hi p g1 (by omega)] at hx
  rw [hi q (by omega) g3] at hy
  exact h1 _ _ x y (by omega) (by omega) (by omega) hx hy
 ·intro p q x y g1 g2 g3 g4 hx hy
  by_cases c1:p < s
  ·rw [sub p g1 c1] at hx
   by_cases c2:q < e
   ·rw [hi q g3 c2] at hy
    exact h1 _ _ x y g1 (by omega) (by omega) hx hy
   ·rw [sup q (by omega)] at hy
    exact A p q x y g1 c1 (by omega) g4 hx hy
  ·rw [lo p (by omega) g2] at hx
   by_cases c2:q < e
   ·rw [hi q g3 c2] at hy
    exact B _ _ x y (by omega) (by omega) (by omega) (by omega) hx hy
   ·rw [sup q (by omega)] at hy
    exact h2 _ _ x y (by omega) (by omega) g4 hx hy
theorem Zu2 {mid:Nat} {r3 r4:List α} (hc:∀ p q x y,a≤p→p < mid→mid≤q→q < b→r[p]?=some x→r[q]?=some y→key x≤key y) (h3:ShK a mid r r3) (s3:So key a mid r3) (h4:ShK mid b r3 r4) (s4:So key mid b r4):So key a b r4:=by
 intro p q x y g1 g2 g3 hx hy
 by_cases c1:mid≤p
 ·exact s4 p q x y c1 g2 g3 hx hy
 rw [h4.out (.inl (by omega))] at hx
 by_cases c2:q < mid
 ·rw [h4.out (.inl c2)] at hy
  exact s3 p q x y g1 g2 c2 hx hy
 obtain ⟨p',p1,p2,p3⟩:=h3.mem g1 (by omega)
 obtain ⟨q',q1,q2,q3⟩:=h4.mem (by omega:mid≤q) g3
 rw [p3] at hx
 rw [q3,h3.out (.inr q1)] at hy
 exact hc p' q' x y p1 p2 q1 q2 hx hy
end
theorem Zov {m:Nat} (h:a=m∨b=m) (hab:a≤m∧m≤b):Rot a m b l l:=by
 intro k
 unfold rot
 by_cases e:a≤k∧k < b
 ·rw [if_pos e]
  rcases h with rfl | rfl
  ·rw [if_pos (by omega),Nat.sub_self]; rfl
  ·rw [if_neg (by omega),Nat.sub_self]; rfl
 ·rw [if_neg e]
theorem Z10i {x y:α} (h:Rot a (a+1) (k+1) l r) (hak:a≤k) (hx:r[k]?=some x) (hy:r[k+1]?=some y):Rot a (a+1) (k+2) l ((r.set k y).set (k+1) x):=by
 intro p
 have e1:=h k
 have e2:=h (k+1)
 unfold rot at e1 e2
 rw [if_pos (by omega),if_neg (by omega)] at e1
 rw [if_neg (by omega)] at e2
 rw [Zde hx hy,e1,e2]
 unfold rot
 by_cases c1:p=k+1
 ·rw [if_pos c1,if_pos (by omega),if_neg (by omega)]
  congr 1; omega
 ·rw [if_neg c1]
  by_cases c2:p=k
  ·rw [if_pos c2,if_pos (by omega),if_pos (by omega)]
   congr 1; omega
  ·rw [if_neg c2,h p]
   unfold rot
   by_cases c3:a≤p∧p < k+1
   ·rw [if_pos c3,if_pos (by omega),if_pos (by omega),if_pos (by omega)]
   ·rw [if_neg c3,if_neg (by omega)]
theorem Z10h {m:Nat} {x y:α} (h:Rot (k+1) m (m+1) l r) (hkm:k < m) (hx:r[k+1]?=some x) (hy:r[k]?=some y):Rot k m (m+1) l ((r.set (k+1) y).set k x):=by
 intro p
 have e1:=h (k+1)
 have e2:=h k
 unfold rot at e1 e2
 rw [if_pos (by omega),if_pos (by omega)] at e1
 rw [if_neg (by omega)] at e2
 rw [Zde hx hy,e1,e2]
 unfold rot
 by_cases c1:p=k
 ·rw [if_pos c1,if_pos (by omega),if_pos (by omega)]
  congr 1; omega
 ·rw [if_neg c1]
  by_cases c2:p=k+1
  ·rw [if_pos c2,if_pos (by omega),if_neg (by omega)]
   congr 1; omega
  ·rw [if_neg c2,h p]
   unfold rot
   by_cases c3:k+1≤p∧p < m+1
   ·rw [if_pos c3,if_neg (by omega),if_pos (by omega),if_neg (by omega)]
   ·rw [if_neg c3,if_neg (by omega)]
section
variable {key:α→Int}
theorem Zzr (hb:b≤l.length) (h2:So key (a+1) b l) (hai:a+1≤i) (hib:i≤b) (h1:i=a+1∨∀ x y,l[i - 1]?=some x→l[a]?=some y→key x < key y) (h3:i=b∨∀ x y,l[a]?=some x→l[i]?=some y→key x≤key y) (hr:Rot a (a+1) i l r):So key a b r:=by
 unfold Rot rot at hr
 have lo:∀ p,a≤p→p < i - 1→r[p]?=l[p+1]?:=fun p g1 g2=>by rw [hr p,if_pos (by omega),if_pos (by omega)]; congr 1; omega
 have at_:r[i - 1]?=l[a]?:=by rw [hr,if_pos (by omega),if_neg (by omega)]; congr 1; omega
 have hi:∀ p,i≤p→r[p]?=l[p]?:=fun p g=>by rw [hr p,if_neg (by omega)]
 have gt:∀ k,k < b→∃ x,l[k]?=some x:=fun k hk=>⟨l[k],List.getElem?_eq_getElem (by omega)⟩
 intro p q x y g1 g2 g3 hx hy
 by_cases c1:q < i - 1
 ·rw [lo p g1 (by omega)] at hx
  rw [lo q (by omega) c1] at hy
  exact h2 _ _ x y (by omega) (by omega) (by omega) hx hy
 by_cases c2:q=i - 1
 ·subst c2
  rw [lo p g1 g2] at hx
  rw [at_] at hy
  obtain ⟨z,hz⟩:=gt (i - 1) (by omega)
  have k1:key x≤key z:=by
   by_cases e:p+1=i - 1
   ·rw [e] at hx; rw [hx] at hz; cases hz; exact Int.le_refl _
   ·exact h2 _ _ x z (by omega) (by omega) (by omega) hx hz
  rcases h1 with e | e
  ·omega
  ·have:=e z y hz hy; omega
 ·rw [hi q (by omega)] at hy
  by_cases c3:p < i - 1
  ·rw [lo p g1 c3] at hx
   exact h2 _ _ x y (by omega) (by omega) g3 hx hy
  by_cases c4:p=i - 1
  ·rw [c4,at_] at hx
   obtain ⟨z,hz⟩:=gt i (by omega)
   have k1:key z≤key y:=by
    by_cases e:q=i
    ·subst e; rw [hy] at hz; cases hz; exact Int.le_refl _
    ·exact h2 _ _ z y (by omega) (by omega) g3 hz hy
   rcases h3 with e | e
   ·omega
   ·have:=e x z hx hz; omega
  ·rw [hi p (by omega)] at hx
   exact h2 _ _ x y (by omega) g2 g3 hx hy
theorem Zy9 {m:Nat} (hb:m < l.length) (h2:So key a m l) (hai:a≤i) (him:i≤m) (h1:i=a∨∀ x y,l[i - 1]?=some x→l[m]?=some y→key x≤key y) (h3:i=m∨∀ x y,l[m]?=some x→l[i]?=some y→key x < key y) (hr:Rot i m (m+1) l r):So key a (m+1) r:=by
 unfold Rot rot at hr
 have lo:∀ p,p < i→r[p]?=l[p]?:=fun p g=>by rw [hr p,if_neg (by omega)]
 have at_:r[i]?=l[m]?:=by rw [hr,if_pos (by omega),if_pos (by omega)]; congr 1; omega
 have hi:∀ p,i < p→p≤m→r[p]?=l[p - 1]?:=fun p g g'=>by rw [hr p,if_pos (by omega),if_neg (by omega)]; congr 1; omega
 have gt:∀ k,k≤m→∃ x,l[k]?=some x:=fun k hk=>⟨l[k],List.getElem?_eq_getElem (by omega)⟩
 intro p q x y g1 g2 g3 hx hy
 by_cases c1:q < i
 ·rw [lo p (by omega)] at hx
  rw [lo q c1] at hy
  exact h2 _ _ x y g1 g2 (by omega) hx hy
 by_cases c2:q=i
 ·rw [lo p (by omega)] at hx
  rw [c2,at_] at hy
  obtain ⟨z,hz⟩:=gt (i - 1) (by omega)
  have k1:key x≤key z:=by
   by_cases e:p=i - 1
   ·rw [e,hz] at hx; cases hx; exact Int.le_refl _
   ·exact h2 _ _ x z g1 (by omega) (by omega) hx hz
  rcases h1 with e | e
  ·omega
  ·have:=e z y hz hy; omega
 ·rw [hi q (by omega) (by omega)] at hy
  by_cases c3:p < i
  ·rw [lo p c3] at hx
   exact h2 _ _ x y g1 (by omega) (by omega) hx hy
  by_cases c4:p=i
  ·rw [c4,at_] at hx
   obtain ⟨z,hz⟩:=gt i him
   have k1:key z≤key y:=by
    by_cases e:q - 1=i
    ·rw [e,hz] at hy; cases hy; exact Int.le_refl _
    ·exact h2 _ _ z y hai (by omega) (by omega) hz hy
   rcases h3 with e | e
   ·omega
   ·have:=e x z hx hz; omega
  ·rw [hi p (by omega) (by omega)] at hx
   exact h2 _ _ x y (by omega) (by omega) (by omega) hx hy
end
end Go.Proofs.YtchhhjlpnecjkaaGreat
namespace Go.Proofs.YtchhhjlpnecjkaaGreat
open Go Go.RowKit Go.Proofs.YtchhhjlpnecjkaaGreat.Den
variable {R:Type} {Q:R→World→Prop} {w:World}
section
variable {t:Ty} {E:TypeId} {S:Nat→Prop} {s:Sl} {l:List t.T} {sz:Nat}
theorem swapI (ho:Own S w E t s l) (hsz:sz=t.size) (hf:t.fine=true) {p q:Nat} {ip iq:Int} (hp:ip=(p:Int)) (hq:iq=(q:Int)) {x y:t.T} (hx:l[q]?=some x) (hy:l[p]?=some y) {K:W R}
  (hk:∀ w',Own S w' E t s ((l.set q y).set p x)→Fr (fun k=>s.v.ownBlock=some k) w w'→w'.heap.size=w.heap.size→K Q w') :
  (idxW s.a s.n sz ip fun a=>ld t a fun y'=>idxW s.a s.n sz iq fun b=>ld t b fun x'=>idxW s.a s.n sz iq fun c=>stoL c (t.cells y') 0 <| idxW s.a s.n sz ip fun d=>stoL d (t.cells x') 0 K) Q w:=by
 subst hp hq hsz
 have hpl:=(List.getElem?_eq_some_iff.1 hy).1
 have hql:=(List.getElem?_eq_some_iff.1 hx).1
 refine ho.idx rfl (by omega) (by omega) fun g y' hg hy' hr=>ldI y' hr ?_
 refine ho.idx rfl (by omega) (by omega) fun g2 x' hg2 hx' hr2=>ldI x' hr2 ?_
 rw [Int.toNat_natCast] at hy' hx'
 rw [hy] at hy'
 rw [hx] at hx'
 cases hy'
 cases hx'
 refine ho.idx rfl (by omega) (by omega) fun g3 x3 hg3 _ _=>?_
 rw [Int.toNat_natCast]
 refine ho.set hf hql hg3 y fun w2 o2 f2 s2=>?_
 refine o2.idx rfl (by omega) (by simp; omega) fun g4 x4 hg4 _ _=>?_
 rw [Int.toNat_natCast]
 exact o2.set hf (by simp; omega) hg4 x fun w3 o3 f3 s3=>hk w3 o3 (f2.then f3) (by omega)
theorem insI (hsz:sz=t.size) (hf:t.fine=true) (key:t.T→Int) (callc:t.T→t.T→(Int→W R)→W R) (hc:∀ x y (K:Int→W R) Q w,(∀ z w',(z < 0↔key x < key y)→Fr None w w'→K z Q w')→callc x y K Q w)
  {a b:Nat} {ia ib:Int} (ha:ia=(a:Int)) (hb:ib=(b:Int)) (hab:a≤b) (hbl:b≤l.length) (hm:l.length≤4611686018427387903) (ho:Own S w E t s l) {K:W R} (hk:∀ l' w',ShK a b l l'→So key a b l'→Own S w' E t s l'→Fr (fun k=>s.v.ownBlock=some k) w w'→K Q w') :
  loopW (fun K_1 s_2=>cond (decide (s_2 < ib)) (loopW (fun K_3 s_4 =>
   joinW (σ:=Bool) (fun J_5=>drawW <| cond (decide (s_4 > ia)) (idxW s.a s.n sz s_4 fun x_6=>ld t x_6 fun x_7=>idxW s.a s.n sz (IntKind.wrap .i64 (s_4 - 1)) fun x_8=>ld t x_8 fun x_9=>callc x_7 x_9 fun x_10=>J_5 (decide (x_10 < 0))) (J_5 false))
   fun s_11=>cond s_11 (drawW <| idxW s.a s.n sz (IntKind.wrap .i64 (s_4 - 1)) fun a=>ld t a fun y'=>idxW s.a s.n sz s_4 fun b=>ld t b fun x'=>idxW s.a s.n sz s_4 fun c=>stoL c (t.cells y') 0 <| idxW s.a s.n sz (IntKind.wrap .i64 (s_4 - 1)) fun d=>stoL d (t.cells x') 0 (K_3 (IntKind.wrap .i64 (s_4 - 1)))) (K_1 (IntKind.wrap .i64 (s_2+1)))) s_2) K) (IntKind.wrap .i64 (ia+1)) Q w:=by
 subst ha hb hsz
 have hnd:∀ {u v:World},Fr (fun k=>s.v.ownBlock=some k) u v→Fr (fun k=>s.v.ownBlock=some k) u v.drew:=fun f=>f.then0 (Fr.refl _ _).drew
 refine loopI (fun (i:Int) u=>∃ (n:Nat) (m:List t.T),i=(n:Int)∧a+1≤n∧(n≤b∨n=a+1)∧ShK a b l m∧So key a n m∧Own S u E t s m∧Fr (fun k=>s.v.ownBlock=some k) w u) (fun i _=>b - i.toNat) ⟨a+1,l,by rw [w64 (by omega)]; rfl,Nat.le_refl _,.inr rfl,.refl _,So.one (Nat.le_refl _),ho,Fr.refl _ _⟩ ?_
 rintro _ u ⟨n,m,rfl,hn1,hn2,hsh,hso,hou,fu⟩
 have hml:=hsh.len
 refine condD (fun hlt=>?_) fun hge=>hk m u hsh (hso.mono (Nat.le_refl _) (by omega)) hou fu
 have hlt:n < b:=by omega
 refine loopI (fun (i:Int) v=>∃ (j:Nat) (m:List t.T),i=(j:Int)∧a≤j∧j≤n∧ShK a b l m∧InsK key a n j m∧Own S v E t s m∧Fr (fun k=>s.v.ownBlock=some k) w v) (fun i _=>i.toNat) ⟨n,m,rfl,by omega,Nat.le_refl _,hsh,InsK.start hso,hou,fu⟩ ?_
 rintro _ v ⟨j,m2,rfl,hj1,hj2,hsh2,hin,hov,fv⟩
 have hml2:=hsh2.len
 refine joinI (fun z u'=>Own S u' E t s m2∧Fr (fun k=>s.v.ownBlock=some k) w u'∧(z=true→a < j∧∃ x y,m2[j]?=some x∧m2[j - 1]?=some y∧key x < key y)∧(z=false→j=a∨∃ x y,m2[j]?=some x∧m2[j - 1]?=some y∧key y≤key x)) ?_ ?_
 ·have hod:Own S v.drew E t s m2:=hov.none (Fr.refl None v).drew
  show (cond (decide ((j:Int) > (a:Int))) _ _:W R) _ v.drew
  refine condD (fun hgt=>?_) fun hle=>⟨hod,hnd fv,fun h=>(by cases h),fun _=>.inl (by omega)⟩
  refine hod.idx rfl (by omega) (by omega) fun g x hg hx hr=>ldI x hr ?_
  rw [w64 (x:=(j:Int) - 1) (by omega)]
  refine hod.idx rfl (by omega) (by omega) fun g2 y hg2 hy hr2=>ldI y hr2 ?_
  rw [Int.toNat_natCast] at hx
  rw [show ((j:Int) - 1).toNat=j - 1 by omega] at hy
  refine hc x y _ _ _ fun z w' hz f=>?_
  refine ⟨hod.none f,(hnd fv).then0 f,fun h=>⟨by omega,x,y,hx,hy,hz.1 (by simpa using h)⟩,fun h=>.inr ⟨x,y,hx,hy,?_⟩⟩
  have h:¬ z < 0:=by simpa using h
  exact Int.not_lt.1 fun h2=>h (hz.2 h2)
 rintro z v2 ⟨ho2,f2,ht,hff⟩
 refine condI (fun hz=>?_) fun hz=>?_
 ·obtain ⟨haj,x,y,hx,hy,hkey⟩:=ht hz
  refine swapI (p:=j - 1) (q:=j) (ho2.none (Fr.refl None v2).drew) rfl hf (by rw [w64 (by omega)]; omega) rfl hx hy fun v3 o3 f3 s3=>?_
  refine ⟨⟨j - 1,_,by rw [w64 (by omega)]; omega,by omega,by omega,hsh2.step (by omega) (by omega) (by omega) (by omega) hx hy,hin.step haj hj2 hx hy hkey,o3,(hnd f2).then f3⟩,?_⟩
  rw [w64 (by omega)]
  omega
 ·refine ⟨⟨n+1,m2,by rw [w64 (by omega)]; rfl,by omega,.inl (by omega),hsh2,?_,ho2,f2⟩,?_⟩
  ·rcases hff hz with e | ⟨x,y,e1,e2,e3⟩
   ·subst e
    by_cases hl:j < m2.length
    ·obtain ⟨x,hx⟩:∃ x,m2[j]?=some x:=⟨_,List.getElem?_eq_getElem hl⟩
     exact hin.stop (x:=x) (y:=x) (.inl rfl) hj1
    ·intro p q x y h1 h2 h3 hx hy
     exact absurd (List.getElem?_eq_some_iff.1 hx).1 (by omega)
   ·exact hin.stop (.inr ⟨e1,e2,e3⟩) hj1
  ·rw [w64 (by omega)]
   omega
end
theorem Z9x {x y:Int × Sl} {K:Res [.sc (.int .i64)]→W R} (hk:∀ z w',(z < 0↔x.1 < y.1)→Fr None w w'→K z Q w'):callW Tryz.prog Z1n [.agg ⟨[.int .u32 x.1,.slice x.2.a x.2.n x.2.c]⟩,.agg ⟨[.int .u32 y.1,.slice y.2.a y.2.n y.2.c]⟩] [.sc (.int .i64)] K Q w:=by
 refine Zkm x y K Q w ?_
 unfold Zca
 refine newI fun w1 B1 f1 z1=>newI fun w2 B2 f2 z2=>fldI (B1.fr f2 fun h=>h) (i:=0) (x:=x.1) rfl (fldI B2 (i:=0) (x:=y.1) rfl (Zcy ?_))
 exact hk _ w2 Zrs (f1.then0 f2)
abbrev entKey (e:Int × Sl):Int:=e.1
section
variable {S:Nat→Prop} {s:Sl} {l:List (Int × Sl)} {a b m:Nat}
theorem Z61 (ho:Own S w 57 entT s l) {n:Nat} (hab:a+n≤b) (hbl:b+n≤l.length) (hm:l.length≤4611686018427387903) {K:Res []→W R} (hk:∀ l' w',ShK a (b+n) l l'→Swp a b n l l'→Own S w' 57 entT s l'→Fr (fun k=>s.v.ownBlock=some k) w w'→K () Q w') :
  callW Tryz.prog Zg [.slice s.a s.n s.c,.int .i64 (a:Int),.int .i64 (b:Int),.int .i64 (n:Int),.func (.func 121) #[] #[]] [] K Q w:=by
 refine Z2t s _ _ _ K Q w ?_
 unfold Z10
 refine forI (N:=n) (fun i:Int=>i) (fun j i u=>i=(j:Int)∧∃ l',ShK a (b+n) l l'∧Swp a b j l l'∧Own S u 57 entT s l'∧Fr (fun k=>s.v.ownBlock=some k) w u) ⟨rfl,l,.refl _,Swp.zero,ho,Fr.refl _ _⟩ (fun j s w' h=>h.1) ?_ ?_
 ·rintro j i u K' hj ⟨rfl,l',hsh,hsw,hou,fu⟩ - hK
  have hl:=hsh.len
  obtain ⟨x,hx⟩:∃ x,l'[a+j]?=some x:=⟨_,List.getElem?_eq_getElem (by omega)⟩
  obtain ⟨y,hy⟩:∃ y,l'[b+j]?=some y:=⟨_,List.getElem?_eq_getElem (by omega)⟩
  refine swapI (t:=entT) (p:=b+j) (q:=a+j) (hou.none (Fr.refl None u).drew) rfl rfl (by rw [w64 (by omega)]; omega) (by rw [w64 (by omega)]; omega) hx hy fun u2 o2 f2 s2=>?_
  exact hK _ _ ⟨wsucc hj (by omega),_,hsh.step (by omega) (by omega) (by omega) (by omega) hx hy,hsw.step (by omega) hx hy,o2,(fu.then0 (Fr.refl None u).drew).then f2⟩
 ·rintro i u ⟨_,l',hsh,hsw,hou,fu⟩
  exact hk l' u hsh hsw hou fu
theorem Zm3 (ho:Own S w 57 entT s l) (ham:a < m) (hmb:m < b) (hbl:b≤l.length) (hm:l.length≤4611686018427387903) {K:Res []→W R} (hk:∀ l' w',ShK a b l l'→Rot a m b l l'→Own S w' 57 entT s l'→Fr (fun k=>s.v.ownBlock=some k) w w'→K () Q w') :
  callW Tryz.prog Z28 [.slice s.a s.n s.c,.int .i64 (a:Int),.int .i64 (m:Int),.int .i64 (b:Int),.func (.func 121) #[] #[]] [] K Q w:=by
 refine Z3k s _ _ _ K Q w ?_
 unfold Z1e
 refine loopI (fun (st:Int × Int) u=>∃ (i j:Nat) (l':List (Int × Sl)),st=((i:Int),(j:Int))∧0 < i∧0 < j∧a+i≤m∧m+j≤b∧ShK a b l l'∧(∀ r,Rot (m - i) m (m+j) l' r→Rot a m b l r)∧Own S u 57 entT s l'∧Fr (fun k=>s.v.ownBlock=some k) w u)
  (fun st _=>st.1.toNat+st.2.toNat) ⟨m - a,b - m,l,by rw [w64 (by omega),w64 (by omega)]; congr 1 <;> omega,by omega,by omega,by omega,by omega,.refl _,fun r h=>by rw [show m - (m - a)=a by omega,show m+(b - m)=b by omega] at h; exact h,ho,Fr.refl _ _⟩ ?_
 rintro _ u ⟨i,j,l',rfl,hi,hj,hai,hjb,hsh,hrot,hou,fu⟩
 have hl:=hsh.len
 dsimp only
 have em:IntKind.wrap .i64 ((m:Int) - (i:Int))=((m - i:Nat):Int):=by rw [w64 (by omega)]; omega
 rw [em]
 refine condN (fun hne=>?_) fun heq=>?_
 ·refine joinI (fun (st:Int × Int) u=>∃ (i2 j2:Nat) (l':List (Int × Sl)),st=((i2:Int),(j2:Int))∧0 < i2∧0 < j2∧i2+j2 < i+j∧a+i2≤m∧m+j2≤b∧ShK a b l l'∧(∀ r,Rot (m - i2) m (m+j2) l' r→Rot a m b l r)∧Own S u 57 entT s l'∧Fr (fun k=>s.v.ownBlock=some k) w u) ?_ ?_
  ·refine condD (fun hgt=>?_) fun hle=>?_
   ·have hgt:j < i:=by omega
    refine Z61 (a:=m - i) (b:=m) (n:=j) hou (by omega) (by omega) (by omega) fun l2 u2 sh2 sw2 o2 f2=>?_
    exact ⟨i - j,j,l2,by rw [w64 (by omega)]; congr 1; omega,by omega,hj,by omega,by omega,by omega,hsh.trans (sh2.mono (by omega) (by omega)),fun r h=>hrot r (Zy2 (by omega) hgt sw2 h),o2,fu.then f2⟩
   ·have hlt:i < j:=by omega
    rw [w64 (x:=(m:Int)+(j:Int)) (by omega),w64 (x:=(m:Int)+(j:Int) - (i:Int)) (by omega),show (m:Int)+(j:Int) - (i:Int)=((m+j - i:Nat):Int) by omega]
    refine Z61 (a:=m - i) (b:=m+j - i) (n:=i) hou (by omega) (by omega) (by omega) fun l2 u2 sh2 sw2 o2 f2=>?_
    exact ⟨i,j - i,l2,by rw [w64 (by omega)]; congr 1; omega,hi,by omega,by omega,by omega,by omega,hsh.trans (sh2.mono (by omega) (by omega)),fun r h=>hrot r (Zwa (by omega) hlt sw2 h),o2,fu.then f2⟩
  ·rintro _ u2 ⟨i2,j2,l2,rfl,h1,h2,h3,h4,h5,h6,h7,h8,h9⟩
   exact ⟨⟨i2,j2,l2,rfl,h1,h2,h4,h5,h6,h7,h8,h9⟩,by simp only [Int.toNat_natCast]; exact h3⟩
 ·have heq:i=j:=by omega
  subst heq
  refine Z61 (a:=m - i) (b:=m) (n:=i) hou (by omega) (by omega) (by omega) fun l2 u2 sh2 sw2 o2 f2=>?_
  exact hk l2 u2 (hsh.trans (sh2.mono (by omega) (by omega))) (hrot l2 (Zy3 (by omega) sw2)) o2 (fu.then f2)
theorem Z9y (ho:Own S w 57 entT s l) (hab:a≤b) (hbl:b≤l.length) (hm:l.length≤4611686018427387903) {K:Res []→W R} (hk:∀ l' w',ShK a b l l'→So entKey a b l'→Own S w' 57 entT s l'→Fr (fun k=>s.v.ownBlock=some k) w w'→K () Q w') :
  callW Tryz.prog Zj [.slice s.a s.n s.c,.int .i64 (a:Int),.int .i64 (b:Int),.func (.func 121) #[] #[]] [] K Q w:=by
 refine Z2b s _ _ K Q w ?_
 unfold Zr
 exact insI (t:=entT) (sz:=2) rfl rfl entKey (fun x y K=>callW Tryz.prog Z1n [.agg ⟨[.int .u32 x.1,.slice x.2.a x.2.n x.2.c]⟩,.agg ⟨[.int .u32 y.1,.slice y.2.a y.2.n y.2.c]⟩] [.sc (.int .i64)] K) (fun x y K Q w h=>Z9x h) rfl rfl hab hbl hm ho hk
abbrev cmpEnt (x y:Int × Sl) (K:Int→W Unit):W Unit:=callW Tryz.prog Z1n [.agg ⟨[.int .u32 x.1,.slice x.2.a x.2.n x.2.c]⟩,.agg ⟨[.int .u32 y.1,.slice y.2.a y.2.n y.2.c]⟩] [.sc (.int .i64)] K
theorem cmpI (ho:Own S w 57 entT s l) {p q:Nat} {ip iq:Int} (hp:ip=(p:Int)) (hq:iq=(q:Int)) {x y:Int × Sl} (hx:l[p]?=some x) (hy:l[q]?=some y) {K:Int→W Unit} {Q:Unit→World→Prop}
  (hk:∀ z w',(z < 0↔x.1 < y.1)→Fr None w w'→K z Q w'):(drawW <| idxW s.a s.n 2 ip fun a=>ld entT a fun (x:Int × Sl)=>idxW s.a s.n 2 iq fun b=>ld entT b fun (y:Int × Sl)=>cmpEnt x y K) Q w:=by
 subst hp hq
 have hpl:=(List.getElem?_eq_some_iff.1 hx).1
 have hql:=(List.getElem?_eq_some_iff.1 hy).1
 have fd:Fr None w w.drew:=(Fr.refl _ _).drew
 have hod:=ho.none fd
 refine hod.idx rfl (by omega) (by omega) fun g x' hg hx' hr=>ldI x' hr ?_
 refine hod.idx rfl (by omega) (by omega) fun g2 y' hg2 hy' hr2=>ldI y' hr2 ?_
 rw [Int.toNat_natCast] at hx' hy'
 rw [hx] at hx'
 rw [hy] at hy'
 cases hx'
 cases hy'
 exact Z9x fun z w' hz f=>hk z w' hz (fd.then0 f)
theorem Z4e:∀ (d:Nat) {a b m:Nat} {l:List (Int × Sl)} {w:World} {R:Type} {Q:R→World→Prop} (_:b - a≤d) (_:Own S w 57 entT s l) (_:a < m) (_:m < b) (_:b≤l.length) (_:l.length≤2305843009213693951) (_:So entKey a m l) (_:So entKey m b l) {K:Res []→W R}
  (_:∀ l' w',ShK a b l l'→So entKey a b l'→Own S w' 57 entT s l'→Fr (fun k=>s.v.ownBlock=some k) w w'→K () Q w'),
  callW Tryz.prog Za [.slice s.a s.n s.c,.int .i64 (a:Int),.int .i64 (m:Int),.int .i64 (b:Int),.func (.func 121) #[] #[]] [] K Q w
 | 0,_,_,_,_,_,_,_,hd,_,h1,h2,_,_,_,_,_,_=>by omega
 | d+1,a,b,m,l,w,R,Q,hd,ho,ham,hmb,hbl,hm,s1,s2,K,hk=>by
  have gt:∀ {l:List (Int × Sl)} {k:Nat},k < l.length→∃ x,l[k]?=some x:=fun hk=>⟨_,List.getElem?_eq_getElem hk⟩
  refine Z2w s _ _ _ K Q w ?_
  unfold Z12
  rw [w64 (x:=(m:Int) - (a:Int)) (by omega),w64 (x:=(b:Int) - (m:Int)) (by omega)]
  refine condE (fun e1=>?_) fun e1=>condE (fun e2=>?_) fun e2=>?_
  ·have e1:m=a+1:=by omega
   subst e1
   obtain ⟨pv,hpv⟩:=gt (l:=l) (k:=a) (by omega)
   refine loopI (fun (st:Int × Int) u=>∃ i j:Nat,st=((i:Int),(j:Int))∧a+1≤i∧i≤j∧j≤b∧(i=a+1∨∀ x y,l[i - 1]?=some x→l[a]?=some y→entKey x < entKey y)∧(j=b∨∀ x y,l[a]?=some x→l[j]?=some y→entKey x≤entKey y)∧Own S u 57 entT s l∧Fr (fun k=>s.v.ownBlock=some k) w u)
    (fun st _=>(st.2 - st.1).toNat) ⟨a+1,b,rfl,Nat.le_refl _,by omega,Nat.le_refl _,.inl rfl,.inl rfl,ho,Fr.refl _ _⟩ ?_
   rintro _ u ⟨i,j,rfl,h1,h2,h3,h4,h5,hou,fu⟩
   dsimp only
   refine condD (fun hlt=>?_) fun hge=>?_
   ·have hlt:i < j:=by omega
    rw [half (by omega)]
    obtain ⟨x,hx⟩:=gt (l:=l) (k:=(i+j) / 2) (by omega)
    refine cmpI hou rfl rfl hx hpv fun z u2 hz f2=>?_
    rw [w64 (x:=(((i+j) / 2:Nat):Int)+1) (by omega)]
    refine joinI (fun (st:Int × Int) u=>u=u2∧∃ i2 j2:Nat,st=((i2:Int),(j2:Int))∧i≤i2∧i2≤j2∧j2≤j∧j2 - i2 < j - i∧(i2=a+1∨∀ x y,l[i2 - 1]?=some x→l[a]?=some y→entKey x < entKey y)∧(j2=b∨∀ x y,l[a]?=some x→l[j2]?=some y→entKey x≤entKey y)) ?_ ?_
    ·refine condD (fun hc=>?_) fun hc=>?_
     ·refine ⟨rfl,(i+j) / 2+1,j,rfl,by omega,by omega,Nat.le_refl _,by omega,.inr fun x' y' g1 g2=>?_,h5⟩
      rw [Nat.add_sub_cancel,hx] at g1
      rw [hpv] at g2
      cases g1; cases g2
      exact hz.1 hc
     ·refine ⟨rfl,i,(i+j) / 2,rfl,Nat.le_refl _,by omega,by omega,by omega,h4,.inr fun x' y' g1 g2=>?_⟩
      rw [hpv] at g1
      rw [hx] at g2
      cases g1; cases g2
      exact Int.not_lt.1 fun h=>hc (hz.2 h)
    ·rintro _ u3 ⟨rfl,i2,j2,rfl,g1,g2,g3,g4,g5,g6⟩
     exact ⟨⟨i2,j2,rfl,by omega,g2,by omega,g5,g6,hou.none f2,fu.then0 f2⟩,by dsimp only; omega⟩
   ·have hij:j=i:=by omega
    subst hij
    rw [w64 (x:=(j:Int) - 1) (by omega)]
    refine loopI (fun (st:Int) u=>∃ (k:Nat) (l':List (Int × Sl)),st=(k:Int)∧a≤k∧k≤j - 1∧ShK a b l l'∧Rot a (a+1) (k+1) l l'∧Own S u 57 entT s l'∧Fr (fun k=>s.v.ownBlock=some k) w u) (fun st _=>j - st.toNat) ⟨a,l,rfl,Nat.le_refl _,by omega,.refl _,Zov (.inr rfl) (by omega),hou,fu⟩ ?_
    rintro _ v ⟨k,l',rfl,g1,g2,sh',hr',hov,fv⟩
    have hl':=sh'.len
    refine condD (fun hlt=>?_) fun hge=>?_
    ·have hlt:k < j - 1:=by omega
     obtain ⟨x,hx⟩:=gt (l:=l') (k:=k) (by omega)
     obtain ⟨y,hy⟩:=gt (l:=l') (k:=k+1) (by omega)
     refine swapI (t:=entT) (p:=k+1) (q:=k) (hov.none (Fr.refl None v).drew) rfl rfl (by rw [w64 (by omega)]; omega) rfl hx hy fun v2 o2 f2 z2=>?_
     refine ⟨⟨k+1,_,by rw [w64 (by omega)]; omega,by omega,by omega,sh'.step (by omega) (by omega) (by omega) (by omega) hx hy,Z10i hr' g1 hx hy,o2,(fv.then0 (Fr.refl None v).drew).then f2⟩,?_⟩
     rw [w64 (by omega)]
     omega
    ·have:k+1=j:=by omega
     rw [this] at hr'
     exact hk l' v sh' (Zzr hbl s2 h1 h3 h4 h5 hr') hov fv
  ·have e2:b=m+1:=by omega
   subst e2
   obtain ⟨pv,hpv⟩:=gt (l:=l) (k:=m) (by omega)
   refine loopI (fun (st:Int × Int) u=>∃ i j:Nat,st=((i:Int),(j:Int))∧a≤i∧i≤j∧j≤m∧(i=a∨∀ x y,l[i - 1]?=some x→l[m]?=some y→entKey x≤entKey y)∧(j=m∨∀ x y,l[m]?=some x→l[j]?=some y→entKey x < entKey y)∧Own S u 57 entT s l∧Fr (fun k=>s.v.ownBlock=some k) w u)
    (fun st _=>(st.2 - st.1).toNat) ⟨a,m,rfl,Nat.le_refl _,by omega,Nat.le_refl _,.inl rfl,.inl rfl,ho,Fr.refl _ _⟩ ?_
   rintro _ u ⟨i,j,rfl,h1,h2,h3,h4,h5,hou,fu⟩
   dsimp only
   refine condD (fun hlt=>?_) fun hge=>?_
   ·have hlt:i < j:=by omega
    rw [half (by omega)]
    obtain ⟨x,hx⟩:=gt (l:=l) (k:=(i+j) / 2) (by omega)
    refine cmpI hou rfl rfl hpv hx fun z u2 hz f2=>?_
    rw [w64 (x:=(((i+j) / 2:Nat):Int)+1) (by omega)]
    refine joinI (fun (st:Int × Int) u=>u=u2∧∃ i2 j2:Nat,st=((i2:Int),(j2:Int))∧i≤i2∧i2≤j2∧j2≤j∧j2 - i2 < j - i∧(i2=a∨∀ x y,l[i2 - 1]?=some x→l[m]?=some y→entKey x≤entKey y)∧(j2=m∨∀ x y,l[m]?=some x→l[j2]?=some y→entKey x < entKey y)) ?_ ?_
    ·refine condI (fun hc=>?_) fun hc=>?_
     ·have hc:¬ z < 0:=by simpa using hc
      refine ⟨rfl,(i+j) / 2+1,j,rfl,by omega,by omega,Nat.le_refl _,by omega,.inr fun x' y' g1 g2=>?_,h5⟩
      rw [Nat.add_sub_cancel,hx] at g1
      rw [hpv] at g2
      cases g1; cases g2
      exact Int.not_lt.1 fun h=>hc (hz.2 h)
     ·have hc:z < 0:=by simpa using hc
      refine ⟨rfl,i,(i+j) / 2,rfl,Nat.le_refl _,by omega,by omega,by omega,h4,.inr fun x' y' g1 g2=>?_⟩
      rw [hpv] at g1
      rw [hx] at g2
      cases g1; cases g2
      exact hz.1 hc
    ·rintro _ u3 ⟨rfl,i2,j2,rfl,g1,g2,g3,g4,g5,g6⟩
     exact ⟨⟨i2,j2,rfl,by omega,g2,by omega,g5,g6,hou.none f2,fu.then0 f2⟩,by dsimp only; omega⟩
   ·have hij:j=i:=by omega
    subst hij
    refine loopI (fun (st:Int) u=>∃ (k:Nat) (l':List (Int × Sl)),st=(k:Int)∧j≤k∧k≤m∧ShK a (m+1) l l'∧Rot k m (m+1) l l'∧Own S u 57 entT s l'∧Fr (fun k=>s.v.ownBlock=some k) w u) (fun st _=>st.toNat) ⟨m,l,rfl,h3,Nat.le_refl _,.refl _,Zov (.inl rfl) (by omega),hou,fu⟩ ?_
    rintro _ v ⟨k,l',rfl,g1,g2,sh',hr',hov,fv⟩
    have hl':=sh'.len
    refine condD (fun hgt=>?_) fun hge=>?_
    ·have hgt:j < k:=by have hgt:(k:Int) > (j:Int):=hgt; omega
     obtain ⟨k,rfl⟩:∃ q,k=q+1:=⟨k - 1,by omega⟩
     obtain ⟨x,hx⟩:=gt (l:=l') (k:=k+1) (by omega)
     obtain ⟨y,hy⟩:=gt (l:=l') (k:=k) (by omega)
     refine swapI (t:=entT) (p:=k) (q:=k+1) (hov.none (Fr.refl None v).drew) rfl rfl (by rw [w64 (by omega)]; omega) rfl hx hy fun v2 o2 f2 z2=>?_
     refine ⟨⟨k,_,by rw [w64 (by omega)]; omega,by omega,by omega,sh'.step (by omega) (by omega) (by omega) (by omega) hx hy,Z10h hr' (by omega) hx hy,o2,(fv.then0 (Fr.refl None v).drew).then f2⟩,?_⟩
     rw [w64 (by omega)]
     omega
    ·have:k=j:=by have hge:¬ (k:Int) > (j:Int):=hge; omega
     subst this
     exact hk l' v sh' (Zy9 (by omega) s1 h1 h3 h4 h5 hr') hov fv
  ·obtain ⟨mid,hmid⟩:∃ mid,mid=(a+b) / 2:=⟨_,rfl⟩
   rw [half (i:=a) (j:=b) (by omega),← hmid,w64 (x:=(mid:Int)+(m:Int)) (by omega),w64 (x:=(mid:Int)+(m:Int) - (b:Int)) (by omega),w64 (x:=(mid:Int)+(m:Int) - 1) (by omega)]
   refine joinI (fun (st:Int × Int) u=>u=w∧∃ i j:Nat,st=((i:Int),(j:Int))∧((mid < m∧i+b=mid+m∧j=mid)∨(m≤mid∧i=a∧j=m))) ?_ ?_
   ·refine condD (fun hgt=>⟨rfl,mid+m - b,mid,?_,.inl ⟨by omega,by omega,rfl⟩⟩) fun hle=>⟨rfl,a,m,rfl,.inr ⟨by omega,rfl,rfl⟩⟩
    congr 1
    omega
   rintro _ u0 ⟨rfl,i0,j0,rfl,hij0⟩
   dsimp only
   refine loopI (fun (st:Int × Int) u=>∃ i j:Nat,st=((i:Int),(j:Int))∧i0≤i∧i≤j∧j≤j0∧(i=i0∨∀ x y,l[i - 1]?=some x→l[mid+m - i]?=some y→entKey x≤entKey y)∧(j=j0∨∀ x y,l[mid+m - j - 1]?=some x→l[j]?=some y→entKey x≤entKey y)∧Own S u 57 entT s l∧Fr (fun k=>s.v.ownBlock=some k) u0 u)
    (fun st _=>(st.2 - st.1).toNat) ⟨i0,j0,rfl,Nat.le_refl _,by omega,Nat.le_refl _,.inl rfl,.inl rfl,ho,Fr.refl _ _⟩ ?_
   rintro _ u ⟨i,j,rfl,h1,h2,h3,h4,h5,hou,fu⟩
   dsimp only
   refine condD (fun hlt=>?_) fun hge=>?_
   ·have hlt:i < j:=by omega
    rw [half (i:=i) (j:=j) (by omega)]
    obtain ⟨c,hc⟩:∃ c,c=(i+j) / 2:=⟨_,rfl⟩
    rw [← hc,w64 (x:=(mid:Int)+(m:Int) - 1 - (c:Int)) (by omega),w64 (x:=(c:Int)+1) (by omega)]
    obtain ⟨x,hx⟩:=gt (l:=l) (k:=mid+m - c - 1) (by omega)
    obtain ⟨y,hy⟩:=gt (l:=l) (k:=c) (by omega)
    refine cmpI hou (p:=mid+m - c - 1) (q:=c) (by omega) rfl hx hy fun z u2 hz f2=>?_
    refine joinI (fun (st:Int × Int) u=>u=u2∧∃ i2 j2:Nat,st=((i2:Int),(j2:Int))∧i≤i2∧i2≤j2∧j2≤j∧j2 - i2 < j - i∧(i2=i0∨∀ x y,l[i2 - 1]?=some x→l[mid+m - i2]?=some y→entKey x≤entKey y)∧(j2=j0∨∀ x y,l[mid+m - j2 - 1]?=some x→l[j2]?=some y→entKey x≤entKey y)) ?_ ?_
    ·refine condI (fun hc2=>?_) fun hc2=>?_
     ·have hc2:¬ z < 0:=by simpa using hc2
      refine ⟨rfl,c+1,j,rfl,by omega,by omega,Nat.le_refl _,by omega,.inr fun x' y' g1 g2=>?_,h5⟩
      rw [Nat.add_sub_cancel,hy] at g1
      rw [show mid+m - (c+1)=mid+m - c - 1 by omega,hx] at g2
      cases g1; cases g2
      exact Int.not_lt.1 fun h=>hc2 (hz.2 h)
     ·have hc2:z < 0:=by simpa using hc2
      refine ⟨rfl,i,c,rfl,Nat.le_refl _,by omega,by omega,by omega,h4,.inr fun x' y' g1 g2=>?_⟩
      rw [hx] at g1
      rw [hy] at g2
      cases g1; cases g2
      exact Int.le_of_lt (hz.1 hc2)
    ·rintro _ u3 ⟨rfl,i2,j2,rfl,g1,g2,g3,g4,g5,g6⟩
     exact ⟨⟨i2,j2,rfl,by omega,g2,by omega,g5,g6,hou.none f2,fu.then0 f2⟩,by dsimp only; omega⟩
   ·have hij:j=i:=by omega
    subst hij
    obtain ⟨e,he⟩:∃ e,e=mid+m - j:=⟨_,rfl⟩
    rw [w64 (x:=(mid:Int)+(m:Int) - (j:Int)) (by omega),show (mid:Int)+(m:Int) - (j:Int)=(e:Int) by omega]
    refine joinI (fun z v=>v=u∧z=decide (j < m∧m < e)) ?_ ?_
    ·refine condD (fun g=>⟨rfl,decide_eq_decide.2 (by omega)⟩) fun g=>⟨rfl,(decide_eq_false (by omega)).symm⟩
    rintro _ v ⟨rfl,rfl⟩
    refine joinI (fun (_:Unit) v2=>∃ l2,ShK j e l l2∧Rot j m e l l2∧Own S v2 57 entT s l2∧Fr (fun k=>s.v.ownBlock=some k) u0 v2) ?_ ?_
    ·refine condD (fun g=>?_) fun g=>⟨l,.refl _,Zov (by omega) (by omega),hou,fu⟩
     exact Zm3 hou g.1 g.2 (by omega) (by omega) fun l2 v2 g1 g2 g3 g4=>⟨l2,g1,g2,g3,fu.then g4⟩
    rintro _ v2 ⟨l2,sh2,rot2,o2,fv2⟩
    have hl2:=sh2.len
    obtain ⟨p1,p2,p3,p4,p5⟩:=Zs0 (mid:=mid) hbl s1 s2 (by omega) (by omega) (by omega) (by omega) (by omega) (by
     rcases h4 with g | g
     ·omega
     ·rw [← he] at g
      exact .inr (.inr g)) (by
     rcases h5 with g | g
     ·omega
     ·rw [← he] at g
      exact .inr (.inr g)) rot2
    refine joinI (fun z v=>v=v2∧z=decide (a < j∧j < mid)) ?_ ?_
    ·refine condD (fun g=>⟨rfl,decide_eq_decide.2 (by omega)⟩) fun g=>⟨rfl,(decide_eq_false (by omega)).symm⟩
    rintro _ v3 ⟨rfl,rfl⟩
    refine joinI (fun (_:Unit) v4=>∃ l3,ShK a mid l2 l3∧So entKey a mid l3∧Own S v4 57 entT s l3∧Fr (fun k=>s.v.ownBlock=some k) u0 v4) ?_ ?_
    ·refine condD (fun g=>?_) fun g=>⟨l2,.refl _,?_,o2,fv2⟩
     ·exact Z4e d (by omega) o2 g.1 g.2 (by omega) (by omega) p1 p2 fun l3 v4 g1 g2 g3 g4=>⟨l3,g1,g2,g3,fv2.then g4⟩
     ·by_cases c:j=a
      ·rw [c] at p2; exact p2
      ·have:j=mid:=by omega
       rw [this] at p1; exact p1
    rintro _ v4 ⟨l3,sh3,so3,o3,fv4⟩
    have hl3:=sh3.len
    have q3:So entKey mid e l3:=p3.same fun k g1 g2=>sh3.out (.inr g1)
    have q4:So entKey e b l3:=p4.same fun k g1 g2=>sh3.out (.inr (by omega))
    refine joinI (fun z v=>v=v4∧z=decide (mid < e∧e < b)) ?_ ?_
    ·refine condD (fun g=>⟨rfl,decide_eq_decide.2 (by omega)⟩) fun g=>⟨rfl,(decide_eq_false (by omega)).symm⟩
    rintro _ v5 ⟨rfl,rfl⟩
    refine joinI (fun (_:Unit) v6=>∃ l4,ShK mid b l3 l4∧So entKey mid b l4∧Own S v6 57 entT s l4∧Fr (fun k=>s.v.ownBlock=some k) u0 v6) ?_ ?_
    ·refine condD (fun g=>?_) fun g=>⟨l3,.refl _,?_,o3,fv4⟩
     ·exact Z4e d (by omega) o3 g.1 g.2 (by omega) (by omega) q3 q4 fun l4 v6 g1 g2 g3 g4=>⟨l4,g1,g2,g3,fv4.then g4⟩
     ·by_cases c:e=mid
      ·rw [c] at q4; exact q4
      ·have:e=b:=by omega
       rw [this] at q3; exact q3
    rintro _ v6 ⟨l4,sh4,so4,o4,fv6⟩
    exact hk l4 v6 (((sh2.mono (by omega) (by omega)).trans (sh3.mono (Nat.le_refl _) (by omega))).trans (sh4.mono (by omega) (Nat.le_refl _))) (Zu2 p5 sh3 so3 sh4 so4) o4 fv6
end
end Go.Proofs.YtchhhjlpnecjkaaGreat
set_option linter.unusedVariables false
namespace Go.Proofs.YtchhhjlpnecjkaaGreat
open Go Go.Proofs.YtchhhjlpnecjkaaGreat.Den
def Z75 (x0:Int):W (Bool) :=
 retW (x0 != x0)
theorem Zbl {R:Type} (x0:Int) (K:Res [.sc .bool]→W R) (Q:R→World→Prop) (w:World) (h:Z75 x0 (fun r w=>K r Q w) w):callW Tryz.prog Z76 [.int .u8 x0] [.sc .bool] K Q w:=den_c (K:=K) mix Tryz.func178 {} trivial rfl (by kernel_rfl) h
end Go.Proofs.YtchhhjlpnecjkaaGreat
namespace Go.Proofs.YtchhhjlpnecjkaaGreat
open Go Go.RowKit Go.Proofs.YtchhhjlpnecjkaaGreat.Den
variable {R:Type} {Q:R→World→Prop} {w:World}
section
variable {S:Nat→Prop} {s:Sl} {l:List (Int × Sl)}
theorem Zm4 (ho:Own S w 57 entT s l) {n:Nat} (hn:n=l.length) (hm:l.length≤1152921504606846975) {K:Res []→W R} (hk:∀ l' w',ShK 0 n l l'→So entKey 0 n l'→Own S w' 57 entT s l'→Fr (fun k=>s.v.ownBlock=some k) w w'→K () Q w') :
  callW Tryz.prog Z29 [.slice s.a s.n s.c,.int .i64 (n:Int),.func (.func 121) #[] #[]] [] K Q w:=by
 refine Z3m s _ K Q w ?_
 unfold Z1g
 refine loopI (fun (st:Int × Int) u=>∃ (q:Nat) (l':List (Int × Sl)),st=(((20 * q:Nat):Int),((20 * q+20:Nat):Int))∧20 * q≤n∧ShK 0 n l l'∧(∀ k,k < q→So entKey (20 * k) (20 * k+20) l')∧Own S u 57 entT s l'∧Fr (fun k=>s.v.ownBlock=some k) w u) (fun st _=>n+20 - st.2.toNat) ⟨0,l,rfl,by omega,.refl _,fun k h=>by omega,ho,Fr.refl _ _⟩ ?_
 rintro _ u ⟨q,l1,rfl,hq,sh1,so1,o1,fu⟩
 have hl1:=sh1.len
 dsimp only
 refine condD (fun hle=>?_) fun hgt=>?_
 ·have hle:20 * q+20≤n:=by omega
  refine Z9y o1 (a:=20 * q) (b:=20 * q+20) (by omega) (by omega) (by omega) fun l2 u2 sh2 so2 o2 f2=>?_
  refine ⟨⟨q+1,l2,by rw [w64 (by omega)]; congr 1,by omega,sh1.trans (sh2.mono (by omega) (by omega)),fun k hk=>?_,o2,fu.then f2⟩,?_⟩
  ·by_cases e:k=q
   ·rw [e]; exact so2
   ·exact (so1 k (by omega)).same fun p g1 g2=>sh2.out (.inl (by omega))
  ·rw [w64 (by omega)]
   omega
 refine Z9y o1 (a:=20 * q) (b:=n) (by omega) (by omega) (by omega) fun l2 u2 sh2 so2 o2 f2=>?_
 have sh02:=sh1.trans (sh2.mono (Nat.zero_le _) (Nat.le_refl _))
 have hgt:n < 20 * q+20:=by omega
 have hB:∀ k,So entKey (k * 20) (min (k * 20+20) n) l2:=fun k=>by
  by_cases e:k < q
  ·rw [Nat.min_eq_left (by omega),Nat.mul_comm]
   exact (so1 k e).same fun p g1 g2=>sh2.out (.inl (by omega))
  ·by_cases e2:k=q
   ·rw [Nat.min_eq_right (by omega),e2,Nat.mul_comm]
    exact so2
   ·intro p r x y g1 g2 g3
    omega
 have fu2:=fu.then f2
 clear so1 so2 sh1 sh2 o1 fu f2 hl1 hq hgt
 refine loopI (fun (st:Int) v=>∃ (bs:Nat) (l':List (Int × Sl)),st=(bs:Int)∧20≤bs∧bs≤2 * n+20∧ShK 0 n l l'∧(∀ k,So entKey (k * bs) (min (k * bs+bs) n) l')∧Own S v 57 entT s l'∧Fr (fun k=>s.v.ownBlock=some k) w v) (fun st _=>n - st.toNat) ⟨20,l2,rfl,Nat.le_refl _,by omega,sh02,hB,o2,fu2⟩ ?_
 clear hB sh02 o2 fu2 l2 u2
 rintro _ v ⟨bs,l3,rfl,hb20,hbn,sh3,hB,o3,fv⟩
 refine condD (fun hlt=>?_) fun hge=>?_
 ·have hlt:bs < n:=by omega
  rw [w64 (x:=2 * (bs:Int)) (by omega)]
  refine loopI (fun (st:Int × Int) v=>∃ (q a:Nat) (l':List (Int × Sl)),st=((a:Int),((a+2 * bs:Nat):Int))∧a=q * (2 * bs)∧a≤n∧ShK 0 n l l'∧(∀ k,k < q→So entKey (k * (2 * bs)) (k * (2 * bs)+2 * bs) l')∧(∀ k,2 * q≤k→So entKey (k * bs) (min (k * bs+bs) n) l')∧Own S v 57 entT s l'∧Fr (fun k=>s.v.ownBlock=some k) w v)
   (fun st _=>n+2 * bs - st.2.toNat) ⟨0,0,l3,by congr 1; omega,by omega,by omega,sh3,fun k h=>by omega,fun k _=>hB k,o3,fv⟩ ?_
  rintro _ z ⟨q,a,l4,rfl,ha,han,sh4,lo,hi,o4,fz⟩
  have hl4:=sh4.len
  have ea:(2 * q) * bs=a:=by rw [ha,Nat.mul_comm 2 q,Nat.mul_assoc]
  have eb:(2 * q+1) * bs=a+bs:=by rw [Nat.add_mul,ea,Nat.one_mul]
  have ec:(q+1) * (2 * bs)=a+2 * bs:=by rw [Nat.add_mul,Nat.one_mul,← ha]
  have p1:=hi (2 * q) (Nat.le_refl _)
  have p2:=hi (2 * q+1) (by omega)
  rw [ea] at p1
  rw [eb] at p2
  dsimp only
  rw [w64 (x:=(a:Int)+(bs:Int)) (by omega),show (a:Int)+(bs:Int)=((a+bs:Nat):Int) by omega]
  refine condD (fun hle=>?_) fun hgt=>?_
  ·have hle:a+2 * bs≤n:=by omega
   refine Z4e (b:=a+2 * bs) (2 * bs) (by omega) o4 (by omega) (by omega) (by omega) (by omega) (p1.mono (Nat.le_refl _) (by omega)) (p2.mono (Nat.le_refl _) (by omega)) fun l5 z2 sh5 so5 o5 f5=>?_
   refine ⟨⟨q+1,a+2 * bs,l5,by rw [w64 (by omega)]; congr 1,ec.symm,hle,sh4.trans (sh5.mono (by omega) (by omega)),fun k hk=>?_,fun k hk=>?_,o5,fz.then f5⟩,?_⟩
   ·by_cases e:k=q
    ·rw [e,← ha]; exact so5
    ·have:(k+1) * (2 * bs)≤q * (2 * bs):=Nat.mul_le_mul_right _ (by omega)
     rw [Nat.add_mul,Nat.one_mul,← ha] at this
     exact (lo k (by omega)).same fun p g1 g2=>sh5.out (.inl (by omega))
   ·have:(2 * q+2) * bs≤k * bs:=Nat.mul_le_mul_right _ (by omega)
    rw [Nat.add_mul,ea] at this
    exact (hi k (by omega)).same fun p g1 g2=>sh5.out (.inr (by omega))
   ·rw [w64 (by omega)]
    omega
  ·have hgt:n < a+2 * bs:=by omega
   have out:∀ (l5:List (Int × Sl)),ShK a n l4 l5→So entKey a n l5→∀ k,So entKey (k * (2 * bs)) (min (k * (2 * bs)+2 * bs) n) l5:=by
    intro l5 sh5 so5 k
    by_cases e:k < q
    ·have:(k+1) * (2 * bs)≤q * (2 * bs):=Nat.mul_le_mul_right _ (by omega)
     rw [Nat.add_mul,Nat.one_mul,← ha] at this
     rw [Nat.min_eq_left (by omega)]
     exact (lo k e).same fun p g1 g2=>sh5.out (.inl (by omega))
    ·by_cases e2:k=q
     ·rw [e2,← ha,Nat.min_eq_right (by omega)]
      exact so5
     ·have:(q+1) * (2 * bs)≤k * (2 * bs):=Nat.mul_le_mul_right _ (by omega)
      rw [ec] at this
      intro p r x y g1 g2 g3
      omega
   refine joinI (fun (_:Unit) v=>∃ l5,ShK a n l4 l5∧So entKey a n l5∧Own S v 57 entT s l5∧Fr (fun k=>s.v.ownBlock=some k) w v) ?_ ?_
   ·refine condD (fun g=>?_) fun g=>⟨l4,.refl _,p1.mono (Nat.le_refl _) (by omega),o4,fz⟩
    have g:a+bs < n:=by omega
    exact Z4e (b:=n) (2 * bs) (by omega) o4 (by omega) g (by omega) (by omega) (p1.mono (Nat.le_refl _) (by omega)) (p2.mono (Nat.le_refl _) (by omega)) fun l5 z2 sh5 so5 o5 f5=>⟨l5,sh5,so5,o5,fz.then f5⟩
   rintro _ z2 ⟨l5,sh5,so5,o5,f5⟩
   refine ⟨⟨2 * bs,l5,by rw [w64 (by omega)]; omega,by omega,by omega,sh4.trans (sh5.mono (Nat.zero_le _) (Nat.le_refl _)),out l5 sh5 so5,o5,f5⟩,?_⟩
   rw [w64 (by omega)]
   omega
 ·have h0:=hB 0
  rw [Nat.zero_mul,Nat.min_eq_right (by omega)] at h0
  exact hk l3 v sh3 h0 o3 fv
theorem Zg5 (ho:Own S w 57 entT s l) (hm:l.length≤1152921504606846975) {K:Res []→W R} (hk:∀ l' w',l'.Perm l→So entKey 0 l'.length l'→Own S w' 57 entT s l'→Fr (fun k=>s.v.ownBlock=some k) w w'→K () Q w') :
  callW Tryz.prog Z25 [.slice s.a s.n s.c,.func (.func 121) #[] #[]] [] K Q w:=by
 refine Z3d s K Q w ?_
 unfold Z1b
 exact Zm4 ho ho.len hm fun l' w' sh so o f=>hk l' w' sh.perm (by rw [sh.len,← ho.len]; exact so) o f
end
section
variable {S:Nat→Prop} {s:Sl} {l:List Comp}
abbrev compKey (c:Comp):Int:=c.1
theorem Ziv {x y:Comp} {K:Res [.sc (.int .i64)]→W R} (hk:∀ z w',(z < 0↔x.1 < y.1)→Fr None w w'→K z Q w'):callW Tryz.prog Z6h [.agg ⟨compC x⟩,.agg ⟨compC y⟩] [.sc (.int .i64)] K Q w:=by
 refine Zmd x y K Q w ?_
 unfold Zed
 refine newI fun w1 B1 f1 z1=>newI fun w2 B2 f2 z2=>fldI (B1.fr f2 fun h=>h) (i:=0) (x:=x.1) rfl (fldI B2 (i:=0) (x:=y.1) rfl ?_)
 refine Zgb _ _ _ _ _ ?_
 unfold Z9c
 refine Zbl _ _ _ _ ?_
 unfold Z75
 refine Zbl _ _ _ _ ?_
 unfold Z75
 have f02:=f1.then0 f2
 refine condF (by simp) (condF (by simp) (condD (fun h=>?_) fun h=>condD (fun h2=>?_) fun h2=>?_))
 ·exact hk _ w2 ⟨fun _=>h,fun _=>by decide⟩ f02
 ·exact hk _ w2 ⟨fun h3=>absurd h3 (by decide),fun h3=>absurd h3 h⟩ f02
 ·exact hk _ w2 ⟨fun h3=>absurd h3 (by decide),fun h3=>absurd h3 h⟩ f02
theorem Ze6 (ho:Own S w 92 compT s l) (hm:l.length < 20) {K:Res []→W R} (hk:∀ l' w',l'.Perm l→So compKey 0 l'.length l'→Own S w' 92 compT s l'→Fr (fun k=>s.v.ownBlock=some k) w w'→K () Q w') :
  callW Tryz.prog Z1w [.slice s.a s.n s.c,.func (.func 150) #[] #[]] [] K Q w:=by
 refine Z3c s K Q w ?_
 unfold Z1a
 refine Z3l s _ _ _ _ ?_
 unfold Z1f
 have hl:=ho.len
 refine loopI (fun (st:Int × Int) v=>st=(0,20)∧v=w) (fun _ _=>0) ⟨rfl,rfl⟩ ?_
 rintro _ v ⟨rfl,rfl⟩
 refine condF (decide_eq_false (by show ¬ (20:Int)≤(s.n:Int); omega)) ?_
 refine Z2a s _ _ _ _ _ ?_
 unfold Zq
 refine insI (t:=compT) (sz:=4) rfl rfl compKey (fun x y K=>callW Tryz.prog Z6h [.agg ⟨compC x⟩,.agg ⟨compC y⟩] [.sc (.int .i64)] K) (fun x y K Q w h=>Ziv h) (a:=0) rfl (congrArg Int.ofNat hl) (Nat.zero_le _) (Nat.le_refl _) (by omega) ho fun l' w' sh so o f=>?_
 unfold retW
 refine loopI (fun (st:Int) z=>st=20∧z=w') (fun _ _=>0) ⟨rfl,rfl⟩ ?_
 rintro _ z ⟨rfl,rfl⟩
 refine condF (decide_eq_false (by show ¬ (20:Int) < (s.n:Int); omega)) ?_
 exact hk l' z sh.perm (by rw [sh.len]; exact so) o f
end
end Go.Proofs.YtchhhjlpnecjkaaGreat
namespace Go.Proofs.YtchhhjlpnecjkaaGreat
open Go Go.RowKit Go.Proofs.YtchhhjlpnecjkaaGreat.Den
variable {R:Type} {Q:R→World→Prop} {w:World}
theorem Den.All2.inv {α β:Type} {p:α→β→Prop} {x:α} {l:List α} {k:List β} (h:All2 p (x :: l) k):∃ b k0,k=b :: k0∧p x b∧All2 p l k0:=by
 rcases k with _ | ⟨b,k0⟩
 ·have:=h.len; simp at this
 ·exact ⟨b,k0,rfl,h.at_ 0 x b rfl rfl,by have:=h.len; simpa using this,fun i a c ha hc=>h.at_ (i+1) a c (by simpa using ha) (by simpa using hc)⟩
theorem Den.All2.cons {α β:Type} {p:α→β→Prop} {x:α} {b:β} {l:List α} {k:List β} (hx:p x b) (h:All2 p l k):All2 p (x :: l) (b :: k) :=
 ⟨by simp [h.len],fun i a c ha hc=>by
  rcases i with _ | i
  ·simp at ha hc; subst ha; subst hc; exact hx
  ·exact h.at_ i a c (by simpa using ha) (by simpa using hc)⟩
theorem Den.All2.perm {α β:Type} {p:α→β→Prop} {l l':List α} (hp:l.Perm l'):∀ {k:List β},All2 p l k→∃ k',k'.Perm k∧All2 p l' k':=by
 induction hp with
 | nil=>exact fun {k} h=>⟨k,List.Perm.refl _,h⟩
 | cons x _ ih =>
  intro k h
  obtain ⟨b,k0,rfl,hb,h0⟩:=h.inv
  obtain ⟨k1,p1,h1⟩:=ih h0
  exact ⟨b :: k1,p1.cons b,All2.cons hb h1⟩
 | swap x y l =>
  intro k h
  obtain ⟨b,k0,rfl,hb,h0⟩:=h.inv
  obtain ⟨c,k1,rfl,hc,h1⟩:=h0.inv
  exact ⟨c :: b :: k1,List.Perm.swap _ _ _,All2.cons hc (All2.cons hb h1)⟩
 | trans _ _ ih1 ih2 =>
  intro k h
  obtain ⟨k1,p1,h1⟩:=ih1 h
  obtain ⟨k2,p2,h2⟩:=ih2 h1
  exact ⟨k2,p2.trans p1,h2⟩
theorem So.pair {α:Type} {key:α→Int} {l:List α} (h:So key 0 l.length l):l.Pairwise fun a b=>key a≤key b:=by
 rw [List.pairwise_iff_getElem]
 intro i j hi hj hij
 exact h i j _ _ (Nat.zero_le _) hij hj (List.getElem?_eq_getElem hi) (List.getElem?_eq_getElem hj)
theorem Zvj:∀ m:Fin 256,∀ j:Fin 6,(bAnd .u8 (shR .u8 ((m.val:Nat):Int) ((j.val:Nat):Int)) 1 == 1)=m.val.testBit j.val:=by decide +kernel
def turnF (d:Chg) (c:Comp):Comp:=if (findC d.2.2.2 c.1).2=true then (findC d.2.2.2 c.1).1 else c
def turnB (d:Chg) (c:Comp):Bool:=!(decide (c.1 < 6) && d.2.1.toNat.testBit c.1.toNat)
theorem Ztj (l:List Comp) (d:Chg):turnP l d=(l.filter (turnB d)).map (turnF d) ++ d.2.2.1:=rfl
theorem Zwn (l:List Comp) (d:Chg) (c:Comp):((l ++ [c]).filter (turnB d)).map (turnF d)=(l.filter (turnB d)).map (turnF d) ++ if turnB d c=true then [turnF d c] else []:=by
 rw [List.filter_append,List.map_append]
 congr 1
 by_cases h:turnB d c=true
 ·simp [List.filter,h]
 ·simp [List.filter,h]
theorem Zmu {ok ok2:Nat→Prop} {r:Int × Sl} {e:Ent} (h1:r.1=e.1) (hS:SlT ok w compT r.2 e.2) (hm:e.2.length≤9) (hc:∀ c∈e.2,CompOk c) {rd:ChgRaw} {d:Chg} (hd:chgR ok2 w rd d) (hl:0≤d.2.1∧d.2.1≤255) (hn:d.2.2.1.length≤9) (hs:Small d.2.2.2) {K:Res [.agg [.int .u32,.sl]]→W R}
  (hk:∀ t e' w',TurnOf e d e'→Own (Up w.heap.size) w' 92 compT t e'.2→Fr None w w'→K (e.1,t) Q w') :
  callW Tryz.prog Zfv [.agg ⟨[.int .u32 r.1,.slice r.2.a r.2.n r.2.c]⟩,.agg ⟨[.int .u32 rd.1,.int .u8 rd.2.1,.slice rd.2.2.1.a rd.2.2.1.n rd.2.2.1.c,.slice rd.2.2.2.a rd.2.2.2.n rd.2.2.2.c]⟩] [.agg [.int .u32,.sl]] K Q w:=by
 refine Zrc r rd K Q w ?_
 unfold Zkw
 obtain ⟨d1,d2,d3,d4⟩:=hd
 refine newI fun w1 Be f1 z1=>newI fun w2 Bd f2 z2=>newI fun w3 Bx f3 z3=>?_
 have Be:=(Be.fr f2 fun h=>h).fr f3 fun h=>h
 have Bd:=Bd.fr f3 fun h=>h
 have f03:=(f1.then0 f2).then0 f3
 have hlen:=hS.len
 refine fldI Be (i:=1) (x:=r.2) rfl ?_
 have keep:∀ {u:World},Fr (Up w3.heap.size) w3 u→Blk u w.heap.size 57 [.int .u32 r.1,.slice r.2.a r.2.n r.2.c]∧Blk u w1.heap.size 86 [.int .u32 rd.1,.int .u8 rd.2.1,.slice rd.2.2.1.a rd.2.2.1.n rd.2.2.1.c,.slice rd.2.2.2.a rd.2.2.2.n rd.2.2.2.c]∧Blk u w2.heap.size 57 [.int .u32 0,.slice none 0 0]∧Fr None w u:=fun f =>
  ⟨Be.frUp f (by omega),Bd.frUp f (by omega),Bx.frUp f (by omega),f03.thenUp f f03.size⟩
 refine forI (N:=r.2.n) (fun s:Sl × Int=>s.2) (fun j st u=>st.2=(j:Int)∧Own (Up w3.heap.size) u 92 compT st.1 (((e.2.take j).filter (turnB d)).map (turnF d))∧Fr (Up w3.heap.size) w3 u) ⟨rfl,by rw [List.take_zero]; exact Own.nil _ _ _ _,Fr.refl _ _⟩ (fun j s w' h=>h.1) ?_ ?_
 ·rintro j ⟨z,_⟩ u K' hj ⟨rfl,o,fu⟩ - hK
  obtain ⟨Beu,Bdu,Bxu,f0u⟩:=keep fu
  have su:=fu.size
  obtain ⟨c,hcj⟩:∃ c,e.2[j]?=some c:=⟨_,List.getElem?_eq_getElem (by omega)⟩
  refine joinI (fun z v=>Own (Up w3.heap.size) v 92 compT z (((e.2.take (j+1)).filter (turnB d)).map (turnF d))∧Fr (Up w3.heap.size) w3 v) ?_ fun z v ⟨h1,h2⟩=>hK _ _ ⟨wsucc hj (by omega),h1,h2⟩
  refine (hS.fr0 f0u).get rfl rfl (by omega) fun x hx=>?_
  rw [hcj] at hx
  cases hx
  have hco:=hc c (List.mem_of_getElem? hcj)
  refine newI fun u1 Bc g1 y1=>stoAll Bc rfl rfl fun u2 Bc g2 y2=>?_
  have g02:Fr None u u2:=g1.newer g2 fun k e=>by omega
  have Bd2:=Bdu.fr g02 fun h=>h
  refine joinI (fun z v=>z=!turnB d c∧v=u2) ?_ ?_
  ·refine fldI Bc (i:=0) (x:=c.1) rfl (condD (fun hlt=>?_) fun hge=>?_)
   ·refine fldI Bd2 (i:=1) (x:=rd.2.1) rfl (fldI Bc (i:=0) (x:=c.1) rfl (chkI hco.1.1 ⟨?_,rfl⟩))
    have hlt6:c.1 < 6:=hlt
    have t:=Zvj ⟨d.2.1.toNat,by omega⟩ ⟨c.1.toNat,by have:=hco.1; omega⟩
    dsimp only at t
    rw [show ((d.2.1.toNat:Nat):Int)=d.2.1 by omega,show ((c.1.toNat:Nat):Int)=c.1 by have:=hco.1; omega] at t
    unfold turnB
    rw [d2,t,decide_eq_true hlt]
    simp
   ·unfold turnB
    rw [decide_eq_false hge]
    exact ⟨by simp,rfl⟩
  rintro z' v ⟨rfl,rfl⟩
  rw [Z8 hcj,Zwn]
  have fu2:=fu.then g02.up
  refine condI (fun hb=>?_) fun hb=>?_
  ·rw [if_neg (by simpa using hb),List.append_nil]
   exact ⟨o.none g02,fu2⟩
  have hb:turnB d c=true:=by simpa using hb
  rw [if_pos hb]
  refine fldI Bd2 (i:=3) (x:=rd.2.2.2) rfl (fldI Bc (i:=0) (x:=c.1) rfl (Zeo (d4.fr0 (f0u.then0 g02)) (by have:=hs; omega) fun u3 g3=>?_))
  have g03:=g02.then0 g3
  refine newI fun u4 By g4 y4=>stoAll By rfl rfl fun u5 By g5 y5=>?_
  have g35:Fr None u3 u5:=g4.newer g5 fun k e=>by omega
  have Bc5:=(Bc.fr g3 fun h=>h).fr g35 fun h=>h
  have g05:=g03.then0 g35
  have s5:=g05.size
  have sc:u.heap.size < u5.heap.size:=Bc5.lt
  refine joinI (fun (_:Unit) v=>Blk v u.heap.size 92 (compC (turnF d c))∧Fr None u v∧u.heap.size≤v.heap.size) ?_ ?_
  ·unfold turnF
   refine condI (fun hf=>?_) fun hf=>?_
   ·rw [if_pos hf]
    refine aggI By (x:=(findC d.2.2.2 c.1).1) rfl (stoAll Bc5 rfl rfl fun u6 B6 g6 y6=>⟨B6,g05.newer g6 fun k e=>by omega,by omega⟩)
   ·rw [if_neg (by rw [hf]; simp)]
    exact ⟨Bc5,g05,by omega⟩
  rintro _ v ⟨Bv,gv,sv⟩
  refine aggI Bv (x:=turnF d c) rfl ?_
  have ol:((e.2.take j).filter (turnB d)).length≤e.2.length:=Nat.le_trans (List.length_filter_le _ _) (by simp; omega)
  refine appP (x:=turnF d c) Z26 rfl (o.none gv) (fun k e=>by show w3.heap.size≤k; omega) (by simp; omega) (by simp; omega) fun r2 u7 o7 g7=>?_
  exact ⟨o7,(fu.then gv.up).then ((o.none gv).upFr g7)⟩
 ·rintro ⟨z,_⟩ u ⟨_,o,fu⟩
  obtain ⟨Beu,Bdu,Bxu,f0u⟩:=keep fu
  have su:=fu.size
  have s03:=f03.size
  rw [List.take_of_length_le (by omega)] at o
  refine fldI Bdu (i:=2) (x:=rd.2.2.1) rfl ?_
  have ol:((e.2.filter (turnB d)).map (turnF d)).length≤9:=by rw [List.length_map]; exact Nat.le_trans (List.length_filter_le _ _) hm
  have hnl:=(d3.fr0 f0u)
  refine appI (S':=Up w3.heap.size) Z26 o hnl (by omega) (by rw [Zm]; omega) (fun _ h=>h) (by show _≤_; omega) fun r2 u2 o2 g2 y2=>?_
  rw [← Ztj] at o2
  have fu2:=fu.then (o.upFr g2)
  refine Ze6 o2 (by rw [Ztj,List.length_append]; omega) fun l' u3 hp hso o3 g3=>?_
  have fu3:=fu2.then (o2.upFr g3)
  obtain ⟨Be3,Bd3,Bx3,f3'⟩:=keep fu3
  refine fldI Be3 (i:=0) (x:=r.1) rfl (stoAll Bx3 rfl rfl fun u4 B4 g4 y4=>aggI B4 (x:=((r.1,r2):Int × Sl)) rfl ?_)
  rw [h1]
  exact hk r2 (e.1,l') u4 ⟨rfl,hp,hso.pair⟩ ((o3.fr g4 fun k (e:w3.heap.size≤k) e2=>by omega).mono fun k _ (e:w3.heap.size≤k)=>by show w.heap.size≤k; omega) (f3'.newer g4 fun k e=>by omega)
theorem Zjw {ok:Nat→Prop} {s:Sl} {l:List Int} (hS:SlT ok w idT s l) (hm:l.length≤4611686018427387904) {x:Int} {K:Res [.sc .bool]→W R} (hk:∀ w',Fr None w w'→K (decide (x∈l)) Q w') :
  callW Tryz.prog Z4s [.slice s.a s.n s.c,.int .u32 x] [.sc .bool] K Q w:=by
 refine Ze2 s _ K Q w ?_
 unfold Z7o
 refine Zi6 s _ _ _ w ?_
 unfold Zan
 have hlen:=hS.len
 refine forI (N:=s.n) (fun s:Int=>s) (fun j i w'=>i=j∧Fr None w w'∧∀ q y,q < j→l[q]?=some y→y≠x) ⟨rfl,Fr.refl _ _,by omega⟩ (fun j s w' h=>h.1) ?_ ?_
 ·rintro j i w1 K' hj ⟨rfl,f1,hno⟩ - hK
  refine (hS.fr0 f1).get rfl rfl (by omega) fun y hy=>condE (fun e=>?_) fun e=>?_
  ·have e:x=y:=e
   subst e
   have:=hk w1 f1
   rw [decide_eq_true (List.mem_of_getElem? hy)] at this
   show K (decide ((j:Int) ≥ 0)) Q w1
   rw [decide_eq_true (by omega)]
   exact this
  ·refine hK _ _ ⟨wsucc hj (by omega),f1,fun q z hq hz=>?_⟩
   rcases Nat.lt_succ_iff_lt_or_eq.1 hq with h1 | h1
   ·exact hno q z h1 hz
   ·subst h1; rw [hy] at hz; cases hz; exact fun h=>e h.symm
 ·rintro i w1 ⟨rfl,f1,hno⟩
  have:=hk w1 f1
  rw [decide_eq_false (fun hm=>by
   obtain ⟨q,hq⟩:=List.mem_iff_getElem?.1 hm
   exact hno q x (by rw [hlen]; exact (List.getElem?_eq_some_iff.1 hq).1) hq rfl)] at this
  exact this
theorem Zcz {ok:Nat→Prop} {s:Sl} {rd:List ChgRaw} {l:List Chg} (hS:SlT ok w chgT s rd) (hE:All2 (fun a b=>chgR ok w a b) rd l) (hm:l.length≤4611686018427387904) {be:Nat} {T:TypeId} {id:Int} {tl:List Value} (B:Blk w be T (.int .u32 id :: tl)) {K:Res [.sc (.int .i64)]→W R}
  (h0:l.find? (fun d=>d.1 == id)=none→∀ w',Fr None w w'→K (-1) Q w') (hk:∀ i d,l[i]?=some d→l.find? (fun d=>d.1 == id)=some d→∀ w',Fr None w w'→K (i:Nat) Q w') :
  callW Tryz.prog Z2h [.slice s.a s.n s.c,.func (.func 118) #[] #[.pointer (some ⟨be,0,none⟩)]] [.sc (.int .i64)] K Q w:=by
 refine Z3v s _ K Q w ?_
 unfold Z1k
 have hlen:=hS.len
 have hel:=hE.len
 refine forI (N:=s.n) (fun s:Int=>s) (fun j i w'=>i=j∧Fr None w w'∧∀ q y,q < j→l[q]?=some y→y.1≠id) ⟨rfl,Fr.refl _ _,by omega⟩ (fun j s w' h=>h.1) ?_ ?_
 ·rintro j i w1 K' hj ⟨rfl,f1,hno⟩ - hK
  obtain ⟨d,hd⟩:∃ d,l[j]?=some d:=⟨_,List.getElem?_eq_getElem (by omega)⟩
  obtain ⟨r,hr,hrd⟩:=hE.get hd
  refine (hS.fr0 f1).get rfl rfl (by omega) fun y hy=>?_
  rw [hr] at hy
  cases hy
  refine Zkl r _ _ _ _ ?_
  unfold Zc9
  refine newI fun w2 B2 f2 z2=>fldI B2 (i:=0) (x:=r.1) rfl (ptrI (fldI ((B.fr f1 fun h=>h).fr f2 fun h=>h) (i:=0) (x:=id) rfl ?_))
  refine condE (fun e=>?_) fun e=>?_
  ·have e:r.1=id:=e
   rw [hrd.1] at e
   have:l.find? (fun d=>d.1 == id)=some d:=by
    rw [List.find?_eq_some_iff_getElem]
    obtain ⟨hl,he⟩:=List.getElem?_eq_some_iff.1 hd
    exact ⟨by simp [e],j,hl,he,fun q hq=>by have:=hno q _ hq (List.getElem?_eq_getElem (by omega)); simpa using this⟩
   exact hk j d hd this w2 (f1.then0 f2)
  ·refine hK _ _ ⟨wsucc hj (by omega),f1.then0 f2,fun q y hq hy=>?_⟩
   rcases Nat.lt_succ_iff_lt_or_eq.1 hq with h1 | h1
   ·exact hno q y h1 hy
   ·subst h1; rw [hd] at hy; cases hy; exact fun h=>e (hrd.1.trans h)
 ·rintro i w1 ⟨rfl,f1,hno⟩
  refine h0 (List.find?_eq_none.2 fun d hd=>?_) w1 f1
  obtain ⟨q,hq⟩:=List.mem_iff_getElem?.1 hd
  have:=hno q d (by have:=(List.getElem?_eq_some_iff.1 hq).1; omega) hq
  simpa using this
end Go.Proofs.YtchhhjlpnecjkaaGreat
namespace Go.Proofs.YtchhhjlpnecjkaaGreat
open Go Go.RowKit Go.Proofs.YtchhhjlpnecjkaaGreat.Den
variable {R:Type} {Q:R→World→Prop} {w:World}
def ChgSm (d:Chg):Prop:=(0≤d.2.1∧d.2.1≤255)∧d.2.2.1.length≤9∧Small d.2.2.2∧(∀ c∈d.2.2.1,CompOk c)∧∀ c∈d.2.2.2,CompOk c
theorem Zyh {e e':Ent} {d:Chg} (he:EntFit e) (h6:e.2.length≤6) (hd:ChgSm d) (h:TurnOf e d e'):EntFit e':=by
 obtain ⟨h1,h2,h3⟩:=h
 obtain ⟨d1,d2,d3,d4,d5⟩:=hd
 refine ⟨by rw [h1]; exact he.1,?_,fun c hc=>?_⟩
 ·rw [h2.length_eq]
  unfold turnP
  rw [List.length_append,List.length_map]
  have:=List.length_filter_le (fun c:Comp=>!(decide (c.1 < 6) && d.2.1.toNat.testBit c.1.toNat)) e.2
  omega
 ·have:=(h2.mem_iff).1 hc
  unfold turnP at this
  rcases List.mem_append.1 this with h | h
  ·obtain ⟨x,hx,rfl⟩:=List.mem_map.1 h
   split
   ·rename_i hf; exact d5 _ (Z1p hf).1
   ·exact he.2.2 x (List.mem_filter.1 hx).1
  ·exact d4 c h
theorem Zic {was now:List Ent} (h:diffE was now=0):FormOk now:=by
 unfold diffE at h
 split at h
 ·omega
 ·exact formOk.1 h
theorem EntsR.append {ok:Nat→Prop} {r1 r2:List (Int × Sl)} {l1 l2:List Ent} (h1:EntsR ok w r1 l1) (h2:EntsR ok w r2 l2):EntsR ok w (r1 ++ r2) (l1 ++ l2):=by
 have hl:=h1.len
 refine ⟨by simp [h1.len,h2.len],fun i a b ha hb=>?_⟩
 by_cases hi:i < r1.length
 ·rw [List.getElem?_append_left hi] at ha
  rw [List.getElem?_append_left (by omega)] at hb
  exact h1.at_ i a b ha hb
 ·rw [List.getElem?_append_right (by omega)] at ha hb
  rw [hl] at ha
  exact h2.at_ _ a b ha hb
theorem Zlw {okw okd:Nat→Prop} {sw:Sl} {raws:List (Int × Sl)} {was:List Ent} (hS:SlT okw w entT sw raws) (hE:EntsR okw w raws was) (hf:FormOk was) (hL:∀ e∈was,EntFit e) {rD:DRaw} {gone:List Int} {come:List Ent} {chg:List Chg} (hD:DltR okd w rD gone come chg) (hg:gone.length≤4611686018427387904) (hC:∀ e∈come,EntFit e) (hd:chg.length≤4611686018427387904) (hd2:∀ d∈chg,ChgSm d) (hm:was.length+come.length≤1048576) {K:Res [.sc .sl,.sc (.int .i64)]→W R}
  (h0:(∀ now,¬ PatchOk was gone come chg now)→∀ w',Fr None w w'→K (⟨none,0,0⟩,4) Q w') (hk:∀ now,PatchOk was gone come chg now→(∀ e∈now,EntFit e)→now.length≤was.length+come.length→∀ r raws' w',Own (Up w.heap.size) w' 57 entT r raws'→EntsR (Up w.heap.size) w' raws' now→Fr None w w'→K (r,0) Q w') :
  callW Tryz.prog Zjj [.slice sw.a sw.n sw.c,.agg ⟨[.slice rD.1.a rD.1.n rD.1.c,.slice rD.2.1.a rD.2.1.n rD.2.1.c,.slice rD.2.2.a rD.2.2.n rD.2.2.c]⟩] [.sc .sl,.sc (.int .i64)] K Q w:=by
 refine Zpi sw rD K Q w ?_
 unfold Zj4
 have hwl:=hS.len
 have hel:=hE.len
 refine newI fun w1 B1 f1 z1=>?_
 refine Z6o (hS.fr0 f1) (hE.fr f1 fun _ _ h=>h) (by omega) (fun e he=>(hL e he).idOk) fun w2 f2=>?_
 rw [formOk.2 hf]
 refine condF rfl ?_
 have f02:=f1.then0 f2
 have B1:=B1.fr f2 fun h=>h
 have s2:=f2.size
 have hS':SlT (fun k=>k < w.heap.size) w2 entT sw raws:=(hS.mono fun k hk _=>hk).fr0 f02
 have hE':EntsR (fun k=>k < w.heap.size) w2 raws was:=(hE.mono fun k hk _=>hk).fr f02 fun _ _ h=>h
 have hD':DltR (fun k=>k < w.heap.size) w2 rD gone come chg:=DltR.st hD f02 fun k hk _=>⟨fun h=>h,hk⟩
 obtain ⟨dg,⟨rc,dc1,dc2⟩,⟨rd,dd1,dd2⟩⟩:=hD'
 have six:∀ e∈was,e.2.length≤6:=fun e he=>hf.six he
 have lt:∀ k,k < w.heap.size→¬ Up w2.heap.size k:=fun k hk e=>by have e:w2.heap.size≤k:=e; omega
 obtain ⟨ng,hng⟩:∃ ng:Ent→Bool,ng=fun e=>!decide (e.1∈gone):=⟨_,rfl⟩
 refine forI (N:=sw.n) (fun s:Sl × Int=>s.2) (fun j st u=>st.2=(j:Int)∧(∃ rs K,Own (Up w2.heap.size) u 57 entT st.1 rs∧EntsR (fun k=>(k < w.heap.size∨w2.heap.size≤k)∧st.1.v.ownBlock≠some k) u rs K∧All2 (KeepR chg) ((was.take j).filter ng) K∧(∀ (i:Nat) a b,((was.take j).filter ng)[i]?=some a→K[i]?=some b→b.1=a.1)∧∀ e∈K,EntFit e)∧Fr (Up w2.heap.size) w2 u)
  ⟨rfl,⟨[],[],Own.nil _ _ _ _,EntsR.nil _ _,by rw [List.take_zero]; exact All2.nil _,fun i a b h=>by simp at h,fun e he=>by cases he⟩,Fr.refl _ _⟩ (fun j s w' h=>h.1) ?_ ?_
 ·rintro j ⟨z,_⟩ u K' hj ⟨rfl,⟨rs,KL,o,eR,hK2,hid,hfit⟩,fu⟩ - hK
  have su:=fu.size
  obtain ⟨e,he⟩:∃ e,was[j]?=some e:=⟨_,List.getElem?_eq_getElem (by omega)⟩
  obtain ⟨r,hr,r1,r2⟩:=hE'.get he
  have hem:=List.mem_of_getElem? he
  refine joinI (fun z v=>(∃ rs K,Own (Up w2.heap.size) v 57 entT z rs∧EntsR (fun k=>(k < w.heap.size∨w2.heap.size≤k)∧z.v.ownBlock≠some k) v rs K∧All2 (KeepR chg) ((was.take (j+1)).filter ng) K∧(∀ (i:Nat) a b,((was.take (j+1)).filter ng)[i]?=some a→K[i]?=some b→b.1=a.1)∧∀ e∈K,EntFit e)∧Fr (Up w2.heap.size) w2 v) ?_ fun z v ⟨h1,h2⟩=>hK _ _ ⟨wsucc hj (by omega),h1,h2⟩
  refine (hS'.fr fu lt).get rfl rfl (by omega) fun x hx=>?_
  rw [hr] at hx
  cases hx
  refine newI fun u1 Bc g1 y1=>stoAll Bc rfl rfl fun u2 Bc g2 y2=>?_
  have g02:Fr None u u2:=g1.newer g2 fun k e=>by omega
  have B12:=(B1.frUp fu (by omega)).fr g02 fun h=>h
  have fu2:=fu.then g02.up
  refine fldI B12 (i:=0) (x:=rD.1) rfl (fldI Bc (i:=0) (x:=r.1) rfl (Zjw (dg.fr fu2 lt) hg fun u3 g3=>?_))
  have g03:=g02.then0 g3
  have ft:(was.take (j+1)).filter ng=(was.take j).filter ng ++ if ng e=true then [e] else []:=by
   rw [Z8 he,List.filter_append]
   congr 1
   by_cases h:ng e=true
   ·simp [List.filter,h]
   ·simp [List.filter,h]
  have hnge:ng e=!decide (r.1∈gone):=by rw [hng,r1]
  refine condI (fun hc=>?_) fun hc=>?_
  ·rw [ft,if_neg (by rw [hnge,hc]; simp),List.append_nil]
   exact ⟨⟨rs,KL,o.none g03,eR.fr g03 fun _ _ h=>h,hK2,hid,hfit⟩,fu.then g03.up⟩
  have hng1:ng e=true:=by rw [hnge,hc]; rfl
  rw [ft,if_pos hng1]
  have B13:=B12.fr g3 fun h=>h
  have Bc3:=Bc.fr g3 fun h=>h
  have fu3:=fu2.then g3.up
  refine fldI B13 (i:=2) (x:=rD.2.2) rfl ?_
  have dd13:=dd1.fr fu3 lt
  have dd23:All2 (fun a b=>chgR (fun k=>k < w.heap.size) u3 a b) rd chg:=dd2.imp fun a b h=>St.fr (A:=fun F w=>chgR F w a b) (Z2o a b) h fu3 lt
  have s3:=g03.size
  have cu:u.heap.size < u3.heap.size:=Bc3.lt
  obtain ⟨J,hJ⟩:∃ J:World→Prop,J=fun v=>∃ t e',Blk v u.heap.size 57 [.int .u32 e.1,.slice t.a t.n t.c]∧SlT (fun k=>k < w.heap.size∨u.heap.size≤k) v compT t e'.2∧e'.1=e.1∧KeepR chg e e'∧EntFit e'∧Fr None u v:=⟨_,rfl⟩
  have fin:∀ v,J v→ld (.agg [.int .u32,.sl]) ⟨u.heap.size,0,none⟩ (fun (x_21:(Int × Sl)) =>
    newW 57 [.int .u32 x_21.1,.slice x_21.2.a x_21.2.n x_21.2.c] fun x_22 =>
    rawW Tryz.prog (Builtin.append_ #[23,23] 23 #[.slice z.a z.n z.c,.slice (some x_22) 1 1]) [.sc .sl] fun (x_23:Sl) =>
    fun _ v=>(∃ rs K,Own (Up w2.heap.size) v 57 entT x_23 rs∧EntsR (fun k=>(k < w.heap.size∨w2.heap.size≤k)∧x_23.v.ownBlock≠some k) v rs K∧All2 (KeepR chg) ((was.take j).filter ng ++ [e]) K∧(∀ (i:Nat) a b,((was.take j).filter ng ++ [e])[i]?=some a→K[i]?=some b→b.1=a.1)∧∀ e∈K,EntFit e)∧Fr (Up w2.heap.size) w2 v) (fun r w=>K r Q w) v:=by
   rw [hJ]
   rintro v ⟨t,e',Bv,St',h1,h2,h3,gv⟩
   have sv:=gv.size
   refine aggI Bv (x:=((e.1,t):Int × Sl)) rfl ?_
   have hlen:rs.length≤1048576:=by
    have a1:=eR.len
    have a2:=hK2.len
    have a3:=List.length_filter_le ng (was.take j)
    have a4:(was.take j).length≤was.length:=by simp; omega
    omega
   have ov:=o.none gv
   have oz:Own (fun k=>w2.heap.size≤k∧(z.v.ownBlock=some k∨v.heap.size≤k)) v 57 entT z rs:=⟨ov.row,fun k e=>⟨ov.own k e,.inl e⟩⟩
   refine appP (x:=((e.1,t):Int × Sl)) Z5m rfl oz (fun k e=>⟨by omega,.inr e⟩) (by omega) (by omega) fun z2 v2 o2 f2=>?_
   have zlt:∀ k,z.v.ownBlock=some k→k < u.heap.size:=fun k e=>o.lt e
   have nz2:∀ k,(k < w.heap.size∨w2.heap.size≤k)→z.v.ownBlock≠some k→k < v.heap.size→z2.v.ownBlock≠some k:=fun k _ h2 h3 e=>by
    rcases (o2.own k e).2 with h | h
    ·exact h2 h
    ·omega
   refine ⟨⟨rs ++ [(e.1,t)],KL ++ [e'],o2.mono fun k _ e=>e.1,?_,hK2.snoc h2,?_,?_⟩,(fu.then gv.up).then (f2.sub fun k e=>ov.own k e)⟩
   ·refine EntsR.snoc ?_ h1.symm ?_
    ·have e1:EntsR (fun k=>((k < w.heap.size∨w2.heap.size≤k)∧z.v.ownBlock≠some k)∧k < v.heap.size) v rs KL:=(eR.fr gv fun _ _ h=>h).mono fun k hk e=>⟨e,hk⟩
     exact (e1.fr f2 fun k e e2=>e.1.2 e2).mono fun k _ e=>⟨e.1.1,nz2 k e.1.1 e.1.2 e.2⟩
    ·have t1:SlT (fun k=>(k < w.heap.size∨u.heap.size≤k)∧k < v.heap.size) v compT t e'.2:=St'.mono fun k hk e=>⟨e,hk⟩
     have nz:∀ k,(k < w.heap.size∨u.heap.size≤k)→z.v.ownBlock≠some k:=fun k h e=>by
      have:=zlt k e
      have:=o.own k e
      have:w2.heap.size≤k:=this
      omega
     exact (t1.fr f2 fun k e e2=>nz k e.1 e2).mono fun k _ e=>⟨by omega,nz2 k (by omega) (nz k e.1) e.2⟩
   ·intro i a b ha hb
    have hl:=hK2.len
    by_cases hi:i < ((was.take j).filter ng).length
    ·rw [List.getElem?_append_left hi] at ha
     rw [List.getElem?_append_left (by omega)] at hb
     exact hid i a b ha hb
    ·have:i=((was.take j).filter ng).length:=by
      have:=(List.getElem?_eq_some_iff.1 ha).1
      simp at this
      omega
     rw [List.getElem?_append_right (by omega)] at ha hb
     rw [this] at ha hb
     simp [hl] at ha hb
     rw [← ha,← hb,h1]
   ·intro x hx
    rcases List.mem_append.1 hx with hx | hx
    ·exact hfit x hx
    ·simp at hx; subst hx; exact h3
  have hr2:SlT (fun k=>k < w.heap.size) u3 compT r.2 e.2:=r2.fr fu3 lt
  refine Zcz dd13 dd23 hd Bc3 (fun hnone u4 g4=>?_) fun i d hi hsome u4 g4=>?_
  ·refine joinI (fun _ v=>J v) (condF (by decide) ?_) (fun _ v h=>fin v h)
   rw [hJ]
   refine ⟨r.2,e,by rw [← r1]; exact Bc3.fr g4 fun h=>h,(hr2.fr0 g4).mono fun k _ h=>.inl h,rfl,⟨fun d hd=>?_,fun _=>rfl⟩,hL e hem,g03.then0 g4⟩
   rw [← r1,hnone] at hd
   cases hd
  ·have gd:Fr None u4 u4.drew:=(Fr.refl _ _).drew
   have g4d:=g4.then0 gd
   refine joinI (fun _ v=>J v) (condT (decide_eq_true (Int.natCast_nonneg i)) ?_) (fun _ v h=>fin v h)
   refine aggI (Bc3.fr g4d fun h=>h) (x:=r) rfl (fldI (B13.fr g4d fun h=>h) (i:=2) (x:=rD.2.2) rfl ?_)
   obtain ⟨q,hq,hqr⟩:=dd23.get hi
   refine (dd13.fr0 g4d).get rfl rfl (List.getElem?_eq_some_iff.1 hq).1 fun q' hq'=>?_
   rw [hq] at hq'
   cases hq'
   have hdf:=hd2 d (List.mem_of_getElem? hi)
   refine Zmu r1 (hr2.fr0 g4d) (by have:=six e hem; omega) (hL e hem).2.2 (St.fr0 (A:=fun F w=>chgR F w q d) (Z2o q d) hqr g4d) hdf.1 hdf.2.1 hdf.2.2.1 fun t e' u5 ht o5 g5=>?_
   have g35:=g4d.then0 g5
   refine stoAll (Bc3.fr g35 fun h=>h) rfl rfl fun u6 B6 g6 y6=>?_
   rw [hJ]
   have s5:=g4d.size
   refine ⟨t,e',B6,(o5.sl.fr g6 fun k (e:u4.drew.heap.size≤k) e2=>by omega).mono fun k _ (e:u4.drew.heap.size≤k)=>.inr (by omega),ht.1,⟨fun d' hd'=>?_,fun hn=>?_⟩,Zyh (hL e hem) (six e hem) hdf ht,(g03.then0 g35).newer g6 fun k e=>by omega⟩
   ·rw [← r1,hsome] at hd'
    cases hd'
    exact ht
   ·rw [← r1,hsome] at hn
    cases hn
 ·rintro ⟨z,_⟩ u ⟨_,⟨rs,KL,o,eR,hK2,hid,hfit⟩,fu⟩
  have su:=fu.size
  rw [List.take_of_length_le (by omega)] at hK2 hid
  have hlen:rs.length≤was.length:=by
   have a1:=eR.len
   have a2:=hK2.len
   have a3:=List.length_filter_le ng was
   omega
  have hcl:=dc1.len.trans dc2.len
  have hcl2:=dc2.len
  have B1u:=B1.frUp fu (by omega)
  refine fldI B1u (i:=1) (x:=rD.2.1) rfl ?_
  have oz:Own (fun k=>w2.heap.size≤k∧(z.v.ownBlock=some k∨u.heap.size≤k)) u 57 entT z rs:=⟨o.row,fun k e=>⟨o.own k e,.inl e⟩⟩
  refine appI (S':=fun k=>w2.heap.size≤k∧(z.v.ownBlock=some k∨u.heap.size≤k)) Z5m oz (dc1.fr fu lt) (by omega) (by rw [Zm]; omega) (fun _ h=>h) ⟨by omega,.inr (Nat.le_refl _)⟩ fun z2 u2 o2 g2 y2=>?_
  have zlt:∀ k,z.v.ownBlock=some k→k < u.heap.size:=fun k e=>o.lt e
  have nz2:∀ k,z.v.ownBlock≠some k→k < u.heap.size→z2.v.ownBlock≠some k:=fun k h2 h3 e=>by
   rcases (o2.own k e).2 with h | h
   ·exact h2 h
   ·omega
  have ltz:∀ k,k < w.heap.size→z.v.ownBlock≠some k:=fun k hk e=>by have:w2.heap.size≤k:=o.own k e; omega
  have E2:EntsR (fun k=>(k < w.heap.size∨w2.heap.size≤k)∧z2.v.ownBlock≠some k) u2 (rs ++ rc) (KL ++ come):=by
   refine EntsR.append ?_ ?_
   ·have e1:EntsR (fun k=>((k < w.heap.size∨w2.heap.size≤k)∧z.v.ownBlock≠some k)∧k < u.heap.size) u rs KL:=eR.mono fun k hk e=>⟨e,hk⟩
    exact (e1.fr g2 fun k e e2=>e.1.2 e2).mono fun k _ e=>⟨e.1.1,nz2 k e.1.2 e.2⟩
   ·exact ((dc2.fr fu lt).fr g2 fun k e e2=>ltz k e e2).mono fun k _ e=>⟨.inl e,nz2 k (ltz k e) (by omega)⟩
  have fu2:=fu.then (g2.sub fun k e=>o.own k e)
  refine Zg5 o2 (by rw [List.length_append]; omega) fun rs3 u3 hp hso o3 g3=>?_
  have E3:=E2.fr g3 fun k e e2=>e.2 e2
  obtain ⟨l,hpl,hA⟩:=Den.All2.perm hp.symm (p:=fun (r:Int × Sl) (e:Ent)=>r.1=e.1∧SlT (fun k=>(k < w.heap.size∨w2.heap.size≤k)∧z2.v.ownBlock≠some k) u3 compT r.2 e.2) (k:=KL ++ come) ⟨E3.len,E3.at_⟩
  have E3:EntsR (fun k=>(k < w.heap.size∨w2.heap.size≤k)∧z2.v.ownBlock≠some k) u3 rs3 l:=⟨hA.len,hA.at_⟩
  have hsl:l.Pairwise fun a b=>a.1≤b.1:=by
   rw [List.pairwise_iff_getElem]
   intro i j hi hj hij
   have hl:=hA.len
   have q:=List.pairwise_iff_getElem.1 hso.pair i j (by omega) (by omega) hij
   have a1:=(hA.at_ i _ _ (List.getElem?_eq_getElem (by omega)) (List.getElem?_eq_getElem hi)).1
   have a2:=(hA.at_ j _ _ (List.getElem?_eq_getElem (by omega)) (List.getElem?_eq_getElem hj)).1
   rw [← a1,← a2]
   exact q
  have uniq:∀ now,PatchOk was gone come chg now→l=now:=fun now hp2=>by
   rw [hng] at hK2 hid
   exact Zw1 hf hp2 hK2 hid hpl hsl
  have lfit:∀ e∈l,EntFit e:=fun e he=>by
   rcases List.mem_append.1 ((hpl.mem_iff).1 he) with h | h
   ·exact hfit e h
   ·exact hC e h
  have llen:l.length≤was.length+come.length:=by
   have:=hpl.length_eq
   rw [List.length_append] at this
   have:=eR.len
   omega
  have fu3:=fu2.then (g3.sub fun k e=>(o2.own k e).1)
  have S3:SlT (fun k=>k < w.heap.size∨w2.heap.size≤k) u3 entT z2 rs3:=o3.sl.mono fun k _ e=>.inr e.1
  have E4:EntsR (fun k=>k < w.heap.size∨w2.heap.size≤k) u3 rs3 l:=E3.mono fun k _ e=>e.1
  have f03:Fr None w u3:=f02.thenUp fu3 f02.size
  refine Zen (hS'.fr fu3 lt) (hE'.fr fu3 lt) S3 E4 (by omega) (by omega) hL lfit (fun hbad u4 g4=>?_) fun hgood rr u4 dr g4=>?_
  ·refine newI fun u5 B5 g5 y5=>stoAll B5 rfl rfl fun u6 B6 g6 y6=>?_
   have f06:=((f03.then0 g4).then0 g5).newer g6 fun k e=>by have:=g4.size; have:=f03.size; omega
   refine joinI (fun z v=>z=true∧v=u6) (condT (by simpa using hbad) ⟨rfl,rfl⟩) ?_
   rintro z v ⟨rfl,rfl⟩
   refine condT rfl (h0 (fun now hp2=>?_) _ f06)
   have:=uniq now hp2
   subst this
   refine hbad ?_
   unfold diffE
   rw [if_neg (by rw [formOk.2 hf]; simp)]
   exact formOk.2 hp2.form
  ·refine newI fun u5 B5 g5 y5=>stoAll B5 rfl rfl fun u6 B6 g6 y6=>?_
   have g46:Fr None u4 u6:=g5.newer g6 fun k e=>by omega
   have g36:=g4.then0 g46
   have f06:=f03.then0 g36
   have B16:=((B1u.fr g2 fun e=>by have:=o.own _ e; have:w2.heap.size≤w.heap.size:=this; omega).fr g3 fun e=>by have:=(o2.own _ e).1; omega).fr g36 fun h=>h
   refine joinI (fun z v=>(z=!decide (goneM was l=gone∧comeM was l=come∧chgsM was l=chg))∧Fr None u6 v) (condF rfl ?_) ?_
   ·refine aggI B6 (x:=rr) rfl (aggI B16 (x:=rD) rfl ?_)
    have fl:∀ e∈comeM was l,Small e.2:=fun e he=>(lfit e (List.mem_filter.1 he).1).2.1
    have cl:(comeM was l).length≤l.length:=List.length_filter_le _ _
    have gl:(goneM was l).length≤was.length:=by unfold goneM; rw [List.length_map]; exact List.length_filter_le _ _
    have dl:(chgsM was l).length≤l.length:=Z6z _ _
    have ds:∀ d∈chgsM was l,Small d.2.2.1∧Small d.2.2.2:=fun d hd=>by
     obtain ⟨b,hb,h2⟩:=List.mem_filterMap.1 hd
     obtain ⟨_,a,ha,_,h3,_⟩:=Z5k h2
     have hb2:=(lfit b hb).2.1
     rw [h3]
     exact ⟨Nat.le_trans (Zin _ _) hb2,Nat.le_trans (Znc _ _) hb2⟩
    refine Zmt (ok2:=fun k=>k < w.heap.size) (DltR.st.fr0 dr g46) (DltR.st.fr0 (DltR.st (show DltR (fun k=>k < w.heap.size) w2 rD gone come chg from ⟨dg,⟨rc,dc1,dc2⟩,⟨rd,dd1,dd2⟩⟩) fu3 fun k _ e=>⟨lt k e,e⟩) g36) (by omega) fl ds fun u7 g7=>⟨rfl,g7⟩
   rintro _ u7 ⟨rfl,g7⟩
   have f07:=f06.then0 g7
   have hdl:=Zic hgood
   refine condI (fun hb=>?_) fun hb=>?_
   ·have hb:¬ (goneM was l=gone∧comeM was l=come∧chgsM was l=chg):=of_decide_eq_false (by rw [Bool.not_eq_true'] at hb; exact hb)
    refine h0 (fun now hp2=>?_) _ f07
    have:=uniq now hp2
    subst this
    exact hb ⟨hp2.gone,hp2.come,hp2.chg⟩
   ·have hb:goneM was l=gone∧comeM was l=come∧chgsM was l=chg:=of_decide_eq_true (by rw [Bool.not_eq_false'] at hb; exact hb)
    have g37:=g36.then0 g7
    refine Zn0 (S3.fr0 g37) (E4.fr g37 fun _ _ h=>h) (by omega) (fun e he=>(lfit e he).2.1) fun r8 raws8 u8 o8 e8 g8=>?_
    have s7:=f07.size
    exact hk l ⟨hdl,hb.1,hb.2.1,hb.2.2⟩ lfit llen r8 raws8 u8 (o8.mono fun k _ (e:u7.heap.size≤k)=>by show w.heap.size≤k; omega) (e8.mono fun k _ (e:u7.heap.size≤k)=>by show w.heap.size≤k; omega) (f07.then0 g8)
end Go.Proofs.YtchhhjlpnecjkaaGreat
namespace Go.Proofs.YtchhhjlpnecjkaaGreat
open Go Go.RowKit Go.Proofs.YtchhhjlpnecjkaaGreat.Den
variable {R:Type} {Q:R→World→Prop} {w:World}
def low (j:Nat) (l:List Comp):List Comp:=l.filter fun c=>decide (c.1 < (j:Int))
theorem Zt2 {j:Nat} {l:List Comp} (h:∀ c∈l,c.1≠(j:Int)):low (j+1) l=low j l:=by
 unfold low
 refine List.filter_congr fun c hc=>?_
 have:=h c hc
 rw [decide_eq_decide]
 omega
theorem Zop {j:Nat} {c0:Comp} (e:c0.1=(j:Int)):∀ {l:List Comp},Rising (l.map (·.1))→c0∈l→low (j+1) l=low j l ++ [c0]
 | [],_,hc=>by cases hc
 | c :: r,hr,hc=>by
  obtain ⟨h1,h2⟩:=List.pairwise_cons.1 hr
  rcases List.mem_cons.1 hc with hcc | hcc
  ·subst hcc
   have key:∀ m,m≤j+1→low m r=[]:=fun m hm=>by
    unfold low
    rw [List.filter_eq_nil_iff]
    intro x hx
    have:c0.1 < x.1:=h1 x.1 (List.mem_map.2 ⟨x,hx,rfl⟩)
    simp
    omega
   have e1:low (j+1) (c0 :: r)=c0 :: low (j+1) r:=by
    unfold low
    rw [List.filter_cons_of_pos (by simp; omega)]
   have e2:low j (c0 :: r)=low j r:=by
    unfold low
    rw [List.filter_cons_of_neg (by simp; omega)]
   rw [e1,e2,key _ (Nat.le_refl _),key _ (by omega)]
   rfl
  ·have:c.1 < c0.1:=h1 c0.1 (List.mem_map.2 ⟨c0,hcc,rfl⟩)
   have e1:∀ m,j≤m→low m (c :: r)=c :: low m r:=fun m hm=>by
    unfold low
    rw [List.filter_cons_of_pos (by simp; omega)]
   rw [e1 _ (by omega),e1 _ (Nat.le_refl _),Zop e h2 hcc]
   rfl
theorem Zxp {l:List Comp} (h:∀ c∈l,0≤c.1):low 0 l=[]:=by
 unfold low
 rw [List.filter_eq_nil_iff]
 intro x hx
 have:=h x hx
 simp
 omega
theorem Zzh {l:List Comp} (h:∀ c∈l,c.1≤5):low 6 l=l:=by
 unfold low
 rw [List.filter_eq_self]
 intro x hx
 have:=h x hx
 simp
 omega
theorem Z10b (j:Nat) (l:List Comp):(low j l).length≤l.length:=List.length_filter_le _ _
theorem Zb5 (l:List Comp) (k:Int):(findM l k=-1∧∀ c∈l,c.1≠k)∨∃ (q:Nat) (c:Comp),findM l k=(q:Int)∧l[q]?=some c∧c.1=k:=by
 unfold findM
 split
 ·rename_i i hi
  rw [List.findIdx?_eq_some_iff_getElem] at hi
  obtain ⟨hl,he,_⟩:=hi
  exact .inr ⟨i,l[i],rfl,List.getElem?_eq_getElem hl,by simpa using he⟩
 ·rename_i hn
  rw [List.findIdx?_eq_none_iff] at hn
  exact .inl ⟨rfl,fun c hc=>by simpa using hn c hc⟩
theorem Zxb {l:List Comp} (h:listE l=0) {c:Comp} (hc:c∈l) {k:Int} (e:c.1=k):findC l k=(c,true):=by
 by_cases hf:(findC l k).2=true
 ·obtain ⟨h1,h2⟩:=Z1p hf
  have:=Zbi h h1 hc (by rw [h2,e])
  exact Prod.ext this hf
 ·exact absurd e (Z5f (by simpa using hf) c hc)
theorem Zv2 {l:List Comp} {k:Int} (h:∀ c∈l,c.1≠k):(findC l k).2=false:=by
 refine Classical.byContradiction fun hn=>?_
 obtain ⟨h1,h2⟩:=Z1p (l:=l) (k:=k) (by simpa using hn)
 exact h _ h1 h2
theorem Zyo {l:List Comp} {j:Nat} {c:Comp} (hc:c∈l) (e:c.1=(j:Int)):has l j=true:=Zcd.2 ⟨c,hc,e⟩
theorem Zv9 {l:List Comp} {j:Nat} (h:∀ c∈l,c.1≠(j:Int)):has l j=false:=by
 refine Classical.byContradiction fun hn=>?_
 obtain ⟨c,h1,h2⟩:=Zcd.1 (by simpa using hn)
 exact h c h1 h2
def lostJ (a b:List Comp) (j:Nat):Int:=(((lostM a b).toNat % 2 ^ j:Nat):Int)
theorem Zt0 (a b:List Comp) (j:Nat) (hj:j≤6):0≤lostJ a b j∧lostJ a b j < 64:=by
 unfold lostJ
 have h1:(lostM a b).toNat % 2 ^ j < 2 ^ j:=Nat.mod_lt _ (Nat.two_pow_pos j)
 have h2:2 ^ j≤2 ^ 6:=Nat.pow_le_pow_right (by decide) hj
 omega
theorem Ztz (a b:List Comp) {j:Nat} (hj:j < 6):lostJ a b (j+1)=lostJ a b j+if (has a j && !has b j)=true then ((2 ^ j:Nat):Int) else 0:=by
 have h:=Zbj a b hj
 rw [Nat.testBit_eq_decide_div_mod_eq] at h
 unfold lostJ
 rw [Nat.mod_pow_succ,← h]
 generalize (lostM a b).toNat / 2 ^ j=q
 rcases Nat.mod_two_eq_zero_or_one q with e | e
 ·rw [e]; simp
 ·rw [e]; simp
theorem Zt1 (a b:List Comp):(lostM a b).toNat < 64:=by
 have h1:=Z6l a
 have e:(lostM a b).toNat=(BitVec.ofInt 8 (maskN a:Int) &&& ~~~BitVec.ofInt 8 (maskN b:Int)).toNat:=by
  unfold lostM bNot
  have:=(BitVec.ofInt 8 (maskN a:Int) &&& ~~~BitVec.ofInt 8 (maskN b:Int)).isLt
  show (IntKind.wrap .u8 ((BitVec.ofInt 8 (maskN a:Int) &&& ~~~BitVec.ofInt 8 (maskN b:Int)).toNat:Int)).toNat=_
  rw [wu8 (by omega),Int.toNat_natCast]
 rw [e,BitVec.toNat_and]
 refine Nat.lt_of_le_of_lt Nat.and_le_left ?_
 rw [BitVec.toNat_ofInt]
 omega
theorem Zvh (a b:List Comp):lostJ a b 6=lostM a b:=by
 have h1:=Zt1 a b
 have h2:=(Z93 a b).1
 unfold lostJ
 rw [Nat.mod_eq_of_lt (by simpa using h1)]
 omega
theorem Zzq {j:Nat} (hj:j < 6):shL .u8 1 (j:Int)=((2 ^ j:Nat):Int):=by
 have:j=0∨j=1∨j=2∨j=3∨j=4∨j=5:=by omega
 rcases this with rfl | rfl | rfl | rfl | rfl | rfl <;> rfl
theorem Zao {L:List Ent} {id:Int}:(findE L id=-1∧hasE L id=false)∨∃ (i:Nat) (e:Ent),findE L id=(i:Int)∧L[i]?=some e∧e.1=id:=by
 unfold findE
 split
 ·rename_i i hi
  rw [List.findIdx?_eq_some_iff_getElem] at hi
  obtain ⟨hl,he,_⟩:=hi
  exact .inr ⟨i,L[i],rfl,List.getElem?_eq_getElem hl,by simpa using he⟩
 ·rename_i hn
  rw [List.findIdx?_eq_none_iff] at hn
  exact .inl ⟨rfl,Z4x.2 fun e he=>by simpa using hn e he⟩
section
variable {n bd:Nat} {id lost:Int} {a l:List Comp} {lab:Nat→Nat} {sn ss:Sl} {c:Comp}
theorem ChgI.addNew (h:ChgI n bd id lost a l lab sn ss w) (hn:n≤w.heap.size) (hf:(findC a c.1).2=false) (hl:l.length < 2097152) {K:W R} (hk:∀ lab' r w',ChgI n bd id lost a (l ++ [c]) lab' r ss w'→Fr (Up n) w w'→K Q w') :
  newW 92 [.int .u8 c.1,.int .i32 c.2.1,.int .i32 c.2.2.1,.int .i32 c.2.2.2] (fun x=>rawW Tryz.prog (Builtin.append_ #[55,55] 55 #[.slice sn.a sn.n sn.c,.slice (some x) 1 1]) [.sc .sl] fun (z:Sl)=>stoL (Addr.add ⟨bd,0,none⟩ 2) [.slice z.a z.n z.c] 0 K) Q w:=by
 have l1:=Zin a l
 refine appLab (x:=c) Z26 rfl h.new (by omega) (by omega) fun r w1 o1 f1=>?_
 have B1:=h.blk.fr f1 fun e=>by have:=h.lb; omega
 rw [add_lit]
 refine setI (i:=2) B1 (by simp) rfl fun w2 B2 f2 s2=>?_
 have z1:=f1.size
 have nb:∀ k,relab lab w.heap.size w1.heap.size 1 k≠3→k≠bd:=fun k e e2=>by
  subst e2
  rw [Z16 h.blk.lt] at e
  exact e h.lb
 refine hk (relab lab w.heap.size w1.heap.size 1) r w2 ⟨B2,?_,?_,?_,fun k e=>?_⟩ ?_
 ·rw [Z16 h.blk.lt]; exact h.lb
 ·rw [Zhg,if_pos hf]
  exact o1.fr f2 fun k e=>nb k (by omega)
 ·rw [Zk7,if_neg (by simp [hf]),List.append_nil]
  have:=St.other (A:=fun F w=>Own F w 92 compT ss (chM a l)) Own.st (c:=1) h.set f1 (by decide)
  exact this.fr f2 fun k e=>nb k (by omega)
 ·rcases Z82 e with e | e
  ·have:=h.up k e.1; omega
  ·omega
 ·exact (f1.sub fun k e=>(h.up k (by omega)).1).then (f2.sub fun k e=>by rw [e]; exact (h.up bd (by rw [h.lb]; decide)).1)
theorem ChgI.addSet (h:ChgI n bd id lost a l lab sn ss w) (hn:n≤w.heap.size) (hf:(findC a c.1).2=true∧(findC a c.1).1≠c) (hl:l.length < 2097152) {K:W R} (hk:∀ lab' r w',ChgI n bd id lost a (l ++ [c]) lab' sn r w'→Fr (Up n) w w'→K Q w') :
  newW 92 [.int .u8 c.1,.int .i32 c.2.1,.int .i32 c.2.2.1,.int .i32 c.2.2.2] (fun x=>rawW Tryz.prog (Builtin.append_ #[55,55] 55 #[.slice ss.a ss.n ss.c,.slice (some x) 1 1]) [.sc .sl] fun (z:Sl)=>stoL (Addr.add ⟨bd,0,none⟩ 3) [.slice z.a z.n z.c] 0 K) Q w:=by
 have l1:=Znc a l
 refine appLab (x:=c) Z26 rfl h.set (by omega) (by omega) fun r w1 o1 f1=>?_
 have B1:=h.blk.fr f1 fun e=>by have:=h.lb; omega
 rw [add_lit]
 refine setI (i:=3) B1 (by simp) rfl fun w2 B2 f2 s2=>?_
 have z1:=f1.size
 have nb:∀ k,relab lab w.heap.size w1.heap.size 2 k≠3→k≠bd:=fun k e e2=>by
  subst e2
  rw [Z16 h.blk.lt] at e
  exact e h.lb
 refine hk (relab lab w.heap.size w1.heap.size 2) r w2 ⟨B2,?_,?_,?_,fun k e=>?_⟩ ?_
 ·rw [Z16 h.blk.lt]; exact h.lb
 ·rw [Zhg,if_neg (by simp [hf.1]),List.append_nil]
  have:=St.other (A:=fun F w=>Own F w 92 compT sn (newM a l)) Own.st (c:=2) h.new f1 (by decide)
  exact this.fr f2 fun k e=>nb k (by omega)
 ·rw [Zk7,if_pos hf]
  exact o1.fr f2 fun k e=>nb k (by omega)
 ·rcases Z82 e with e | e
  ·have:=h.up k e.1; omega
  ·omega
 ·exact (f1.sub fun k e=>(h.up k (by omega)).1).then (f2.sub fun k e=>by rw [e]; exact (h.up bd (by rw [h.lb]; decide)).1)
theorem ChgI.same (h:ChgI n bd id lost a l lab sn ss w) (hf:(findC a c.1).2=true∧(findC a c.1).1=c):ChgI n bd id lost a (l ++ [c]) lab sn ss w:=by
 refine ⟨h.blk,h.lb,?_,?_,h.up⟩
 ·rw [Zhg,if_neg (by simp [hf.1]),List.append_nil]; exact h.new
 ·rw [Zk7,if_neg (fun h=>h.2 hf.2),List.append_nil]; exact h.set
theorem ChgI.setLost (h:ChgI n bd id lost a l lab sn ss w) {x:Int} {K:W R} (hk:∀ w',ChgI n bd id x a l lab sn ss w'→Fr (Up n) w w'→K Q w'):stoL (Addr.add ⟨bd,0,none⟩ 1) [.int .u8 x] 0 K Q w:=by
 rw [add_lit]
 refine setI (i:=1) h.blk (by simp) rfl fun w2 B2 f2 s2=>?_
 have nb:∀ {i:Nat},i≠3→∀ k,lab k=i→¬ k=bd:=fun hi k e e2=>by subst e2; have:=h.lb; omega
 refine hk w2 ⟨B2,h.lb,h.new.fr f2 (nb (by decide)),h.set.fr f2 (nb (by decide)),fun k e=>?_⟩ (f2.sub fun k e=>by rw [e]; exact (h.up bd (by rw [h.lb]; decide)).1)
 have:=h.up k e; omega
end
theorem Z39 {ok:Nat→Prop} {s:Sl} {raws:List (Int × Sl)} {L:List Ent} (hS:SlT ok w entT s raws) (hE:EntsR ok w raws L) (hm:L.length≤9223372036854775807) {id:Int} {K:Res [.sc (.int .i64)]→W R} (hk:∀ w',Fr None w w'→K (findE L id) Q w') :
  callW Tryz.prog Z9 [.slice s.a s.n s.c,.int .u32 id] [.sc (.int .i64)] K Q w:=by
 refine Zf9 s id K Q w ?_
 unfold Z8n
 have hlen:=hS.len
 have hel:=hE.len
 refine forI (N:=s.n) (fun s:Int=>s) (fun j i w'=>i=(j:Int)∧Fr None w w'∧∀ (q:Nat) e,q < j→L[q]?=some e→e.1≠id) ⟨rfl,Fr.refl _ _,fun q e h=>absurd h (by omega)⟩ (fun j s w' h=>h.1) ?_ ?_
 ·rintro j i w1 K' hj ⟨rfl,f1,hno⟩ - hK
  obtain ⟨e,he⟩:∃ e,L[j]?=some e:=⟨_,List.getElem?_eq_getElem (by omega)⟩
  obtain ⟨r1,hr1,ha1,_⟩:=hE.get he
  refine (hS.fr0 f1).get rfl rfl (by omega) fun y hy=>?_
  rw [hr1] at hy
  cases hy
  refine newI fun w2 B2 f2 s2=>stoAll B2 rfl rfl fun w3 B3 f3 s3=>fldI B3 (i:=0) (x:=r1.1) rfl ?_
  have f13:Fr None w1 w3:=f2.newer f3 fun k e=>by omega
  refine condE (fun h=>?_) fun h=>?_
  ·have:L.findIdx? (fun e=>e.1 == id)=some j:=by
    rw [List.findIdx?_eq_some_iff_getElem]
    obtain ⟨hl,hg⟩:=List.getElem?_eq_some_iff.1 he
    refine ⟨hl,by rw [hg,← ha1]; simpa using h,fun q hq=>?_⟩
    have:=hno q _ hq (List.getElem?_eq_getElem (by omega))
    simpa using this
   have e:=hk w3 (f1.then0 f13)
   rw [findE,this] at e
   exact e
  ·refine hK _ _ ⟨wsucc hj (by omega),f1.then0 f13,fun q y hq hy=>?_⟩
   rcases Nat.lt_succ_iff_lt_or_eq.1 hq with h1 | h1
   ·exact hno q y h1 hy
   ·subst h1; rw [he] at hy; cases hy; rw [← ha1]; exact h
 ·rintro i w1 ⟨rfl,f1,hno⟩
  have e:=hk w1 f1
  rw [Zid fun q e he=>hno q e (by have:=(List.getElem?_eq_some_iff.1 he).1; omega) he] at e
  exact e
end Go.Proofs.YtchhhjlpnecjkaaGreat
namespace Go.Proofs.YtchhhjlpnecjkaaGreat
open Go Go.RowKit Go.Proofs.YtchhhjlpnecjkaaGreat.Den
variable {R:Type} {Q:R→World→Prop} {w:World}
theorem Zhq {ok1 ok2:Nat→Prop} {s1 s2:Sl} {raws1 raws2:List (Int × Sl)} {was now:List Ent} (hS1:SlT ok1 w entT s1 raws1) (hE1:EntsR ok1 w raws1 was) (hS2:SlT ok2 w entT s2 raws2) (hE2:EntsR ok2 w raws2 now)
  (hm1:was.length≤1048576) (hm2:now.length≤1048576) (hL1:∀ e∈was,EntFit e) (hL2:∀ e∈now,EntFit e) {K:Res [.agg [.sl,.sl,.sl],.sc (.int .i64)]→W R}
  (hbad:diffE was now≠0→∀ w',Fr None w w'→K ((⟨none,0,0⟩,⟨none,0,0⟩,⟨none,0,0⟩),diffE was now) Q w')
  (hk:diffE was now=0→∀ r w',DltR (Up w.heap.size) w' r (goneM was now) (comeM was now) (chgsM was now)→Fr None w w'→K (r,0) Q w') :
  callW Tryz.prog Z34 [.slice s1.a s1.n s1.c,.slice s2.a s2.n s2.c] [.agg [.sl,.sl,.sl],.sc (.int .i64)] K Q w:=by
 refine Zfb s1 s2 K Q w ?_
 unfold Z8p
 have l1:=hS1.len.trans hE1.len
 have l2:=hS2.len.trans hE2.len
 have fit:∀ {e:Ent},EntFit e→IdOk e.1∧e.2.length≤9223372036854775807∧∀ c∈e.2,CompOk c:=fun h=>⟨h.1,by have:=h.2.1; omega,h.2.2⟩
 refine newI fun w1 B1 f1 t1=>Z5x (hS1.fr0 f1) (hE1.fr f1 fun _ _ h=>h) (by omega) (fun e he=>fit (hL1 e he)) fun w2 f2=>?_
 rw [← Zap was 0 true fun _=>rfl]
 have B2:=B1.fr f2 fun h=>h
 have f02:=f1.then0 f2
 have zz2:=f2.size
 refine condN (fun h=>?_) fun z1=>?_
 ·refine stoAll B2 rfl rfl fun v3 B3 g3 t3=>aggI B3 (x:=((⟨none,0,0⟩,⟨none,0,0⟩,⟨none,0,0⟩):DRaw)) rfl ?_
  have e:diffE was now=formM 0 was:=if_pos h
  rw [← e]
  exact hbad (by rw [e]; exact h) v3 (f02.newer g3 fun k e=>by omega)
 refine Z5x (hS2.fr0 f02) (hE2.fr f02 fun _ _ h=>h) (by omega) (fun e he=>fit (hL2 e he)) fun v f3=>?_
 rw [← Zap now 0 true fun _=>rfl]
 have BX0:=B2.fr f3 fun h=>h
 have f0v:=f02.then0 f3
 have zz3:=f3.size
 refine condN (fun h=>?_) fun z2=>?_
 ·refine stoAll BX0 rfl rfl fun v3 B3 g3 t3=>aggI B3 (x:=((⟨none,0,0⟩,⟨none,0,0⟩,⟨none,0,0⟩):DRaw)) rfl ?_
  have e:diffE was now=formM 0 now:=if_neg (by rw [z1]; simp)
  rw [← e]
  exact hbad (by rw [e]; exact h) v3 (f0v.newer g3 fun k e=>by omega)
 have hE0:diffE was now=0:=by unfold diffE; rw [if_neg (by rw [z1]; simp)]; exact z2
 have hk:=hk hE0
 have fw:=formOk.1 z1
 have fn:=formOk.1 z2
 refine newI fun v1 B3 g1 t3=>?_
 have hz1:=g1.size
 have hup:∀ {a b:World},Fr None v a→Fr (Up v.heap.size) a b→Fr None v b:=fun f g=>f.newer g fun k e=>e
 refine forI (N:=s1.n) (fun s:Int=>s) (fun j i u=>i=(j:Int)∧(∃ lab r,DltI v.heap.size v.heap.size lab r [] [] (goneM (was.take j) now) [] [] u)∧Fr None v u∧v.heap.size≤u.heap.size)
  ⟨rfl,⟨fun k=>if k=v.heap.size then 6 else 0,(⟨none,0,0⟩,⟨none,0,0⟩,⟨none,0,0⟩),B3,by simp,Own.nil _ _ _ _,Own.nil _ _ _ _,EntsR.nil _ _,Own.nil _ _ _ _,All2.nil _,fun k e=>by
   by_cases hkb:k=v.heap.size
   ·omega
   ·exact absurd (if_neg hkb) e⟩,g1,by omega⟩ (fun j s w' h=>h.1) ?_ ?_
 ·
  rintro j i u K' hj ⟨rfl,⟨lab,r,D⟩,fu,hzu⟩ - hK
  obtain ⟨a,ha⟩:∃ a,was[j]?=some a:=⟨_,List.getElem?_eq_getElem (by omega)⟩
  obtain ⟨q1,hq1,hq2,_⟩:=hE1.get ha
  have f0u:=f0v.then0 fu
  refine (hS1.fr0 f0u).get rfl rfl (by have:=hE1.len; omega) fun y hy=>?_
  rw [hq1] at hy
  cases hy
  refine newI fun u1 B4 e1 t4=>stoAll B4 rfl rfl fun u2 B5 e2 t5=>fldI B5 (i:=0) (x:=q1.1) rfl ?_
  have e02:Fr None u u2:=e1.newer e2 fun k e=>by omega
  refine Z39 (hS2.fr0 (f0u.then0 e02)) (hE2.fr (f0u.then0 e02) fun _ _ h=>h) (by omega) fun u3 e3=>?_
  have e03:=e02.then0 e3
  have D3:=D.fr0 e03
  have hz3:=e03.size
  have hgl:(goneM (was.take j) now).length≤1048576:=by
   unfold goneM; rw [List.length_map]; exact Nat.le_trans (List.length_filter_le _ _) (by simp; omega)
  rw [hq2]
  refine joinI (fun (_:Unit) u'=>(∃ lab r,DltI v.heap.size v.heap.size lab r [] [] (goneM (was.take (j+1)) now) [] [] u')∧Fr None v u'∧v.heap.size≤u'.heap.size) ?_ fun _ u' ⟨h1,h2,h3⟩=>hK _ _ ⟨wsucc hj (by omega),h1,h2,h3⟩
  have eg:=Zie (now:=now) ha
  rcases Zao (L:=now) (id:=a.1) with ⟨ef,hno⟩ | ⟨i,e,ef,hi,hid⟩
  ·rw [ef]
   rw [if_pos hno] at eg
   refine condT rfl (fldI D3.blk (i:=0) (x:=r.1) rfl (fldI (B5.fr e3 fun h=>h) (i:=0) (x:=q1.1) rfl ?_))
   refine D3.addGone (by omega) (by omega) fun lab' r' u4 D4 e4 _=>?_
   have hz4:=e4.size
   refine ⟨⟨lab',r',?_⟩,hup (fu.then0 e03) e4,by omega⟩
   have eg:goneM (was.take (j+1)) now=goneM (was.take j) now ++ [a.1]:=eg
   rw [eg,← hq2]
   exact D4
  ·rw [ef]
   have hh:hasE now a.1=true:=Z2y.2 ⟨e,List.mem_of_getElem? hi,hid⟩
   rw [if_neg (by rw [hh]; decide),List.append_nil] at eg
   have eg:goneM (was.take (j+1)) now=goneM (was.take j) now:=eg
   refine condF (decide_eq_false (by omega)) ⟨⟨lab,r,?_⟩,fu.then0 e03,by omega⟩
   rw [eg]
   exact D3
 rintro i0 u0 ⟨_,⟨lab0,r0,D0⟩,fu0,hzu0⟩
 rw [List.take_of_length_le (by omega)] at D0
 refine forI (N:=s2.n) (fun s:Int=>s) (fun j i u=>i=(j:Int)∧(∃ lab r rc rd,DltI v.heap.size v.heap.size lab r rc rd (goneM was now) (comeM was (now.take j)) (chgsM was (now.take j)) u)∧Fr None v u∧v.heap.size≤u.heap.size)
  ⟨rfl,⟨lab0,r0,[],[],D0⟩,fu0,hzu0⟩ (fun j s w' h=>h.1) ?_ ?_
 rotate_left
 ·rintro i u ⟨_,⟨lab,r,rc,rd,D⟩,fu,hzu⟩
  rw [List.take_of_length_le (by omega)] at D
  refine aggI D.blk (x:=r) rfl ?_
  have BXu:=(BX0.fr fu fun h=>h)
  refine stoAll BXu rfl rfl fun u1 C1 e1 m1=>aggI C1 (x:=r) rfl ?_
  have hbx:=BX0.lt
  have nb:∀ {i:Nat},i≠0→∀ k,k < u.heap.size→lab k=i→¬ k=w.heap.size∧w.heap.size≤k:=fun hi k hk e=>by have:=D.up k (by omega); omega
  refine hk r u1 ⟨SlT.st D.og.sl e1 (nb (by decide)),⟨rc,SlT.st D.oc.sl e1 (nb (by decide)),D.ec.len,fun i a b ha hb=>⟨(D.ec.at_ i a b ha hb).1,SlT.st (D.ec.at_ i a b ha hb).2 e1 (nb (by decide))⟩⟩,
   ⟨rd,SlT.st D.od.sl e1 (nb (by decide)),D.ed.imp fun a b hab=>Z2o a b hab e1 (nb (by decide))⟩⟩ ((f0v.then0 fu).newer e1 fun k e=>by omega)
 rintro j i u K' hj ⟨rfl,⟨lab,r,rc,rd,D⟩,fu,hzu⟩ - hK
 refine joinI (fun (_:Unit) u'=>(∃ lab r rc rd,DltI v.heap.size v.heap.size lab r rc rd (goneM was now) (comeM was (now.take (j+1))) (chgsM was (now.take (j+1))) u')∧Fr None v u'∧v.heap.size≤u'.heap.size) ?_ fun _ u' ⟨h1,h2,h3⟩=>hK _ _ ⟨wsucc hj (by omega),h1,h2,h3⟩
 obtain ⟨b,hb⟩:∃ b,now[j]?=some b:=⟨_,List.getElem?_eq_getElem (by omega)⟩
 obtain ⟨y1,hy1,hy2,hy3⟩:=hE2.get hb
 have f0u:=f0v.then0 fu
 have hbn:=List.mem_of_getElem? hb
 have fitb:=hL2 b hbn
 refine (hS2.fr0 f0u).get rfl rfl (by have:=hE2.len; omega) fun y hy=>?_
 rw [hy1] at hy
 cases hy
 refine newI fun u1 B4 e1 t4=>stoAll B4 rfl rfl fun u2 B5 e2 t5=>fldI B5 (i:=0) (x:=y1.1) rfl ?_
 have e02:Fr None u u2:=e1.newer e2 fun k e=>by omega
 refine Z39 (hS1.fr0 (f0u.then0 e02)) (hE1.fr (f0u.then0 e02) fun _ _ h=>h) (by omega) fun u3 e3=>?_
 have e03:=e02.then0 e3
 have D3:=D.fr0 e03
 have hz3:=e03.size
 have fu3:=fu.then0 e03
 have f0u3:=f0u.then0 e03
 have Bl:=B5.fr e3 fun h=>h
 have hcl:(comeM was (now.take j)).length≤1048576:=by
  unfold comeM; exact Nat.le_trans (List.length_filter_le _ _) (by simp; omega)
 have hdl:(chgsM was (now.take j)).length≤1048576:=by
  unfold chgsM; exact Nat.le_trans (Z6z _ _) (by simp; omega)
 have ec:=Zia (was:=was) hb
 have ed:=Zi9 (was:=was) hb
 rw [hy2]
 rcases Zao (L:=was) (id:=b.1) with ⟨ef,hno⟩ | ⟨i,a,ef,ha,hid⟩
 ·
  rw [ef]
  rw [if_pos hno] at ec
  have ed:chgsM was (now.take (j+1))=chgsM was (now.take j):=by
   rw [ed]
   have:chgOne was b=none:=by
    unfold chgOne
    have:was.find? (fun a=>a.1 == b.1)=none:=by
     rw [List.find?_eq_none]
     intro x hx
     simpa using Z4x.1 hno x hx
    rw [this]
   rw [this,List.append_nil]
  have fd:Fr None u3 u3.drew:=(Fr.refl _ _).drew
  have Dd:=D3.fr0 fd
  have Bd:=Bl.fr fd fun h=>h
  refine condT rfl (fldI Dd.blk (i:=1) (x:=r.2.1) rfl (fldI Bd (i:=0) (x:=y1.1) rfl (fldI Bd (i:=1) (x:=y1.2) rfl ?_)))
  refine Zd5 (hy3.fr0 (f0u3.then0 fd)) fitb.2.1 fun t u4 o4 g4=>?_
  have hz4:=g4.size
  have hzd:u3.drew.heap.size=u3.heap.size:=rfl
  have D4:=Dd.grow (by omega) 3 g4
  refine andI ((Bd.fr g4 fun h=>h).rd (s:=.int .u32) (i:=0) (x:=y1.1) rfl) (andI (D4.blk.rd (s:=.sl) (i:=1) (x:=r.2.1) rfl) ?_)
  rw [hy2]
  refine D4.addCome (by omega) (by omega) (e:=b) (o4.sl.mono fun q hq e=>Z5w e hq) fun lab' r' u5 D5 g5=>?_
  have hz5:=g5.size
  refine ⟨⟨lab',r',rc ++ [(b.1,t)],rd,?_⟩,hup ((fu3.then0 fd).then0 g4) g5,by omega⟩
  rw [ec,ed]
  exact D5
 rw [ef]
 refine condF (decide_eq_false (by omega)) ?_
 have haw:=List.mem_of_getElem? ha
 have fita:=hL1 a haw
 obtain ⟨q1,hq1,hq2,hq3⟩:=hE1.get ha
 have la:=fw.list haw
 have lb:=fn.list hbn
 have hkb:∀ c∈b.2,0≤c.1∧c.1≤5:=fun c hc=>Z2x ((Z1r.1 lb).1 c hc)
 have hho:hasE was b.1=true:=Z2y.2 ⟨a,haw,hid⟩
 rw [if_neg (by rw [hho]; decide),List.append_nil] at ec
 rw [Zb3 fw.rise haw hid] at ed
 refine fldI Bl (i:=0) (x:=y1.1) rfl ?_
 rw [hy2]
 refine newI fun u4 C1 g4 t6=>stoAll C1 rfl rfl fun u5 C2 g5 t7=>?_
 have g35:Fr None u3 u5:=g4.newer g5 fun k e=>by omega
 have hz5:=g35.size
 have hzb:=Bl.lt
 refine forI (N:=6) (fun s:Int=>s) (fun k i u'=>i=(k:Int)∧(∃ lab sn ss,ChgI u3.heap.size u3.heap.size b.1 (lostJ a.2 b.2 k) a.2 (low k b.2) lab sn ss u')∧Fr None u3 u'∧u3.heap.size≤u'.heap.size)
  ⟨rfl,⟨fun k=>if k=u3.heap.size then 3 else 0,⟨none,0,0⟩,⟨none,0,0⟩,by
   rw [Zxp fun c hc=>(hkb c hc).1]
   have:lostJ a.2 b.2 0=0:=by unfold lostJ; rw [Nat.pow_zero,Nat.mod_one]; rfl
   rw [this]
   refine ⟨C2,by simp,Own.nil _ _ _ _,Own.nil _ _ _ _,fun k e=>?_⟩
   by_cases hkb:k=u3.heap.size
   ·omega
   ·exact absurd (if_neg hkb) e⟩,g35,hz5⟩ (fun j s w' h=>h.1) ?_ ?_
 ·rintro k i' u' K2 hk6 ⟨rfl,⟨labc,sn,ss,C⟩,fu',hzu'⟩ - hK2
  have fd:Fr None u' u'.drew:=(Fr.refl _ _).drew
  have hS1d:=hS1.fr0 ((f0u3.then0 fu').then0 fd)
  have Bd:=(Bl.fr fu' fun h=>h).fr fd fun h=>h
  refine hS1d.readK rfl rfl hq1 fun ad had=>(had _ hS1d).fld (i:=1) (s:=.sl) (y:=q1.2) rfl (fldI Bd (i:=1) (x:=y1.2) rfl ?_)
  refine Z49 (hq3.fr0 ((f0u3.then0 fu').then0 fd)) fita.2.1 fun u6 g6=>?_
  have Bd6:=Bd.fr g6 fun h=>h
  refine andI (Bd6.rd (s:=.sl) (i:=1) (x:=y1.2) rfl) ?_
  refine Z49 (hy3.fr0 (((f0u3.then0 fu').then0 fd).then0 g6)) fitb.2.1 fun u7 g7=>?_
  have g07:=(fd.then0 g6).then0 g7
  have C7:=C.fr0 g07
  have f7:=fu'.then0 g07
  have f07:=f0u3.then0 f7
  have hz7:=f7.size
  have B7:=Bd6.fr g7 fun h=>h
  have llow:=Z10b k b.2
  have hsm:=fitb.2.1
  have lj:=Zt0 a.2 b.2 k (by omega)
  have lstep:=Ztz a.2 b.2 hk6
  have hupc:∀ {x:World},Fr (Up u3.heap.size) u7 x→Fr None u3 x:=fun g=>f7.newer g fun k e=>e
  have fin:∀ (u':World),(∃ lab sn ss,ChgI u3.heap.size u3.heap.size b.1 (lostJ a.2 b.2 (k+1)) a.2 (low (k+1) b.2) lab sn ss u')∧Fr None u3 u'∧u3.heap.size≤u'.heap.size→K2 (IntKind.wrap .u8 ((k:Int)+1)) (fun r w=>K r Q w) u':=fun u' ⟨h1,h2,h3⟩=>hK2 _ _ ⟨by rw [wu8 (by omega)]; rfl,h1,h2,h3⟩
  rcases Zb5 a.2 (k:Int) with ⟨ea,na⟩ | ⟨p,ca,ea,hpa,ka⟩
  ·have hna:=Zv9 na
   rw [hna] at lstep
   rw [ea]
   have lstep:lostJ a.2 b.2 (k+1)=lostJ a.2 b.2 k:=by simpa using lstep
   refine joinI (fun z x=>z=false∧x=u7) (condF rfl ⟨rfl,rfl⟩) ?_
   rintro z x ⟨rfl,rfl⟩
   refine joinI (fun (_:Unit) u'=>(∃ lab sn ss,ChgI u3.heap.size u3.heap.size b.1 (lostJ a.2 b.2 (k+1)) a.2 (low (k+1) b.2) lab sn ss u')∧Fr None u3 u'∧u3.heap.size≤u'.heap.size) (condF rfl ?_) fun _ u' h=>fin u' h
   rcases Zb5 b.2 (k:Int) with ⟨eb,nb⟩ | ⟨q,cb,eb,hpb,kb⟩
   ·rw [eb]
    have hl:low (k+1) b.2=low k b.2:=Zt2 nb
    refine joinI (fun z x'=>z=false∧x'=x) (condT rfl ⟨rfl,rfl⟩) ?_
    rintro z x' ⟨rfl,rfl⟩
    refine joinI (fun (_:Unit) u'=>(∃ lab sn ss,ChgI u3.heap.size u3.heap.size b.1 (lostJ a.2 b.2 (k+1)) a.2 (low (k+1) b.2) lab sn ss u')∧Fr None u3 u'∧u3.heap.size≤u'.heap.size) (condF rfl ?_) fun _ u' h=>h
    have fd2:Fr None x' x'.drew:=(Fr.refl _ _).drew
    refine joinI (fun z x''=>z=false∧x''=x'.drew) (condF rfl ⟨rfl,rfl⟩) ?_
    rintro z x'' ⟨rfl,rfl⟩
    refine joinI (fun (_:Unit) u'=>(∃ lab sn ss,ChgI u3.heap.size u3.heap.size b.1 (lostJ a.2 b.2 (k+1)) a.2 (low (k+1) b.2) lab sn ss u')∧Fr None u3 u'∧u3.heap.size≤u'.heap.size) (condF rfl ?_) fun _ u' h=>h
    refine ⟨⟨labc,sn,ss,?_⟩,f7.then0 fd2,hz7⟩
    rw [lstep,hl]
    exact C7.fr0 fd2
   ·rw [eb]
    have hcb:=List.mem_of_getElem? hpb
    have hl:low (k+1) b.2=low k b.2 ++ [cb]:=Zop kb (Z1r.1 lb).2 hcb
    refine joinI (fun z x'=>z=true∧x'=x) (condT rfl ⟨decide_eq_true (by omega),rfl⟩) ?_
    rintro z x' ⟨rfl,rfl⟩
    have fd2:Fr None x' x'.drew:=(Fr.refl _ _).drew
    have C8:=C7.fr0 fd2
    have B8:=B7.fr fd2 fun h=>h
    refine joinI (fun (_:Unit) u'=>(∃ lab sn ss,ChgI u3.heap.size u3.heap.size b.1 (lostJ a.2 b.2 (k+1)) a.2 (low (k+1) b.2) lab sn ss u')∧Fr None u3 u'∧u3.heap.size≤u'.heap.size) (condT rfl ?_) fun _ u' h=>h
    refine fldI C8.blk (i:=2) (x:=sn) rfl (fldI B8 (i:=1) (x:=y1.2) rfl ?_)
    refine (hy3.fr0 (f07.then0 fd2)).get rfl rfl (List.getElem?_eq_some_iff.1 hpb).1 fun y hy=>?_
    rw [hpb] at hy
    cases hy
    refine C8.addNew (by show u3.heap.size≤x'.heap.size; omega) (Zv2 fun c hc=>by rw [kb]; exact na c hc) (by omega) fun lab' r' u9 C9 g9=>⟨⟨lab',r',ss,?_⟩,(f7.then0 fd2).newer g9 fun k e=>e,by have:=g9.size; have:x'.drew.heap.size=x'.heap.size:=rfl; omega⟩
    rw [lstep,hl]
    exact C9
  ·have hca:=List.mem_of_getElem? hpa
   rw [Zyo hca ka] at lstep
   rw [ea]
   rcases Zb5 b.2 (k:Int) with ⟨eb,nb⟩ | ⟨q,cb,eb,hpb,kb⟩
   ·rw [Zv9 nb] at lstep
    rw [eb]
    have hl:low (k+1) b.2=low k b.2:=Zt2 nb
    have lstep:lostJ a.2 b.2 (k+1)=lostJ a.2 b.2 k+((2 ^ k:Nat):Int):=by simpa using lstep
    refine joinI (fun z x=>z=true∧x=u7) (condT (decide_eq_true (by omega)) ⟨rfl,rfl⟩) ?_
    rintro z x ⟨rfl,rfl⟩
    refine joinI (fun (_:Unit) u'=>(∃ lab sn ss,ChgI u3.heap.size u3.heap.size b.1 (lostJ a.2 b.2 (k+1)) a.2 (low (k+1) b.2) lab sn ss u')∧Fr None u3 u'∧u3.heap.size≤u'.heap.size) (condT rfl ?_) fun _ u' h=>fin u' h
    refine fldI C7.blk (i:=1) (x:=lostJ a.2 b.2 k) rfl (chkI (by omega) ?_)
    have lj2:=Zt0 a.2 b.2 (k+1) (by omega)
    rw [Zzq hk6,← lstep,wu8 (by omega)]
    refine C7.setLost fun u9 C9 g9=>⟨⟨labc,sn,ss,?_⟩,hupc g9,by have:=g9.size; omega⟩
    rw [hl]
    exact C9
   ·have hcb:=List.mem_of_getElem? hpb
    rw [Zyo hcb kb] at lstep
    rw [eb]
    have hl:low (k+1) b.2=low k b.2 ++ [cb]:=Zop kb (Z1r.1 lb).2 hcb
    have lstep:lostJ a.2 b.2 (k+1)=lostJ a.2 b.2 k:=by simpa using lstep
    refine joinI (fun z x=>z=false∧x=u7) (condT (decide_eq_true (by omega)) ⟨decide_eq_false (by omega),rfl⟩) ?_
    rintro z x ⟨rfl,rfl⟩
    refine joinI (fun (_:Unit) u'=>(∃ lab sn ss,ChgI u3.heap.size u3.heap.size b.1 (lostJ a.2 b.2 (k+1)) a.2 (low (k+1) b.2) lab sn ss u')∧Fr None u3 u'∧u3.heap.size≤u'.heap.size) (condF rfl ?_) fun _ u' h=>fin u' h
    refine joinI (fun z x'=>z=false∧x'=x) (condF (decide_eq_false (by omega)) ⟨rfl,rfl⟩) ?_
    rintro z x' ⟨rfl,rfl⟩
    refine joinI (fun (_:Unit) u'=>(∃ lab sn ss,ChgI u3.heap.size u3.heap.size b.1 (lostJ a.2 b.2 (k+1)) a.2 (low (k+1) b.2) lab sn ss u')∧Fr None u3 u'∧u3.heap.size≤u'.heap.size) (condF rfl ?_) fun _ u' h=>h
    have fd2:Fr None x' x'.drew:=(Fr.refl _ _).drew
    have hfc:=Zxb la hca (by rw [ka,← kb]:ca.1=cb.1)
    refine joinI (fun z x''=>z=!decide (ca=cb)∧x''=x'.drew) ?_ ?_
    ·have B8:=B7.fr fd2 fun h=>h
     have hS1x:=hS1.fr0 (f07.then0 fd2)
     refine condT (decide_eq_true (by omega)) (hS1x.readK rfl rfl hq1 fun ad had=>(had _ hS1x).fld (i:=1) (s:=.sl) (y:=q1.2) rfl ?_)
     refine (hq3.fr0 (f07.then0 fd2)).get rfl rfl (List.getElem?_eq_some_iff.1 hpa).1 fun y hy=>?_
     rw [hpa] at hy
     cases hy
     refine fldI B8 (i:=1) (x:=y1.2) rfl ((hy3.fr0 (f07.then0 fd2)).get rfl rfl (List.getElem?_eq_some_iff.1 hpb).1 fun y hy=>?_)
     rw [hpb] at hy
     cases hy
     exact neqI Zkb (Zkc ca cb) ⟨rfl,rfl⟩
    rintro z x'' ⟨rfl,rfl⟩
    refine joinI (fun (_:Unit) u'=>(∃ lab sn ss,ChgI u3.heap.size u3.heap.size b.1 (lostJ a.2 b.2 (k+1)) a.2 (low (k+1) b.2) lab sn ss u')∧Fr None u3 u'∧u3.heap.size≤u'.heap.size) ?_ fun _ u' h=>h
    refine condI (fun hne=>?_) fun heq=>?_
    ·have hne:ca≠cb:=by simpa using hne
     have fd3:Fr None x'.drew x'.drew.drew:=(Fr.refl _ _).drew
     have f23:=fd2.then0 fd3
     have C8:=C7.fr0 f23
     have B8:=B7.fr f23 fun h=>h
     refine fldI C8.blk (i:=3) (x:=ss) rfl (fldI B8 (i:=1) (x:=y1.2) rfl ?_)
     refine (hy3.fr0 (f07.then0 f23)).get rfl rfl (List.getElem?_eq_some_iff.1 hpb).1 fun y hy=>?_
     rw [hpb] at hy
     cases hy
     refine C8.addSet (by show u3.heap.size≤x'.heap.size; omega) (by rw [hfc]; exact ⟨rfl,hne⟩) (by omega) fun lab' r' u9 C9 g9=>⟨⟨lab',sn,r',?_⟩,(f7.then0 f23).newer g9 fun k e=>e,by have:=g9.size; have:x'.drew.drew.heap.size=x'.heap.size:=rfl; omega⟩
     rw [lstep,hl]
     exact C9
    ·have heq:ca=cb:=by simpa using heq
     refine ⟨⟨labc,sn,ss,?_⟩,f7.then0 fd2,hz7⟩
     rw [lstep,hl]
     exact (C7.fr0 fd2).same (by rw [hfc]; exact ⟨rfl,heq⟩)
 ·rintro i' u' ⟨_,⟨labc,sn,ss,C⟩,fu',hzu'⟩
  rw [Zzh fun c hc=>(hkb c hc).2,Zvh] at C
  have lr:=Z93 a.2 b.2
  have cl1:=C.new.len
  have cl2:=C.set.len
  have cn1:=Zin a.2 b.2
  have cn2:=Znc a.2 b.2
  have hsm:=fitb.2.1
  refine joinI (fun z x=>z=!nothingM (changeM a b)∧x=u') ?_ ?_
  ·refine fldI C.blk (i:=1) (x:=lostM a.2 b.2) rfl (condD (fun h=>⟨?_,rfl⟩) fun h=>?_)
   ·unfold nothingM changeM
    simp
    omega
   ·refine fldI C.blk (i:=2) (x:=sn) rfl (fldI C.blk (i:=3) (x:=ss) rfl ⟨?_,rfl⟩)
    rw [w64 (by omega)]
    unfold nothingM changeM
    rw [Bool.eq_iff_iff]
    simp only [decide_eq_true_eq,Bool.not_eq_true',decide_eq_false_iff_not]
    omega
  rintro z x ⟨rfl,rfl⟩
  have e0x:=fu'
  refine joinI (fun (_:Unit) u'=>(∃ lab r rc rd,DltI v.heap.size v.heap.size lab r rc rd (goneM was now) (comeM was (now.take (j+1))) (chgsM was (now.take (j+1))) u')∧Fr None v u'∧v.heap.size≤u'.heap.size) ?_ fun _ u' h=>h
  have D8:=D3.grow (by omega) 5 e0x
  have fv8:=fu3.then0 e0x
  refine condI (fun hn=>?_) fun hn=>?_
  ·have hn:nothingM (changeM a b)=false:=by simpa using hn
   rw [if_neg (by rw [hn]; decide)] at ed
   refine fldI D8.blk (i:=2) (x:=r.2.2) rfl (aggI C.blk (x:=((b.1,lostM a.2 b.2,sn,ss):ChgRaw)) rfl ?_)
   refine D8.addChg (by omega) (by omega) (d:=changeM a b) (t:=(b.1,lostM a.2 b.2,sn,ss)) ⟨rfl,rfl,?_,?_⟩ fun lab'' r' u6 D6 g6 _=>?_
   ·exact C.new.sl.mono fun q hq e=>Z5w (by have:=C.up q (by omega); omega) hq
   ·exact C.set.sl.mono fun q hq e=>Z5w (by have:=C.up q (by omega); omega) hq
   ·have hz6:=g6.size
    refine ⟨⟨lab'',r',rc,rd ++ [(b.1,lostM a.2 b.2,sn,ss)],?_⟩,hup fv8 g6,by omega⟩
    rw [ec,ed]
    exact D6
  ·have hn:nothingM (changeM a b)=true:=by simpa using hn
   rw [if_pos hn] at ed
   refine ⟨⟨relab lab u3.heap.size x.heap.size 5,r,rc,rd,?_⟩,fv8,by omega⟩
   rw [ec,ed,List.append_nil]
   exact D8
end Go.Proofs.YtchhhjlpnecjkaaGreat
namespace Go.Proofs.YtchhhjlpnecjkaaGreat
open Go Go.RowKit Go.Proofs.YtchhhjlpnecjkaaGreat.Den
variable {α:Type} {key:α→Int} {L L':List α} {M M':α→Prop}
structure Holds (key:α→Int) (L:List α) (M:α→Prop):Prop where
 rise:L.Pairwise fun a b=>key a < key b
 mem:∀ e,e∈L↔M e
theorem Ztd:∀ {l k:List α},(l.Pairwise fun a b=>key a < key b)→(k.Pairwise fun a b=>key a < key b)→(∀ x,x∈l↔x∈k)→l=k
 | [],[],_,_,_=>rfl
 | [],y :: k,_,_,h=>by have:=(h y).2 List.mem_cons_self; cases this
 | x :: l,[],_,_,h=>by have:=(h x).1 List.mem_cons_self; cases this
 | x :: l,y :: k,hl,hk,h=>by
  obtain ⟨l1,l2⟩:=List.pairwise_cons.1 hl
  obtain ⟨k1,k2⟩:=List.pairwise_cons.1 hk
  have hxy:x=y:=by
   rcases List.mem_cons.1 ((h x).1 List.mem_cons_self) with e | e
   ·exact e
   ·rcases List.mem_cons.1 ((h y).2 List.mem_cons_self) with e2 | e2
    ·exact e2.symm
    ·have:=k1 x e; have:=l1 y e2; omega
  subst hxy
  rw [Ztd l2 k2 fun z=>⟨fun hz=>?_,fun hz=>?_⟩]
  ·rcases List.mem_cons.1 ((h z).1 (List.mem_cons_of_mem _ hz)) with e | e
   ·have:=l1 z hz; rw [e] at this; omega
   ·exact e
  ·rcases List.mem_cons.1 ((h z).2 (List.mem_cons_of_mem _ hz)) with e | e
   ·have:=k1 z hz; rw [e] at this; omega
   ·exact e
theorem Holds.iff (h:Holds key L M) (hm:∀ e,M e↔M' e):Holds key L M':=⟨h.rise,fun e=>(h.mem e).trans (hm e)⟩
theorem Holds.uniq (h:Holds key L M) (h':Holds key L' M):L=L':=Ztd h.rise h'.rise fun x=>(h.mem x).trans (h'.mem x).symm
theorem Zte:∀ {L:List α},(L.Pairwise fun a b=>key a < key b)→∀ {a b:α},a∈L→b∈L→key a=key b→a=b
 | x :: r,h,a,b,ha,hb,e=>by
  obtain ⟨h1,h2⟩:=List.pairwise_cons.1 h
  rcases List.mem_cons.1 ha with ea | ea
  ·rcases List.mem_cons.1 hb with eb | eb
   ·rw [ea,eb]
   ·have:=h1 b eb; rw [ea] at e; omega
  ·rcases List.mem_cons.1 hb with eb | eb
   ·have:=h1 a ea; rw [eb] at e; omega
   ·exact Zte h2 ea eb e
theorem Zvn {i:Nat} {a:α} (h:L[i]?=some a):∃ p q,p=L.take i∧q=L.drop (i+1)∧L=p ++ a :: q:=by
 obtain ⟨hi,e⟩:=List.getElem?_eq_some_iff.1 h
 refine ⟨_,_,rfl,rfl,?_⟩
 have:=(List.take_append_drop i L).symm
 rw [List.drop_eq_getElem_cons hi,e] at this
 exact this
theorem Zha (h:L.Pairwise fun a b=>key a < key b) {j:Nat} {a:α} (ha:L[j]?=some a):∀ b∈L.take j,key b < key a:=by
 obtain ⟨p,q,hp,hq,e⟩:=Zvn ha
 rw [← hp]
 rw [e] at h
 exact fun b hb=>(List.pairwise_append.1 h).2.2 b hb a List.mem_cons_self
theorem Zn {j:Nat} {a:α} (ha:L[j]?=some a) {b:α}:b∈L.take (j+1)↔b∈L.take j∨b=a:=by
 obtain ⟨hi,e⟩:=List.getElem?_eq_some_iff.1 ha
 rw [List.take_add_one,ha]
 simp
theorem Holds.cut (h:Holds key L M) {i:Nat} {a:α} (ha:L[i]?=some a):Holds key (L.take i ++ L.drop (i+1)) fun e=>M e∧key e≠key a:=by
 obtain ⟨p,q,hp,hq,e⟩:=Zvn ha
 rw [← hp,← hq]
 clear hp hq ha
 subst e
 obtain ⟨r1,r2,r3⟩:=List.pairwise_append.1 h.rise
 obtain ⟨r4,r5⟩:=List.pairwise_cons.1 r2
 refine ⟨List.pairwise_append.2 ⟨r1,r5,fun x hx y hy=>r3 x hx y (List.mem_cons_of_mem _ hy)⟩,fun x=>?_⟩
 rw [← h.mem x]
 simp only [List.mem_append,List.mem_cons]
 constructor
 ·rintro (hx | hx)
  ·exact ⟨.inl hx,by have:=r3 x hx a List.mem_cons_self; omega⟩
  ·exact ⟨.inr (.inr hx),by have:=r4 x hx; omega⟩
 ·rintro ⟨hx | rfl | hx,hn⟩
  ·exact .inl hx
  ·exact absurd rfl hn
  ·exact .inr hx
theorem Holds.set (h:Holds key L M) {i:Nat} {a b:α} (ha:L[i]?=some a) (hb:key b=key a):Holds key (L.set i b) fun e=>e=b∨(M e∧key e≠key a):=by
 have hi:=(List.getElem?_eq_some_iff.1 ha).1
 have c:=h.cut ha
 obtain ⟨p,q,hp,hq,e⟩:=Zvn ha
 have es:L.set i b=p ++ b :: q:=by rw [List.set_eq_take_append_cons_drop,if_pos hi,hp,hq]
 rw [es]
 rw [← hp,← hq] at c
 clear hp hq ha es
 subst e
 obtain ⟨r1,r2,r3⟩:=List.pairwise_append.1 h.rise
 obtain ⟨r4,r5⟩:=List.pairwise_cons.1 r2
 refine ⟨List.pairwise_append.2 ⟨r1,List.pairwise_cons.2 ⟨fun x hx=>by rw [hb]; exact r4 x hx,r5⟩,fun x hx y hy=>?_⟩,fun x=>?_⟩
 ·rcases List.mem_cons.1 hy with e | e
  ·rw [e,hb]; exact r3 x hx a List.mem_cons_self
  ·exact r3 x hx y (List.mem_cons_of_mem _ e)
 ·rw [← c.mem x]
  simp only [List.mem_append,List.mem_cons]
  constructor
  ·rintro (hx | hx | hx)
   ·exact .inr (.inl hx)
   ·exact .inl hx
   ·exact .inr (.inr hx)
  ·rintro (hx | hx | hx)
   ·exact .inr (.inl hx)
   ·exact .inl hx
   ·exact .inr (.inr hx)
theorem Holds.without {k:Int} (h:Holds key L M):Holds key (L.filter fun c=>!(key c == k)) fun e=>M e∧key e≠k :=
 ⟨h.rise.filter _,fun x=>by rw [List.mem_filter,h.mem x]; simp⟩
theorem Zl9 {k:Int} {l:List Comp} (h:∃ x∈l,x.1=k):¬ findM l k < 0:=by
 unfold findM
 split
 ·omega
 ·rename_i hn
  obtain ⟨x,hx,e⟩:=h
  have:=List.findIdx?_eq_none_iff.1 hn x hx
  simp [e] at this
theorem Zv4 {k:Int} {l:List Comp} (h:∀ x∈l,x.1≠k):findM l k < 0:=by
 unfold findM
 split
 ·rename_i i hi
  obtain ⟨hl,e,_⟩:=List.findIdx?_eq_some_iff_getElem.1 hi
  exact absurd (by simpa using e) (h _ (List.getElem_mem hl))
 ·decide
theorem Holds.withC {L:List Comp} {M:Comp→Prop} (c:Comp) (h:Holds (fun x:Comp=>x.1) L M):Holds (fun x:Comp=>x.1) (withM L c) fun x=>x=c∨(M x∧x.1≠c.1):=by
 have key:∀ l:List Comp,(l.Pairwise fun a b=>a.1 < b.1)→((withG c false l).Pairwise fun a b=>a.1 < b.1)∧∀ x,x∈withG c false l↔x=c∨(x∈l∧x.1≠c.1):=by
  intro l
  induction l with
  | nil=>intro _; simp [withG]
  | cons y r ih =>
   intro hp
   obtain ⟨p1,p2⟩:=List.pairwise_cons.1 hp
   obtain ⟨i1,i2⟩:=ih p2
   rw [withG]
   by_cases hy:y.1 ≥ c.1
   ·have hr:∀ x∈r,x.1≠c.1:=fun x hx=>by have:=p1 x hx; omega
    have hd:withG c (false || decide (y.1 ≥ c.1)) r=r:=by rw [decide_eq_true hy]; exact Zj0 hr
    rw [hd,decide_eq_true hy]
    by_cases he:y.1=c.1
    ·rw [if_neg (show ¬ y.1≠c.1 by omega)]
     refine ⟨?_,fun x=>?_⟩
     ·simp only [Bool.not_false,Bool.and_self,if_true,List.nil_append,List.cons_append]
      exact List.pairwise_cons.2 ⟨fun x hx=>by have:=p1 x hx; omega,p2⟩
     ·simp only [Bool.not_false,Bool.and_self,if_true,List.nil_append,List.cons_append,List.mem_cons]
      constructor
      ·rintro (e | e)
       ·exact .inl e
       ·exact .inr ⟨.inr e,hr x e⟩
      ·rintro (e | ⟨e | e,hn⟩)
       ·exact .inl e
       ·exact absurd (by rw [e]; exact he) hn
       ·exact .inr e
    ·rw [if_pos he]
     refine ⟨?_,fun x=>?_⟩
     ·simp only [Bool.not_false,Bool.and_self,if_true,List.nil_append,List.cons_append]
      refine List.pairwise_cons.2 ⟨fun x hx=>?_,hp⟩
      rcases List.mem_cons.1 hx with e | e
      ·rw [e]; omega
      ·have:=p1 x e; omega
     ·simp only [Bool.not_false,Bool.and_self,if_true,List.nil_append,List.cons_append,List.mem_cons]
      constructor
      ·rintro (e | e | e)
       ·exact .inl e
       ·exact .inr ⟨.inl e,by rw [e]; exact he⟩
       ·exact .inr ⟨.inr e,hr x e⟩
      ·rintro (e | ⟨e | e,_⟩)
       ·exact .inl e
       ·exact .inr (.inl e)
       ·exact .inr (.inr e)
   ·rw [decide_eq_false hy,if_pos (show y.1≠c.1 by omega)]
    refine ⟨?_,fun x=>?_⟩
    ·simp only [Bool.not_false,Bool.and_false,Bool.false_eq_true,if_false,List.nil_append,List.cons_append,Bool.or_false]
     refine List.pairwise_cons.2 ⟨fun x hx=>?_,i1⟩
     rcases (i2 x).1 hx with e | e
     ·rw [e]; omega
     ·exact p1 x e.1
    ·simp only [Bool.not_false,Bool.and_false,Bool.false_eq_true,if_false,List.nil_append,List.cons_append,Bool.or_false,List.mem_cons,i2 x]
     constructor
     ·rintro (e | e | ⟨e,hn⟩)
      ·exact .inr ⟨.inl e,by rw [e]; omega⟩
      ·exact .inl e
      ·exact .inr ⟨.inr e,hn⟩
     ·rintro (e | ⟨e | e,hn⟩)
      ·exact .inr (.inl e)
      ·exact .inl e
      ·exact .inr (.inr ⟨e,hn⟩)
 obtain ⟨k1,k2⟩:=key L h.rise
 exact ⟨k1,fun x=>by rw [← h.mem x]; exact k2 x⟩
def insG (e:Ent):Bool→List Ent→List Ent
 | done,[]=>if done then [] else [e]
 | done,x :: r=>(if !done && decide (x.1 ≥ e.1) then [e] else []) ++ (x :: insG e (done || decide (x.1 ≥ e.1)) r)
theorem Zaq {e:Ent}:∀ {l:List Ent},insG e true l=l
 | []=>rfl
 | x :: r=>by rw [insG]; simp [Zaq]
theorem Holds.ins {L:List Ent} {M:Ent→Prop} (e:Ent) (h:Holds (fun x:Ent=>x.1) L M) (hn:∀ x,M x→x.1≠e.1):Holds (fun x:Ent=>x.1) (insG e false L) fun x=>x=e∨M x:=by
 have key:∀ l:List Ent,(l.Pairwise fun a b=>a.1 < b.1)→(∀ x∈l,x.1≠e.1)→((insG e false l).Pairwise fun a b=>a.1 < b.1)∧∀ x,x∈insG e false l↔x=e∨x∈l:=by
  intro l
  induction l with
  | nil=>intro _ _; simp [insG]
  | cons y r ih =>
   intro hp hne
   obtain ⟨p1,p2⟩:=List.pairwise_cons.1 hp
   obtain ⟨i1,i2⟩:=ih p2 fun x hx=>hne x (List.mem_cons_of_mem _ hx)
   have hy1:=hne y List.mem_cons_self
   rw [insG]
   by_cases hy:y.1 ≥ e.1
   ·rw [decide_eq_true hy]
    simp only [Bool.not_false,Bool.and_self,if_true,Bool.false_or,Zaq,List.cons_append,List.nil_append]
    refine ⟨List.pairwise_cons.2 ⟨fun x hx=>?_,hp⟩,fun x=>by simp [List.mem_cons]⟩
    rcases List.mem_cons.1 hx with a | a
    ·rw [a]; omega
    ·have:=p1 x a; omega
   ·rw [decide_eq_false hy]
    simp only [Bool.not_false,Bool.and_false,Bool.false_eq_true,if_false,List.nil_append,Bool.or_false]
    refine ⟨List.pairwise_cons.2 ⟨fun x hx=>?_,i1⟩,fun x=>?_⟩
    ·rcases (i2 x).1 hx with a | a
     ·rw [a]; omega
     ·exact p1 x a
    ·simp only [List.mem_cons,i2 x]
     constructor
     ·rintro (a | a | a)
      ·exact .inr (.inl a)
      ·exact .inl a
      ·exact .inr (.inr a)
     ·rintro (a | a | a)
      ·exact .inr (.inl a)
      ·exact .inl a
      ·exact .inr (.inr a)
 obtain ⟨k1,k2⟩:=key L h.rise fun x hx=>hn x ((h.mem x).1 hx)
 exact ⟨k1,fun x=>by rw [← h.mem x]; exact k2 x⟩
theorem Zsw (e:Ent):∀ (b:Bool) (l:List Ent),(insG e b l).length≤l.length+1
 | true,l=>by rw [Zaq]; omega
 | false,[]=>by simp [insG]
 | false,x :: r=>by
  rw [insG]
  by_cases h:x.1 ≥ e.1
  ·rw [decide_eq_true h]; simp [Zaq]
  ·rw [decide_eq_false h]; have:=Zsw e false r; simp; omega
theorem Zsx (e:Ent):∀ (b:Bool) (l:List Ent),∀ x∈insG e b l,x=e∨x∈l
 | true,l,x,h=>by rw [Zaq] at h; exact .inr h
 | false,[],x,h=>by simp [insG] at h; exact .inl h
 | false,y :: r,x,h=>by
  rw [insG] at h
  by_cases hy:y.1 ≥ e.1
  ·rw [decide_eq_true hy] at h; simp [Zaq] at h
   rcases h with h | h | h
   ·exact .inl h
   ·exact .inr (by rw [h]; exact List.mem_cons_self)
   ·exact .inr (List.mem_cons_of_mem _ h)
  ·rw [decide_eq_false hy] at h; simp at h
   rcases h with h | h
   ·exact .inr (by rw [h]; exact List.mem_cons_self)
   ·rcases Zsx e false r x h with h | h
    ·exact .inl h
    ·exact .inr (List.mem_cons_of_mem _ h)
section
variable {a b:Ent}
def lostP (a:Ent) (d:Chg) (k:Nat) (x:Comp):Prop:=x∈a.2∧¬ (x.1 < (k:Int)∧d.2.1.toNat.testBit x.1.toNat=true)
def newP (a:Ent) (d:Chg) (j:Nat) (x:Comp):Prop:=(x∈a.2∧d.2.1.toNat.testBit x.1.toNat=false)∨x∈d.2.2.1.take j
def setP (a:Ent) (d:Chg) (j:Nat) (x:Comp):Prop:=(x∈a.2∧d.2.1.toNat.testBit x.1.toNat=false∧∀ y∈d.2.2.2.take j,y.1≠x.1)∨x∈d.2.2.1∨x∈d.2.2.2.take j
theorem Zdh {l:List Comp} (h:listE l=0):l.Pairwise fun a b=>a.1 < b.1:=by
 have:=(Z1r.1 h).2
 rwa [Rising,List.pairwise_map] at this
theorem Zom {l:List Comp} (h:listE l=0):∀ x∈l,0≤x.1∧x.1 < 6:=fun x hx=>by have:=Z2x ((Z1r.1 h).1 x hx); omega
theorem Zzg (ha:listE a.2=0) (d:Chg):Holds (fun x:Comp=>x.1) a.2 (lostP a d 0) :=
 ⟨Zdh ha,fun x=>⟨fun h=>⟨h,fun h2=>by have:=(Zom ha x h).1; omega⟩,fun h=>h.1⟩⟩
theorem Zxn {l:List Comp} {d:Chg} {k:Nat} (ha:listE a.2=0) (h:Holds (fun x:Comp=>x.1) l (lostP a d k)) (hb:d.2.1.toNat.testBit k=false):Holds (fun x:Comp=>x.1) l (lostP a d (k+1)) :=
 h.iff fun x=>⟨fun h=>⟨h.1,fun h2=>h.2 ⟨by
  have:=(Zom ha x h.1).1
  rcases Int.lt_or_eq_of_le (show x.1≤(k:Int) by omega) with g | g
  ·exact g
  ·rw [g] at h2
   rw [show ((k:Int).toNat)=k by omega,hb] at h2
   exact absurd h2.2 (by simp),h2.2⟩⟩,fun h=>⟨h.1,fun h2=>h.2 ⟨by omega,h2.2⟩⟩⟩
theorem Zvi {l:List Comp} {k:Nat} (ha:listE a.2=0) (h:Holds (fun x:Comp=>x.1) l (lostP a (changeM a b) k)) (hk:k < 8) (hb:(changeM a b).2.1.toNat.testBit k=true) :
  (∃ x∈l,x.1=(k:Int))∧Holds (fun x:Comp=>x.1) (l.filter fun c=>!(c.1 == (k:Int))) (lostP a (changeM a b) (k+1)):=by
 have hk6:k < 6:=by
  refine Classical.byContradiction fun hn=>?_
  have:=Zt1 a.2 b.2
  have h2:(changeM a b).2.1.toNat < 2 ^ k:=Nat.lt_of_lt_of_le this (Nat.pow_le_pow_right (show 0 < 2 by decide) (show 6≤k by omega))
  rw [Nat.testBit_lt_two_pow h2] at hb
  cases hb
 have hl:(has a.2 k && !has b.2 k)=true:=by rw [← Zbj a.2 b.2 hk6]; exact hb
 obtain ⟨h1,h2⟩:=Bool.and_eq_true_iff.1 hl
 obtain ⟨x,hx,e⟩:=Zcd.1 h1
 refine ⟨⟨x,(h.mem x).2 ⟨hx,fun g=>by omega⟩,e⟩,(Holds.without (k:=(k:Int)) h).iff fun y=>⟨fun ⟨g1,g2⟩=>⟨g1.1,fun g3=>g1.2 ⟨by omega,g3.2⟩⟩,fun g=>⟨⟨g.1,fun g2=>g.2 ⟨by omega,g2.2⟩⟩,fun g2=>g.2 ⟨by omega,?_⟩⟩⟩⟩
 rw [g2,show ((k:Int).toNat)=k by omega]
 exact hb
theorem Z10c {l:List Comp} {d:Chg} (ha:listE a.2=0) (h:Holds (fun x:Comp=>x.1) l (lostP a d 8)):Holds (fun x:Comp=>x.1) l (newP a d 0) :=
 h.iff fun x=>⟨fun g=>.inl ⟨g.1,by
  have:=Zom ha x g.1
  cases hh:d.2.1.toNat.testBit x.1.toNat with
  | false=>rfl
  | true=>exact absurd ⟨by omega,hh⟩ g.2⟩,fun g=>by
  rcases g with g | g
  ·exact ⟨g.1,fun g2=>by rw [g.2] at g2; exact absurd g2.2 (by simp)⟩
  ·rw [List.take_zero] at g; cases g⟩
theorem Zvp {l:List Comp} (hb:listE b.2=0) {j:Nat} {y:Comp} (hy:(changeM a b).2.2.1[j]?=some y) (h:Holds (fun x:Comp=>x.1) l (newP a (changeM a b) j)) :
  (∀ x∈a.2,x.1≠y.1)∧Holds (fun x:Comp=>x.1) (withM l y) (newP a (changeM a b) (j+1)):=by
 have hm:y∈newM a.2 b.2:=List.mem_of_getElem? hy
 have h2:(findC a.2 y.1).2=false:=by have:=(List.mem_filter.1 hm).2; simpa using this
 have hna:=Z5f h2
 have rise:((changeM a b).2.2.1).Pairwise fun a b=>a.1 < b.1:=(Zdh hb).filter _
 have fr:=Zha (key:=fun x:Comp=>x.1) rise hy
 refine ⟨hna,(h.withC y).iff fun x=>?_⟩
 unfold newP
 rw [Zn hy]
 constructor
 ·rintro (e | ⟨g | g,_⟩)
  ·exact .inr (.inr e)
  ·exact .inl g
  ·exact .inr (.inl g)
 ·rintro (g | g | e)
  ·exact .inr ⟨.inl g,hna x g.1⟩
  ·exact .inr ⟨.inr g,by have:=fr x g; omega⟩
  ·exact .inl e
theorem Z10n {l:List Comp} {d:Chg} {n:Nat} (hn:d.2.2.1.length≤n) (h:Holds (fun x:Comp=>x.1) l (newP a d n)):Holds (fun x:Comp=>x.1) l (setP a d 0) :=
 h.iff fun x=>by
  unfold newP setP
  rw [List.take_of_length_le hn,List.take_zero]
  constructor
  ·rintro (g | g)
   ·exact .inl ⟨g.1,g.2,fun y hy=>by cases hy⟩
   ·exact .inr (.inl g)
  ·rintro (g | g | g)
   ·exact .inl ⟨g.1,g.2.1⟩
   ·exact .inr g
   ·cases g
theorem Zwd {l:List Comp} (ha:listE a.2=0) (hb:listE b.2=0) {j:Nat} {y:Comp} (hy:(changeM a b).2.2.2[j]?=some y) (h:Holds (fun x:Comp=>x.1) l (setP a (changeM a b) j)) :
  (∃ x∈l,x.1=y.1)∧Holds (fun x:Comp=>x.1) (withM l y) (setP a (changeM a b) (j+1)):=by
 have hm:y∈chM a.2 b.2:=List.mem_of_getElem? hy
 obtain ⟨hyb,h2⟩:=List.mem_filter.1 hm
 have hf:(findC a.2 y.1).2=true:=by
  cases hc:(findC a.2 y.1).2 with
  | true=>rfl
  | false=>rw [hc] at h2; simp at h2
 obtain ⟨h3,h4⟩:=Z1p hf
 have rise:((changeM a b).2.2.2).Pairwise fun a b=>a.1 < b.1:=(Zdh hb).filter _
 have fr:=Zha (key:=fun x:Comp=>x.1) rise hy
 have kb:=Zom hb y hyb
 have notlost:∀ x:Comp,x.1=y.1→(changeM a b).2.1.toNat.testBit x.1.toNat=false:=fun x e=>by
  show (lostM a.2 b.2).toNat.testBit x.1.toNat=false
  rw [e,Zbj _ _ (by omega)]
  have:has b.2 y.1.toNat=true:=Zcd.2 ⟨y,hyb,by omega⟩
  rw [this]; simp
 refine ⟨⟨_,(h.mem _).2 (.inl ⟨h3,notlost _ h4,fun z hz e=>by have:=fr z hz; omega⟩),h4⟩,(h.withC y).iff fun x=>?_⟩
 have newk:∀ x∈(changeM a b).2.2.1,x.1≠y.1:=fun x hx e=>by
  have h5:(findC a.2 x.1).2=false:=by have:=(List.mem_filter.1 (show x∈newM a.2 b.2 from hx)).2; simpa using this
  exact Z5f h5 _ h3 (by rw [h4,e])
 unfold setP
 rw [Zn hy]
 constructor
 ·rintro (e | ⟨g | g | g,hn⟩)
  ·exact .inr (.inr (.inr e))
  ·refine .inl ⟨g.1,g.2.1,fun z hz=>?_⟩
   rcases (Zn hy).1 hz with q | q
   ·exact g.2.2 z q
   ·rw [q]; exact fun e=>hn e.symm
  ·exact .inr (.inl g)
  ·exact .inr (.inr (.inl g))
 ·rintro (g | g | g | e)
  ·exact .inr ⟨.inl ⟨g.1,g.2.1,fun z hz=>g.2.2 z ((Zn hy).2 (.inl hz))⟩,fun e=>g.2.2 y ((Zn hy).2 (.inr rfl)) e.symm⟩
  ·exact .inr ⟨.inr (.inl g),newk x g⟩
  ·exact .inr ⟨.inr (.inr g),by have:=fr x g; omega⟩
  ·exact .inl e
theorem Zy7 {l:List Comp} (ha:listE a.2=0) (hb:listE b.2=0) {n:Nat} (hn:(changeM a b).2.2.2.length≤n) (h:Holds (fun x:Comp=>x.1) l (setP a (changeM a b) n)):l=b.2:=by
 refine h.uniq ⟨Zdh hb,fun x=>?_⟩
 rw [Zdb ha hb x]
 unfold setP
 rw [List.take_of_length_le hn]
 constructor
 ·rintro (g | g | g)
  ·exact .inr (.inl g)
  ·exact .inr (.inr g)
  ·exact .inl ⟨g.1,g.2.1,g.2.2⟩
 ·rintro (g | g | g)
  ·exact .inr (.inr ⟨g.1,g.2.1,g.2.2⟩)
  ·exact .inl g
  ·exact .inr (.inl g)
end
section
variable {was now:List Ent} {gone:List Int} {come:List Ent} {chg:List Chg}
def goneP1 (was:List Ent) (gone:List Int) (j:Nat) (e:Ent):Prop:=e∈was∧e.1 ∉ gone.take j
def chgP (was now:List Ent) (gone:List Int) (chg:List Chg) (j:Nat) (e:Ent):Prop:=(e∈was∧e.1 ∉ gone∧∀ d∈chg.take j,d.1≠e.1)∨(e∈now∧∃ d∈chg.take j,d.1=e.1)
def comeP (was now:List Ent) (come:List Ent) (j:Nat) (e:Ent):Prop:=e∈now∧(hasE was e.1=true∨e∈come.take j)
theorem Zxf (hw:FormOk was) (gone:List Int):Holds (fun x:Ent=>x.1) was (goneP1 was gone 0):=⟨hw.rise,fun x=>⟨fun h=>⟨h,by rw [List.take_zero]; simp⟩,fun h=>h.1⟩⟩
theorem Zv7 (hw:FormOk was) (now:List Ent):(goneM was now).Pairwise fun a b=>a < b:=by
 unfold goneM
 rw [List.pairwise_map]
 exact hw.rise.filter _
theorem Zkf {id:Int}:id∈goneM was now↔(∃ a∈was,a.1=id)∧hasE now id=false:=by
 unfold goneM
 rw [List.mem_map]
 constructor
 ·rintro ⟨a,h,e⟩
  obtain ⟨h1,h2⟩:=List.mem_filter.1 h
  rw [e] at h2
  exact ⟨⟨a,h1,e⟩,by simpa using h2⟩
 ·rintro ⟨⟨a,h,e⟩,h2⟩
  exact ⟨a,List.mem_filter.2 ⟨h,by rw [e,h2]; rfl⟩,e⟩
theorem Zlc (hw:FormOk was) (hp:PatchOk was gone come chg now) {L:List Ent} {j:Nat} {id:Int} (hj:gone[j]?=some id) (h:Holds (fun x:Ent=>x.1) L (goneP1 was gone j)) :
  (∃ x∈L,x.1=id)∧∀ i x,L[i]?=some x→x.1=id→Holds (fun x:Ent=>x.1) (L.take i ++ L.drop (i+1)) (goneP1 was gone (j+1)):=by
 obtain ⟨hn,rfl,rfl,rfl⟩:=hp
 have fr:=Zha (key:=fun x:Int=>x) (Zv7 hw now) hj
 obtain ⟨⟨a,ha,e⟩,_⟩:=Zkf.1 (List.mem_of_getElem? hj)
 refine ⟨⟨a,(h.mem a).2 ⟨ha,fun hh=>by have:=fr _ hh; omega⟩,e⟩,fun i x hx hid=>(h.cut hx).iff fun y=>?_⟩
 unfold goneP1
 rw [Zn hj,hid]
 constructor
 ·rintro ⟨⟨g1,g2⟩,g3⟩
  exact ⟨g1,fun g=>g.elim g2 g3⟩
 ·rintro ⟨g1,g2⟩
  exact ⟨⟨g1,fun g=>g2 (.inl g)⟩,fun g=>g2 (.inr g)⟩
theorem Zum {c:Chg} (h:c∈chgsM was now):∃ a∈was,∃ b∈now,a.1=b.1∧c.1=b.1∧c=changeM a b:=by
 obtain ⟨b,hb,h2⟩:=List.mem_filterMap.1 h
 obtain ⟨g1,a,ha,g2,g3,_⟩:=Z5k h2
 exact ⟨a,ha,b,hb,g2,g1,g3⟩
theorem Zpv:∀ {now:List Ent},(now.Pairwise fun a b=>a.1 < b.1)→(chgsM was now).Pairwise fun a b=>a.1 < b.1
 | [],_=>List.Pairwise.nil
 | x :: r,h=>by
  obtain ⟨h1,h2⟩:=List.pairwise_cons.1 h
  have ih:=Zpv h2
  unfold chgsM at ih ⊢
  rw [List.filterMap_cons]
  split
  ·exact ih
  ·rename_i d hd
   refine List.pairwise_cons.2 ⟨fun c hc=>?_,ih⟩
   obtain ⟨b,hb,hcb⟩:=List.mem_filterMap.1 hc
   rw [(Z5k hd).1,(Z5k hcb).1]
   exact h1 b hb
theorem Z105 {L:List Ent} {n:Nat} (hn:gone.length≤n) (now:List Ent) (chg:List Chg) (h:Holds (fun x:Ent=>x.1) L (goneP1 was gone n)):Holds (fun x:Ent=>x.1) L (chgP was now gone chg 0) :=
 h.iff fun x=>by
  unfold goneP1 chgP
  rw [List.take_of_length_le hn,List.take_zero]
  constructor
  ·rintro ⟨g1,g2⟩
   exact .inl ⟨g1,g2,fun d hd=>by cases hd⟩
  ·rintro (g | ⟨_,d,hd,_⟩)
   ·exact ⟨g.1,g.2.1⟩
   ·cases hd
theorem Zpu (hw:FormOk was) (hp:PatchOk was gone come chg now) {L:List Ent} {j:Nat} {c:Chg} (hj:chg[j]?=some c) (h:Holds (fun x:Ent=>x.1) L (chgP was now gone chg j)) :
  ∃ a b,a∈was∧b∈now∧a.1=c.1∧c=changeM a b∧listE a.2=0∧listE b.2=0∧a∈L∧∀ (i:Nat) x,L[i]?=some x→x.1=c.1→x=a∧Holds (fun x:Ent=>x.1) (L.set i (x.1,b.2)) (chgP was now gone chg (j+1)):=by
 obtain ⟨hn,rfl,rfl,rfl⟩:=hp
 have fr:=Zha (key:=fun x:Chg=>x.1) (Zpv hn.rise) hj
 obtain ⟨a,ha,b,hb,e1,e2,e3⟩:=Zum (List.mem_of_getElem? hj)
 have hal:a∈L:=(h.mem a).2 (.inl ⟨ha,fun hg=>by
  have:=(Zkf.1 hg).2
  rw [Z4x] at this
  exact this b hb e1.symm,fun d hd=>by have:=fr d hd; omega⟩)
 refine ⟨a,b,ha,hb,by omega,e3,hw.list ha,hn.list hb,hal,fun i x hx hid=>?_⟩
 have hxa:x=a:=Zte h.rise (List.mem_of_getElem? hx) hal (by show x.1=a.1; omega)
 subst hxa
 have hbe:((x.1,b.2):Ent)=b:=Prod.ext e1 rfl
 rw [hbe]
 refine ⟨rfl,(h.set hx (b:=b) e1.symm).iff fun y=>?_⟩
 unfold chgP
 constructor
 ·rintro (g | ⟨g | g,hne⟩)
  ·rw [g]; exact .inr ⟨hb,c,(Zn hj).2 (.inr rfl),e2⟩
  ·refine .inl ⟨g.1,g.2.1,fun d hd=>?_⟩
   rcases (Zn hj).1 hd with q | q
   ·exact g.2.2 d q
   ·rw [q]; omega
  ·obtain ⟨g1,d,hd,g2⟩:=g
   exact .inr ⟨g1,d,(Zn hj).2 (.inl hd),g2⟩
 ·rintro (g | g)
  ·refine .inr ⟨.inl ⟨g.1,g.2.1,fun d hd=>g.2.2 d ((Zn hj).2 (.inl hd))⟩,fun e=>g.2.2 c ((Zn hj).2 (.inr rfl)) (by omega)⟩
  ·obtain ⟨g1,d,hd,g2⟩:=g
   rcases (Zn hj).1 hd with q | q
   ·refine .inr ⟨.inr ⟨g1,d,q,g2⟩,fun e=>?_⟩
    have:=fr d q
    omega
   ·exact .inl (Znf hn.rise g1 hb (by rw [← g2,q,e2]))
theorem Zz5 (hw:FormOk was) (hp:PatchOk was gone come chg now) {L:List Ent} {n:Nat} (hl:chg.length≤n) (h:Holds (fun x:Ent=>x.1) L (chgP was now gone chg n)):Holds (fun x:Ent=>x.1) L (comeP was now come 0):=by
 obtain ⟨hn,rfl,rfl,rfl⟩:=hp
 refine h.iff fun x=>?_
 unfold chgP comeP
 rw [List.take_of_length_le hl,List.take_zero]
 constructor
 ·rintro (g | ⟨g,d,hd,e⟩)
  ·have hh:hasE now x.1=true:=Classical.byContradiction fun hx=>g.2.1 (Zkf.2 ⟨⟨x,g.1,rfl⟩,by simpa using hx⟩)
   obtain ⟨b,hb,e⟩:=Z2y.1 hh
   have:=Zoc hw hn g.1 hb e.symm g.2.2
   rw [this]
   exact ⟨hb,.inl (Z2y.2 ⟨x,g.1,by rw [e]⟩)⟩
  ·obtain ⟨a,ha,b,hb,e1,e2,_⟩:=Zum hd
   exact ⟨g,.inl (Z2y.2 ⟨a,ha,by omega⟩)⟩
 ·rintro ⟨g,g2 | g2⟩
  ·by_cases hd:∃ d∈chgsM was now,d.1=x.1
   ·exact .inr ⟨g,hd⟩
   ·obtain ⟨a,ha,e⟩:=Z2y.1 g2
    have hd2:∀ d∈chgsM was now,d.1≠a.1:=fun d h1 h2=>hd ⟨d,h1,by omega⟩
    have:=Zoc hw hn ha g e hd2
    subst this
    refine .inl ⟨ha,fun hg=>?_,hd2⟩
    have:=(Zkf.1 hg).2
    rw [Z4x] at this
    exact this a g rfl
  ·cases g2
theorem Ztu (hp:PatchOk was gone come chg now) {L:List Ent} {j:Nat} {e:Ent} (hj:come[j]?=some e) (h:Holds (fun x:Ent=>x.1) L (comeP was now come j)) :
  (∀ x∈was,x.1≠e.1)∧Holds (fun x:Ent=>x.1) (insG e false L) (comeP was now come (j+1)):=by
 obtain ⟨hn,rfl,rfl,rfl⟩:=hp
 have rise:(comeM was now).Pairwise fun a b=>a.1 < b.1:=hn.rise.filter _
 have fr:=Zha (key:=fun x:Ent=>x.1) rise hj
 obtain ⟨h1,h2⟩:=List.mem_filter.1 (List.mem_of_getElem? hj)
 have h2:hasE was e.1=false:=by simpa using h2
 refine ⟨fun x hx=>Z4x.1 h2 x hx,(h.ins e fun x hx he=>?_).iff fun x=>?_⟩
 ·obtain ⟨g1,g | g⟩:=hx
  ·rw [he,h2] at g; cases g
  ·have:=fr x g; omega
 ·unfold comeP
  rw [Zn hj]
  constructor
  ·rintro (g | ⟨g1,g | g⟩)
   ·rw [g]; exact ⟨h1,.inr (.inr rfl)⟩
   ·exact ⟨g1,.inl g⟩
   ·exact ⟨g1,.inr (.inl g)⟩
  ·rintro ⟨g1,g | g | g⟩
   ·exact .inr ⟨g1,.inl g⟩
   ·exact .inr ⟨g1,.inr g⟩
   ·exact .inl g
theorem Zur (hp:PatchOk was gone come chg now) {L:List Ent} {n:Nat} (hl:come.length≤n) (h:Holds (fun x:Ent=>x.1) L (comeP was now come n)):L=now:=by
 obtain ⟨hn,rfl,rfl,rfl⟩:=hp
 refine h.uniq ⟨hn.rise,fun x=>?_⟩
 unfold comeP
 rw [List.take_of_length_le hl]
 constructor
 ·intro g
  refine ⟨g,?_⟩
  by_cases hh:hasE was x.1=true
  ·exact .inl hh
  ·exact .inr (List.mem_filter.2 ⟨g,by simpa using hh⟩)
 ·exact fun g=>g.1
end
end Go.Proofs.YtchhhjlpnecjkaaGreat
namespace Go.Proofs.YtchhhjlpnecjkaaGreat
open Go Go.RowKit Go.ChangeShapes Go.WideShapes Go.ChangeAt Go.Proofs.YtchhhjlpnecjkaaGreat.Den
variable {R:Type} {Q:R→World→Prop} {w:World} {H:Type} {enc:TypeId × Value→H}
theorem Den.deep_of {α β:Type} {p:α→β→Prop} {l:List α} (h:∀ a∈l,∃ b,p a b):∃ k,All2 p l k:=by
 induction l with
 | nil=>exact ⟨[],All2.nil _⟩
 | cons a r ih =>
  obtain ⟨b,hb⟩:=h a List.mem_cons_self
  obtain ⟨k,hk⟩:=ih fun x hx=>h x (List.mem_cons_of_mem _ hx)
  refine ⟨b :: k,by simp [hk.len],fun i x y h1 h2=>?_⟩
  rcases i with _ | i
  ·simp at h1 h2; subst h1; subst h2; exact hb
  ·simp at h1 h2; exact hk.at_ i x y h1 h2
abbrev Old (W:World):Nat→Prop:=fun k=>k < W.heap.size
theorem Ztv {s:Sl} (h:LeafOk enc Tryz.prog w 55 (.slice s.a s.n s.c)):∃ l,SlT (Old w) w compT s l∧(∀ c∈l,CompOk c)∧s.c≤maxLen:=by
 obtain ⟨s',l,e,h2,h3,h4⟩:=h.slice Zut
 have e':s=s':=by
  have e:Value.slice s.a s.n s.c=Value.slice s'.a s'.n s'.c:=e
  simp only [Value.slice.injEq] at e
  obtain ⟨e1,e2,e3⟩:=e
  cases s; cases s'; simp_all
 subst e'
 exact ⟨l,h2,fun c hc=>Zz7 (h4 c hc),h3⟩
end Go.Proofs.YtchhhjlpnecjkaaGreat
namespace Go.Proofs.YtchhhjlpnecjkaaGreat
open Go Go.RowKit Go.ChangeShapes Go.WideShapes Go.ChangeAt Go.Proofs.YtchhhjlpnecjkaaGreat.Den
variable {R:Type} {Q:R→World→Prop} {w:World} {H:Type} {enc:TypeId × Value→H}
theorem Zx9:SlArg Tryz.prog 23 57 entT [54,55] :=
 ⟨by kernel_rfl,by kernel_rfl,by decide,by kernel_rfl,⟨[.int .u32,.sl],by kernel_rfl,.inl rfl⟩⟩
structure EntIn (W:World) (r:Int × Sl) (e:Ent):Prop where
 id:r.1=e.1
 sl:SlT (Old W) W compT r.2 e.2
 ok:IdOk e.1
 comps:∀ c∈e.2,CompOk c
 cap:r.2.c≤maxLen
theorem Zzb {raws:List (Int × Sl)} (h:∀ r∈raws,AllLeaf enc Tryz.prog w [54,55] (entT.cells r)):∃ L,All2 (EntIn w) raws L:=deep_of fun r hr=>by
 obtain ⟨_,h⟩:=h r hr
 obtain ⟨_,e,h0⟩:=(h 0 _ _ rfl rfl).int Z109
 cases e
 obtain ⟨l,h1,h2,h3⟩:=Ztv (s:=r.2) (h 1 _ _ rfl rfl)
 exact ⟨(r.1,l),rfl,h1,Z10o h0,h2,h3⟩
theorem EntIn.ents {raws:List (Int × Sl)} {L:List Ent} (h:All2 (EntIn w) raws L):EntsR (Old w) w raws L:=⟨h.len,fun i r e h1 h2=>⟨(h.at_ i r e h1 h2).id,(h.at_ i r e h1 h2).sl⟩⟩
end Go.Proofs.YtchhhjlpnecjkaaGreat
namespace Go.Proofs.YtchhhjlpnecjkaaGreat
open Go Go.RowKit Go.ChangeShapes Go.WideShapes Go.ChangeAt Go.Deep Go.Proofs.YtchhhjlpnecjkaaGreat.Den
variable {w:World} {H:Type} {enc:TypeId × Value→H}
theorem Zsh:∀ (l:List (DataW H)),l.length≤Rows.uptoBulkAll l
 | []=>by simp [Rows.uptoBulkAll]
 | d :: r=>by
  have h1:1≤Rows.uptoBulk d:=by
   cases d with
   | lit l=>cases l <;> simp [Rows.uptoBulk]
   | _=>simp [Rows.uptoBulk]
  have:=Zsh r
  simp only [Rows.uptoBulkAll,List.length_cons]
  omega
theorem Zpt {d:DataW H}:∀ {l:List (DataW H)},d∈l→Rows.uptoBulk d≤Rows.uptoBulkAll l
 | [],h=>by cases h
 | x :: r,h=>by
  simp only [Rows.uptoBulkAll]
  rcases List.mem_cons.1 h with rfl | h
  ·omega
  ·have:=Zpt h; omega
theorem Zsi {α:Type} (D:α→DataW H) (f:α→Nat):∀ (l:List α),(∀ a∈l,f a≤Rows.uptoBulk (D a))→(l.map f).sum≤Rows.uptoBulkAll (l.map D)
 | [],_=>by simp
 | a :: r,h=>by
  have:=Zsi D f r fun x hx=>h x (List.mem_cons_of_mem _ hx)
  have:=h a List.mem_cons_self
  simp only [List.map_cons,List.sum_cons,Rows.uptoBulkAll]
  omega
theorem Zu9 {t e:TypeId} (hu:Tryz.prog.underlying t=some (.slice e)) {fuel:Nat} {s:Sl} {x:DataW H × List MemPlace} (h:DataW.trod enc Tryz.prog w 0 (fun _=>true) true fuel t [.slice s.a s.n s.c]=some x):s.n≤Rows.uptoBulk x.1:=by
 rcases open_slice hu h with ⟨hc,_⟩ | ⟨a,len,cap,m,n,D,Pl,hc,_,_,_,_,rfl,_⟩
 ·injection hc with hc
  injection hc with _ h1
  omega
 ·injection hc with hc
  injection hc with _ h1
  have:=Zsh ((List.range len).map D)
  simp only [Rows.uptoBulk,List.length_map,List.length_range] at this ⊢
  omega
def entUndB (P:Program) (t c:TypeId):Bool:=match P.underlying t with
 | some (.struct fs)=>Nat.beq fs.size 2 && (match fs[1]? with
  | some f=>Nat.beq f.type c && Nat.beq f.offset 1
  | none=>false)
 | _=>false
theorem Zx7:entUndB Tryz.prog 57 55=true:=by kernel_rfl
theorem Zza:∃ fs:Array Field,∃ f1:Field,Tryz.prog.underlying 57=some (.struct fs)∧fs.size=2∧fs[1]?=some f1∧f1.type=55∧f1.offset=1:=by
 have h:=Zx7
 unfold entUndB at h
 split at h
 ·rename_i fs hu
  rw [Bool.and_eq_true] at h
  obtain ⟨h1,h2⟩:=h
  split at h2
  ·rename_i f hf
   rw [Bool.and_eq_true] at h2
   exact ⟨fs,f,hu,Nat.eq_of_beq_eq_true h1,hf,Nat.eq_of_beq_eq_true h2.1,Nat.eq_of_beq_eq_true h2.2⟩
  ·cases h2
 ·cases h
theorem Zx6 {fuel:Nat} {r:Int × Sl} {x:DataW H × List MemPlace} (h:DataW.trod enc Tryz.prog w 0 (fun _=>true) true fuel 57 (entC r)=some x):r.2.n+1≤Rows.uptoBulk x.1:=by
 obtain ⟨fs,f1,hu,hsz,hf1,ht,ho⟩:=Zza
 obtain ⟨xs,n,_,rfl,_,hl,hx⟩:=DataW.trod_struct hu h
 have h1:=hx 1 f1 hf1
 rw [ht,ho] at h1
 have hl:xs.length=2:=by omega
 have hc:Tryz.prog.cellsOf 55=1:=by kernel_rfl
 rw [hc,List.getElem?_eq_getElem (by omega)] at h1
 have h2:=Zu9 (s:=r.2) Z26.under h1
 have h3:=Zpt (List.mem_map.2 ⟨xs[1],List.getElem_mem (by omega),rfl⟩:xs[1].1∈xs.map (·.1))
 simp only [Rows.uptoBulk]
 omega
theorem Zw5 (raws:List (Int × Sl)) (len:Nat) (h:len=raws.length):(List.range len).map (fun i=>((raws[i]?).map fun r=>r.2.n+1).getD 0)=raws.map fun r=>r.2.n+1:=by
 apply List.ext_getElem (by simp [h])
 intro i h1 h2
 have hi:i < raws.length:=by simpa using h2
 rw [List.getElem_map,List.getElem_map,List.getElem_range,List.getElem?_eq_getElem hi]
 rfl
theorem Zuz {v:Value} {d:DataW H} {p:List MemPlace} (h:DataW.Trod enc Tryz.prog w 0 (fun _=>true) true 23 v d p) {s:Sl} {raws:List (Int × Sl)} (hv:v=s.v) (hS:SlT (Old w) w entT s raws):(raws.map fun r=>r.2.n+1).sum≤Rows.uptoBulk d:=by
 obtain ⟨fuel,h⟩:=h
 subst hv
 rcases open_slice Z5m.under h with ⟨hc,hx⟩ | ⟨a,len,cap,m,n,D,Pl,hc,_,hlc,_,hm,hx,hel⟩
 ·have hc:[Value.slice s.a s.n s.c]=[.slice none 0 0]:=hc
  injection hc with hc
  injection hc with _ h1
  have:=hS.len
  have:raws=[]:=List.length_eq_zero_iff.1 (by omega)
  subst this
  simp
 ·have hc:[Value.slice s.a s.n s.c]=[.slice (some a) len cap]:=hc
  injection hc with hc
  injection hc with ha h1
  have hm:m=cap:=by simpa using hm
  have hrl:=hS.len
  injection hx with hx1
  subst hx1
  have key:∀ i∈List.range len,((raws[i]?).map fun r=>r.2.n+1).getD 0≤Rows.uptoBulk (D i):=by
   intro i hi
   have hi:=List.mem_range.1 hi
   obtain ⟨cs',g1,g2⟩:=hel i (by omega)
   obtain ⟨g3,g4⟩:=Zsj g1
   have hrx:=List.getElem?_eq_getElem (l:=raws) (i:=i) (by omega)
   have e:cs'=entC raws[i]:=by
    rcases hS.at_ with e | ⟨b,o,hb,_,_,hr⟩
    ·rw [e] at hrl; simp at hrl; omega
    ·have hr:=Rd.cells.1 (hr i _ hrx)
     rw [hb] at ha
     have ha:=Option.some.inj ha
     have hsz:Tryz.prog.cellsOf 57=2:=by kernel_rfl
     rw [hsz,← ha,add_lit] at g4
     rw [hsz] at g3
     apply List.ext_getElem?
     intro j
     by_cases hj:j < 2
     ·have e1:=g4 j _ (List.getElem?_eq_getElem (by omega))
      have hl2:(entT.cells raws[i]).length=2:=entT.cells_len _
      have e2:=hr j _ (List.getElem?_eq_getElem (by omega))
      have:i * entT.size=i * 2:=rfl
      rw [this] at e2
      rw [e2] at e1
      rw [List.getElem?_eq_getElem (by omega)]
      have e1:=Option.some.inj e1
      rw [← e1]
      exact (List.getElem?_eq_getElem (by omega)).symm
     ·have hl2:(entC raws[i]).length=2:=rfl
      have a1:cs'[j]?=none:=List.getElem?_eq_none (by omega)
      have a2:(entC raws[i])[j]?=none:=List.getElem?_eq_none (by omega)
      exact a1.trans a2.symm
   rw [e] at g2
   rw [hrx]
   exact Zx6 g2
  have hs:=Zsi D (fun i=>((raws[i]?).map fun r=>r.2.n+1).getD 0) (List.range len) key
  rw [Zw5 raws len (by omega)] at hs
  simp only [Rows.uptoBulk]
  omega
end Go.Proofs.YtchhhjlpnecjkaaGreat
namespace Go.Proofs.YtchhhjlpnecjkaaGreat
open Go Go.RowKit Go.Proofs.YtchhhjlpnecjkaaGreat.Den
variable {R:Type} {Q:R→World→Prop} {w:World}
theorem Zad {ok:Nat→Prop} {s:Sl} {raws:List (Int × Sl)} {L:List Ent} (hS:SlT ok w entT s raws) (hE:EntsR ok w raws L) (hm:L.length≤1048576) (hL:∀ e∈L,Small e.2) {K:Res [.sc .sl]→W R}
  (hk:∀ r raws' w',Own (Up w.heap.size) w' 57 entT r raws'→EntsR (Up w.heap.size) w' raws' L→Fr None w w'→K r Q w') :
  callW Tryz.prog Z0 [.slice s.a s.n s.c] [.sc .sl] K Q w:=by
 refine Z7a s K Q w ?_
 unfold Z4m
 have hlen:=hS.len
 have hel:=hE.len
 refine forI (N:=s.n) (fun s:Sl × Int=>s.2) (fun j st w'=>st.2=(j:Int)∧(∃ rs,rs.length=j∧Own (fun k=>w.heap.size≤k) w' 57 entT st.1 rs∧EntsR (fun k=>w.heap.size≤k∧st.1.v.ownBlock≠some k) w' rs (L.take j))∧Fr None w w') ⟨rfl,⟨[],rfl,Own.nil _ _ _ _,by rw [List.take_zero]; exact EntsR.nil _ _⟩,Fr.refl _ _⟩ (fun j s w' h=>h.1) ?_ ?_
 ·rintro j ⟨z,_⟩ w1 K' hj ⟨rfl,⟨rs,hrs,o1,E1⟩,f1⟩ - hK
  have hs1:=f1.size
  obtain ⟨e,he⟩:∃ e,L[j]?=some e:=⟨_,List.getElem?_eq_getElem (by omega)⟩
  obtain ⟨r1,hr1,ha1,ha2⟩:=hE.get he
  refine (hS.fr0 f1).get rfl rfl (by omega) fun y hy=>?_
  rw [hr1] at hy
  cases hy
  refine newI fun w2 B2 f2 s2=>stoAll B2 rfl rfl fun w3 B3 f3 s3=>?_
  have f13:Fr None w1 w3:=f2.newer f3 fun k e=>by omega
  have fd:Fr None w3 w3.drew:=(Fr.refl _ _).drew
  have f1d:=f13.then0 fd
  have Bd:=B3.fr fd fun h=>h
  have hs3:=f1d.size
  refine fldI Bd (i:=0) (x:=r1.1) rfl (fldI Bd (i:=1) (x:=r1.2) rfl ?_)
  refine Zd5 (ha2.fr0 (f1.then0 f1d)) (hL e (List.mem_of_getElem? he)) fun t w4 o4 f4=>?_
  refine andI ((Bd.fr f4 fun h=>h).rd (s:=.int .u32) (i:=0) (x:=r1.1) rfl) ?_
  have f14:=f1d.then0 f4
  have hs4:=f4.size
  have oz:Own (fun k=>w.heap.size≤k∧(z.v.ownBlock=some k∨w4.heap.size≤k)) w4 57 entT z rs:=⟨(o1.none f14).row,fun k e=>⟨o1.own k e,.inl e⟩⟩
  refine appP (x:=((r1.1,t):Int × Sl)) Z5m rfl oz (fun k e=>⟨by omega,.inr e⟩) (by omega) (by omega) fun r w5 o5 f5=>?_
  have hzl:∀ k,z.v.ownBlock=some k→k < w1.heap.size:=fun k e=>(o1.row.lt k e).2
  have E4:EntsR (fun k=>(w.heap.size≤k∧z.v.ownBlock≠some k)∧k < w1.heap.size) w5 rs (L.take j):=((E1.mono (ok':=fun k=>(w.heap.size≤k∧z.v.ownBlock≠some k)∧k < w1.heap.size) fun k hk e=>⟨e,hk⟩).fr f14 fun _ _ h=>h).fr f5 fun k e e2=>e.1.2 e2
  have t5:SlT (fun k=>w3.drew.heap.size≤k∧k < w4.heap.size) w5 compT t e.2:=(o4.mono (S':=fun k=>w3.drew.heap.size≤k∧k < w4.heap.size) fun k hk e=>⟨e,hk⟩).sl.fr f5 fun k e e2=>by have:=hzl k e2; omega
  refine hK _ _ ⟨wsucc hj (by omega),⟨rs ++ [(r1.1,t)],by simp [hrs],o5.mono fun k _ e=>e.1,?_⟩,(f1.then0 f14).newer f5 fun k e=>o1.own k e⟩
  have ro:∀ k,r.v.ownBlock=some k→z.v.ownBlock=some k∨w4.heap.size≤k:=fun k e=>(o5.own k e).2
  refine ⟨by simp [hrs]; omega,fun q rq eq h1 h2=>?_⟩
  rw [Z8 he] at h2
  rcases Nat.lt_or_ge q j with hq | hq
  ·rw [List.getElem?_append_left (by omega)] at h1
   rw [List.getElem?_append_left (by simp; omega)] at h2
   obtain ⟨x1,x2⟩:=E4.at_ q rq eq h1 h2
   refine ⟨x1,x2.mono fun k _ e=>⟨e.1.1,fun e2=>?_⟩⟩
   rcases ro k e2 with h | h
   ·exact e.1.2 h
   ·have:=e.2; omega
  ·have hlt:=(List.getElem?_eq_some_iff.1 h1).1
   have:q=j:=by simp [hrs] at hlt; omega
   subst this
   rw [List.getElem?_append_right (by omega)] at h1
   rw [List.getElem?_append_right (by simp; omega)] at h2
   simp [hrs] at h1
   have h2:eq=e:=by
    have:q - (L.take q).length=0:=by simp; omega
    rw [this] at h2
    simpa using h2.symm
   subst h1; subst h2
   refine ⟨ha1,t5.mono fun k _ e=>⟨by omega,fun e2=>?_⟩⟩
   rcases ro k e2 with h | h
   ·have:=hzl k h; omega
   ·omega
 ·rintro ⟨z,_⟩ w1 ⟨_,⟨rs,hrs,o1,E1⟩,f1⟩
  rw [List.take_of_length_le (by omega)] at E1
  exact hk z rs w1 o1 (E1.mono fun k _ e=>e.1) f1
end Go.Proofs.YtchhhjlpnecjkaaGreat
set_option linter.unusedVariables false
namespace Go.Proofs.YtchhhjlpnecjkaaGreat
open Go Go.Proofs.YtchhhjlpnecjkaaGreat.Den
def Z4f (d0:Sl) (o1:Sl):W (Bool) :=
 callW Tryz.prog Z4p [] [.sc .bool] fun (x_1:Bool) =>
 cond (!x_1)
  (retW false)
  (callW Tryz.prog Z5s [.slice o1.a o1.n o1.c] [.sc .bool] fun (x_2:Bool) =>
 cond (!x_2)
  (retW true)
  (slcW d0.a d0.n d0.c 1 none (some (if 400 < (d0.n:Int) then 400 else (d0.n:Int))) fun x_3 =>
 joinW (σ:=Sl × Sl) (fun J_4 =>
  drawW <|
  bothW
   (newW 5 [] fun x_5 =>
   rawW Tryz.prog (Builtin.append_ #[22,22] 22 #[.slice (some x_5) 0 0,.slice x_3.a x_3.n x_3.c]) [.sc .sl] fun (x_6:Sl) =>
   newW 5 [.int .u8 165] fun x_7 =>
   rawW Tryz.prog (Builtin.append_ #[22,22] 22 #[.slice x_6.a x_6.n x_6.c,.slice (some x_7) 1 1]) [.sc .sl] fun (x_8:Sl) =>
   slcW x_8.a x_8.n x_8.c 1 none (some (x_3.n:Int)) fun x_9 =>
   callW Tryz.prog Z0 [.slice o1.a o1.n o1.c] [.sc .sl] fun (x_10:Sl) =>
   J_4 (x_9,x_10))
   (bothW
   (newW 5 [] fun x_11 =>
   rawW Tryz.prog (Builtin.append_ #[22,22] 22 #[.slice (some x_11) 0 0,.slice x_3.a x_3.n x_3.c]) [.sc .sl] fun (x_12:Sl) =>
   newW 5 [.int .u8 165] fun x_13 =>
   rawW Tryz.prog (Builtin.append_ #[22,22] 22 #[.slice x_12.a x_12.n x_12.c,.slice (some x_13) 1 1]) [.sc .sl] fun (x_14:Sl) =>
   callW Tryz.prog Z0 [.slice o1.a o1.n o1.c] [.sc .sl] fun (x_15:Sl) =>
   slcW x_14.a x_14.n x_14.c 1 none (some (x_3.n:Int)) fun x_16 =>
   J_4 (x_16,x_15))
   (bothW
   (newW 5 [] fun x_17 =>
   rawW Tryz.prog (Builtin.append_ #[22,22] 22 #[.slice (some x_17) 0 0,.slice x_3.a x_3.n x_3.c]) [.sc .sl] fun (x_18:Sl) =>
   newW 5 [.int .u8 165] fun x_19 =>
   rawW Tryz.prog (Builtin.append_ #[22,22] 22 #[.slice x_18.a x_18.n x_18.c,.slice (some x_19) 1 1]) [.sc .sl] fun (x_20:Sl) =>
   slcW x_20.a x_20.n x_20.c 1 none (some (x_3.n:Int)) fun x_21 =>
   callW Tryz.prog Z0 [.slice o1.a o1.n o1.c] [.sc .sl] fun (x_22:Sl) =>
   J_4 (x_21,x_22))
   (bothW
   (newW 5 [] fun x_23 =>
   rawW Tryz.prog (Builtin.append_ #[22,22] 22 #[.slice (some x_23) 0 0,.slice x_3.a x_3.n x_3.c]) [.sc .sl] fun (x_24:Sl) =>
   newW 5 [.int .u8 165] fun x_25 =>
   rawW Tryz.prog (Builtin.append_ #[22,22] 22 #[.slice x_24.a x_24.n x_24.c,.slice (some x_25) 1 1]) [.sc .sl] fun (x_26:Sl) =>
   slcW x_26.a x_26.n x_26.c 1 none (some (x_3.n:Int)) fun x_27 =>
   callW Tryz.prog Z0 [.slice o1.a o1.n o1.c] [.sc .sl] fun (x_28:Sl) =>
   J_4 (x_27,x_28))
   (bothW
   (newW 5 [] fun x_29 =>
   rawW Tryz.prog (Builtin.append_ #[22,22] 22 #[.slice (some x_29) 0 0,.slice x_3.a x_3.n x_3.c]) [.sc .sl] fun (x_30:Sl) =>
   newW 5 [.int .u8 165] fun x_31 =>
   rawW Tryz.prog (Builtin.append_ #[22,22] 22 #[.slice x_30.a x_30.n x_30.c,.slice (some x_31) 1 1]) [.sc .sl] fun (x_32:Sl) =>
   slcW x_32.a x_32.n x_32.c 1 none (some (x_3.n:Int)) fun x_33 =>
   callW Tryz.prog Z0 [.slice o1.a o1.n o1.c] [.sc .sl] fun (x_34:Sl) =>
   J_4 (x_33,x_34))
   (bothW
   (newW 5 [] fun x_35 =>
   rawW Tryz.prog (Builtin.append_ #[22,22] 22 #[.slice (some x_35) 0 0,.slice x_3.a x_3.n x_3.c]) [.sc .sl] fun (x_36:Sl) =>
   newW 5 [.int .u8 165] fun x_37 =>
   rawW Tryz.prog (Builtin.append_ #[22,22] 22 #[.slice x_36.a x_36.n x_36.c,.slice (some x_37) 1 1]) [.sc .sl] fun (x_38:Sl) =>
   slcW x_38.a x_38.n x_38.c 1 none (some (x_3.n:Int)) fun x_39 =>
   callW Tryz.prog Z0 [.slice o1.a o1.n o1.c] [.sc .sl] fun (x_40:Sl) =>
   J_4 (x_39,x_40))
   (bothW
   (newW 5 [] fun x_41 =>
   newW 5 [.int .u8 165] fun x_42 =>
   rawW Tryz.prog (Builtin.append_ #[22,22] 22 #[.slice (some x_41) 0 0,.slice x_3.a x_3.n x_3.c]) [.sc .sl] fun (x_43:Sl) =>
   rawW Tryz.prog (Builtin.append_ #[22,22] 22 #[.slice x_43.a x_43.n x_43.c,.slice (some x_42) 1 1]) [.sc .sl] fun (x_44:Sl) =>
   slcW x_44.a x_44.n x_44.c 1 none (some (x_3.n:Int)) fun x_45 =>
   callW Tryz.prog Z0 [.slice o1.a o1.n o1.c] [.sc .sl] fun (x_46:Sl) =>
   J_4 (x_45,x_46))
   (bothW
   (newW 5 [] fun x_47 =>
   newW 5 [.int .u8 165] fun x_48 =>
   rawW Tryz.prog (Builtin.append_ #[22,22] 22 #[.slice (some x_47) 0 0,.slice x_3.a x_3.n x_3.c]) [.sc .sl] fun (x_49:Sl) =>
   rawW Tryz.prog (Builtin.append_ #[22,22] 22 #[.slice x_49.a x_49.n x_49.c,.slice (some x_48) 1 1]) [.sc .sl] fun (x_50:Sl) =>
   callW Tryz.prog Z0 [.slice o1.a o1.n o1.c] [.sc .sl] fun (x_51:Sl) =>
   slcW x_50.a x_50.n x_50.c 1 none (some (x_3.n:Int)) fun x_52 =>
   J_4 (x_52,x_51))
   (bothW
   (newW 5 [] fun x_53 =>
   newW 5 [.int .u8 165] fun x_54 =>
   rawW Tryz.prog (Builtin.append_ #[22,22] 22 #[.slice (some x_53) 0 0,.slice x_3.a x_3.n x_3.c]) [.sc .sl] fun (x_55:Sl) =>
   rawW Tryz.prog (Builtin.append_ #[22,22] 22 #[.slice x_55.a x_55.n x_55.c,.slice (some x_54) 1 1]) [.sc .sl] fun (x_56:Sl) =>
   slcW x_56.a x_56.n x_56.c 1 none (some (x_3.n:Int)) fun x_57 =>
   callW Tryz.prog Z0 [.slice o1.a o1.n o1.c] [.sc .sl] fun (x_58:Sl) =>
   J_4 (x_57,x_58))
   (bothW
   (newW 5 [] fun x_59 =>
   newW 5 [.int .u8 165] fun x_60 =>
   rawW Tryz.prog (Builtin.append_ #[22,22] 22 #[.slice (some x_59) 0 0,.slice x_3.a x_3.n x_3.c]) [.sc .sl] fun (x_61:Sl) =>
   rawW Tryz.prog (Builtin.append_ #[22,22] 22 #[.slice x_61.a x_61.n x_61.c,.slice (some x_60) 1 1]) [.sc .sl] fun (x_62:Sl) =>
   slcW x_62.a x_62.n x_62.c 1 none (some (x_3.n:Int)) fun x_63 =>
   callW Tryz.prog Z0 [.slice o1.a o1.n o1.c] [.sc .sl] fun (x_64:Sl) =>
   J_4 (x_63,x_64))
   (bothW
   (newW 5 [] fun x_65 =>
   newW 5 [.int .u8 165] fun x_66 =>
   rawW Tryz.prog (Builtin.append_ #[22,22] 22 #[.slice (some x_65) 0 0,.slice x_3.a x_3.n x_3.c]) [.sc .sl] fun (x_67:Sl) =>
   rawW Tryz.prog (Builtin.append_ #[22,22] 22 #[.slice x_67.a x_67.n x_67.c,.slice (some x_66) 1 1]) [.sc .sl] fun (x_68:Sl) =>
   slcW x_68.a x_68.n x_68.c 1 none (some (x_3.n:Int)) fun x_69 =>
   callW Tryz.prog Z0 [.slice o1.a o1.n o1.c] [.sc .sl] fun (x_70:Sl) =>
   J_4 (x_69,x_70))
   (bothW
   (newW 5 [] fun x_71 =>
   newW 5 [.int .u8 165] fun x_72 =>
   rawW Tryz.prog (Builtin.append_ #[22,22] 22 #[.slice (some x_71) 0 0,.slice x_3.a x_3.n x_3.c]) [.sc .sl] fun (x_73:Sl) =>
   rawW Tryz.prog (Builtin.append_ #[22,22] 22 #[.slice x_73.a x_73.n x_73.c,.slice (some x_72) 1 1]) [.sc .sl] fun (x_74:Sl) =>
   slcW x_74.a x_74.n x_74.c 1 none (some (x_3.n:Int)) fun x_75 =>
   callW Tryz.prog Z0 [.slice o1.a o1.n o1.c] [.sc .sl] fun (x_76:Sl) =>
   J_4 (x_75,x_76))
   (bothW
   (newW 5 [.int .u8 165] fun x_77 =>
   newW 5 [] fun x_78 =>
   rawW Tryz.prog (Builtin.append_ #[22,22] 22 #[.slice (some x_78) 0 0,.slice x_3.a x_3.n x_3.c]) [.sc .sl] fun (x_79:Sl) =>
   rawW Tryz.prog (Builtin.append_ #[22,22] 22 #[.slice x_79.a x_79.n x_79.c,.slice (some x_77) 1 1]) [.sc .sl] fun (x_80:Sl) =>
   slcW x_80.a x_80.n x_80.c 1 none (some (x_3.n:Int)) fun x_81 =>
   callW Tryz.prog Z0 [.slice o1.a o1.n o1.c] [.sc .sl] fun (x_82:Sl) =>
   J_4 (x_81,x_82))
   (bothW
   (newW 5 [.int .u8 165] fun x_83 =>
   newW 5 [] fun x_84 =>
   rawW Tryz.prog (Builtin.append_ #[22,22] 22 #[.slice (some x_84) 0 0,.slice x_3.a x_3.n x_3.c]) [.sc .sl] fun (x_85:Sl) =>
   rawW Tryz.prog (Builtin.append_ #[22,22] 22 #[.slice x_85.a x_85.n x_85.c,.slice (some x_83) 1 1]) [.sc .sl] fun (x_86:Sl) =>
   callW Tryz.prog Z0 [.slice o1.a o1.n o1.c] [.sc .sl] fun (x_87:Sl) =>
   slcW x_86.a x_86.n x_86.c 1 none (some (x_3.n:Int)) fun x_88 =>
   J_4 (x_88,x_87))
   (bothW
   (newW 5 [.int .u8 165] fun x_89 =>
   newW 5 [] fun x_90 =>
   rawW Tryz.prog (Builtin.append_ #[22,22] 22 #[.slice (some x_90) 0 0,.slice x_3.a x_3.n x_3.c]) [.sc .sl] fun (x_91:Sl) =>
   rawW Tryz.prog (Builtin.append_ #[22,22] 22 #[.slice x_91.a x_91.n x_91.c,.slice (some x_89) 1 1]) [.sc .sl] fun (x_92:Sl) =>
   slcW x_92.a x_92.n x_92.c 1 none (some (x_3.n:Int)) fun x_93 =>
   callW Tryz.prog Z0 [.slice o1.a o1.n o1.c] [.sc .sl] fun (x_94:Sl) =>
   J_4 (x_93,x_94))
   (bothW
   (newW 5 [.int .u8 165] fun x_95 =>
   newW 5 [] fun x_96 =>
   rawW Tryz.prog (Builtin.append_ #[22,22] 22 #[.slice (some x_96) 0 0,.slice x_3.a x_3.n x_3.c]) [.sc .sl] fun (x_97:Sl) =>
   rawW Tryz.prog (Builtin.append_ #[22,22] 22 #[.slice x_97.a x_97.n x_97.c,.slice (some x_95) 1 1]) [.sc .sl] fun (x_98:Sl) =>
   slcW x_98.a x_98.n x_98.c 1 none (some (x_3.n:Int)) fun x_99 =>
   callW Tryz.prog Z0 [.slice o1.a o1.n o1.c] [.sc .sl] fun (x_100:Sl) =>
   J_4 (x_99,x_100))
   (bothW
   (newW 5 [.int .u8 165] fun x_101 =>
   newW 5 [] fun x_102 =>
   rawW Tryz.prog (Builtin.append_ #[22,22] 22 #[.slice (some x_102) 0 0,.slice x_3.a x_3.n x_3.c]) [.sc .sl] fun (x_103:Sl) =>
   rawW Tryz.prog (Builtin.append_ #[22,22] 22 #[.slice x_103.a x_103.n x_103.c,.slice (some x_101) 1 1]) [.sc .sl] fun (x_104:Sl) =>
   slcW x_104.a x_104.n x_104.c 1 none (some (x_3.n:Int)) fun x_105 =>
   callW Tryz.prog Z0 [.slice o1.a o1.n o1.c] [.sc .sl] fun (x_106:Sl) =>
   J_4 (x_105,x_106))
   (newW 5 [.int .u8 165] fun x_107 =>
   newW 5 [] fun x_108 =>
   rawW Tryz.prog (Builtin.append_ #[22,22] 22 #[.slice (some x_108) 0 0,.slice x_3.a x_3.n x_3.c]) [.sc .sl] fun (x_109:Sl) =>
   rawW Tryz.prog (Builtin.append_ #[22,22] 22 #[.slice x_109.a x_109.n x_109.c,.slice (some x_107) 1 1]) [.sc .sl] fun (x_110:Sl) =>
   slcW x_110.a x_110.n x_110.c 1 none (some (x_3.n:Int)) fun x_111 =>
   callW Tryz.prog Z0 [.slice o1.a o1.n o1.c] [.sc .sl] fun (x_112:Sl) =>
   J_4 (x_111,x_112)))))))))))))))))))
 <| fun s_113 =>
 callW Tryz.prog Z7z [.slice s_113.1.a s_113.1.n s_113.1.c] [.agg [.int .u8,.int .u8,.int .u32,.int .u32,.int .u32],.sc (.int .i64)] fun (x_114:(Int × Int × Int × Int × Int) × Int) =>
 newW 30 [.int .u8 0,.int .u8 0,.int .u32 0,.int .u32 0,.int .u32 0] fun x_115 =>
 stoL x_115 [.int .u8 x_114.1.1,.int .u8 x_114.1.2.1,.int .u32 x_114.1.2.2.1,.int .u32 x_114.1.2.2.2.1,.int .u32 x_114.1.2.2.2.2] 0 <|
 callW Tryz.prog Z23 [.slice x_3.a x_3.n x_3.c] [.agg [.int .u8,.int .u8,.int .u32,.int .u32,.int .u32],.sc (.int .i64)] fun (x_116:(Int × Int × Int × Int × Int) × Int) =>
 newW 30 [.int .u8 0,.int .u8 0,.int .u32 0,.int .u32 0,.int .u32 0] fun x_117 =>
 stoL x_117 [.int .u8 x_116.1.1,.int .u8 x_116.1.2.1,.int .u32 x_116.1.2.2.1,.int .u32 x_116.1.2.2.2.1,.int .u32 x_116.1.2.2.2.2] 0 <|
 callW Tryz.prog Z7y [.slice s_113.1.a s_113.1.n s_113.1.c,.slice s_113.2.a s_113.2.n s_113.2.c] [.agg [.int .u8,.int .u8,.int .u32,.int .u32,.int .u32],.sc .sl,.sc (.int .i64)] fun (x_118:(Int × Int × Int × Int × Int) × Sl × Int) =>
 newW 30 [.int .u8 0,.int .u8 0,.int .u32 0,.int .u32 0,.int .u32 0] fun x_119 =>
 stoL x_119 [.int .u8 x_118.1.1,.int .u8 x_118.1.2.1,.int .u32 x_118.1.2.2.1,.int .u32 x_118.1.2.2.2.1,.int .u32 x_118.1.2.2.2.2] 0 <|
 callW Tryz.prog Z35 [.slice x_3.a x_3.n x_3.c,.slice o1.a o1.n o1.c] [.agg [.int .u8,.int .u8,.int .u32,.int .u32,.int .u32],.sc .sl,.sc (.int .i64)] fun (x_120:(Int × Int × Int × Int × Int) × Sl × Int) =>
 newW 30 [.int .u8 0,.int .u8 0,.int .u32 0,.int .u32 0,.int .u32 0] fun x_121 =>
 stoL x_121 [.int .u8 x_120.1.1,.int .u8 x_120.1.2.1,.int .u32 x_120.1.2.2.1,.int .u32 x_120.1.2.2.2.1,.int .u32 x_120.1.2.2.2.2] 0 <|
 joinW (σ:=Bool) (fun J_122 =>
  ld (.agg [.int .u8,.int .u8,.int .u32,.int .u32,.int .u32]) x_115 fun (x_123:(Int × Int × Int × Int × Int)) =>
  ld (.agg [.int .u8,.int .u8,.int .u32,.int .u32,.int .u32]) x_117 fun (x_124:(Int × Int × Int × Int × Int)) =>
  rawQ Tryz.prog (do Go.eqGuard .eql 30 (.tmp 61) (.tmp 62) (.agg ⟨[.int .u8 x_123.1,.int .u8 x_123.2.1,.int .u32 x_123.2.2.1,.int .u32 x_123.2.2.2.1,.int .u32 x_123.2.2.2.2]⟩) (.agg ⟨[.int .u8 x_124.1,.int .u8 x_124.2.1,.int .u32 x_124.2.2.1,.int .u32 x_124.2.2.2.1,.int .u32 x_124.2.2.2.2]⟩); Go.binOp .eql 30 (.agg ⟨[.int .u8 x_123.1,.int .u8 x_123.2.1,.int .u32 x_123.2.2.1,.int .u32 x_123.2.2.2.1,.int .u32 x_123.2.2.2.2]⟩) (.agg ⟨[.int .u8 x_124.1,.int .u8 x_124.2.1,.int .u32 x_124.2.2.1,.int .u32 x_124.2.2.2.1,.int .u32 x_124.2.2.2.2]⟩)) [.sc .bool] fun (x_125:Bool) =>
  cond x_125
   (cond (x_114.2 == x_116.2)
      (ld (.agg [.int .u8,.int .u8,.int .u32,.int .u32,.int .u32]) x_119 fun (x_126:(Int × Int × Int × Int × Int)) =>
      ld (.agg [.int .u8,.int .u8,.int .u32,.int .u32,.int .u32]) x_121 fun (x_127:(Int × Int × Int × Int × Int)) =>
       rawQ Tryz.prog (do Go.eqGuard .eql 30 (.tmp 70) (.tmp 71) (.agg ⟨[.int .u8 x_126.1,.int .u8 x_126.2.1,.int .u32 x_126.2.2.1,.int .u32 x_126.2.2.2.1,.int .u32 x_126.2.2.2.2]⟩) (.agg ⟨[.int .u8 x_127.1,.int .u8 x_127.2.1,.int .u32 x_127.2.2.1,.int .u32 x_127.2.2.2.1,.int .u32 x_127.2.2.2.2]⟩); Go.binOp .eql 30 (.agg ⟨[.int .u8 x_126.1,.int .u8 x_126.2.1,.int .u32 x_126.2.2.1,.int .u32 x_126.2.2.2.1,.int .u32 x_126.2.2.2.2]⟩) (.agg ⟨[.int .u8 x_127.1,.int .u8 x_127.2.1,.int .u32 x_127.2.2.1,.int .u32 x_127.2.2.2.1,.int .u32 x_127.2.2.2.2]⟩)) [.sc .bool] fun (x_128:Bool) =>
        cond x_128
         (cond (x_118.2.2 == x_120.2.2)
            (callW Tryz.prog Z13 [.slice x_118.2.1.a x_118.2.1.n x_118.2.1.c,.slice x_120.2.1.a x_120.2.1.n x_120.2.1.c] [.sc .bool] fun (x_129:Bool) =>
              cond x_129
               (callW Tryz.prog Z1i [.slice s_113.1.a s_113.1.n s_113.1.c,.slice x_3.a x_3.n x_3.c] [.sc .bool] fun (x_130:Bool) =>
                 cond x_130
                  (slcW s_113.1.a s_113.1.n s_113.1.c 1 none (some (IntKind.wrap .i64 ((x_3.n : Int) + 1))) fun x_131 =>
                      idxW x_131.a x_131.n 1 (x_3.n : Int) fun x_132 =>
                         ld (.sc (.int .u8)) x_132 fun (x_133:Int) =>
                          cond (x_133 == 165)
                            (callW Tryz.prog Z13 [.slice s_113.2.a s_113.2.n s_113.2.c,.slice o1.a o1.n o1.c] [.sc .bool] fun (x_134:Bool) =>
                              J_122 x_134)
                            (J_122 false))
                  (J_122 false))
               (J_122 false))
            (J_122 false))
         (J_122 false))
      (J_122 false))
   (J_122 false))
 <| fun s_135 =>
 retW s_135))
set_option maxRecDepth 100000 in
theorem Z97 {R:Type} (d0:Sl) (o1:Sl) (K:Res [.sc .bool]→W R) (Q:R→World→Prop) (w:World) (h:Z4f d0 o1 (fun r w=>K r Q w) w):callW Tryz.prog Z9a [.slice d0.a d0.n d0.c,.slice o1.a o1.n o1.c] [.sc .bool] K Q w:=den_c (K:=K) mix Tryz.func6 { reg:=[(6,[(5,.sc .sl),(6,.sc .sl)]),(11,[(4,.sc .bool)])],dr:=[(6,([(0,3),(2,3),(0,6),(2,6),(3,6),(4,6),(6,9)],[[(1,[]),(5,[]),(8,[]),(0,[]),(2,[]),(3,[]),(4,[]),(6,[]),(7,[]),(9,[]),(10,[]),(11,[])],[(1,[]),(5,[]),(8,[]),(0,[]),(2,[]),(3,[]),(4,[]),(9,[]),(6,[]),(7,[]),(10,[]),(11,[])],[(1,[]),(5,[]),(8,[]),(0,[]),(2,[]),(3,[]),(6,[]),(4,[]),(7,[]),(9,[]),(10,[]),(11,[])],[(1,[]),(5,[]),(8,[]),(0,[]),(2,[]),(6,[]),(3,[]),(4,[]),(7,[]),(9,[]),(10,[]),(11,[])],[(1,[]),(5,[]),(8,[]),(0,[]),(6,[]),(2,[]),(3,[]),(4,[]),(7,[]),(9,[]),(10,[]),(11,[])],[(1,[]),(5,[]),(6,[]),(8,[]),(0,[]),(2,[]),(3,[]),(4,[]),(7,[]),(9,[]),(10,[]),(11,[])],[(1,[]),(5,[]),(8,[]),(0,[]),(3,[]),(2,[]),(4,[]),(6,[]),(7,[]),(9,[]),(10,[]),(11,[])],[(1,[]),(5,[]),(8,[]),(0,[]),(3,[]),(2,[]),(4,[]),(9,[]),(6,[]),(7,[]),(10,[]),(11,[])],[(1,[]),(5,[]),(8,[]),(0,[]),(3,[]),(2,[]),(6,[]),(4,[]),(7,[]),(9,[]),(10,[]),(11,[])],[(1,[]),(5,[]),(8,[]),(0,[]),(3,[]),(6,[]),(2,[]),(4,[]),(7,[]),(9,[]),(10,[]),(11,[])],[(1,[]),(5,[]),(8,[]),(0,[]),(6,[]),(3,[]),(2,[]),(4,[]),(7,[]),(9,[]),(10,[]),(11,[])],[(1,[]),(5,[]),(6,[]),(8,[]),(0,[]),(3,[]),(2,[]),(4,[]),(7,[]),(9,[]),(10,[]),(11,[])],[(1,[]),(5,[]),(8,[]),(3,[]),(0,[]),(2,[]),(4,[]),(6,[]),(7,[]),(9,[]),(10,[]),(11,[])],[(1,[]),(5,[]),(8,[]),(3,[]),(0,[]),(2,[]),(4,[]),(9,[]),(6,[]),(7,[]),(10,[]),(11,[])],[(1,[]),(5,[]),(8,[]),(3,[]),(0,[]),(2,[]),(6,[]),(4,[]),(7,[]),(9,[]),(10,[]),(11,[])],[(1,[]),(5,[]),(8,[]),(3,[]),(0,[]),(6,[]),(2,[]),(4,[]),(7,[]),(9,[]),(10,[]),(11,[])],[(1,[]),(5,[]),(8,[]),(3,[]),(6,[]),(0,[]),(2,[]),(4,[]),(7,[]),(9,[]),(10,[]),(11,[])],[(1,[]),(5,[]),(6,[]),(8,[]),(3,[]),(0,[]),(2,[]),(4,[]),(7,[]),(9,[]),(10,[]),(11,[])]]))] } trivial rfl (by kernel_rfl) h
def Z7e :W (Bool) :=
 callW Tryz.prog Z80 [.agg ⟨[.int .u8 3,.int .u8 2,.int .u32 1,.int .u32 5,.int .u32 0]⟩,.slice none 0 0,.slice none 0 0] [.sc .sl,.sc (.int .i64)] fun (x_1:Sl × Int) =>
 callW Tryz.prog Z1j [.slice x_1.1.a x_1.1.n x_1.1.c] [.sc .sl,.sc (.int .i64)] fun (x_2:Sl × Int) =>
 joinW (σ:=Bool) (fun J_3 =>
  cond (x_1.2 == 0)
   (cond (x_2.2 == 0)
     (newW 5 [.int .u8 146,.int .u8 80,.int .u8 0,.int .u8 0,.int .u8 0,.int .u8 0] fun x_4 =>
      callW Tryz.prog Z1i [.slice x_2.1.a x_2.1.n x_2.1.c,.slice (some x_4) 6 6] [.sc .bool] fun (x_5:Bool) =>
       J_3 x_5)
     (J_3 false))
   (J_3 false))
 <| fun s_6 =>
 retW s_6
theorem Zds {R:Type}  (K:Res [.sc .bool]→W R) (Q:R→World→Prop) (w:World) (h:Z7e (fun r w=>K r Q w) w):callW Tryz.prog Z4p [] [.sc .bool] K Q w:=den_c (K:=K) mix Tryz.func8 { reg:=[(3,[(0,.sc .bool)])] } trivial rfl (by kernel_rfl) h
end Go.Proofs.YtchhhjlpnecjkaaGreat
namespace Go.Proofs.YtchhhjlpnecjkaaGreat
open Go Go.RowKit
theorem band {a b:Bool} (h1:a=true) (h2:b=true):(a && b)=true:=by rw [h1,h2]; rfl
theorem Zu0:mapsRowed Tryz.prog=true:=by kernel_rfl
theorem Zvl:Tryz.prog.mayEnter=true:=by kernel_rfl
end Go.Proofs.YtchhhjlpnecjkaaGreat
namespace Go.Proofs.YtchhhjlpnecjkaaGreat
open Go Go.RowKit Go.ChangeShapes Go.WideShapes Go.ChangeAt Go.Proofs.YtchhhjlpnecjkaaGreat.Den
variable {R:Type} {Q:R→World→Prop} {w:World}
abbrev awH:Head:=(3,2,1,5,0)
theorem Zzy:sealE awH [] []=0:=by decide +kernel
theorem Zz2:packM (sealW awH [] []).1=[146,80,0,0,0,0]:=by decide +kernel
theorem Zmv {K:Res [.sc .bool]→W R} (hk:∀ w',Fr None w w'→K true Q w'):callW Tryz.prog Z4p [] [.sc .bool] K Q w:=by
 refine Zds K Q w ?_
 unfold Z7e
 refine Zbs (ok1:=None) (ok2:=None) (h:=awH) (by unfold HeadOk; decide) (s1:=⟨none,0,0⟩) (s2:=⟨none,0,0⟩) (SlT.nil _) (EntsR.nil _ _) (SlT.nil _) (EntsR.nil _ _) (by decide) (by decide) (fun e h=>by cases h) (fun e h=>by cases h) (fun h=>absurd Zzy h) fun _ r w1 o1 f1=>?_
 unfold sealB at o1
 rw [Zz2] at o1
 have ok:BytesOk [146,80,0,0,0,0]:=by decide
 have hl:(sealF [146,80,0,0,0,0]).length=10:=by rw [Zwc]; rfl
 have ht:(sealF [146,80,0,0,0,0]).take ((sealF [146,80,0,0,0,0]).length - 4)=[146,80,0,0,0,0]:=by
  rw [hl]
  exact List.take_left (l₁:=[146,80,0,0,0,0])
 refine Zjr o1.sl (Zki ok) (by omega) (fun w' _=>⟨fun h=>by omega,fun h=>by omega,fun _ _ h=>absurd (by rw [ht]) h⟩) fun _ _ _ r2 w2 o2 f2=>?_
 rw [ht] at o2
 refine joinI (fun z v=>z=true∧Fr None w v) ?_ fun z v ⟨hz,f⟩=>by subst hz; exact hk v f
 refine condT rfl (condT rfl ?_)
 refine newI fun w3 B3 f3 t3=>?_
 have hS3:=blkSl (t:=u8T) (l:=[146,80,0,0,0,0]) (n:=6) B3 rfl rfl
 refine Z9z (o2.none f3).sl hS3 ok ok ?_
 exact ⟨by decide,(f1.then0 f2).then0 f3⟩
theorem EntIn.later {W:World} {raws:List (Int × Sl)} {L:List Ent} (h:All2 (EntIn W) raws L) (f:Fr None W w):EntsR (Old W) w raws L:=(EntIn.ents h).fr f fun _ _ h=>h
end Go.Proofs.YtchhhjlpnecjkaaGreat
namespace Go.Proofs.YtchhhjlpnecjkaaGreat
open Go Go.RowKit Go.ChangeShapes Go.WideShapes Go.ChangeAt Go.Proofs.YtchhhjlpnecjkaaGreat.Den
variable {R:Type} {Q:R→World→Prop} {w:World} {H:Type} {enc:TypeId × Value→H}
theorem Z6d {ok ok2:Nat→Prop} {s s2:Sl} {raws raws2:List (Int × Sl)} {L L2:List Ent} (hS:SlT ok w entT s raws) (hE:EntsR ok w raws L) (hS2:SlT ok2 w entT s2 raws2) (hE2:EntsR ok2 w raws2 L2) (hm:L.length≤1048576) (hL:∀ e∈L,Small e.2) {K:Res [.sc .bool]→W R} (hk:∀ w',Fr None w w'→K (decide (L=L2)) Q w') :
  callW Tryz.prog Z13 [.slice s.a s.n s.c,.slice s2.a s2.n s2.c] [.sc .bool] K Q w:=by
 refine Zb2 s s2 K Q w ?_
 unfold Z5i
 have h1:=hS.len.trans hE.len
 have h2:=hS2.len.trans hE2.len
 refine condN (fun hne=>?_) fun heq=>?_
 ·have e:=hk w (Fr.refl _ _)
  rw [decide_eq_false (fun e=>hne (by rw [h1,h2,e]))] at e
  exact e
 ·refine forI (N:=s.n) (fun s:Int=>s) (fun j s w'=>s=j∧Fr None w w'∧L.take j=L2.take j) ⟨rfl,Fr.refl _ _,rfl⟩ (fun j s w' h=>h.1) ?_ ?_
  ·rintro j i w1 K' hj ⟨rfl,f1,ht⟩ - hK
   have f1d:=f1.drew
   obtain ⟨x,hx⟩:∃ x,L[j]?=some x:=⟨_,List.getElem?_eq_getElem (by omega)⟩
   obtain ⟨y,hy⟩:∃ y,L2[j]?=some y:=⟨_,List.getElem?_eq_getElem (by omega)⟩
   obtain ⟨r,hr,a1,a2⟩:=hE.get hx
   obtain ⟨q,hq,b1,b2⟩:=hE2.get hy
   refine (hS.fr0 f1d).get rfl rfl (by have:=hE.len; omega) fun z hz=>?_
   rw [hr] at hz; cases hz
   refine (hS2.fr0 f1d).get rfl rfl (by have:=hE2.len; omega) fun z hz=>?_
   rw [hq] at hz; cases hz
   refine Zk2 (id:=r.1) (s:=r.2) (id2:=q.1) (s2:=q.2) (a2.fr0 f1d) (b2.fr0 f1d) (hL x (List.mem_of_getElem? hx)) fun w2 f2=>?_
   have f02:=f1d.then0 f2
   refine condI (fun hb=>?_) fun hb=>?_
   ·have e:=hk _ f02
    rw [decide_eq_false (fun e=>by
     subst e; rw [hx] at hy; cases hy
     simp [a1,b1] at hb)] at e
    exact e
   ·have hxy:x=y:=by
     have:r.1=q.1∧x.2=y.2:=by simpa using hb
     exact Prod.ext (by rw [← a1,← b1]; exact this.1) this.2
    subst hxy
    exact hK _ _ ⟨wsucc hj (by omega),f02,by rw [Z8 hx,Z8 hy,ht]⟩
  ·rintro i w1 ⟨rfl,f1,ht⟩
   have e:=hk _ f1
   have heq:(s.n:Int)=(s2.n:Int):=heq
   rw [List.take_of_length_le (by omega),List.take_of_length_le (by omega)] at ht
   rw [decide_eq_true ht] at e
   exact e
theorem Zzf {x y:Head}:(x.1 == y.1 && (x.2.1 == y.2.1 && (x.2.2.1 == y.2.2.1 && (x.2.2.2.1 == y.2.2.2.1 && (x.2.2.2.2 == y.2.2.2.2 && true)))))=decide (x=y):=by
 rw [Bool.eq_iff_iff]
 simp [Prod.ext_iff]
abbrev headC (x:Head):List Value:=[.int .u8 x.1,.int .u8 x.2.1,.int .u32 x.2.2.1,.int .u32 x.2.2.2.1,.int .u32 x.2.2.2.2]
theorem Zsr (x y:Head):eqV Tryz.prog 9 30 (.agg ⟨headC x⟩) (.agg ⟨headC y⟩)=some (decide (x=y)):=by
 rw [← Zzf]
 kernel_rfl
theorem Zsp:Tryz.prog.eqGuardType Tryz.prog.depth 30=false:=by kernel_rfl
theorem EntIn.fit {W:World} {raws:List (Int × Sl)} {L:List Ent} (h:All2 (EntIn W) raws L) (hb:(raws.map fun r=>r.2.n+1).sum≤1048576):L.length≤1048576∧∀ e∈L,EntFit e:=by
 have h1:∀ (l:List (Int × Sl)),l.length≤(l.map fun r=>r.2.n+1).sum:=by
  intro l
  induction l with
  | nil=>simp
  | cons a r ih=>simp only [List.length_cons,List.map_cons,List.sum_cons]; omega
 have h2:∀ (l:List (Int × Sl)) r,r∈l→r.2.n≤(l.map fun r=>r.2.n+1).sum:=by
  intro l
  induction l with
  | nil=>intro r h; cases h
  | cons a q ih =>
   intro r hr
   simp only [List.map_cons,List.sum_cons]
   rcases List.mem_cons.1 hr with rfl | hr
   ·omega
   ·have:=ih r hr; omega
 refine ⟨by have:=h1 raws; have:=h.len; omega,fun e he=>?_⟩
 obtain ⟨i,hi⟩:=List.mem_iff_getElem?.1 he
 obtain ⟨r,hr,hin⟩:=h.get hi
 have:=h2 raws r (List.mem_of_getElem? hr)
 have:=hin.sl.len
 exact ⟨hin.ok,by omega,hin.comps⟩
end Go.Proofs.YtchhhjlpnecjkaaGreat
namespace Go.Proofs.YtchhhjlpnecjkaaGreat
open Go Go.RowKit Go.Proofs.YtchhhjlpnecjkaaGreat.Den
variable {R:Type} {Q:R→World→Prop} {w:World}
theorem idxF {ok:Nat→Prop} {t:Ty} {s:Sl} {l:List t.T} (h:SlT ok w t s l) {sz:Nat} (hsz:sz=t.size) {i:Int} (h0:0≤i) (h1:i < l.length) {K:Addr→W R}
  (hk:∀ a x,l[i.toNat]?=some x→(∀ w',Fr None w w'→Rd w' a t x)→K a Q w):idxW s.a s.n sz i K Q w:=by
 subst hsz
 have hi:i.toNat < l.length:=by omega
 rcases h.at_ with rfl | ⟨b,o,ha,_,_,hr⟩
 ·simp at hi
 ·refine ⟨⟨b,o,none⟩,ha,h0,by rw [h.len]; exact h1,?_⟩
  rw [add_lit]
  refine hk _ _ (List.getElem?_eq_getElem hi) fun w' f=>?_
  rcases (h.fr0 f).at_ with e | ⟨b',o',ha',_,_,hr'⟩
  ·rw [e] at hi; simp at hi
  ·rw [ha] at ha'; cases ha'; exact hr' _ _ (List.getElem?_eq_getElem hi)
theorem Zp3 {ok ok2:Nat→Prop} {r r2:DRaw} {g g2:List Int} {c c2:List Ent} {d d2:List Chg} (h1:DltR ok w r g c d) (h2:DltR ok2 w r2 g2 c2 d2) (hm:Small g∧c.length≤1048576∧d.length≤9223372036854775807) (hc:∀ e∈c,Small e.2) (hd:∀ e∈d,Small e.2.2.1∧Small e.2.2.2) {K:Res [.sc .bool]→W R} (hk:∀ w',Fr None w w'→K (decide (g=g2∧c=c2∧d=d2)) Q w') :
  callW Tryz.prog Z56 [.agg ⟨[.slice r.1.a r.1.n r.1.c,.slice r.2.1.a r.2.1.n r.2.1.c,.slice r.2.2.a r.2.2.n r.2.2.c]⟩,.agg ⟨[.slice r2.1.a r2.1.n r2.1.c,.slice r2.2.1.a r2.2.1.n r2.2.1.c,.slice r2.2.2.a r2.2.2.n r2.2.2.c]⟩] [.sc .bool] K Q w:=by
 refine Zfc r r2 K Q w ?_
 unfold Z8q
 obtain ⟨a1,⟨rc,a2,a3⟩,⟨rd,a4,a5⟩⟩:=h1
 obtain ⟨b1,⟨rc2,b2,b3⟩,⟨rd2,b4,b5⟩⟩:=h2
 have n1:=a4.len.trans a5.len
 have n2:=b4.len.trans b5.len
 refine newI fun w1 B1 f1 z1=>newI fun w2 B2 f2 z2=>?_
 have f02:=f1.then0 f2
 have B1:=B1.fr f2 fun h=>h
 refine joinI (fun z u=>z=!decide (g=g2∧c=c2∧d.length=d2.length)∧Fr None w2 u) ?_ ?_
 ·refine fldI B1 (i:=0) (x:=r.1) rfl (fldI B2 (i:=0) (x:=r2.1) rfl (Zqx (a1.fr0 f02) (b1.fr0 f02) hm.1 fun w3 f3=>?_))
  refine condI (fun h=>⟨by rw [decide_eq_false fun e=>by rw [decide_eq_true e.1] at h; cases h]; rfl,f3⟩) fun h=>?_
  have e1:g=g2:=by simpa using h
  have f03:=f02.then0 f3
  refine fldI (B1.fr f3 fun h=>h) (i:=1) (x:=r.2.1) rfl (fldI (B2.fr f3 fun h=>h) (i:=1) (x:=r2.2.1) rfl (Z6d (a2.fr0 f03) (a3.fr f03 fun _ _ h=>h) (b2.fr0 f03) (b3.fr f03 fun _ _ h=>h) hm.2.1 hc fun w4 f4=>?_))
  have f24:=f3.then0 f4
  refine condI (fun h=>⟨by rw [decide_eq_false fun e=>by rw [decide_eq_true e.2.1] at h; cases h]; rfl,f24⟩) fun h=>?_
  have e2:c=c2:=by simpa using h
  refine fldI (B1.fr f24 fun h=>h) (i:=2) (x:=r.2.2) rfl (fldI (B2.fr f24 fun h=>h) (i:=2) (x:=r2.2.2) rfl ⟨?_,f24⟩)
  by_cases h:d.length=d2.length
  ·rw [decide_eq_true ⟨e1,e2,h⟩]
   have:(r.2.2.n:Int)=(r2.2.2.n:Int):=by omega
   rw [this]; simp
  ·rw [decide_eq_false fun e=>h e.2.2]
   have:(r.2.2.n:Int)≠(r2.2.2.n:Int):=by omega
   simpa using this
 rintro z u ⟨rfl,fu⟩
 refine condI (fun h=>?_) fun h=>?_
 ·have h:¬ (g=g2∧c=c2∧d.length=d2.length):=fun e=>by rw [decide_eq_true e] at h; cases h
  have e:=hk u (f02.then0 fu)
  rw [decide_eq_false fun e=>h ⟨e.1,e.2.1,by rw [e.2.2]⟩] at e
  exact e
 have h:g=g2∧c=c2∧d.length=d2.length:=by simpa using h
 obtain ⟨e1,e2,e3⟩:=h
 have B1u:=B1.fr fu fun h=>h
 have B2u:=B2.fr fu fun h=>h
 have f0u:=f02.then0 fu
 refine fldI B1u (i:=2) (x:=r.2.2) rfl (forI (N:=r.2.2.n) (fun s:Int=>s) (fun j s v=>s=(j:Int)∧Fr None u v∧d.take j=d2.take j) ⟨rfl,Fr.refl _ _,rfl⟩ (fun j s w' h=>h.1) ?_ ?_)
 ·rintro j s v K' hj ⟨rfl,fv,ht⟩ - hK
  obtain ⟨x,hx⟩:∃ x,d[j]?=some x:=⟨_,List.getElem?_eq_getElem (by omega)⟩
  obtain ⟨y,hy⟩:∃ y,d2[j]?=some y:=⟨_,List.getElem?_eq_getElem (by omega)⟩
  obtain ⟨q1,hq1,hq⟩:=a5.get hx
  obtain ⟨p1,hp1,hp⟩:=b5.get hy
  have fd:Fr None v v.drew:=(Fr.refl _ _).drew
  have f0d:=(f0u.then0 fv).then0 fd
  have fud:=fv.then0 fd
  have B1d:=B1u.fr fud fun h=>h
  have B2d:=B2u.fr fud fun h=>h
  refine joinI (fun z u'=>∃ p q,z=(some ⟨p,0,none⟩,some ⟨q,0,none⟩)∧Blk u' p 86 [.int .u32 q1.1,.int .u8 q1.2.1,.slice q1.2.2.1.a q1.2.2.1.n q1.2.2.1.c,.slice q1.2.2.2.a q1.2.2.2.n q1.2.2.2.c]∧Blk u' q 86 [.int .u32 p1.1,.int .u8 p1.2.1,.slice p1.2.2.1.a p1.2.2.1.n p1.2.2.1.c,.slice p1.2.2.2.a p1.2.2.2.n p1.2.2.2.c]∧Fr None v u') ?_ ?_
  ·refine bothI ?_ ?_
   ·refine fldI B1d (i:=2) (x:=r.2.2) rfl (idxF (a4.fr0 f0d) rfl (Int.natCast_nonneg j) (by have:=(List.getElem?_eq_some_iff.1 hq1).1; omega) fun p x' hx' hr=>?_)
    rw [Int.toNat_natCast,hq1] at hx'
    cases hx'
    refine ldI (t:=chgT) q1 (hr _ (Fr.refl _ _)) (fldI B2d (i:=2) (x:=r2.2.2) rfl (idxF (b4.fr0 f0d) rfl (Int.natCast_nonneg j) (by have:=(List.getElem?_eq_some_iff.1 hp1).1; omega) fun p' y' hy' hr'=>?_))
    rw [Int.toNat_natCast,hp1] at hy'
    cases hy'
    refine ldI (t:=chgT) p1 (hr' _ (Fr.refl _ _)) (newI fun v1 C1 g1 y1=>newI fun v2 C2 g2 y2=>stoAll (C1.fr g2 fun h=>h) rfl rfl fun v3 C1 g3 y3=>?_)
    have g03:Fr None v.drew v3:=(g1.then0 g2).newer g3 fun k e=>by omega
    refine andI (hr' _ g03) (andI ((B2d.fr g03 fun h=>h).rd (s:=.sl) (i:=2) (x:=r2.2.2) rfl) (stoAll (C2.fr g3 fun e=>by omega) rfl rfl fun v4 C2 g4 y4=>?_))
    exact ⟨_,_,rfl,C1.fr g4 fun e=>by omega,C2,fd.then0 (g03.newer g4 fun k e=>by omega)⟩
   ·refine fldI B1d (i:=2) (x:=r.2.2) rfl (idxF (a4.fr0 f0d) rfl (Int.natCast_nonneg j) (by have:=(List.getElem?_eq_some_iff.1 hq1).1; omega) fun p x' hx' hr=>?_)
    rw [Int.toNat_natCast,hq1] at hx'
    cases hx'
    refine ldI (t:=chgT) q1 (hr _ (Fr.refl _ _)) (fldI B2d (i:=2) (x:=r2.2.2) rfl (idxF (b4.fr0 f0d) rfl (Int.natCast_nonneg j) (by have:=(List.getElem?_eq_some_iff.1 hp1).1; omega) fun p' y' hy' hr'=>?_))
    rw [Int.toNat_natCast,hp1] at hy'
    cases hy'
    refine ldI (t:=chgT) p1 (hr' _ (Fr.refl _ _)) (newI fun v1 C1 g1 y1=>newI fun v2 C2 g2 y2=>stoAll C2 rfl rfl fun v3 C2 g3 y3=>?_)
    have g03:Fr None v.drew v3:=(g1.then0 g2).newer g3 fun k e=>by omega
    refine andI (hr' _ g03) (andI ((B2d.fr g03 fun h=>h).rd (s:=.sl) (i:=2) (x:=r2.2.2) rfl) (stoAll ((C1.fr g2 fun h=>h).fr g3 fun e=>by omega) rfl rfl fun v4 C1 g4 y4=>?_))
    exact ⟨_,_,rfl,C2.fr g4 fun e=>by omega,C1,fd.then0 (g03.newer g4 fun k e=>by omega)⟩
  rintro z u' ⟨p,q,rfl,P1,P2,fu'⟩
  have f0u':=(f0u.then0 fv).then0 fu'
  have hq':chgR ok u' q1 x:=St.fr0 (A:=fun F w=>chgR F w q1 x) (Z2o q1 x) hq f0u'
  have hp':chgR ok2 u' p1 y:=St.fr0 (A:=fun F w=>chgR F w p1 y) (Z2o p1 y) hp f0u'
  obtain ⟨x1,x2,x3,x4⟩:=hq'
  obtain ⟨y1,y2,y3,y4⟩:=hp'
  have sm:=hd x (List.mem_of_getElem? hx)
  refine joinI (fun z v'=>z=!decide (x=y)∧Fr None u' v') ?_ ?_
  ·refine ptrI (fldI P1 (i:=0) (x:=q1.1) rfl (ptrI (fldI P2 (i:=0) (x:=p1.1) rfl (condN (fun hne=>⟨by rw [decide_eq_false fun e=>hne (by rw [x1,y1,e])]; rfl,Fr.refl _ _⟩) fun k1=>?_))))
   refine ptrI (fldI P1 (i:=1) (x:=q1.2.1) rfl (ptrI (fldI P2 (i:=1) (x:=p1.2.1) rfl (condN (fun hne=>⟨by rw [decide_eq_false fun e=>hne (by rw [x2,y2,e])]; rfl,Fr.refl _ _⟩) fun k2=>?_))))
   refine ptrI (fldI P1 (i:=2) (x:=q1.2.2.1) rfl (ptrI (fldI P2 (i:=2) (x:=p1.2.2.1) rfl (Zd4 x3 y3 sm.1 fun v1 g1=>?_))))
   refine condI (fun h=>⟨by rw [decide_eq_false fun e=>by rw [e,decide_eq_true rfl] at h; cases h]; rfl,g1⟩) fun h=>?_
   have k3:x.2.2.1=y.2.2.1:=by simpa using h
   refine ptrI (fldI (P1.fr g1 fun h=>h) (i:=3) (x:=q1.2.2.2) rfl (ptrI (fldI (P2.fr g1 fun h=>h) (i:=3) (x:=p1.2.2.2) rfl (Zd4 (x4.fr0 g1) (y4.fr0 g1) sm.2 fun v2 g2=>⟨?_,g1.then0 g2⟩))))
   have c1:x.1=y.1:=by rw [← x1,← y1]; exact k1
   have c2:x.2.1=y.2.1:=by rw [← x2,← y2]; exact k2
   congr 1
   exact decide_eq_decide.2 ⟨fun e=>Prod.ext c1 (Prod.ext c2 (Prod.ext k3 e)),fun e=>by rw [e]⟩
  rintro z v' ⟨rfl,fv'⟩
  refine condI (fun hne=>?_) fun he=>?_
  ·have hne:¬ x=y:=fun e=>by rw [decide_eq_true e] at hne; cases hne
   have e:=hk v' (f0u'.then0 fv')
   rw [decide_eq_false fun e=>hne (by have:=e.2.2; rw [this,hy] at hx; cases hx; rfl)] at e
   exact e
  ·have he:x=y:=by simpa using he
   exact hK _ _ ⟨wsucc hj (by omega),(fv.then0 fu').then0 fv',by rw [Z8 hx,Z8 hy,ht,he]⟩
 ·rintro s v ⟨rfl,fv,ht⟩
  have e:=hk v (f0u.then0 fv)
  rw [List.take_of_length_le (by omega),List.take_of_length_le (by omega)] at ht
  rw [decide_eq_true ⟨e1,e2,ht⟩] at e
  exact e
end Go.Proofs.YtchhhjlpnecjkaaGreat
namespace Go.Proofs.YtchhhjlpnecjkaaGreat
open Go Go.RowKit Go.Proofs.YtchhhjlpnecjkaaGreat.Den
variable {R:Type} {Q:R→World→Prop} {w:World}
theorem Zxo:∀ m:Fin 256,∀ k:Fin 8,(Int.tmod (shR .u8 ((m.val:Nat):Int) ((k.val:Nat):Int)) 2 == 0)=!m.val.testBit k.val:=by decide +kernel
theorem EntsR.all {ok:Nat→Prop} {rs:List (Int × Sl)} {L:List Ent}:EntsR ok w rs L↔All2 (fun (r:Int × Sl) (e:Ent)=>r.1=e.1∧SlT ok w compT r.2 e.2) rs L:=⟨fun h=>⟨h.len,h.at_⟩,fun h=>⟨h.len,h.at_⟩⟩
theorem EntsR.cut {ok:Nat→Prop} {rs:List (Int × Sl)} {L:List Ent} (h:EntsR ok w rs L) (i j:Nat):EntsR ok w (rs.take i ++ rs.drop j) (L.take i ++ L.drop j) :=
 EntsR.append (EntsR.all.2 ((EntsR.all.1 h).take i)) (EntsR.all.2 ((EntsR.all.1 h).drop j))
theorem EntsR.set {ok:Nat→Prop} {rs:List (Int × Sl)} {L:List Ent} (h:EntsR ok w rs L) (i:Nat) {r:Int × Sl} {e:Ent} (h1:r.1=e.1) (h2:SlT ok w compT r.2 e.2):EntsR ok w (rs.set i r) (L.set i e):=by
 have hl:=h.len
 refine ⟨by simp [hl],fun j a b ha hb=>?_⟩
 rw [List.getElem?_set] at ha hb
 by_cases hj:i=j
 ·subst hj
  simp only [if_true] at ha hb
  split at ha
  ·split at hb
   ·cases ha; cases hb; exact ⟨h1,h2⟩
   ·cases hb
  ·cases ha
 ·rw [if_neg hj] at ha hb
  exact h.at_ j a b ha hb
def NowS (n n0:Nat) (u:World) (s:Sl) (L:List Ent):Prop:=∃ rs,Own (Up n0) u 57 entT s rs∧EntsR (fun k=>(k < n∨n0≤k)∧s.v.ownBlock≠some k) u rs L
theorem NowS.fr0 {n n0:Nat} {s:Sl} {L:List Ent} (h:NowS n n0 w s L) {w':World} (f:Fr None w w'):NowS n n0 w' s L:=by
 obtain ⟨rs,o,e⟩:=h
 exact ⟨rs,o.none f,e.fr f fun _ _ h=>h⟩
def LFit (m k:Nat) (L:List Ent):Prop:=L.length≤m∧∀ e∈L,(0≤e.1∧e.1≤4294967295)∧e.2.length≤k∧∀ c∈e.2,CompOk c
theorem Z10j {n n0:Nat} {s:Sl} {L:List Ent} (h:NowS n n0 w s L) (hn0:n0≤w.heap.size) {i:Nat} (hi:i < L.length) (hl:L.length≤1048576) {K:Sl→W R} (hk:∀ r w',NowS n n0 w' r (L.take i ++ L.drop (i+1))→Fr None w w'→K r Q w') :
  (drawW <|
  slcW s.a s.n s.c 2 none (some (i:Int)) fun x_10 =>
  slcW s.a s.n s.c 2 (some (IntKind.wrap .i64 ((i:Int)+1))) none fun x_11 =>
  newW 57 [] fun x_12 =>
  rawW Tryz.prog (Builtin.append_ #[23,23] 23 #[.slice (some x_12) 0 0,.slice x_10.a x_10.n x_10.c]) [.sc .sl] fun (x_13:Sl) =>
  rawW Tryz.prog (Builtin.append_ #[23,23] 23 #[.slice x_13.a x_13.n x_13.c,.slice x_11.a x_11.n x_11.c]) [.sc .sl] fun (x_14:Sl)=>K x_14:W R) Q w:=by
 obtain ⟨rs,o,eR⟩:=h
 have rl:=eR.len
 have fd:Fr None w w.drew:=(Fr.refl _ _).drew
 have sd:w.drew.heap.size=w.heap.size:=rfl
 have od:=(o.none fd).sl
 refine od.cutI (n:=i) rfl (by omega) fun c1 _ hc1=>od.from rfl (n:=i+1) (wsucc hi (by omega)) (by omega) fun c2 hc2 _=>?_
 refine newI fun u2 B2 f2 y2=>?_
 have own:=Own.mk' (S:=Up w.heap.size) (w:=u2) (E:=57) (t:=entT) (l:=[]) (g:=w.drew.heap.size) (c:=0) (cur:=⟨[]⟩) (Nat.le_refl _) B2 (Nat.le_refl _) (Nat.zero_le _) (by simp) (by simp)
 have z2:=f2.size
 refine appI (s:=⟨some ⟨w.drew.heap.size,0,none⟩,0,0⟩) (s2:=c1) (S':=Up w.heap.size) Z5m own (hc1 _ _ (od.fr0 f2)) (by simp; omega) (by rw [Zm]; simp; omega) (fun _ h=>h) (by show _≤_; omega) fun r1 u3 o3 f3 y3=>?_
 have f03:Fr None w.drew u3:=f2.newer f3 fun k e=>own.own k e
 have z3:=f03.size
 rw [List.nil_append] at o3
 refine appI (s:=r1) (s2:=c2) (S':=Up w.heap.size) Z5m o3 (hc2.fr0 f03) (by simp; omega) (by rw [Zm]; simp; omega) (fun _ h=>h) (by show _≤_; omega) fun r2 u4 o4 f4 y4=>?_
 have f04:Fr None w.drew u4:=f03.newer f4 fun k e=>o3.own k e
 refine hk r2 u4 ⟨_,o4.up hn0,?_⟩ (fd.then0 f04)
 have e4:EntsR (fun k=>((k < n∨n0≤k)∧s.v.ownBlock≠some k)∧k < w.heap.size) w rs L:=eR.mono fun k hk e=>⟨e,hk⟩
 exact ((e4.fr (fd.then0 f04) fun _ _ h=>h).mono fun k _ e=>⟨e.1.1,fun e2=>by have:w.heap.size≤k:=o4.own k e2; omega⟩).cut i (i+1)
theorem Z10l {n n0:Nat} {s:Sl} {L:List Ent} (h:NowS n n0 w s L) {i:Nat} {e:Ent} (he:L[i]?=some e) {t:Sl} {l:List Comp} (ht:SlT (fun k=>(k < n∨n0≤k)∧s.v.ownBlock≠some k) w compT t l) {K:W R} (hk:∀ w',NowS n n0 w' s (L.set i (e.1,l))→Fr (Up n0) w w'→K Q w') :
  (idxW s.a s.n 2 (i:Int) fun x_54=>stoL (Addr.add x_54 1) [.slice t.a t.n t.c] 0 K:W R) Q w:=by
 obtain ⟨rs,o,eR⟩:=h
 obtain ⟨r,hr,r1,r2⟩:=eR.get he
 have hir:=(List.getElem?_eq_some_iff.1 hr).1
 refine o.idx rfl (Int.natCast_nonneg i) (by omega) fun g x hg hx _=>?_
 rw [Int.toNat_natCast,hr] at hx
 cases hx
 rw [Int.toNat_natCast]
 refine o.setFld (i:=i) (j:=1) (x:=r) (x':=(r.1,t)) hr hg (by decide) rfl rfl fun w' o' f' _=>?_
 refine hk w' ⟨_,o',?_⟩ (f'.sub fun k e=>o.own k e)
 exact EntsR.set (eR.fr f' fun k e e2=>e.2 e2) i r1 (ht.fr f' fun k e e2=>e.2 e2)
theorem Z10k {n n0:Nat} {s:Sl} {L:List Ent} (h:NowS n n0 w s L) (hn0:n0≤w.heap.size) (hl:L.length≤1048576) {b:Nat} {e:Ent} {r:Int × Sl} (B:Blk w b 57 (entC r)) (hr1:r.1=e.1) (hr2:SlT (fun k=>k < n) w compT r.2 e.2) (hn:n≤n0) {K:Sl→W R} (hk:∀ z w',NowS n n0 w' z (insG e false L)→Fr None w w'→K z Q w') :
  (loopW (σ:=Sl × Bool × Int) (fun K_63 s_64 =>
   cond (decide (s_64.2.2 < (s.n:Int)))
    (idxW s.a s.n 2 s_64.2.2 fun x_65 =>
   ld (.agg [.int .u32,.sl]) x_65 fun (x_66:(Int × Sl)) =>
   newW 57 [.int .u32 0,.slice none 0 0] fun x_67 =>
   stoL x_67 [.int .u32 x_66.1,.slice x_66.2.a x_66.2.n x_66.2.c] 0 <|
   joinW (σ:=Bool) (fun J_68 =>
    cond (!s_64.2.1)
     (ld (.sc (.int .u32)) (Addr.add x_67 0) fun (x_69:Int) =>
      ld (.sc (.int .u32)) (Addr.add ⟨b,0,none⟩ 0) fun (x_70:Int) =>
        J_68 (decide (x_69 ≥ x_70)))
     (J_68 false))
   <| fun s_71 =>
   joinW (σ:=Sl × Bool) (fun J_72 =>
    cond s_71
     (ld (.agg [.int .u32,.sl]) ⟨b,0,none⟩ fun (x_73:(Int × Sl)) =>
     newW 57 [.int .u32 x_73.1,.slice x_73.2.a x_73.2.n x_73.2.c] fun x_74 =>
     rawW Tryz.prog (Builtin.append_ #[23,23] 23 #[.slice s_64.1.a s_64.1.n s_64.1.c,.slice (some x_74) 1 1]) [.sc .sl] fun (x_75:Sl) =>
     J_72 (x_75,true))
     (J_72 (s_64.1,s_64.2.1)))
   <| fun s_76 =>
   ld (.agg [.int .u32,.sl]) x_67 fun (x_77:(Int × Sl)) =>
   newW 57 [.int .u32 x_77.1,.slice x_77.2.a x_77.2.n x_77.2.c] fun x_78 =>
   rawW Tryz.prog (Builtin.append_ #[23,23] 23 #[.slice s_76.1.a s_76.1.n s_76.1.c,.slice (some x_78) 1 1]) [.sc .sl] fun (x_79:Sl) =>
   K_63 (x_79,s_76.2,IntKind.wrap .i64 (s_64.2.2+1)))
    (joinW (σ:=Sl) (fun J_80 =>
   cond (!s_64.2.1)
    (ld (.agg [.int .u32,.sl]) ⟨b,0,none⟩ fun (x_81:(Int × Sl)) =>
    newW 57 [.int .u32 x_81.1,.slice x_81.2.a x_81.2.n x_81.2.c] fun x_82 =>
    rawW Tryz.prog (Builtin.append_ #[23,23] 23 #[.slice s_64.1.a s_64.1.n s_64.1.c,.slice (some x_82) 1 1]) [.sc .sl] fun (x_83:Sl) =>
    J_80 x_83)
    (J_80 s_64.1))
  <| fun s_84=>K s_84))
   ((⟨none,0,0⟩:Sl),false,0):W R) Q w:=by
 obtain ⟨rs,o,eR⟩:=h
 have rl:=eR.len
 have ol:=o.sl.len
 have eL:EntsR (fun k=>(k < n∨n0≤k)∧k < w.heap.size) w rs L:=eR.mono fun k hk e=>⟨e.1,hk⟩
 have hrw:SlT (fun k=>(k < n∨n0≤k)∧k < w.heap.size) w compT r.2 e.2:=hr2.mono fun k hk h=>⟨.inl h,hk⟩
 have lt:∀ k,((k < n∨n0≤k)∧k < w.heap.size)→¬ Up w.heap.size k:=fun k hk e=>by have e:w.heap.size≤k:=e; omega
 have app:∀ {v:World} {z:Sl} {rs':List (Int × Sl)} {L':List Ent} {x:Int × Sl} {y:Ent} {X:Sl→W R} {Q':R→World→Prop},Fr (Up w.heap.size) w v→Own (Up w.heap.size) v 57 entT z rs'→EntsR (fun k=>(k < n∨n0≤k)∧k < w.heap.size) v rs' L'→rs'.length≤4194304→x.1=y.1→SlT (fun k=>(k < n∨n0≤k)∧k < w.heap.size) w compT x.2 y.2 →
   (∀ z' v',Own (Up w.heap.size) v' 57 entT z' (rs' ++ [x])→EntsR (fun k=>(k < n∨n0≤k)∧k < w.heap.size) v' (rs' ++ [x]) (L' ++ [y])→Fr (Up w.heap.size) w v'→X z' Q' v') →
   (newW 57 (entC x) fun a=>rawW Tryz.prog (Builtin.append_ #[23,23] 23 #[.slice z.a z.n z.c,.slice (some a) 1 1]) [.sc .sl] X) Q' v:=by
  intro v z rs' L' x y X Q' fv oz ez hlen h1 h2 hX
  have vz:=fv.size
  refine appP (x:=x) Z5m rfl oz (fun k h=>by show _≤_; omega) (by omega) (by omega) fun z' v' o' f'=>?_
  have fv':=fv.then (f'.sub fun k e=>oz.own k e)
  exact hX z' v' o' (EntsR.snoc (ez.fr f' fun k e e2=>lt k e (oz.own k e2)) h1 (h2.fr fv' lt)) fv'
 refine forI (N:=s.n) (fun st:Sl × Bool × Int=>st.2.2) (fun j st v=>st.2.2=(j:Int)∧Fr (Up w.heap.size) w v∧∃ rs' L',Own (Up w.heap.size) v 57 entT st.1 rs'∧EntsR (fun k=>(k < n∨n0≤k)∧k < w.heap.size) v rs' L'∧rs'.length≤2 * j∧L' ++ insG e st.2.1 (L.drop j)=insG e false L)
  ⟨rfl,Fr.refl _ _,[],[],Own.nil _ _ _ _,EntsR.nil _ _,by simp,by simp⟩ (fun j s w' h=>h.1) ?_ ?_
 ·rintro j ⟨z,dn,_⟩ v K' hj ⟨rfl,fv,rs',L',o1,e1,hlen,hL'⟩ - hK
  obtain ⟨x,hx⟩:∃ x,L[j]?=some x:=⟨_,List.getElem?_eq_getElem (by omega)⟩
  obtain ⟨q,hq,q1,q2⟩:=eL.get hx
  have f0:Fr None w v:=fv.ofUp (Nat.le_refl _)
  refine ((o.none f0).sl).get rfl rfl (List.getElem?_eq_some_iff.1 hq).1 fun q' hq'=>?_
  rw [hq] at hq'
  cases hq'
  refine newI fun v1 C1 g1 y1=>stoAll C1 rfl rfl fun v2 C g2 y2=>?_
  have g02:Fr None v v2:=g1.newer g2 fun k e=>by omega
  have fv2:=fv.then0 g02
  have B2:=(B.fr f0 fun h=>h).fr g02 fun h=>h
  have hdr:L.drop j=x :: L.drop (j+1):=by
   obtain ⟨hh,hg⟩:=List.getElem?_eq_some_iff.1 hx
   rw [List.drop_eq_getElem_cons hh,hg]
  rw [hdr,insG] at hL'
  refine joinI (fun z v'=>z=(!dn && decide (x.1 ≥ e.1))∧v'=v2) ?_ ?_
  ·refine condI (fun hd=>?_) fun hd=>⟨by rw [hd]; rfl,rfl⟩
   refine fldI C (i:=0) (x:=q.1) rfl (fldI B2 (i:=0) (x:=r.1) rfl ⟨?_,rfl⟩)
   rw [hd,q1,hr1]; rfl
  rintro z2 _ ⟨rfl,rfl⟩
  refine joinI (fun p v'=>p.2=(dn || decide (x.1 ≥ e.1))∧Fr (Up w.heap.size) w v'∧Blk v' v.heap.size 57 (entC q)∧∃ rs2,Own (Up w.heap.size) v' 57 entT p.1 rs2∧EntsR (fun k=>(k < n∨n0≤k)∧k < w.heap.size) v' rs2 (L' ++ if (!dn && decide (x.1 ≥ e.1))=true then [e] else [])∧rs2.length≤2 * j+1) ?_ ?_
  ·refine condI (fun hc=>?_) fun hc=>?_
   ·rw [if_pos hc]
    refine aggI B2 (x:=r) rfl ?_
    have zlt:∀ k,z.v.ownBlock=some k→k < v.heap.size:=fun k e=>o1.lt e
    refine appP (x:=r) Z5m rfl (o1.none g02) (fun k h=>by have:=fv2.size; show _≤_; omega) (by omega) (by omega) fun z' v' o' f'=>?_
    have fv':=fv2.then (f'.sub fun k e=>o1.own k e)
    refine ⟨?_,fv',C.fr f' fun e=>by have:=zlt _ e; omega,_,o',EntsR.snoc ((e1.fr g02 fun _ _ h=>h).fr f' fun k e e2=>lt k e (o1.own k e2)) hr1 (hrw.fr fv' lt),by simp; omega⟩
    have hc2:=(Bool.and_eq_true_iff.1 hc).2
    rw [hc2]; simp
   ·rw [hc,if_neg (by simp),List.append_nil]
    refine ⟨?_,fv2,C,_,o1.none g02,e1.fr g02 fun _ _ h=>h,by omega⟩
    cases dn
    ·have:decide (x.1 ≥ e.1)=false:=by simpa using hc
     rw [this]; rfl
    ·rfl
  rintro ⟨z3,d3⟩ v3 ⟨hd3,fv3,C3,rs2,o3,e3,l3⟩
  have hd3:d3=(dn || decide (x.1 ≥ e.1)):=hd3
  refine aggI C3 (x:=q) rfl (app fv3 o3 e3 (by omega) q1 q2 fun z' v' o' e' f'=>?_)
  refine hK _ _ ⟨wsucc hj (by omega),f',_,_,o',e',by simp; omega,?_⟩
  rw [← hL',hd3,List.append_assoc,List.append_assoc]
  rfl
 ·rintro ⟨z,dn,_⟩ v ⟨-,fv,rs',L',o1,e1,hlen,hL'⟩
  rw [List.drop_of_length_le (by omega)] at hL'
  have f0:Fr None w v:=fv.ofUp (Nat.le_refl _)
  have vz:=fv.size
  have fin:∀ {z2:Sl} {v2:World} {rs2:List (Int × Sl)},Own (Up w.heap.size) v2 57 entT z2 rs2→EntsR (fun k=>(k < n∨n0≤k)∧k < w.heap.size) v2 rs2 (insG e false L)→Fr (Up w.heap.size) w v2→K z2 Q v2:=fun o2 e2 f2 =>
   hk _ _ ⟨_,o2.up hn0,e2.mono fun k _ h=>⟨h.1,fun e=>by have:w.heap.size≤k:=o2.own k e; omega⟩⟩ (f2.ofUp (Nat.le_refl _))
  refine joinI (fun z2 v2=>∃ rs2,Own (Up w.heap.size) v2 57 entT z2 rs2∧EntsR (fun k=>(k < n∨n0≤k)∧k < w.heap.size) v2 rs2 (insG e false L)∧Fr (Up w.heap.size) w v2) ?_ fun z2 v2 ⟨rs2,o2,e2,f2⟩=>fin o2 e2 f2
  refine condI (fun hd=>?_) fun hd=>?_
  ·have hd:dn=false:=by simpa using hd
   subst hd
   refine aggI (B.fr f0 fun h=>h) (x:=r) rfl (app fv o1 e1 (by omega) hr1 hrw fun z' v' o' e' f'=>⟨_,o',?_,f'⟩)
   rw [← hL']
   exact e'
  ·have hd:dn=true:=by simpa using hd
   subst hd
   refine ⟨_,o1,?_,fv⟩
   rw [← hL',show insG e true []=[] from rfl,List.append_nil]
   exact e1
end Go.Proofs.YtchhhjlpnecjkaaGreat
