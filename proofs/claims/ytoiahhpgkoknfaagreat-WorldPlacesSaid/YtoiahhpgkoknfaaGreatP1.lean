/-
  What the proof of rows:R15p leans on, laid together by a program of this session (wip/pack.py) out of its own texts; the last of these texts holds rows:R15p.
-/
import Derived.WalkKit
import Derived.KernelRfl
import Derived.StillTail
import Derived.Deep.LoopGhost
import Derived.Lib.Hide
import Derived.Laws.OwnMore
import Derived.Laws.AppendOwn
import Derived.Maps.Keyed
import Derived.ChangeMaps5
import Derived.Laws.BitsLemmas
import Derived.Laws.StructEq
import Derived.ChangeKeysEq
import Derived.ProofKit
import Derived.Deep.Slices
import Derived.OpenShut
import Derived.Laws.CopyRow
import Derived.Lib.Overlaps
import Derived.RangeFuncGives
import Derived.Sort.MapsRangeIn
import Derived.Sort.KeysCollected
import Derived.OwnWalkIn
import Derived.TacticsInMore
import Derived.RegionIn
import Derived.LoopNIn
import Derived.LoopIn
import Derived.Maps.AppendAt
import Derived.Shelf.Abstract
import Derived.Shelf.Lays
import Derived.Shelf.Small.Bits
import Derived.Sort.AssemblyPlain
import Derived.Lib.ItoaNum
import Derived.RangeFuncNested
import Derived.RangeFuncCalls
import Derived.RangeFuncLeaves
import Derived.Shelf.SlSortCmp.NoneTotal
import Derived.Maps.Range
import Derived.DeepKeys4
import Derived.JoinedCond
import Derived.Test.YtoiahhpgkoknfaaGreatProg
import Derived.Test.YtoiahhpgkoknfaaGreatRows
set_option linter.unusedVariables false
set_option linter.unusedSimpArgs false
namespace Go.Proofs.YtoiahhpgkoknfaaGreat.Den
open Go
def memB:List Nat→Nat→Bool
 | [],_=>false
 | x :: r,i=>bif Nat.beq i x then true else memB r i
theorem nbeq {a b:Nat}:Nat.beq a b=true↔a=b:=⟨Nat.eq_of_beq_eq_true,fun h=>by subst h; exact Nat.beq_refl a⟩
theorem Zgt {a b:Nat}:Nat.beq a b=false↔a≠b:=by
 cases h:Nat.beq a b with
 | true=>simp [nbeq.1 h]
 | false=>simp; intro e; rw [nbeq.2 e] at h; cases h
theorem Z67 {l:List Nat} {i:Nat}:memB l i=true↔i∈l:=by
 induction l with
 | nil=>simp [memB]
 | cons x r ih =>
  cases h:Nat.beq i x with
  | true=>simp [memB,nbeq.1 h]
  | false =>
   have:=Zgt.1 h
   simp [memB,h,ih,this]
def quietOp:Op→Bool
 | .move _ | .assign _ | .pick _ _ _ | .load _ _ | .nilCheck _ | .binOp _ _ _ _ _ | .unOp _ _ _ | .convert _ _ _ | .fieldAddr _ _ _ | .field _ _ _ | .indexAddr _ _ _ | .index _ _ _ | .extract _ _ | .build _ _
 | .slice _ _ _ _ none | .makeFunc _ _ _ | .makeInterface _ _ | .lookup _ _ _ _=>true
 | .call { callee:=.builtin .len,.. } | .call { callee:=.builtin .cap,.. } | .call { callee:=.builtin .min,.. } | .call { callee:=.builtin .max,.. }=>true
 | _=>false
def isSlT (P:Program) (T:TypeId):Bool:=match P.underlying T with
 | some (.slice _)=>true
 | _=>false
def pureOp (P:Program):Op→Bool
 | .convert S _ _=>!isSlT P S
 | .move _ | .assign _ | .pick _ _ _ | .nilCheck _ | .unOp _ _ _ | .fieldAddr _ _ _ | .field _ _ _ | .indexAddr _ _ _ | .index _ _ _ | .extract _ _ | .build _ _
 | .slice _ _ _ _ none | .makeFunc _ _ _ | .makeInterface _ _=>true
 | .binOp .eql _ _ _ _ | .binOp .neq _ _ _ _=>false
 | .binOp _ _ _ _ _=>true
 | .call { callee:=.builtin .cap,.. } | .call { callee:=.builtin .min,.. } | .call { callee:=.builtin .max,.. }=>true
 | _=>false
def isLoad:Op→Bool
 | .load _ _=>true
 | _=>false
def isAlloc:Op→Bool
 | .alloc _ | .box _ _ | .buildSlice _ _ _=>true
 | _=>false
def Ext (w w2:World):Prop:=∀ a u,w.cell? a=some u→w2.cell? a=some u
theorem Ext.refl (w:World):Ext w w:=fun _ _ h=>h
theorem Ext.trans {a b c:World} (h:Ext a b) (k:Ext b c):Ext a c:=fun x u hx=>k x u (h x u hx)
theorem Ext.alloc (w:World) (o:Obj):Ext w (w.alloc o):=fun a u h=>by
 exact (World.cell?_of_block (w:=w) (w':=w.alloc o) (a:=a) (heap_alloc_old w o (World.block_lt_of_cell? w a h))).trans h
section
variable {P:Program} {ops:Array Oper} {K:Act→World→Prop} {mp:List Nat} {X:List PanicEntry→World→Prop}
abbrev Mem:=List (Nat × (World→Prop))
abbrev Ord:=List (Nat × List Nat)
def mpOp (mp:List Nat) (o:Oper):Bool:=match o.op with
 | .call c=>(match c.callee with
  | .value (.func g)=>memB mp g
  | _=>false)
 | _=>false
def Step (P:Program) (mp:List Nat) (X:List PanicEntry→World→Prop) (o:Oper) (S:World→Prop) (a:Act) (w:World) (next:Value→Act→World→Prop):Prop :=
 (∃ v w',(execOp a.eval o).run P w=.ok (.value v) w'∧next v (a.put o.dst v) w'∧(quietOp o.op=false→S w')∧(quietOp o.op=true→w'=w) ∧
  (pureOp P o.op=true→∀ w2,(execOp a.eval o).run P w2=.ok (.value v) w2)∧(isLoad o.op=true→∀ w2,Ext w w2→(execOp a.eval o).run P w2=.ok (.value v) w2)∧(isAlloc o.op=true→∃ ob,w'=w.alloc ob)) ∨
 (quietOp o.op=false∧isAlloc o.op=false∧∃ w',(execOp a.eval o).run P w=.ok .skip w'∧next undef (a.put o.dst undef) w'∧S w') ∨
 (quietOp o.op=false∧isAlloc o.op=false∧∃ f args w',(execOp a.eval o).run P w=.ok (.enter f args) w'∧Calls P f args w' (fun e w''=>(∃ v,e=.returned v∧next v (a.put o.dst v) w''∧S w'')∨(mpOp mp o=true∧∃ ch,e=.panicked ch∧X ch w'')))
theorem Step.mono {o:Oper} {S S':World→Prop} {a:Act} {w:World} {next next':Value→Act→World→Prop} (h:Step P mp X o S a w next) (hS:∀ w',S w'→S' w') (hn:∀ v w',next v (a.put o.dst v) w'→next' v (a.put o.dst v) w'):Step P mp X o S' a w next':=by
 rcases h with ⟨v,w',h1,h2,h3,h4⟩ | ⟨h0,h1,w',h2,h3,h4⟩ | ⟨h0,h1,f,args,w',h2,h3⟩
 ·exact .inl ⟨v,w',h1,hn _ _ h2,fun hq=>hS _ (h3 hq),h4⟩
 ·exact .inr (.inl ⟨h0,h1,w',h2,hn _ _ h3,hS _ h4⟩)
 ·refine .inr (.inr ⟨h0,h1,f,args,w',h2,h3.mono ?_⟩)
  rintro e w'' (⟨v,rfl,h5,h6⟩ | h5)
  ·exact .inl ⟨v,rfl,hn _ _ h5,hS _ h6⟩
  ·exact .inr h5
theorem Step.frame {o:Oper} {S:World→Prop} {a a':Act} {w:World} {next:Value→Act→World→Prop} (he:execOp a'.eval o=execOp a.eval o)
  (h:Step P mp X o S a w (fun v _ w'=>next v (a'.put o.dst v) w')):Step P mp X o S a' w next:=by
 unfold Step at *
 rw [he]
 exact h
def LP (P:Program) (o:Oper) (a:Act) (v:Value):World→Prop:=fun w2=>∀ w3,Ext w2 w3→(execOp a.eval o).run P w3=.ok (.value v) w3
def push (P:Program) (i:Nat) (o:Oper) (a:Act) (v:Value) (M:Mem):Mem:=if isLoad o.op=true then (i,LP P o a v) :: M else M
def wpL (P:Program) (mp:List Nat) (X:List PanicEntry→World→Prop) (ops:Array Oper) (K:Act→World→Prop):Ord→Mem→Act→World→Prop
 | [],_,a,w=>K a w
 | (i,S) :: r,M,a,w=>match ops[i]? with
  | none=>wpL P mp X ops K r M a w
  | some o=>if Region.wanted o (yielded ops a.tmps)=true then Step P mp X o (fun w=>∀ q∈M,q.1∈S→q.2 w) a w (fun v a' w'=>wpL P mp X ops K r (push P i o a v M) a' w')
    else wpL P mp X ops K r M (a.put o.dst undef) w
theorem Zt2 {i:Nat} {o:Oper} {a:Act} {v:Value} {M M':Mem} (h:∀ q∈M',q∈M):∀ q∈push P i o a v M',q∈push P i o a v M:=by
 unfold push
 split
 ·intro q hq
  rcases List.mem_cons.1 hq with rfl | hq
  ·exact List.mem_cons_self
  ·exact List.mem_cons_of_mem _ (h q hq)
 ·exact h
theorem Zly:∀ (r:Ord) {M M':Mem} {a:Act} {w:World},(∀ q∈M',q∈M)→wpL P mp X ops K r M a w→wpL P mp X ops K r M' a w
 | [],_,_,_,_,_,h=>h
 | (i,S) :: r,M,M',a,w,hs,h=>by
  unfold wpL at h ⊢
  split
  ·rename_i ho
   rw [ho] at h
   exact Zly r hs h
  ·rename_i o ho
   rw [ho] at h
   dsimp only at h
   split
   ·rename_i hw
    rw [if_pos hw] at h
    exact h.mono (fun w' hq q hm hS=>hq q (hs q hm) hS) (fun v w' hn=>Zly r (Zt2 hs) hn)
   ·rename_i hw
    rw [if_neg hw] at h
    exact Zly r hs h
def commB (P:Program) (mp:List Nat) (ops:Array Oper) (S:List Nat) (x y:Nat):Bool:=match ops[x]?,ops[y]? with
 | some ox,some oy=>ox.apart ops oy && ((quietOp ox.op && quietOp oy.op) || pureOp P ox.op || (pureOp P oy.op && !mpOp mp ox) || (isLoad ox.op && isAlloc oy.op) || (isLoad ox.op && memB S x))
 | _,_=>false
theorem Zao {op:Op} (h:pureOp P op=true):quietOp op=true:=by
 cases op <;> first | rfl | (cases h; done) | skip
 ·rename_i t x lo hi mx
  cases mx <;> first | rfl | cases h
 ·rename_i c
  obtain ⟨callee,args,ts⟩:=c
  cases callee <;> first | (cases h; done) | (rename_i b; cases b <;> first | rfl | cases h)
theorem Z65 {op:Op} (h:isLoad op=true):quietOp op=true∧(∀ P,pureOp P op=false)∧isAlloc op=false:=by
 cases op <;> first | exact ⟨rfl,fun _=>rfl,rfl⟩ | cases h
theorem Zcd {op:Op} (h:isAlloc op=true):quietOp op=false∧(∀ P,pureOp P op=false)∧isLoad op=false:=by
 cases op <;> first | exact ⟨rfl,fun _=>rfl,rfl⟩ | cases h
theorem Zo7 {op:Op} (h:quietOp op=true):isAlloc op=false:=by
 cases hh:isAlloc op with
 | false=>rfl
 | true=>rw [(Zcd hh).1] at h; cases h
theorem Step.quiet {o:Oper} {S:World→Prop} {a:Act} {w:World} {next:Value→Act→World→Prop} (hq:quietOp o.op=true) (h:Step P mp X o S a w next) :
  ∃ v,(execOp a.eval o).run P w=.ok (.value v) w∧next v (a.put o.dst v) w∧(pureOp P o.op=true→∀ w2,(execOp a.eval o).run P w2=.ok (.value v) w2)∧(isLoad o.op=true→∀ w2,Ext w w2→(execOp a.eval o).run P w2=.ok (.value v) w2):=by
 rcases h with ⟨v,w',h1,h2,_,h4,h5,h6,_⟩ | ⟨h0,_⟩ | ⟨h0,_⟩
 ·have:=h4 hq
  subst this
  exact ⟨v,h1,h2,h5,h6⟩
 ·rw [hq] at h0; cases h0
 ·rw [hq] at h0; cases h0
theorem Step.mkq {o:Oper} {S:World→Prop} {a:Act} {w:World} {next:Value→Act→World→Prop} (hq:quietOp o.op=true) {v:Value} (h1:(execOp a.eval o).run P w=.ok (.value v) w) (h2:next v (a.put o.dst v) w)
  (h3:pureOp P o.op=true→∀ w2,(execOp a.eval o).run P w2=.ok (.value v) w2) (h4:isLoad o.op=true→∀ w2,Ext w w2→(execOp a.eval o).run P w2=.ok (.value v) w2):Step P mp X o S a w next :=
 .inl ⟨v,w,h1,h2,fun h=>(by rw [hq] at h; cases h),fun _=>rfl,h3,h4,fun h=>(by rw [Zo7 hq] at h; cases h)⟩
theorem swap (hsel:Region.noSelect ops=true) {x y:Nat} {Sx Sy Sy':List Nat} (hc:commB P mp ops Sy x y=true) (hS:∀ j∈Sy',j∈Sy) {r:Ord} {M:Mem} {a:Act} {w:World}
  (h:wpL P mp X ops K ((x,Sx) :: (y,Sy) :: r) M a w):wpL P mp X ops K ((y,Sy') :: (x,Sx) :: r) M a w:=by
 unfold commB at hc
 cases hx:ops[x]? with
 | none=>rw [hx] at hc; cases hc
 | some ox =>
  cases hy:ops[y]? with
  | none=>rw [hx,hy] at hc; cases hc
  | some oy =>
   rw [hx,hy] at hc
   simp only [Bool.and_eq_true,Bool.or_eq_true] at hc
   obtain ⟨hap,hc⟩:=hc
   obtain ⟨k1,k2,k3⟩:=Oper.apart_spec hap
   have sx:=Region.noSelect_spec hsel x ox
   have sy:=Region.noSelect_spec hsel y oy
   have ex:∀ (a:Act) u,execOp (a.put oy.dst u).eval ox=execOp a.eval ox:=fun a u=>execOp_put ox (fun cs b=>sx cs b hx) a oy.dst u k3
   have ey:∀ (a:Act) u,execOp (a.put ox.dst u).eval oy=execOp a.eval oy:=fun a u=>execOp_put oy (fun cs b=>sy cs b hy) a ox.dst u k1
   have wx:∀ (a:Act) u,Region.wanted ox (yielded ops (a.put oy.dst u).tmps)=Region.wanted ox (yielded ops a.tmps):=fun a u=>wanted_put ox a oy.dst u k3
   have wy:∀ (a:Act) u,Region.wanted oy (yielded ops (a.put ox.dst u).tmps)=Region.wanted oy (yielded ops a.tmps):=fun a u=>wanted_put oy a ox.dst u k1
   have pc:∀ (a:Act) u v,(a.put oy.dst u).put ox.dst v=(a.put ox.dst v).put oy.dst u:=fun a u v=>(Act.put_comm a v u k2).symm
   have lx:∀ (a:Act) u v M,push P x ox (a.put oy.dst u) v M=push P x ox a v M:=fun a u v M=>by unfold push LP; rw [ex]
   have ly:∀ (a:Act) u v M,push P y oy (a.put ox.dst u) v M=push P y oy a v M:=fun a u v M=>by unfold push LP; rw [ey]
   have pcomm:∀ u v (M:Mem) q,q∈push P x ox a v (push P y oy a u M)↔q∈push P y oy a u (push P x ox a v M):=by
    intro u v M q
    unfold push
    split <;> split <;> simp only [List.mem_cons] <;> grind
   simp only [wpL,hx,hy] at h ⊢
   rcases Classical.em (Region.wanted ox (yielded ops a.tmps)=true) with hwx | hwx <;> rcases Classical.em (Region.wanted oy (yielded ops a.tmps)=true) with hwy | hwy
   case inl.inl =>
    rw [if_pos hwx] at h
    rw [if_pos hwy]
    by_cases hqx:quietOp ox.op=true
    ·obtain ⟨v,r1,hn,r3,r4⟩:=Step.quiet hqx h
     rw [wy,if_pos hwy] at hn
     have good:∀ w',(quietOp oy.op=true→w'=w)→(isAlloc oy.op=true→∃ ob,w'=w.alloc ob)→(quietOp oy.op=false→∀ q∈push P x ox a v M,q.1∈Sy→q.2 w') →
       (execOp a.eval ox).run P w'=.ok (.value v) w'∧(isLoad ox.op=true→∀ w2,Ext w' w2→(execOp a.eval ox).run P w2=.ok (.value v) w2):=by
      intro w' g1 g2 g3
      by_cases hpx:pureOp P ox.op=true
      ·exact ⟨r3 hpx w',fun _ w2 _=>r3 hpx w2⟩
      ·by_cases hqy:quietOp oy.op=true
       ·have:=g1 hqy
        subst this
        exact ⟨r1,r4⟩
       ·have hqy':quietOp oy.op=false:=by simpa using hqy
        have hpy:¬ pureOp P oy.op=true:=fun hp=>hqy (Zao hp)
        rcases hc with (((⟨_,h2⟩ | h2) | ⟨h2,_⟩) | ⟨h2,h3⟩) | ⟨h2,h3⟩
        ·exact absurd h2 hqy
        ·exact absurd h2 hpx
        ·exact absurd h2 hpy
        ·obtain ⟨ob,rfl⟩:=g2 h3
         exact ⟨r4 h2 _ (Ext.alloc w ob),fun _ w2 he=>r4 h2 w2 ((Ext.alloc w ob).trans he)⟩
        ·have hq:=g3 hqy' (x,LP P ox a v) (by unfold push; rw [if_pos h2]; exact List.mem_cons_self) (Z67.1 h3)
         exact ⟨hq w' (Ext.refl w'),fun _ w2 he=>hq w2 he⟩
     have nxt:∀ u w',(execOp a.eval ox).run P w'=.ok (.value v) w'→(isLoad ox.op=true→∀ w2,Ext w' w2→(execOp a.eval ox).run P w2=.ok (.value v) w2) →
       wpL P mp X ops K r (push P y oy (a.put ox.dst v) u (push P x ox a v M)) ((a.put ox.dst v).put oy.dst u) w' →
       (if Region.wanted ox (yielded ops (a.put oy.dst u).tmps)=true then Step P mp X ox (fun w=>∀ q∈push P y oy a u M,q.1∈Sx→q.2 w) (a.put oy.dst u) w' (fun v a' w'=>wpL P mp X ops K r (push P x ox (a.put oy.dst u) v (push P y oy a u M)) a' w')
        else wpL P mp X ops K r (push P y oy a u M) ((a.put oy.dst u).put ox.dst undef) w'):=by
      intro u w' g1 g2 g3
      rw [wx,if_pos hwx]
      refine Step.mkq hqx (v:=v) (by rw [ex]; exact g1) ?_ (fun hp w2=>by rw [ex]; exact r3 hp w2) (fun hl w2 he=>by rw [ex]; exact g2 hl w2 he)
      rw [lx,pc]
      rw [ly] at g3
      exact Zly r (fun q hq=>(pcomm u v M q).1 hq) g3
     refine Step.frame (ey a v).symm ?_
     rcases hn with ⟨u,w',q1,q2,q3,q4,q5,q6,q7⟩ | ⟨q0,q1,w',q2,q3,q4⟩ | ⟨q0,q1,f,args,w',q2,q3⟩
     ·obtain ⟨g1,g2⟩:=good w' q4 q7 q3
      exact .inl ⟨u,w',q1,nxt u w' g1 g2 q2,fun hq q hm hj=>q3 hq q (by unfold push; split <;> simp [hm]) (hS _ hj),q4,q5,q6,q7⟩
     ·obtain ⟨g1,g2⟩:=good w' (fun h=>by rw [q0] at h; cases h) (fun h=>by rw [q1] at h; cases h) (fun _=>q4)
      exact .inr (.inl ⟨q0,q1,w',q2,nxt undef w' g1 g2 (by unfold push at q3 ⊢; rw [if_neg (fun h=>by rw [(Z65 h).1] at q0; cases q0)] at q3 ⊢; exact q3),fun q hm hj=>q4 q (by unfold push; split <;> simp [hm]) (hS _ hj)⟩)
     ·refine .inr (.inr ⟨q0,q1,f,args,w',q2,q3.mono ?_⟩)
      rintro e w'' (⟨u,rfl,q4,q5⟩ | q4)
      ·obtain ⟨g1,g2⟩:=good w'' (fun h=>by rw [q0] at h; cases h) (fun h=>by rw [q1] at h; cases h) (fun _=>q5)
       exact .inl ⟨u,rfl,nxt u w'' g1 g2 q4,fun q hm hj=>q5 q (by unfold push; split <;> simp [hm]) (hS _ hj)⟩
      ·exact .inr q4
    ·have hpy:pureOp P oy.op=true:=by
      rcases hc with (((⟨h2,_⟩ | h2) | ⟨h2,_⟩) | ⟨h2,_⟩) | ⟨h2,_⟩
      ·exact absurd h2 hqx
      ·exact absurd (Zao h2) hqx
      ·exact h2
      ·exact absurd (Z65 h2).1 hqx
      ·exact absurd (Z65 h2).1 hqx
     have hmx:mpOp mp ox=false:=by
      rcases hc with (((⟨h2,_⟩ | h2) | ⟨_,h2⟩) | ⟨h2,_⟩) | ⟨h2,_⟩
      ·exact absurd h2 hqx
      ·exact absurd (Zao h2) hqx
      ·simpa using h2
      ·exact absurd (Z65 h2).1 hqx
      ·exact absurd (Z65 h2).1 hqx
     have hqy:=Zao hpy
     have hnl:∀ (a:Act) u (M:Mem),push P y oy a u M=M:=fun a u M=>by unfold push; rw [if_neg (fun h=>by rw [(Z65 h).2.1] at hpy; cases hpy)]
     have fromy:∀ v w',Step P mp X oy (fun w=>∀ q∈push P x ox a v M,q.1∈Sy→q.2 w) (a.put ox.dst v) w' (fun u a' w'=>wpL P mp X ops K r (push P y oy (a.put ox.dst v) u (push P x ox a v M)) a' w') →
       ∃ u,(∀ w2,(execOp a.eval oy).run P w2=.ok (.value u) w2)∧wpL P mp X ops K r (push P x ox a v M) ((a.put ox.dst v).put oy.dst u) w':=by
      intro v w' hs
      obtain ⟨u,_,g2,g3,_⟩:=Step.quiet hqy hs
      rw [hnl] at g2
      exact ⟨u,fun w2=>by have:=g3 hpy w2; rwa [ey] at this,g2⟩
     have mk:∀ u,(∀ w2,(execOp a.eval oy).run P w2=.ok (.value u) w2) →
       Step P mp X ox (fun w=>∀ q∈M,q.1∈Sx→q.2 w) (a.put oy.dst u) w (fun v a' w'=>wpL P mp X ops K r (push P x ox (a.put oy.dst u) v M) a' w') →
       Step P mp X oy (fun w=>∀ q∈M,q.1∈Sy'→q.2 w) a w (fun u a' w'=>if Region.wanted ox (yielded ops a'.tmps)=true then Step P mp X ox (fun w=>∀ q∈push P y oy a u M,q.1∈Sx→q.2 w) a' w' (fun v a'' w''=>wpL P mp X ops K r (push P x ox a' v (push P y oy a u M)) a'' w'')
        else wpL P mp X ops K r (push P y oy a u M) (a'.put ox.dst undef) w'):=by
      intro u hu hs
      refine Step.mkq hqy (v:=u) (hu w) ?_ (fun _=>hu) (fun hl=>by rw [(Z65 hl).2.1] at hpy; cases hpy)
      rw [wx,if_pos hwx,hnl]
      exact hs
     rcases h with ⟨v,w',q1,q2,q3,q4,q5,q6,q7⟩ | ⟨q0,q1,w',q2,q3,q4⟩ | ⟨q0,q1,f,args,w',q2,q3⟩
     ·rw [wy,if_pos hwy] at q2
      obtain ⟨u,hu,hk⟩:=fromy v w' q2
      refine mk u hu (.inl ⟨v,w',by rw [ex]; exact q1,by dsimp only; rw [lx,pc]; exact hk,q3,q4,fun hp=>by rw [ex]; exact q5 hp,fun hl=>by rw [ex]; exact q6 hl,q7⟩)
     ·rw [wy,if_pos hwy] at q3
      obtain ⟨u,hu,hk⟩:=fromy undef w' q3
      refine mk u hu (.inr (.inl ⟨q0,q1,w',by rw [ex]; exact q2,by dsimp only; rw [lx,pc]; exact hk,q4⟩))
     ·have q3:Calls P f args w' (fun e w''=>∃ v,e=.returned v∧_∧_):=q3.mono fun e w'' h=>h.elim id fun h=>(by rw [hmx] at h; cases h.1)
      obtain ⟨e0,w0,fr,⟨v0,_,hn0,_⟩,_⟩:=q3 []
      rw [wy,if_pos hwy] at hn0
      obtain ⟨u,hu,_⟩:=fromy v0 w0 hn0
      refine mk u hu (.inr (.inr ⟨q0,q1,f,args,w',by rw [ex]; exact q2,q3.mono ?_⟩))
      rintro e w'' ⟨v,rfl,hn,hs⟩
      rw [wy,if_pos hwy] at hn
      obtain ⟨u',hu',hk⟩:=fromy v w'' hn
      have:u'=u:=by
       have h1:=hu w
       rw [hu' w] at h1
       cases h1
       rfl
      subst this
      exact .inl ⟨v,rfl,by dsimp only; rw [lx,pc]; exact hk,hs⟩
   case inl.inr =>
    rw [if_pos hwx] at h
    rw [if_neg hwy,wx,if_pos hwx]
    refine Step.frame (ex a undef) (h.mono (fun w' hq=>hq) ?_)
    intro v w' hn
    rw [wy,if_neg hwy] at hn
    rw [lx,pc]
    exact hn
   case inr.inl =>
    rw [if_neg hwx,wy,if_pos hwy] at h
    rw [if_pos hwy]
    refine Step.frame (ey a undef).symm (h.mono (fun w' hq q hm hj=>hq q hm (hS _ hj)) ?_)
    intro u w' hn
    rw [wx,if_neg hwx,pc,← ly a undef]
    exact hn
   case inr.inr =>
    rw [if_neg hwx,wy,if_neg hwy] at h
    rw [if_neg hwy,wx,if_neg hwx,pc]
    exact h
theorem bubble (hsel:Region.noSelect ops=true) {i:Nat}:∀ (pre:Ord) {S:List Nat} {r:Ord} {M:Mem} {a:Act} {w:World},(∀ q∈pre,commB P mp ops S q.1 i=true) →
  wpL P mp X ops K (pre ++ (i,S) :: r) M a w→wpL P mp X ops K ((i,S) :: pre ++ r) M a w
 | [],_,_,_,_,_,_,h=>h
 | (x,Sx) :: pre,S,r,M,a,w,hc,h=>by
  have hx:=hc (x,Sx) List.mem_cons_self
  refine swap hsel hx (fun _ h=>h) (r:=pre ++ r) ?_
  have ih:∀ M a w,wpL P mp X ops K (pre ++ (i,S) :: r) M a w→wpL P mp X ops K ((i,S) :: pre ++ r) M a w:=fun M a w=>bubble hsel pre (fun q hq=>hc q (List.mem_cons_of_mem _ hq))
  rw [List.cons_append] at h
  simp only [wpL] at h
  have h':wpL P mp X ops K ((x,Sx) :: (pre ++ (i,S) :: r)) M a w:=by simp only [wpL]; exact h
  clear h
  generalize hl:pre ++ (i,S) :: r=l at h' ih
  have hl2:((i,S) :: (pre ++ r))=((i,S) :: pre ++ r):=rfl
  rw [hl2]
  generalize (i,S) :: pre ++ r=l2 at ih ⊢
  simp only [wpL] at h' ⊢
  split
  ·rename_i ho
   rw [ho] at h'
   exact ih _ _ _ h'
  ·rename_i o ho
   rw [ho] at h'
   dsimp only at h'
   split
   ·rename_i hw
    rw [if_pos hw] at h'
    exact h'.mono (fun _ h=>h) (fun v w' hn=>ih _ _ _ hn)
   ·rename_i hw
    rw [if_neg hw] at h'
    exact ih _ _ _ h'
def Bf (l:List Nat) (x y:Nat):Prop:=∃ l1 l2,l=l1 ++ x :: l2∧y∈l2
theorem reorder (hsel:Region.noSelect ops=true):∀ (l:List Nat) (r:Ord) {M:Mem} {a:Act} {w:World},l.Nodup→(r.map (·.1)).Nodup→(∀ i,i∈l↔i∈r.map (·.1)) →
  (∀ x y S,(y,S)∈r→Bf (r.map (·.1)) x y→Bf l y x→commB P mp ops S x y=true)→wpL P mp X ops K r M a w→wpL P mp X ops K (l.map (fun i=>(i,[]))) M a w
 | [],r,M,a,w,_,_,hm,_,h=>by
  cases r with
  | nil=>exact h
  | cons q r=>exact absurd ((hm q.1).2 (by simp)) (by simp)
 | i :: l,r,M,a,w,hl,hr,hm,hc,h=>by
  have hi:i∈r.map (·.1):=(hm i).1 List.mem_cons_self
  obtain ⟨⟨j,S⟩,hq,hji⟩:=List.mem_map.1 hi
  dsimp only at hji
  subst hji
  obtain ⟨pre,post,rfl⟩:=List.append_of_mem hq
  rw [List.map_append,List.map_cons] at hr hm
  have hnp:∀ q∈pre,q.1≠j∧q.1∈l:=by
   intro q hqp
   have h1:q.1∈pre.map (·.1):=List.mem_map.2 ⟨q,hqp,rfl⟩
   have h2:q.1≠j:=by
    intro e
    have:=List.nodup_append.1 hr
    exact this.2.2 _ h1 _ (List.mem_cons_self) e
   have h3:=(hm q.1).2 (List.mem_append_left _ h1)
   exact ⟨h2,(List.mem_cons.1 h3).resolve_left h2⟩
  have hb:=bubble hsel pre (fun q hqp=>hc q.1 j S (by simp) (by
    obtain ⟨p1,p2,hp⟩:=List.append_of_mem hqp
    refine ⟨p1.map (·.1),p2.map (·.1) ++ j :: post.map (·.1),?_,by simp⟩
    rw [hp]; simp) ⟨[],l,rfl,(hnp q hqp).2⟩) h
  have hnd:((pre ++ post).map (·.1)).Nodup:=by
   rw [List.map_append]
   exact hr.sublist (List.Sublist.append_left (List.sublist_cons_self _ _) _)
  have hj:j ∉ (pre ++ post).map (·.1):=by
   rw [List.map_append]
   intro hh
   rcases List.mem_append.1 hh with hh | hh
   ·obtain ⟨q,h1,h2⟩:=List.mem_map.1 hh
    exact (hnp q h1).1 h2
   ·have:=(List.nodup_append.1 hr).2.1
    exact (List.nodup_cons.1 this).1 hh
  have hm':∀ i,i∈l↔i∈(pre ++ post).map (·.1):=by
   intro i
   rw [List.map_append]
   constructor
   ·intro hil
    have h1:=(hm i).1 (List.mem_cons_of_mem _ hil)
    have h2:i≠j:=fun e=>(List.nodup_cons.1 hl).1 (e ▸ hil)
    rcases List.mem_append.1 h1 with h1 | h1
    ·exact List.mem_append_left _ h1
    ·exact List.mem_append_right _ ((List.mem_cons.1 h1).resolve_left h2)
   ·intro hil
    have h1:i∈pre.map (·.1) ++ j :: post.map (·.1):=by
     rcases List.mem_append.1 hil with h1 | h1
     ·exact List.mem_append_left _ h1
     ·exact List.mem_append_right _ (List.mem_cons_of_mem _ h1)
    have h2:=(hm i).2 h1
    exact (List.mem_cons.1 h2).resolve_left (fun e=>hj (by rw [List.map_append,← e]; exact hil))
  have hc':∀ x y S,(y,S)∈pre ++ post→Bf ((pre ++ post).map (·.1)) x y→Bf l y x→commB P mp ops S x y=true:=by
   rintro x y S' hy ⟨l1,l2,he,hx⟩ ⟨m1,m2,hme,hmx⟩
   refine hc x y S' (by rcases List.mem_append.1 hy with h | h <;> simp [h]) ?_ ⟨j :: m1,m2,by rw [hme]; rfl,hmx⟩
   rw [List.map_append,List.map_cons]
   rw [List.map_append] at he
   rcases List.append_eq_append_iff.1 he with ⟨c,h1,h2⟩ | ⟨c,h1,h2⟩
   ·
    refine ⟨pre.map (·.1) ++ j :: c,l2,?_,hx⟩
    rw [h2]; simp
   ·
    cases c with
    | nil =>
     simp only [List.nil_append] at h2
     refine ⟨pre.map (·.1) ++ [j],l2,?_,hx⟩
     rw [← h2]; simp
    | cons z c =>
     simp only [List.cons_append,List.cons.injEq] at h2
     obtain ⟨rfl,h2⟩:=h2
     refine ⟨l1,c ++ j :: post.map (·.1),?_,?_⟩
     ·rw [h1]; simp
     ·rw [h2] at hx
      rcases List.mem_append.1 hx with h | h
      ·exact List.mem_append_left _ h
      ·exact List.mem_append_right _ (List.mem_cons_of_mem _ h)
  rw [List.cons_append] at hb
  rw [List.map_cons]
  have ih:∀ M a w,wpL P mp X ops K (pre ++ post) M a w→wpL P mp X ops K (l.map (fun i=>(i,[]))) M a w:=fun M a w=>reorder hsel l (pre ++ post) (List.nodup_cons.1 hl).2 hnd hm' hc'
  generalize pre ++ post=r1 at hb ih
  generalize l.map (fun i=>((i,[]):Nat × List Nat))=r2 at ih ⊢
  simp only [wpL] at hb ⊢
  split
  ·rename_i ho
   rw [ho] at hb
   exact ih _ _ _ hb
  ·rename_i o ho
   rw [ho] at hb
   dsimp only at hb
   split
   ·rename_i hw
    rw [if_pos hw] at hb
    exact hb.mono (fun _ _ q _ hq=>by cases hq) (fun v w' hn=>ih _ _ _ hn)
   ·rename_i hw
    rw [if_neg hw] at hb
    exact ih _ _ _ hb
theorem Zci {I:Act→Prop} (hI:∀ (i:Nat) (o:Oper) (v:Value) (a:Act),ops[i]?=some o→I a→I (a.put o.dst v)) {QX:Exit→Act→World→Prop} (hX:∀ ch a w,I a→X ch w→QX (.panic ch) a w) (hK:∀ a w,K a w→QX .normal a w):∀ (l:List Nat) {M:Mem} {a:Act} {w:World},I a→wpL P mp X ops K (l.map (fun i=>(i,[]))) M a w→wpOps P ops QX l a w
 | [],M,a,w,_,h=>hK a w h
 | i :: l,M,a,w,hd,h=>by
  rw [List.map_cons] at h
  simp only [wpL] at h
  unfold wpOps
  cases ho:ops[i]? with
  | none=>rw [ho] at h; exact Zci hI hX hK l hd h
  | some o =>
   rw [ho] at h
   dsimp only at h ⊢
   split
   ·rename_i hw
    rw [if_pos hw] at h
    refine .inl ?_
    unfold Oper.wp
    rcases h with ⟨v,w',h1,h2,_⟩ | ⟨_,_,w',h1,h2,_⟩ | ⟨_,_,f,args,w',h1,h2⟩
    ·rw [h1]; exact Zci hI hX hK l (hI _ _ _ _ ho hd) h2
    ·rw [h1]; exact Zci hI hX hK l (hI _ _ _ _ ho hd) h2
    ·rw [h1]
     refine Calls.mono h2 ?_
     rintro e w'' (⟨v,rfl,h3,_⟩ | ⟨_,ch,rfl,h3⟩)
     ·exact Zci hI hX hK l (hI _ _ _ _ ho hd) h3
     ·exact hX ch a w'' hd h3
   ·rename_i hw
    rw [if_neg hw] at h
    exact Zci hI hX hK l (hI _ _ _ _ ho hd) h
def ins (x:Nat) (l:List Nat):List Nat:=bif memB l x then l else x :: l
def insAll:List Nat→List Nat→List Nat
 | [],s=>s
 | x :: r,s=>ins x (insAll r s)
theorem Zrb {x y:Nat} {l:List Nat}:y∈ins x l↔y=x∨y∈l:=by
 unfold ins
 cases h:memB l x with
 | true=>have:=Z67.1 h; simp; intro e; rw [e]; exact this
 | false=>simp
theorem Zkc {y:Nat}:∀ {l s:List Nat},y∈insAll l s↔y∈l∨y∈s
 | [],s=>by simp [insAll]
 | x :: r,s=>by simp only [insAll,Zrb,Zkc,List.mem_cons,or_assoc]
def nthL:List (List Nat)→Nat→List Nat
 | [],_=>[]
 | x :: _,0=>x
 | _ :: r,n+1=>nthL r n
def depsOf (acc:List (List Nat)):List Edge→List Nat
 | []=>[]
 | e :: r=>bif Region.binds .any e then ins e.on (insAll (nthL acc e.on) (depsOf acc r)) else depsOf acc r
def closure:List Oper→List (List Nat)→List (List Nat)
 | [],acc=>acc
 | o :: r,acc=>closure r (acc ++ [depsOf acc o.after.toList])
theorem Zgc {acc:List (List Nat)} {j:Nat}:∀ {es:List Edge},j∈depsOf acc es→∃ e∈es,Region.binds .any e=true∧(e.on=j∨j∈nthL acc e.on)
 | [],h=>by simp [depsOf] at h
 | e :: r,h=>by
  simp only [depsOf] at h
  cases hb:Region.binds .any e with
  | false =>
   rw [hb] at h
   obtain ⟨e',h1,h2⟩:=Zgc h
   exact ⟨e',List.mem_cons_of_mem _ h1,h2⟩
  | true =>
   rw [hb,cond_true,Zrb,Zkc] at h
   rcases h with h | h | h
   ·exact ⟨e,List.mem_cons_self,hb,.inl h.symm⟩
   ·exact ⟨e,List.mem_cons_self,hb,.inr h⟩
   ·obtain ⟨e',h1,h2⟩:=Zgc h
    exact ⟨e',List.mem_cons_of_mem _ h1,h2⟩
theorem Za1:∀ (a b:List (List Nat)) (i:Nat),i < a.length→nthL (a ++ b) i=nthL a i
 | [],_,_,h=>by simp at h
 | x :: a,b,0,_=>rfl
 | x :: a,b,i+1,h=>Za1 a b i (by simpa using h)
theorem Zc5:∀ (a:List (List Nat)) (x:List Nat),nthL (a ++ [x]) a.length=x
 | [],_=>rfl
 | _ :: a,x=>Zc5 a x
theorem Zlg:∀ (a:List (List Nat)) (i:Nat),a.length≤i→nthL a i=[]
 | [],_,_=>rfl
 | _ :: a,0,h=>by simp at h
 | _ :: a,i+1,h=>Zlg a i (by simpa using h)
theorem Zgs:∀ (l pre:List Oper) (acc:List (List Nat)),acc.length=pre.length →
  (∀ i j,j∈nthL acc i→∃ o e,(pre ++ l)[i]?=some o∧e∈o.after.toList∧Region.binds .any e=true∧(e.on=j∨j∈nthL acc e.on)) →
  ∀ i j,j∈nthL (closure l acc) i→∃ o e,(pre ++ l)[i]?=some o∧e∈o.after.toList∧Region.binds .any e=true∧(e.on=j∨j∈nthL (closure l acc) e.on)
 | [],pre,acc,hl,h=>by simpa [closure] using h
 | o :: l,pre,acc,hl,h=>by
  have hkeep:∀ i j,j∈nthL acc i→j∈nthL (acc ++ [depsOf acc o.after.toList]) i:=by
   intro i j hj
   by_cases hi:i < acc.length
   ·rw [Za1 _ _ _ hi]; exact hj
   ·rw [Zlg acc i (by omega)] at hj; simp at hj
  have:=Zgs l (pre ++ [o]) (acc ++ [depsOf acc o.after.toList]) (by simp [hl]) (by
   intro i j hj
   by_cases hi:i < acc.length
   ·rw [Za1 _ _ _ hi] at hj
    obtain ⟨o',e,h1,h2,h3,h4⟩:=h i j hj
    exact ⟨o',e,by simpa using h1,h2,h3,h4.imp id (hkeep _ _)⟩
   ·by_cases hi2:i=acc.length
    ·subst hi2
     rw [Zc5] at hj
     obtain ⟨e,h1,h2,h3⟩:=Zgc hj
     exact ⟨o,e,by simp [hl],h1,h2,h3.imp id (hkeep _ _)⟩
    ·rw [Zlg _ _ (by simp; omega)] at hj
     simp at hj)
  simpa [closure] using this
def backB (ops:List Oper):Nat→Bool
 | 0=>true
 | i+1=>(match ops[i]? with
  | none=>true
  | some o=>o.after.toList.all fun e=>!Region.binds .any e || Nat.blt e.on i) && backB ops i
theorem Zce {ops:List Oper}:∀ {m:Nat},backB ops m=true→∀ i o,i < m→ops[i]?=some o→∀ e∈o.after.toList,Region.binds .any e=true→e.on < i
 | 0,_,i,_,h,_,_,_,_=>by omega
 | m+1,hb,i,o,hi,ho,e,he,hbd=>by
  simp only [backB,Bool.and_eq_true] at hb
  by_cases him:i=m
  ·subst him
   have h1:=hb.1
   rw [ho] at h1
   have h2:=List.all_eq_true.1 h1 e he
   simp only [hbd,Bool.not_true,Bool.false_or] at h2
   exact Nat.le_of_ble_eq_true h2
  ·exact Zce hb.2 i o (by omega) ho e he hbd
structure Lin (ops:Array Oper) (l:List Nat):Prop where
 nodup:l.Nodup
 all:∀ i,i∈l↔i < ops.size
 resp:∀ x y,Bf l x y→y ∉ nthL (closure ops.toList []) x
theorem Zux (hback:backB ops.toList ops.size=true):∀ (fuel t:Nat) (listed:Array Bool),listed.size=ops.size →
  ((List.range ops.size).filter (fun i=>!listed.getD i true)).length≤fuel →
  (∀ i o,ops[i]?=some o→listed.getD i false=true→∀ e∈o.after.toList,Region.binds .any e=true→listed.getD e.on false=true) →
  (Region.linearise.go .any ops fuel t listed []).Nodup∧(∀ i,i∈Region.linearise.go .any ops fuel t listed []↔i < ops.size∧listed.getD i true=false) ∧
   (∀ x y,Bf (Region.linearise.go .any ops fuel t listed []) x y→y ∉ nthL (closure ops.toList []) x):=by
 have hcl:=Zgs ops.toList [] [] rfl (by intro i j h; simp [nthL] at h)
 simp only [List.nil_append] at hcl
 intro fuel
 induction fuel with
 | zero =>
  intro t listed hsz hlen _
  have h0:(List.range ops.size).filter (fun i=>!listed.getD i true)=[]:=List.length_eq_zero_iff.1 (by omega)
  simp only [Region.linearise.go,List.reverse_nil]
  refine ⟨by simp,fun i=>⟨fun h=>by simp at h,fun ⟨h1,h2⟩=>?_⟩,?_⟩
  ·have:i∈(List.range ops.size).filter (fun i=>!listed.getD i true):=List.mem_filter.2 ⟨List.mem_range.2 h1,by simp [h2]⟩
   rw [h0] at this; exact this
  ·rintro x y ⟨l1,l2,h,_⟩; simp at h
 | succ fuel ih =>
  intro t listed hsz hlen hclo
  simp only [Region.linearise.go]
  have hr:∀ i,i∈Region.ready .any ops listed↔i < ops.size∧listed.getD i true=false∧∃ o,ops[i]?=some o∧∀ e∈o.after.toList,Region.binds .any e=true→listed.getD e.on false=true:=by
   intro i
   unfold Region.ready
   rw [List.mem_filter,List.mem_range]
   simp only [Bool.and_eq_true,Bool.not_eq_true']
   constructor
   ·rintro ⟨h1,h2,h3⟩
    refine ⟨h1,h2,ops[i],by simp [h1],?_⟩
    simp only [h1,Array.getElem?_eq_getElem,Option.map_some,Option.getD_some] at h3
    intro e he hb
    have:=Array.all_eq_true_iff_forall_mem.1 h3 e (by simpa using he)
    simpa [hb] using this
   ·rintro ⟨h1,h2,o,ho,h3⟩
    refine ⟨h1,h2,?_⟩
    simp only [ho,Option.map_some,Option.getD_some]
    refine Array.all_eq_true_iff_forall_mem.2 fun e he=>?_
    by_cases hb:Region.binds .any e=true
    ·simp [h3 e (by simpa using he) hb]
    ·simp [hb]
  have gd:∀ i,i < ops.size→(listed.getD i true=false↔listed.getD i false=false):=by
   intro i hi
   have:i < listed.size:=by omega
   simp [this]
  have hex:∀ i,i < ops.size→listed.getD i true=false→∃ k,k∈Region.ready .any ops listed:=by
   intro i
   induction i using Nat.strongRecOn with
   | _ i hind =>
    intro h1 h2
    by_cases hall:∀ e∈ops[i].after.toList,Region.binds .any e=true→listed.getD e.on false=true
    ·exact ⟨i,(hr i).2 ⟨h1,h2,ops[i],by simp [h1],hall⟩⟩
    ·simp only [Classical.not_forall] at hall
     obtain ⟨e,he,hb,hn⟩:=hall
     have hlt:=Zce hback i ops[i] h1 (by simp [h1]) e he hb
     exact hind e.on hlt (by omega) ((gd e.on (by omega)).2 (by simpa using hn))
  change (match (Region.ready .any ops listed)[t % (Region.ready .any ops listed).length]? with
   | some i=>Region.linearise.go .any ops fuel (t / (Region.ready .any ops listed).length) (listed.setIfInBounds i true) [i]
   | none=>[].reverse).Nodup∧(∀ i,i∈(match (Region.ready .any ops listed)[t % (Region.ready .any ops listed).length]? with
   | some i=>Region.linearise.go .any ops fuel (t / (Region.ready .any ops listed).length) (listed.setIfInBounds i true) [i]
   | none=>[].reverse)↔i < ops.size∧listed.getD i true=false)∧(∀ x y,Bf (match (Region.ready .any ops listed)[t % (Region.ready .any ops listed).length]? with
   | some i=>Region.linearise.go .any ops fuel (t / (Region.ready .any ops listed).length) (listed.setIfInBounds i true) [i]
   | none=>[].reverse) x y→y ∉ nthL (closure ops.toList []) x)
  cases hi:(Region.ready .any ops listed)[t % (Region.ready .any ops listed).length]? with
  | none =>
   have hnil:Region.ready .any ops listed=[]:=by
    cases hrr:Region.ready .any ops listed with
    | nil=>rfl
    | cons x xs =>
     rw [hrr] at hi
     have hlt:t % (x :: xs).length < (x :: xs).length:=Nat.mod_lt _ (by simp)
     have:=List.getElem?_eq_none_iff.1 hi
     omega
   refine ⟨by simp,fun i=>⟨fun h=>by simp at h,fun ⟨h1,h2⟩=>?_⟩,?_⟩
   ·obtain ⟨k,hk⟩:=hex i h1 h2
    rw [hnil] at hk; cases hk
   ·rintro x y ⟨l1,l2,h,_⟩; simp at h
  | some i =>
   have him:=List.mem_of_getElem? hi
   obtain ⟨h1,h2,o,ho,h3⟩:=(hr i).1 him
   dsimp only
   rw [linearise_go_acc,List.reverse_singleton,List.singleton_append]
   have hset:∀ k (d:Bool),(listed.setIfInBounds i true).getD k d=if k=i then true else listed.getD k d:=by
    intro k d
    by_cases hk:k=i
    ·subst hk
     have:k < listed.size:=by omega
     simp [this]
    ·rw [if_neg hk]
     simp [Array.getElem?_setIfInBounds_ne (fun e=>hk e.symm)]
   obtain ⟨g1,g2,g3⟩:=ih (t / (Region.ready .any ops listed).length) (listed.setIfInBounds i true) (by simp [hsz]) (by
     have hsub:(List.range ops.size).filter (fun k=>!(listed.setIfInBounds i true).getD k true)=((List.range ops.size).filter (fun k=>!listed.getD k true)).erase i:=by
      rw [List.Nodup.erase_eq_filter (List.nodup_range.filter _),List.filter_filter]
      apply List.filter_congr
      intro k _
      rw [hset]
      by_cases hk:k=i <;> simp [hk]
     rw [hsub,List.length_erase_of_mem (List.mem_filter.2 ⟨List.mem_range.2 h1,by simp [h2]⟩)]
     omega) (by
     intro k ok hok hl e he hb
     rw [hset] at hl ⊢
     by_cases hk:k=i
     ·subst hk
      rw [ho] at hok
      cases hok
      split
      ·rfl
      ·exact h3 e he hb
     ·rw [if_neg hk] at hl
      split
      ·rfl
      ·exact hclo k ok hok hl e he hb)
   refine ⟨List.nodup_cons.2 ⟨fun h=>?_,g1⟩,fun k=>?_,?_⟩
   ·have:=((g2 i).1 h).2
    rw [hset,if_pos rfl] at this
    cases this
   ·rw [List.mem_cons,g2,hset]
    by_cases hk:k=i
    ·subst hk; simp [h1,h2]
    ·simp [hk]
   ·rintro x y ⟨l1,l2,he,hy⟩
    cases l1 with
    | cons z l1 =>
     simp only [List.cons_append,List.cons.injEq] at he
     exact g3 x y ⟨l1,l2,he.2,hy⟩
    | nil =>
     simp only [List.nil_append,List.cons.injEq] at he
     obtain ⟨rfl,rfl⟩:=he
     have hyl:listed.getD y true=false:=by
      have:=((g2 y).1 hy).2
      rw [hset] at this
      split at this
      ·cases this
      ·exact this
     have hylt:=((g2 y).1 hy).1
     have key:∀ m k,k≤m→(k=i∨listed.getD k false=true)→∀ j,j∈nthL (closure ops.toList []) k→k < ops.size→listed.getD j false=true:=by
      intro m
      induction m with
      | zero =>
       intro k hk hkl j hj hks
       obtain ⟨o',e,e1,e2,e3,e4⟩:=hcl k j hj
       have:=Zce hback k o' hks e1 e e2 e3
       omega
      | succ m ihm =>
       intro k hk hkl j hj hks
       obtain ⟨o',e,e1,e2,e3,e4⟩:=hcl k j hj
       have hlt:=Zce hback k o' hks e1 e e2 e3
       have hel:listed.getD e.on false=true:=by
        rcases hkl with rfl | hkl
        ·have:o'=o:=by
          have e1':ops[k]?=some o':=by simpa using e1
          rw [ho] at e1'
          cases e1'
          rfl
         subst this
         exact h3 e e2 e3
        ·exact hclo k o' (by simpa using e1) hkl e e2 e3
       rcases e4 with rfl | e4
       ·exact hel
       ·exact ihm e.on (by omega) (.inr hel) j e4 (by omega)
     intro hin
     have:=key i i (Nat.le_refl _) (.inl rfl) y hin h1
     rw [(gd y hylt).1 hyl] at this
     cases this
theorem Zuy (hback:backB ops.toList ops.size=true) (t:Nat):Lin ops (Region.linearise .any ops t):=by
 have hrep:∀ (i:Nat) (d:Bool),(Array.replicate ops.size false).getD i d=if i < ops.size then false else d:=by
  intro i d
  by_cases h:i < ops.size <;> simp [h]
 obtain ⟨h1,h2,h3⟩:=Zux hback ops.size t (Array.replicate ops.size false) (by simp) (by
   refine Nat.le_trans (List.length_filter_le _ _) (by simp)) (by
   intro i o ho hl
   rw [hrep] at hl
   split at hl <;> cases hl)
 refine ⟨h1,fun i=>?_,h3⟩
 unfold Region.linearise
 rw [h2,hrep]
 by_cases h:i < ops.size <;> simp [h]
def bfB:List Nat→Nat→Nat→Bool
 | [],_,_=>false
 | z :: l,x,y=>bif Nat.beq z x then memB l y else bfB l x y
def leB (clo:List (List Nat)) (p q:Nat × Nat):Bool:=Nat.beq p.2 q.1 || memB (nthL clo q.1) p.2
def coverB (clo:List (List Nat)) (rs:List Ord):List (Nat × Nat)→List (Nat × Nat)→Bool
 | ch,[]=>ch.any (fun p=>ch.any (fun q=>leB clo p q && (leB clo q p || ch.any (fun r=>leB clo q r && leB clo r p)))) || rs.any (fun r=>ch.all (fun p=>bfB (r.map (·.1)) p.1 p.2))
 | ch,(x,y) :: u=>coverB clo rs ((x,y) :: ch) u && coverB clo rs ((y,x) :: ch) u
def pairsB (P:Program) (mp:List Nat) (ops:Array Oper) (clo:List (List Nat)) (u:List (Nat × Nat)):Ord→Bool
 | []=>true
 | (x,_) :: r=>r.all (fun q=>commB P mp ops q.2 x q.1 || memB (nthL clo q.1) x || u.any (fun p=>(Nat.beq p.1 x && Nat.beq p.2 q.1) || (Nat.beq p.1 q.1 && Nat.beq p.2 x))) && pairsB P mp ops clo u r
def nodupB:List Nat→Bool
 | []=>true
 | x :: l=>!memB l x && nodupB l
def ordersB (P:Program) (mp:List Nat) (ops:Array Oper) (u:List (Nat × Nat)) (rs:List Ord):Bool :=
 Region.noSelect ops && backB ops.toList ops.size && coverB (closure ops.toList []) rs [] u && u.all (fun p=>Nat.blt p.1 ops.size && Nat.blt p.2 ops.size && !Nat.beq p.1 p.2) &&
  rs.all (fun r=>pairsB P mp ops (closure ops.toList []) u r && nodupB (r.map (·.1)) && Nat.beq r.length ops.size && r.all (fun q=>Nat.blt q.1 ops.size))
theorem Bf.lt {l:List Nat} (hl:l.Nodup) {x y:Nat} (h:Bf l x y):l.idxOf x < l.idxOf y:=by
 obtain ⟨l1,l2,rfl,hy⟩:=h
 have hx1:x ∉ l1:=fun h=>(List.nodup_append.1 hl).2.2 x h x List.mem_cons_self rfl
 have hy1:y ∉ l1:=fun h=>(List.nodup_append.1 hl).2.2 y h y (List.mem_cons_of_mem _ hy) rfl
 have hxy:x≠y:=fun e=>(List.nodup_cons.1 (List.nodup_append.1 hl).2.1).1 (e ▸ hy)
 rw [List.idxOf_append,if_neg hx1,List.idxOf_append,if_neg hy1,List.idxOf_cons,List.idxOf_cons]
 have h1:(x == y)=false:=by simpa using hxy
 simp [h1]
theorem Bf.mem {l:List Nat} {x y:Nat} (h:Bf l x y):x∈l∧y∈l:=by
 obtain ⟨l1,l2,rfl,hy⟩:=h
 simp [hy]
theorem Bf.mk {l:List Nat} (hl:l.Nodup) {x y:Nat} (hx:x∈l) (hy:y∈l) (h:l.idxOf x < l.idxOf y):Bf l x y:=by
 obtain ⟨l1,l2,rfl⟩:=List.append_of_mem hx
 have hx1:x ∉ l1:=fun h=>(List.nodup_append.1 hl).2.2 x h x List.mem_cons_self rfl
 refine ⟨l1,l2,rfl,?_⟩
 rcases List.mem_append.1 hy with hy1 | hy1
 ·rw [List.idxOf_append,if_neg hx1,List.idxOf_append,if_pos hy1] at h
  have:=List.idxOf_lt_length_of_mem hy1
  omega
 ·rcases List.mem_cons.1 hy1 with rfl | hy2
  ·omega
  ·exact hy2
theorem Bf.total {l:List Nat} (hl:l.Nodup) {x y:Nat} (hx:x∈l) (hy:y∈l) (hne:x≠y):Bf l x y∨Bf l y x:=by
 rcases Nat.lt_trichotomy (l.idxOf x) (l.idxOf y) with h | h | h
 ·exact .inl (Bf.mk hl hx hy h)
 ·have e1:=List.getElem_idxOf (List.idxOf_lt_length_of_mem hx)
  have e2:=List.getElem_idxOf (List.idxOf_lt_length_of_mem hy)
  exact absurd (by rw [← e1,← e2]; congr 1) hne
 ·exact .inr (Bf.mk hl hy hx h)
theorem Zun {l:List Nat} {x y:Nat} (h:bfB l x y=true):Bf l x y:=by
 induction l with
 | nil=>cases h
 | cons z l ih =>
  simp only [bfB] at h
  cases hb:Nat.beq z x with
  | true=>rw [hb] at h; exact ⟨[],l,by rw [nbeq.1 hb]; rfl,Z67.1 h⟩
  | false =>
   rw [hb] at h
   obtain ⟨l1,l2,rfl,hy⟩:=ih h
   exact ⟨z :: l1,l2,rfl,hy⟩
theorem Zrc {l:List Nat} (h:nodupB l=true):l.Nodup:=by
 induction l with
 | nil=>simp
 | cons x l ih =>
  simp only [nodupB,Bool.and_eq_true,Bool.not_eq_true'] at h
  exact List.nodup_cons.2 ⟨fun hm=>(by have:=Z67.2 hm; rw [this] at h; exact absurd h.1 (by simp)),ih h.2⟩
theorem Zds {l:List Nat} (hl:l.Nodup) {clo:List (List Nat)} (hresp:∀ x y,Bf l x y→y ∉ nthL clo x) {rs:List Ord}:∀ (u ch:List (Nat × Nat)),coverB clo rs ch u=true →
  (∀ p∈ch,Bf l p.1 p.2)→(∀ p∈u,p.1∈l∧p.2∈l∧p.1≠p.2) →
  ∃ r∈rs,(∀ p∈ch,Bf (r.map (·.1)) p.1 p.2)∧∀ p∈u,(Bf l p.1 p.2∧Bf (r.map (·.1)) p.1 p.2)∨(Bf l p.2 p.1∧Bf (r.map (·.1)) p.2 p.1)
 | [],ch,h,hch,_=>by
  simp only [coverB,Bool.or_eq_true] at h
  rcases h with h | h
  ·exfalso
   have le:∀ p q,p∈ch→q∈ch→leB clo p q=true→l.idxOf p.2≤l.idxOf q.1:=fun p q hp hq h=>by
    simp only [leB,Bool.or_eq_true] at h
    rcases h with h | h
    ·rw [nbeq.1 h]; exact Nat.le_refl _
    ·refine Nat.le_of_not_lt fun hlt=>hresp q.1 p.2 (Bf.mk hl (hch q hq).mem.1 (hch p hp).mem.2 hlt) (Z67.1 h)
   obtain ⟨p,hp,h⟩:=List.any_eq_true.1 h
   obtain ⟨q,hq,h⟩:=List.any_eq_true.1 h
   simp only [Bool.and_eq_true,Bool.or_eq_true] at h
   obtain ⟨h1,h2⟩:=h
   have a1:=(hch p hp).lt hl
   have a2:=(hch q hq).lt hl
   have b1:=le p q hp hq h1
   rcases h2 with h2 | h2
   ·have:=le q p hq hp h2; omega
   ·obtain ⟨r,hr,h2⟩:=List.any_eq_true.1 h2
    simp only [Bool.and_eq_true] at h2
    have a3:=(hch r hr).lt hl
    have b2:=le q r hq hr h2.1
    have b3:=le r p hr hp h2.2
    omega
  ·obtain ⟨r,hr,h⟩:=List.any_eq_true.1 h
   exact ⟨r,hr,fun p hp=>Zun (List.all_eq_true.1 h p hp),fun p hp=>by cases hp⟩
 | (x,y) :: u,ch,h,hch,hu=>by
  simp only [coverB,Bool.and_eq_true] at h
  obtain ⟨hx,hy,hne⟩:=hu (x,y) List.mem_cons_self
  rcases Bf.total hl hx hy hne with hb | hb
  ·obtain ⟨r,hr,h1,h2⟩:=Zds hl hresp u ((x,y) :: ch) h.1 (fun p hp=>by
    rcases List.mem_cons.1 hp with rfl | hp
    ·exact hb
    ·exact hch p hp) (fun p hp=>hu p (List.mem_cons_of_mem _ hp))
   refine ⟨r,hr,fun p hp=>h1 p (List.mem_cons_of_mem _ hp),fun p hp=>?_⟩
   rcases List.mem_cons.1 hp with rfl | hp
   ·exact .inl ⟨hb,h1 (x,y) List.mem_cons_self⟩
   ·exact h2 p hp
  ·obtain ⟨r,hr,h1,h2⟩:=Zds hl hresp u ((y,x) :: ch) h.2 (fun p hp=>by
    rcases List.mem_cons.1 hp with rfl | hp
    ·exact hb
    ·exact hch p hp) (fun p hp=>hu p (List.mem_cons_of_mem _ hp))
   refine ⟨r,hr,fun p hp=>h1 p (List.mem_cons_of_mem _ hp),fun p hp=>?_⟩
   rcases List.mem_cons.1 hp with rfl | hp
   ·exact .inr ⟨hb,h1 (y,x) List.mem_cons_self⟩
   ·exact h2 p hp
theorem Zil {clo:List (List Nat)} {u:List (Nat × Nat)}:∀ {r:Ord},(r.map (·.1)).Nodup→pairsB P mp ops clo u r=true→∀ x y S,(y,S)∈r→Bf (r.map (·.1)) x y →
  commB P mp ops S x y=true∨x∈nthL clo y∨∃ p∈u,(p.1=x∧p.2=y)∨(p.1=y∧p.2=x)
 | [],_,_,x,y,S,h,_=>by cases h
 | (z,Sz) :: r,hnd,h,x,y,S,hy,hb=>by
  simp only [pairsB,Bool.and_eq_true] at h
  have hnd':=List.nodup_cons.1 hnd
  obtain ⟨l1,l2,he,hyl⟩:=hb
  cases l1 with
  | nil =>
   simp only [List.map_cons,List.nil_append,List.cons.injEq] at he
   obtain ⟨rfl,rfl⟩:=he
   have hyr:(y,S)∈r:=by
    rcases List.mem_cons.1 hy with h | h
    ·cases h
     exact absurd hyl hnd'.1
    ·exact h
   have:=List.all_eq_true.1 h.1 (y,S) hyr
   simp only [Bool.or_eq_true] at this
   rcases this with (h1 | h1) | h1
   ·exact .inl h1
   ·exact .inr (.inl (Z67.1 h1))
   ·obtain ⟨p,hp,h2⟩:=List.any_eq_true.1 h1
    simp only [Bool.or_eq_true,Bool.and_eq_true] at h2
    exact .inr (.inr ⟨p,hp,h2.imp (fun h=>⟨nbeq.1 h.1,nbeq.1 h.2⟩) (fun h=>⟨nbeq.1 h.1,nbeq.1 h.2⟩)⟩)
  | cons k l1 =>
   simp only [List.map_cons,List.cons_append,List.cons.injEq] at he
   obtain ⟨rfl,he⟩:=he
   have hyr:(y,S)∈r:=by
    rcases List.mem_cons.1 hy with h | h
    ·cases h
     refine absurd ?_ hnd'.1
     show _∈r.map (·.1)
     rw [he]; simp [hyl]
    ·exact h
   exact Zil hnd'.2 h.2 x y S hyr ⟨l1,l2,he,hyl⟩
theorem Zig:∀ (n:Nat) (l:List Nat),l.Nodup→(∀ x∈l,x < n)→l.length≤n
 | 0,l,_,h=>by
  cases l with
  | nil=>simp
  | cons x l=>exact absurd (h x List.mem_cons_self) (by omega)
 | n+1,l,hl,h=>by
  by_cases hn:n∈l
  ·have h1:=Zig n (l.erase n) (hl.erase n) (fun x hx=>by
    have h2:=h x (List.mem_of_mem_erase hx)
    have h3:x≠n:=fun e=>by rw [e] at hx; exact (List.Nodup.not_mem_erase hl) hx
    omega)
   rw [List.length_erase_of_mem hn] at h1
   omega
  ·have:=Zig n l hl (fun x hx=>by
    have h2:=h x hx
    have h3:x≠n:=fun e=>hn (e ▸ hx)
    omega)
   omega
theorem Zmp (hmix:P.follows .mixedOrders=true) {id:Nat} {u:List (Nat × Nat)} {rs:List Ord} (h:ordersB P mp ops u rs=true) {I:Act→Prop} (hI:∀ (i:Nat) (o:Oper) (v:Value) (a:Act),ops[i]?=some o→I a→I (a.put o.dst v)) {QX:Exit→Act→World→Prop} (hX:∀ ch a w,I a→X ch w→QX (.panic ch) a w) (hK:∀ a w,K a w→QX .normal a w) {a:Act} (hd:I a) {w:World}
  (hall:∀ r∈rs,wpL P mp X ops K r [] a w.drew):(Code.region id ops true).wp P QX a w:=by
 simp only [ordersB,Bool.and_eq_true] at h
 obtain ⟨⟨⟨⟨hsel,hback⟩,hcov⟩,hu⟩,hrs⟩:=h
 refine wp_region_draw fun t=>?_
 simp only [Region.schedule,hmix,Bool.true_or,if_true]
 have hlin:=Zuy hback t
 generalize Region.linearise .any ops t=l at hlin
 obtain ⟨r,hr,_,hcu⟩:=Zds hlin.nodup hlin.resp u [] hcov (fun p hp=>by cases hp) (fun p hp=>by
  have:=List.all_eq_true.1 hu p hp
  simp only [Bool.and_eq_true,Bool.not_eq_true'] at this
  exact ⟨(hlin.all _).2 (Nat.le_of_ble_eq_true this.1.1),(hlin.all _).2 (Nat.le_of_ble_eq_true this.1.2),Zgt.1 this.2⟩)
 have hrr:=List.all_eq_true.1 hrs r hr
 simp only [Bool.and_eq_true] at hrr
 obtain ⟨⟨⟨hp,hnd⟩,hlen⟩,hin⟩:=hrr
 have hndr:=Zrc hnd
 have hmem:∀ i,i∈l↔i∈r.map (·.1):=by
  intro i
  rw [hlin.all]
  have hsub:∀ i∈r.map (·.1),i < ops.size:=by
   intro i hi
   obtain ⟨q,hq,rfl⟩:=List.mem_map.1 hi
   exact Nat.le_of_ble_eq_true (List.all_eq_true.1 hin q hq)
  constructor
  ·intro hi
   refine Classical.byContradiction fun hn=>?_
   have:=Zig ops.size (i :: r.map (·.1)) (List.nodup_cons.2 ⟨hn,hndr⟩) (fun k hk=>by
    rcases List.mem_cons.1 hk with rfl | hk
    ·exact hi
    ·exact hsub k hk)
   simp only [List.length_cons,List.length_map,nbeq.1 hlen] at this
   omega
  ·exact hsub i
 exact Zci hI hX hK l hd (reorder hsel l r hlin.nodup hndr hmem (fun x y S hy hb hb'=>by
  rcases Zil hndr hp x y S hy hb with h | h | ⟨p,hpu,h⟩
  ·exact h
  ·exact absurd h (hlin.resp y x hb')
  ·exfalso
   have a1:=hb.lt hndr
   have a2:=hb'.lt hlin.nodup
   rcases h with ⟨rfl,rfl⟩ | ⟨rfl,rfl⟩ <;> rcases hcu p hpu with ⟨h1,h2⟩ | ⟨h1,h2⟩
   ·have:=h1.lt hlin.nodup; omega
   ·have:=h2.lt hndr; omega
   ·have:=h2.lt hndr; omega
   ·have:=h1.lt hlin.nodup; omega) (hall r hr))
end
end Go.Proofs.YtoiahhpgkoknfaaGreat.Den
namespace Go.Proofs.YtoiahhpgkoknfaaGreat.Den
open Go
def bAnd (k:IntKind) (x y:Int):Int:=k.wrap ((BitVec.ofInt k.bits x &&& BitVec.ofInt k.bits y).toNat)
def bOr (k:IntKind) (x y:Int):Int:=k.wrap ((BitVec.ofInt k.bits x ||| BitVec.ofInt k.bits y).toNat)
def bXor (k:IntKind) (x y:Int):Int:=k.wrap ((BitVec.ofInt k.bits x ^^^ BitVec.ofInt k.bits y).toNat)
def shL (k:IntKind) (x y:Int):Int:=k.wrap (x * 2 ^ (min y.toNat k.bits))
def shR (k:IntKind) (x y:Int):Int:=x.fdiv (2 ^ (min y.toNat k.bits))
inductive Sc where
 | int (k:IntKind) | bool | str | ptr | sl | map | raw
structure Sl where
 a:Option Addr
 n:Nat
 c:Nat
@[reducible] def Sc.T:Sc→Type
 | .int _=>Int
 | .bool=>Bool
 | .str=>ByteArray
 | .ptr=>Option Addr
 | .sl=>Sl
 | .map=>Option Nat
 | .raw=>Value
@[reducible] def Sc.e:(t:Sc)→t.T→Value
 | .int k,x=>.int k x
 | .bool,b=>.bool b
 | .str,s=>.string s
 | .ptr,p=>.pointer p
 | .sl,s=>.slice s.a s.n s.c
 | .map,m=>.map m
 | .raw,v=>v
def Sc.d:(t:Sc)→Value→Option t.T
 | .int k,.int k' x=>if k'=k then some x else none
 | .bool,.bool b=>some b
 | .str,.string s=>some s
 | .ptr,.pointer p=>some p
 | .sl,.slice a n c=>some ⟨a,n,c⟩
 | .map,.map m=>some m
 | .raw,v=>some v
 | _,_=>none
theorem Sc.d_e {t:Sc} {v:Value} {x:t.T} (h:t.d v=some x):v=t.e x:=by
 cases t <;> cases v <;> simp only [Sc.d] at h <;> first | (cases h; rfl) | (cases h; done) | (split at h; (rename_i hk; subst hk; cases h; rfl); (cases h))
@[reducible] def Tup {α:Type} (f:α→Type):List α→Type
 | []=>Unit
 | [t]=>f t
 | t :: u :: r=>f t × Tup f (u :: r)
def Tup.e {α:Type} {f:α→Type} (g:(t:α)→f t→Value):(l:List α)→Tup f l→List Value
 | [],_=>[]
 | [t],x=>[g t x]
 | t :: u :: r,x=>g t x.1 :: Tup.e g (u :: r) x.2
def Tup.d {α:Type} {f:α→Type} (h:(t:α)→Value→Option (f t)):(l:List α)→List Value→Option (Tup f l)
 | [],[]=>some ()
 | [t],[v]=>h t v
 | t :: u :: r,v :: vs=>match h t v with
  | none=>none
  | some x=>match Tup.d h (u :: r) vs with
   | none=>none
   | some y=>some (x,y)
 | _,_=>none
theorem Tup.d_e {α:Type} {f:α→Type} {g:(t:α)→f t→Value} {h:(t:α)→Value→Option (f t)} (hh:∀ t v x,h t v=some x→v=g t x) :
  ∀ (l:List α) (vs:List Value) (x:Tup f l),Tup.d h l vs=some x→vs=Tup.e g l x
 | [],[],_,_=>rfl
 | [],_ :: _,_,h=>by simp [Tup.d] at h
 | [t],[v],x,hd=>by simp only [Tup.d] at hd; simp only [Tup.e]; rw [hh _ _ _ hd]
 | [t],[],_,hd=>by simp [Tup.d] at hd
 | [t],_ :: _ :: _,_,hd=>by simp [Tup.d] at hd
 | t :: u :: r,[],_,hd=>by simp [Tup.d] at hd
 | t :: u :: r,v :: vs,x,hd=>by
  simp only [Tup.d] at hd
  split at hd
  ·cases hd
  ·rename_i x0 hx0
   split at hd
   ·cases hd
   ·rename_i y0 hy0
    cases hd
    simp only [Tup.e]
    rw [hh _ _ _ hx0,Tup.d_e hh _ _ _ hy0]
inductive Ty where
 | sc (s:Sc)
 | agg (l:List Sc)
@[reducible] def Ty.T:Ty→Type
 | .sc s=>s.T
 | .agg l=>Tup Sc.T l
@[reducible] def Ty.e:(t:Ty)→t.T→Value
 | .sc s,x=>s.e x
 | .agg l,x=>.agg ⟨Tup.e Sc.e l x⟩
def Ty.d:(t:Ty)→Value→Option t.T
 | .sc s,v=>s.d v
 | .agg l,.agg cs=>Tup.d Sc.d l cs.toList
 | .agg _,_=>none
theorem Ty.d_e:∀ (t:Ty) (v:Value) (x:t.T),t.d v=some x→v=t.e x
 | .sc _,_,_,h=>Sc.d_e h
 | .agg l,.agg cs,x,h=>by
  simp only [Ty.d] at h
  have:=Tup.d_e (g:=Sc.e) (fun _ _ _ h=>Sc.d_e h) l cs.toList x h
  show Value.agg cs=Value.agg ⟨_⟩
  rw [← this]
 | .agg _,.bool _,_,h | .agg _,.int _ _,_,h | .agg _,.float _ _,_,h | .agg _,.complex _ _ _,_,h | .agg _,.string _,_,h | .agg _,.pointer _,_,h
 | .agg _,.slice _ _ _,_,h | .agg _,.map _,_,h | .agg _,.chan _,_,h | .agg _,.func _ _ _,_,h | .agg _,.nilFunc,_,h | .agg _,.iface _ _,_,h
 | .agg _,.nilIface,_,h | .agg _,.tuple _,_,h=>by simp [Ty.d] at h
@[reducible] def Res (ts:List Ty):Type:=Tup Ty.T ts
def resE:(ts:List Ty)→Res ts→Value
 | [t],x=>t.e x
 | [],_=>.tuple ⟨[]⟩
 | t :: u :: r,x=>.tuple ⟨Tup.e Ty.e (t :: u :: r) x⟩
abbrev Sh:=List (Nat × Ty)
@[reducible] def Sh.T (sh:Sh):Type:=Tup (fun p:Nat × Ty=>p.2.T) sh
abbrev Env:=Nat→Option Value
def eset (e:Env) (d:Nat) (v:Option Value):Env:=fun i=>bif Nat.beq i d then v else e i
def getSh (e:Env):(sh:Sh)→Option (Sh.T sh)
 | []=>some ()
 | [p]=>match e p.1 with
  | none=>none
  | some v=>p.2.d v
 | p :: q :: r=>match e p.1 with
  | none=>none
  | some v=>match p.2.d v with
   | none=>none
   | some x=>match getSh e (q :: r) with
    | none=>none
    | some y=>some (x,y)
def shVal:(sh:Sh)→Sh.T sh→Nat→Option Value
 | [],_,_=>none
 | [p],x,i=>bif Nat.beq i p.1 then some (p.2.e x) else none
 | p :: q :: r,x,i=>bif Nat.beq i p.1 then some (p.2.e x.1) else shVal (q :: r) x.2 i
def reset (e:Env) (ds:List Nat) (sh:Sh) (s:Sh.T sh):Env:=fun i =>
 match shVal sh s i with
 | some v=>some v
 | none=>bif memB ds i then none else e i
theorem Zi6 {e:Env}:∀ {sh:Sh} {s:Sh.T sh},getSh e sh=some s→∀ i v,shVal sh s i=some v→e i=some v
 | [],_,_,i,v,h=>by simp [shVal] at h
 | [p],s,hg,i,v,h=>by
  simp only [shVal] at h
  cases hb:Nat.beq i p.1 with
  | false=>simp [hb] at h
  | true =>
   rw [hb] at h
   have hi:=nbeq.1 hb
   subst hi
   simp only [getSh] at hg
   split at hg
   ·cases hg
   ·rename_i u hu
    rw [hu,Ty.d_e _ _ _ hg]
    exact h
 | p :: q :: r,s,hg,i,v,h=>by
  simp only [getSh] at hg
  split at hg
  ·cases hg
  ·rename_i u hu
   split at hg
   ·cases hg
   ·rename_i x hx
    split at hg
    ·cases hg
    ·rename_i y hy
     cases hg
     simp only [shVal] at h
     cases hb:Nat.beq i p.1 with
     | true =>
      rw [hb] at h
      have hi:=nbeq.1 hb
      subst hi
      rw [hu,Ty.d_e _ _ _ hx]
      exact h
     | false =>
      rw [hb] at h
      exact Zi6 hy i v h
abbrev W (R:Type):=(R→World→Prop)→World→Prop
variable {R:Type}
def failW:W R:=fun _ _=>False
def retW (r:R):W R:=fun Q w=>Q r w
def ptrW (p:Option Addr) (K:Addr→W R):W R:=match p with
 | some a=>K a
 | none=>failW
def CellsAt (w:World) (a:Addr) (vs:List Value):Prop:=∀ j u,vs[j]?=some u→w.cell? (a.add j)=some u
def Rd (w:World) (a:Addr):(t:Ty)→t.T→Prop
 | .sc s,x=>w.cell? a=some (s.e x)
 | .agg l,x=>CellsAt w a (Tup.e Sc.e l x)
def ld (t:Ty) (a:Addr) (K:t.T→W R):W R:=fun Q w=>∃ x:t.T,Rd w a t x∧K x Q w
def stoL (a:Addr):List Value→Nat→W R→W R
 | [],_,K=>K
 | v :: r,i,K=>fun Q w=>v.oneCell'=true∧(∃ u,w.cell? (a.add i)=some u)∧w.frozen? (a.add i)=false∧stoL a r (i+1) K Q (w.setCell (a.add i) v)
def newW (T:TypeId) (cs:List Value) (K:Addr→W R):W R:=fun Q w=>K ⟨w.heap.size,0,none⟩ Q (w.alloc (.cells ⟨cs⟩ T))
def idxW (b:Option Addr) (n sz:Nat) (i:Int) (K:Addr→W R):W R:=fun Q w=>∃ a,b=some a∧0≤i∧i < n∧K (a.add (i.toNat * sz)) Q w
def chkW (c:Prop) (K:W R):W R:=fun Q w=>c∧K Q w
def drawW (K:W R):W R:=fun Q w=>K Q w.drew
def joinW {σ:Type} (A:(σ→W R)→W R) (K:σ→W R):W R:=fun Q w =>
 ∃ J:σ→World→Prop,(∀ s w',J s w'→K s Q w')∧A (fun s _ w'=>J s w') Q w
def loopW {σ:Type} (body:(σ→W R)→σ→W R) (s0:σ):W R:=fun Q w =>
 ∃ (I:σ→World→Prop) (μ:σ→World→Nat),I s0 w∧∀ s w',I s w'→body (fun s' _ w''=>I s' w''∧μ s' w'' < μ s w') s Q w'
def callW (P:Program) (f:Nat) (args:List Value) (ts:List Ty) (K:Res ts→W R):W R:=fun Q w =>
 Calls P f ⟨args⟩ w (fun e w'=>∃ r,e=.returned (resE ts r)∧K r Q w')
class Pan (R:Type) where
 pan:(R→World→Prop)→List PanicEntry→World→Prop
@[reducible] def noPan (R:Type):Pan R:=⟨fun _ _ _=>False⟩
instance sumPan {A:Type}:Pan (A ⊕ List PanicEntry):=⟨fun Q ch w=>Q (.inr ch) w⟩
def callP [Pan R] (P:Program) (f:Nat) (args:List Value) (ts:List Ty) (K:Res ts→W R):W R:=fun Q w =>
 Calls P f ⟨args⟩ w (fun e w'=>(∃ r,e=.returned (resE ts r)∧K r Q w')∨(∃ ch,e=.panicked ch∧Pan.pan Q ch w'))
def panW [Pan R] (v:Value):W R:=fun Q w=>Pan.pan Q [{ v,recovered:=false }] w
def extW (P:Program) (f:Nat) (args:List Value) (ts:List Ty) (K:Res ts→W R):W R:=fun Q w =>
 ∃ x w',(callFunc f ⟨args⟩).run P w=.ok (.value (resE ts x)) w'∧K x Q w'
def rawW (P:Program) (s:Sem Value) (ts:List Ty) (K:Res ts→W R):W R:=fun Q w=>∃ x w',s.run P w=.ok (resE ts x) w'∧K x Q w'
def rawQ (P:Program) (s:Sem Value) (ts:List Ty) (K:Res ts→W R):W R:=fun Q w=>∃ x,s.run P w=.ok (resE ts x) w∧K x Q w
def nxtW (P:Program) (s:Sem Value) (K:W R) (L:Value→Value→W R):W R:=fun Q w =>
 (∃ w',s.run P w=.ok (.tuple #[.bool false]) w'∧K Q w')∨∃ a b w',s.run P w=.ok (.tuple #[.bool true,a,b]) w'∧L a b Q w'
def rawU (P:Program) (s:Sem Unit) (K:W R):W R:=fun Q w=>∃ w',s.run P w=.ok () w'∧K Q w'
def slcW (b:Option Addr) (n c sz:Nat) (lo hi:Option Int) (K:Sl→W R):W R :=
 chkW (0≤hi.getD n∧hi.getD n≤c∧0≤lo.getD 0∧lo.getD 0≤hi.getD n)
  (K ⟨if c=(lo.getD 0).toNat then b else b.map (·.add ((lo.getD 0).toNat * sz)),(hi.getD n).toNat - (lo.getD 0).toNat,c - (lo.getD 0).toNat⟩)
def pv (P:Program) {α:Type}:Sem α→Option α
 | .pure a=>some a
 | .program k=>pv P (k P)
 | .mark _ k=>pv P k
 | _=>none
theorem Zfe {P:Program} {α:Type}:∀ {s:Sem α} {v:α},pv P s=some v→∀ w,s.run P w=.ok v w
 | .pure a,v,h,w=>by simp only [pv] at h; cases h; rfl
 | .program k,v,h,w=>by simp only [pv] at h; simp only [Sem.run]; exact Zfe h w
 | .mark m k,v,h,w=>by simp only [pv] at h; simp only [Sem.run]; exact Zfe h w
 | .load _ _ _,_,h,_ | .store _ _ _ _,_,h,_ | .new _ _,_,h,_ | .shape _ _,_,h,_ | .freeze _ _ _,_,h,_ | .frozen _ _,_,h,_
 | .getObj _ _,_,h,_ | .setObj _ _ _,_,h,_ | .choose _ _,_,h,_ | .sys _ _,_,h,_ | .halt _,_,h,_=>by simp [pv] at h
def onSome {α:Type} (o:Option α) (K:α→W R):W R:=match o with
 | some x=>K x
 | none=>failW
def onPtr (v:Value) (K:Option Addr→W R):W R:=match v with
 | .pointer p=>K p
 | _=>failW
def onPtrT (v:Value) (d:Option TypeDesc) (K:Option Addr→W R):W R:=match v,d with
 | .pointer p,some (.pointer _)=>K p
 | _,_=>failW
def onSlT (v:Value) (d:Option TypeDesc) (K:Option Addr→W R):W R:=match v,d with
 | .slice a _ _,some (.slice _)=>K a
 | _,_=>failW
def onMapT (v:Value) (d:Option TypeDesc) (K:Option Nat→W R):W R:=match v,d with
 | .map a,some (.map _ _)=>K a
 | _,_=>failW
def onBool (v:Value) (K:Bool→W R):W R:=match v with
 | .bool b=>K b
 | _=>failW
def onFn (v:Value) (K:Nat→Array Value→Array Value→W R):W R:=match v with
 | .func (.func g) first cap=>K g first cap
 | _=>failW
def onAgg (v:Value) (K L:W R):W R:=match v with
 | .agg _=>K
 | _=>L
def onMap (v:Value) (K L:W R):W R:=match v with
 | .map _=>K
 | _=>L
def onSl (v:Value) (K L:W R):W R:=match v with
 | .slice _ _ _=>K
 | _=>L
def onNil (v:Value) (K:Option Addr→W R) (L:W R):W R:=match v with
 | .pointer p=>K p
 | _=>L
def onRow (v:Value) (d:Option TypeDesc) (Ks:Option Addr→Nat→Nat→TypeId→W R) (Ka:Option Addr→Nat→TypeId→W R):W R:=match v,d with
 | .slice b n c,some (.slice el)=>Ks b n c el
 | .pointer p,some (.array len el)=>Ka p len el
 | _,_=>failW
def ifW (b:Bool) (K:W R):W R:=cond b K failW
theorem Z18 {α:Type} {o:Option α} {K:α→W R} {Q:R→World→Prop} {w:World} (h:onSome o K Q w):∃ x,o=some x∧K x Q w:=by
 cases o with
 | none=>exact h.elim
 | some x=>exact ⟨x,rfl,h⟩
theorem Zmk {v:Value} {K:Option Addr→W R} {Q:R→World→Prop} {w:World} (h:onPtr v K Q w):∃ p,v=.pointer p∧K p Q w:=by
 cases v <;> first | exact ⟨_,rfl,h⟩ | exact h.elim
theorem Zkf {v:Value} {d:Option TypeDesc} {K:Option Addr→W R} {Q:R→World→Prop} {w:World} (h:onPtrT v d K Q w):∃ p e,v=.pointer p∧d=some (.pointer e)∧K p Q w:=by
 cases v <;> rcases d with _ | d <;> first | exact h.elim | (cases d <;> first | exact h.elim | exact ⟨_,_,rfl,rfl,h⟩)
theorem Zmm {v:Value} {d:Option TypeDesc} {K:Option Addr→W R} {Q:R→World→Prop} {w:World} (h:onSlT v d K Q w):∃ a l c e,v=.slice a l c∧d=some (.slice e)∧K a Q w:=by
 cases v <;> rcases d with _ | d <;> first | exact h.elim | (cases d <;> first | exact h.elim | exact ⟨_,_,_,_,rfl,rfl,h⟩)
theorem Zke {v:Value} {d:Option TypeDesc} {K:Option Nat→W R} {Q:R→World→Prop} {w:World} (h:onMapT v d K Q w):∃ a k e,v=.map a∧d=some (.map k e)∧K a Q w:=by
 cases v <;> rcases d with _ | d <;> first | exact h.elim | (cases d <;> first | exact h.elim | exact ⟨_,_,_,rfl,rfl,h⟩)
theorem Zpz {v:Value} {K:Bool→W R} {Q:R→World→Prop} {w:World} (h:onBool v K Q w):∃ b,v=.bool b∧K b Q w:=by
 cases v <;> first | exact ⟨_,rfl,h⟩ | exact h.elim
theorem Zp7 {v:Value} {K:Nat→Array Value→Array Value→W R} {Q:R→World→Prop} {w:World} (h:onFn v K Q w):∃ g f c,v=.func (.func g) f c∧K g f c Q w:=by
 cases v <;> first | exact h.elim | (rename_i fn f c; cases fn <;> first | exact h.elim | exact ⟨_,_,_,rfl,h⟩)
theorem Zmi {v:Value} {K L:W R} {Q:R→World→Prop} {w:World} (h:onAgg v K L Q w):((∃ c,v=.agg c)∧K Q w)∨((∀ c,v≠.agg c)∧L Q w):=by
 cases v <;> first | exact Or.inl (And.intro (Exists.intro _ rfl) h) | exact Or.inr (And.intro (fun _ hc=>Value.noConfusion hc) h)
theorem Zrd {v:Value} {K L:W R} {Q:R→World→Prop} {w:World} (h:onMap v K L Q w):((∃ c,v=.map c)∧K Q w)∨((∀ c,v≠.map c)∧L Q w):=by
 cases v <;> first | exact Or.inl (And.intro (Exists.intro _ rfl) h) | exact Or.inr (And.intro (fun _ hc=>Value.noConfusion hc) h)
theorem Zsw {v:Value} {K L:W R} {Q:R→World→Prop} {w:World} (h:onSl v K L Q w):((∃ a l c,v=.slice a l c)∧K Q w)∨L Q w:=by
 cases v <;> first | exact .inl ⟨⟨_,_,_,rfl⟩,h⟩ | exact .inr h
theorem Zmj {v:Value} {K:Option Addr→W R} {L:W R} {Q:R→World→Prop} {w:World} (h:onNil v K L Q w):(∃ p,v=.pointer p∧K p Q w)∨L Q w:=by
 cases v <;> first | exact .inl ⟨_,rfl,h⟩ | exact .inr h
theorem Zml {v:Value} {d:Option TypeDesc} {Ks:Option Addr→Nat→Nat→TypeId→W R} {Ka:Option Addr→Nat→TypeId→W R} {Q:R→World→Prop} {w:World} (h:onRow v d Ks Ka Q w) :
  (∃ b l c e,v=.slice b l c∧d=some (.slice e)∧Ks b l c e Q w)∨(∃ p l e,v=.pointer p∧d=some (.array l e)∧Ka p l e Q w):=by
 cases v <;> rcases d with _ | d <;> first | exact h.elim | (cases d <;> first | exact h.elim | exact .inl ⟨_,_,_,_,rfl,rfl,h⟩ | exact .inr ⟨_,_,_,rfl,rfl,h⟩)
theorem Z73 {b:Bool} {K:W R} {Q:R→World→Prop} {w:World} (h:ifW b K Q w):b=true∧K Q w:=by
 cases b
 ·exact h.elim
 ·exact ⟨rfl,h⟩
theorem Z9q {p:Option Addr} {K:Addr→W R} {Q:R→World→Prop} {w:World} (h:ptrW p K Q w):∃ a,p=some a∧K a Q w:=by
 cases p with
 | none=>exact h.elim
 | some a=>exact ⟨a,rfl,h⟩
def scOf:Value→Option Sc
 | .int k _=>some (.int k)
 | .bool _=>some .bool
 | .string _=>some .str
 | .pointer _=>some .ptr
 | .slice _ _ _=>some .sl
 | .map _=>some .map
 | .nilFunc | .nilIface | .chan _=>some .raw
 | _=>none
def scsOf:List Value→Option (List Sc)
 | []=>some []
 | v :: r=>match scOf v with
  | none=>none
  | some t=>match scsOf r with
   | none=>none
   | some l=>some (t :: l)
def tyOf (P:Program) (T:TypeId):Option Ty :=
 match P.info? T with
 | none=>none
 | some i=>match i.zero with
  | none=>none
  | some z=>match P.underlying T,z with
   | some (.struct _),.agg cs=>bif Nat.beq i.size cs.toList.length then (scsOf cs.toList).map .agg else none
   | some (.array _ _),.agg cs=>bif Nat.beq i.size cs.toList.length then (scsOf cs.toList).map .agg else none
   | some (.struct _),_ | some (.array _ _),_=>none
   | some _,v=>(scOf v).map .sc
   | none,_=>none
def tysOf (P:Program):List TypeId→Option (List Ty)
 | []=>some []
 | t :: r=>match tyOf P t with
  | none=>none
  | some x=>match tysOf P r with
   | none=>none
   | some l=>some (x :: l)
def resOf (P:Program) (T:TypeId):Option (List Ty) :=
 match P.info? T with
 | none=>none
 | some i=>match i.desc with
  | .tuple ts=>tysOf P ts.toList
  | _=>tysOf P [T]
def callable (P:Program) (f:Nat):Bool:=match P.funcs[f]? with
 | some fn => fn.body.isSome && !(fn.name == "runtime.NumGoroutine")
 | none=>false
def sizeOfT (P:Program) (T:TypeId):Nat:=match P.info? T with
 | some i=>i.size
 | none=>0
def zeroOfT (P:Program) (T:TypeId):Option Value:=(P.info? T).bind (·.zero)
def bsCells (t:TypeId) (len:Nat) (parts:Array (Nat × Value)):Sem (TypeId × Array Value):=do
 let .slice elem ← underlying t | stuck "buildSlice: slice type expected"
 let size ← sizeOf elem
 if len * size > 2 ^ 24 then unsupported (.resourceLimit "buildSlice: more than 2^24 cells")
 let zero ← if len * size=0 then pure #[] else do pure (← zeroValue elem).cells
 let some cells:=Instr.fill (fun i=>some (i * size,size)) ((Array.range (len * size)).map (zero[· % zero.size]!)) parts.toList
  | stuck "buildSlice: a part of the wrong size"
 pure (elem,cells)
def ev (env:Env):Operand→Option Value
 | .tmp t=>env t
 | .const v=>some v
 | .global g=>some (.pointer (some ⟨g,0,none⟩))
 | .func f=>some (.func (.func f) #[] #[])
def evU (env:Env) (x:Operand):Value:=(ev env x).getD undef
def allB {α:Type} (p:α→Bool):List α→Bool
 | []=>true
 | x :: r=>bif p x then allB p r else false
def put (n:Nat) (o:Oper) (v:Value) (k:Env→W R) (env:Env):W R:=match o.dst with
 | none=>k env
 | some d=>bif Nat.blt d n then k (eset env d (some v)) else failW
def isInt:Value→Option Int
 | .int _ n=>some n
 | _=>none
def optInt (env:Env):Option Operand→Option (Option Int)
 | none=>some none
 | some x=>match evU env x with
  | .int _ n=>some (some n)
  | _=>none
def twoInts:Value→Value→Option (IntKind × Int × Int)
 | .int k a,.int _ b=>some (k,a,b)
 | _,_=>none
def sameInts:Value→Value→Option (IntKind × Int × Int)
 | .int k a,.int k' b=>if k=k' then some (k,a,b) else none
 | _,_=>none
def binDen (P:Program) (n:Nat) (o:Oper) (op:BinOp) (T:TypeId) (x y:Operand) (k:Env→W R) (env:Env) (gen:W R):W R :=
 match op,y with
 | .eql,.const (.pointer none)=>onPtrT (evU env x) (P.underlying T) fun p=>put n o (.bool p.isNone) k env
 | .neq,.const (.pointer none)=>onPtrT (evU env x) (P.underlying T) fun p=>put n o (.bool !p.isNone) k env
 | .eql,.const (.slice none 0 0)=>onSlT (evU env x) (P.underlying T) fun a=>put n o (.bool a.isNone) k env
 | .neq,.const (.slice none 0 0)=>onSlT (evU env x) (P.underlying T) fun a=>put n o (.bool !a.isNone) k env
 | .eql,.const (.map none)=>onMapT (evU env x) (P.underlying T) fun m=>put n o (.bool m.isNone) k env
 | .neq,.const (.map none)=>onMapT (evU env x) (P.underlying T) fun m=>put n o (.bool !m.isNone) k env
 | .quo,.tmp t=>onSome (sameInts (evU env x) (evU env (.tmp t))) fun z=>chkW (z.2.2≠0) (put n o (.int z.1 (z.1.wrap (z.2.1.tdiv z.2.2))) k env)
 | .rem,.tmp t=>onSome (sameInts (evU env x) (evU env (.tmp t))) fun z=>chkW (z.2.2≠0) (put n o (.int z.1 (z.2.1.tmod z.2.2)) k env)
 | .shl,.tmp t=>onSome (twoInts (evU env x) (evU env (.tmp t))) fun z=>chkW (0≤z.2.2) (put n o (.int z.1 (z.1.wrap (z.2.1 * 2 ^ (min z.2.2.toNat z.1.bits)))) k env)
 | .shr,.tmp t=>onSome (twoInts (evU env x) (evU env (.tmp t))) fun z=>chkW (0≤z.2.2) (put n o (.int z.1 (z.2.1.fdiv (2 ^ (min z.2.2.toNat z.1.bits)))) k env)
 | .eql,y=>onAgg (evU env x) (rawQ P (do Go.eqGuard .eql T x y (evU env x) (evU env y); Go.binOp .eql T (evU env x) (evU env y)) [.sc .bool] fun b=>put n o (.bool b) k env) gen
 | .neq,y=>onAgg (evU env x) (rawQ P (do Go.eqGuard .neq T x y (evU env x) (evU env y); Go.binOp .neq T (evU env x) (evU env y)) [.sc .bool] fun b=>put n o (.bool b) k env) gen
 | _,_=>gen
def genDen (P:Program) (n:Nat) (o:Oper) (k:Env→W R) (env:Env):W R :=
 match pv P (execOp (evU env) o) with
 | some (.value v)=>put n o v k env
 | _=>failW
def callDen (P:Program) (n:Nat) (o:Oper) (c:Call) (k:Env→W R) (env:Env):W R :=
 match c.callee with
 | .value f=>onFn (evU env f) fun g first cap=>onSome (resOf P o.type) fun ts=>cond (callable P g)
   (callW P g (first ++ c.args.map (evU env) ++ cap).toList ts fun r=>put n o (resE ts r) k env)
   (extW P g (first ++ c.args.map (evU env) ++ cap).toList ts fun r=>put n o (resE ts r) k env)
 | .invoke _ _=>failW
 | .builtin b=>match b with
  | .append=>rawW P (Builtin.append_ c.argTypes o.type (c.args.map (evU env))) [.sc .sl] fun r=>put n o (resE [.sc .sl] r) k env
  | .copy=>rawW P (Builtin.copy_ c.argTypes o.type (c.args.map (evU env))) [.sc (.int .i64)] fun r=>put n o (resE [.sc (.int .i64)] r) k env
  | .delete=>rawW P (Builtin.delete_ c.argTypes o.type (c.args.map (evU env))) [] fun r=>put n o (resE [] r) k env
  | .clear=>rawW P (Builtin.clear_ c.argTypes o.type (c.args.map (evU env))) [] fun r=>put n o (resE [] r) k env
  | .len=>onMap (evU env (c.args.toList.headD (.const undef)))
    (rawQ P (Builtin.len_ c.argTypes o.type (c.args.map (evU env))) [.sc (.int .i64)] fun r=>put n o (resE [.sc (.int .i64)] r) k env)
    (genDen P n o k env)
  | _=>genDen P n o k env
def denOpB (P:Program) (n:Nat) (o:Oper) (k:Env→W R) (env:Env) (op:Op):W R:=match op with
 | .pick c a b=>onBool (evU env c) fun t=>cond t (put n o (evU env a) k env) (put n o (evU env b) k env)
 | .alloc T=>onSome (zeroOfT P T) fun z=>newW T z.cells.toList fun a=>put n o (.pointer (some a)) k env
 | .box T x=>newW T (evU env x).cells.toList fun a=>put n o (.pointer (some a)) k env
 | .buildSlice T len parts=>onSome (pv P (bsCells T len (parts.map fun (i,x)=>(i,evU env x)))) fun z=>newW z.1 z.2.toList fun a=>put n o (.slice (some a) len len) k env
 | .load T x=>onPtr (evU env x) fun p=>ptrW p fun a=>onSome (tyOf P T) fun t=>ld t a fun v=>put n o (t.e v) k env
 | .store T x v=>onPtr (evU env x) fun p=>ptrW p fun a=>ifW (Nat.beq (evU env v).cells.size (sizeOfT P T) && (P.info? T).isSome) (stoL a (evU env v).cells.toList 0 (put n o undef k env))
 | .nilCheck x=>onNil (evU env x) (fun p=>ptrW p fun a=>put n o (.pointer (some a)) k env) (genDen P n o k env)
 | .binOp op T x y _=>binDen P n o op T x y k env (genDen P n o k env)
 | .indexAddr T x i=>onSome (isInt (evU env i)) fun j=>onRow (evU env x) (P.underlying T)
   (fun b len _ el=>ifW (P.info? el).isSome (idxW b len (sizeOfT P el) j fun a=>put n o (.pointer (some a)) k env))
   (fun p len el=>ifW (P.info? el).isSome (ptrW p fun a=>idxW (some a) len (sizeOfT P el) j fun a=>put n o (.pointer (some a)) k env))
 | .slice T x lo hi none=>onSome (optInt env lo) fun l=>onSome (optInt env hi) fun h=>onRow (evU env x) (P.underlying T)
   (fun b len c el=>ifW (P.info? el).isSome (slcW b len c (sizeOfT P el) l h fun s=>put n o (.slice s.a s.n s.c) k env))
   (fun p len el=>ifW (P.info? el).isSome (ptrW p fun a=>slcW (some a) len len (sizeOfT P el) l h fun s=>put n o (.slice s.a s.n s.c) k env))
 | .slice T x lo hi (some mx)=>rawQ P (Instr.sliceAt T (evU env x) (lo.map (evU env)) (hi.map (evU env)) (some (evU env mx))) [.sc .sl] fun r=>put n o (.slice r.a r.n r.c) k env
 | .convert S D x=>onSl (evU env x) (ifW (isSlT P S) (onSome (resOf P o.type) fun ts=>rawQ P (Go.convert S D (evU env x)) ts fun r=>put n o (resE ts r) k env)) (genDen P n o k env)
 | .fieldAddr T x i=>onNil (evU env x) (fun p=>ptrW p fun a=>onSome (pv P (Instr.fieldAt T (.pointer (some a)) i)) fun v=>put n o v k env) (genDen P n o k env)
 | .lookup T m x ok=>onSome (resOf P o.type) fun ts=>rawQ P (Instr.lookup T (evU env m) (evU env x) ok) ts fun r=>put n o (resE ts r) k env
 | .mapUpdate T m x v=>rawU P (Instr.mapUpdate T (evU env m) (evU env x) (evU env v)) (put n o undef k env)
 | .makeMap T r=>rawW P (Instr.makeMap T (r.map (evU env))) [.sc .map] fun x=>put n o (.map x) k env
 | .makeSlice T l c=>rawW P (Instr.makeSlice T (evU env l) (evU env c)) [.sc .sl] fun x=>put n o (.slice x.a x.n x.c) k env
 | .range T x=>rawW P (Instr.range T (evU env x)) [.sc .ptr] fun p=>put n o (.pointer p) k env
 | .next x s=>nxtW P (Instr.next (evU env x) s o.type) (put n o (.tuple #[.bool false]) k env) (fun a b=>put n o (.tuple #[.bool true,a,b]) k env)
 | .call c=>callDen P n o c k env
 | .select _ _=>failW
 | _=>genDen P n o k env
def denOp (P:Program) (n:Nat) (o:Oper) (k:Env→W R) (env:Env):W R :=
 ifW (allB (fun x=>(ev env x).isSome) o.op.operands.toList) (denOpB P n o k env o.op)
def denOpC [Pan R] (mp:List Nat) (P:Program) (n:Nat) (o:Oper) (k:Env→W R) (env:Env):W R :=
 bif mpOp mp o then (ifW (allB (fun x=>(ev env x).isSome) o.op.operands.toList) (match o.op with
  | .call c=>(match c.callee with
   | .value f=>onFn (evU env f) fun g first cap=>onSome (resOf P o.type) fun ts=>ifW (callable P g) (callP P g (first ++ c.args.map (evU env) ++ cap).toList ts fun r=>put n o (resE ts r) k env)
   | _=>failW)
  | _=>failW)) else denOp P n o k env
def entTys (P:Program):List Nat→Option Nat→Option (List Ty)
 | [],_=>none
 | _,none=>none
 | m :: r,some d=>bif Nat.beq (m / 1000) (1000+d) then (match P.underlying (m % 1000) with
  | some (.map k e)=>(match tyOf P k,tyOf P e with
   | some a,some b=>some [a,b]
   | _,_=>none)
  | _=>none) else entTys P r (some d)
def denOpP [Pan R] (mp:List Nat) (P:Program) (n:Nat) (o:Oper) (k:Env→W R) (env:Env):W R :=
 match o.op with
 | .panic x=>ifW (allB (fun x=>(ev env x).isSome) o.op.operands.toList) (match evU env x with
   | .iface T v=>panW (.iface T v)
   | _=>failW)
 | .entry x=>onSome (entTys P mp o.dst) fun ts=>ifW (allB (fun x=>(ev env x).isSome) o.op.operands.toList) (rawW P (Instr.entry (evU env x)) ts fun r=>put n o (resE ts r) k env)
 | _=>denOpC mp P n o k env
def guardW (b want:Bool) (X Y:W R):W R:=match want with
 | true=>cond b X Y
 | false=>cond b Y X
def dstAt (ops:Array Oper) (j:Nat):Option Nat:=(ops[j]?).bind (·.dst)
def denOps [Pan R] (mp:List Nat) (P:Program) (n:Nat) (all:Array Oper):List Oper→(Env→W R)→Env→W R
 | [],k,env=>k env
 | o :: r,k,env=>match o.guard with
  | none=>denOpP mp P n o (denOps mp P n all r k) env
  | some (j,want)=>match dstAt all j with
   | none=>failW
   | some d=>match env d with
    | some (.bool b)=>guardW b want (denOpP mp P n o (denOps mp P n all r k) (eset env d (some (.bool want)))) (put n o undef (denOps mp P n all r k) (eset env d (some (.bool !want))))
    | some (.tuple _)=>put n o undef (denOps mp P n all r k) env
    | _=>failW
def dstsOps:List Oper→List Nat
 | []=>[]
 | o :: r=>match o.dst with
  | none=>dstsOps r
  | some d=>d :: dstsOps r
def dsts:Code→List Nat
 | .region _ ops _=>dstsOps ops.toList
 | .seq a b=>dsts a ++ dsts b
 | .cond _ a b=>dsts a ++ dsts b
 | .block _ c=>dsts c
 | .loop c=>dsts c
 | _=>[]
def andW (p:World→Prop) (K:W R):W R:=fun Q w=>p w∧K Q w
def bothW (X Y:W R):W R:=fun Q w=>X Q w∧Y Q w
def loadP (P:Program) (T:TypeId) (x:Value) (v:Option Value):World→Prop:=match x,tyOf P T,v with
 | .pointer (some a),some t,some u=>(match t.d u with
  | some z=>fun w=>Rd w a t z
  | none=>fun _=>False)
 | _,_,_=>fun _=>False
def addM (P:Program) (i:Nat) (o:Oper) (e:Env) (M:Mem):Mem:=match o.op,o.dst with
 | .load T (.tmp t),some d=>(bif Nat.beq t d then (i,fun _=>False) else (i,loadP P T (evU e (.tmp t)) (e d))) :: M
 | .load _ _,_=>(i,fun _=>False) :: M
 | _,_=>M
def rkW:Mem→List Nat→W R→W R
 | [],_,K=>K
 | (j,p) :: M,S,K=>bif memB S j then andW p (rkW M S K) else rkW M S K
def denOrd [Pan R] (mp:List Nat) (P:Program) (n:Nat) (all:Array Oper):Ord→Mem→(Env→W R)→Env→W R
 | [],_,k,env=>k env
 | (i,S) :: r,M,k,env=>match all[i]? with
  | none=>failW
  | some o=>match o.guard with
   | none=>denOpC mp P n o (fun e=>bif quietOp o.op then denOrd mp P n all r (addM P i o e M) k e else rkW M S (denOrd mp P n all r M k e)) env
   | some (j,want)=>match dstAt all j with
    | none=>failW
    | some d=>match env d with
     | some (.bool b)=>guardW b want (denOpC mp P n o (fun e=>bif quietOp o.op then denOrd mp P n all r (addM P i o e M) k e else rkW M S (denOrd mp P n all r M k e)) (eset env d (some (.bool want))))
       (put n o undef (denOrd mp P n all r M k) (eset env d (some (.bool !want))))
     | some (.tuple _)=>put n o undef (denOrd mp P n all r M k) env
     | _=>failW
def denRs [Pan R] (mp:List Nat) (P:Program) (n:Nat) (all:Array Oper) (k:Env→W R) (env:Env):List Ord→W R
 | []=>fun _ _=>True
 | [r]=>denOrd mp P n all r [] k env
 | r :: r2 :: rs=>bothW (denOrd mp P n all r [] k env) (denRs mp P n all k env (r2 :: rs))
structure Hints where
 reg:List (Nat × Sh):=[]
 con:List (Nat × Sh):=[]
 blk:List (Nat × Sh):=[]
 lop:List (Nat × Sh):=[]
 dr:List (Nat × (List (Nat × Nat) × List Ord)):=[]
 mp:List Nat:=[]
def hint:List (Nat × Sh)→Nat→Option Sh
 | [],_=>none
 | p :: r,i=>bif Nat.beq i p.1 then some p.2 else hint r i
def hintD:List (Nat × (List (Nat × Nat) × List Ord))→Nat→Option (List (Nat × Nat) × List Ord)
 | [],_=>none
 | p :: r,i=>bif Nat.beq i p.1 then some p.2 else hintD r i
def fstReg:Code→Nat
 | .region id _ _=>id+1
 | .seq a b=>(bif Nat.beq (fstReg a) 0 then fstReg b else fstReg a)
 | .cond _ a b=>(bif Nat.beq (fstReg a) 0 then fstReg b else fstReg a)
 | .block _ c=>fstReg c
 | .loop c=>fstReg c
 | _=>0
def hintC (l:List (Nat × Sh)) (a b:Code):Operand→Option Sh
 | .tmp t=>hint l (t+1000 * (bif Nat.beq (fstReg a) 0 then fstReg b else fstReg a))
 | _=>none
def leafW (e:Env) (sh:Sh) (J:Sh.T sh→W R):W R:=match getSh e sh with
 | some s=>J s
 | none=>failW
def jn (o:Option Sh) (ds:List Nat) (env:Env) (A:(Env→W R)→W R) (k:Env→W R):W R:=match o with
 | none=>A k
 | some sh=>joinW (fun J=>A (fun e=>leafW e sh J)) (fun s=>k (reset env ds sh s))
def regDen [Pan R] (mp:List Nat) (P:Program) (n:Nat) (ops:Array Oper) (draw:Bool) (d:Option (List (Nat × Nat) × List Ord)) (k:Env→W R) (env:Env):W R :=
 match draw with
 | false=>denOps mp P n ops ops.toList k env
 | true=>onSome d fun z=>ifW (ordersB P mp ops z.1 z.2) (drawW (denRs mp P n ops k env z.2))
def den [Pan R] (P:Program) (n:Nat) (h:Hints) (cur:Nat):Code→(Env→W R)→(Nat→Env→W R)→(Env→W R)→Env→W R
 | .skip,k,_,_,env=>k env
 | .region id ops draw,k,_,_,env=>jn (hint h.reg id) (dstsOps ops.toList) env (fun k'=>regDen h.mp P n ops draw (hintD h.dr id) k' env) k
 | .seq a b,k,ex,rt,env=>den P n h cur a (fun e=>den P n h cur b k ex rt e) ex rt env
 | .cond c a b,k,ex,rt,env=>match ev env c with
  | some (.bool t)=>jn (hintC h.con a b c) (dsts a ++ dsts b) env (fun k'=>cond t (den P n h cur a k' ex rt env) (den P n h cur b k' ex rt env)) k
  | _=>failW
 | .block id c,k,ex,rt,env =>
   jn (hint h.blk id) (dsts c) env (fun k'=>den P n h id c k' (fun i e=>bif Nat.beq i id then k' e else ex i e) rt env) k
 | .loop c,_,ex,rt,env=>match hint h.lop cur with
  | none=>failW
  | some sh=>leafW env sh (fun s0=>loopW (fun K s=>den P n h cur c (fun e=>leafW e sh K) ex rt (reset env (dsts c) sh s)) s0)
 | .exit id,_,ex,_,env=>ex id env
 | .ret,_,_,rt,env=>rt env
 | _,_,_,_,_=>failW
def resVars (env:Env):(rs:List ResultVar)→(ts:List Ty)→(Res ts→W R)→W R
 | [],[],K=>K ()
 | [.tmp t],[y],K=>(match env t with
  | none=>failW
  | some v=>match y.d v with
   | none=>failW
   | some x=>K x)
 | [.cell a _],[y],K=>(match env a with
  | some (.pointer p)=>ptrW p fun ad=>ld y ad K
  | _=>failW)
 | .tmp t :: r,y :: y' :: l,K=>(match env t with
  | none=>failW
  | some v=>match y.d v with
   | none=>failW
   | some x=>resVars env r (y' :: l) fun z=>K (x,z))
 | .cell a _ :: r,y :: y' :: l,K=>(match env a with
  | some (.pointer p)=>ptrW p fun ad=>ld y ad fun x=>resVars env r (y' :: l) fun z=>K (x,z)
  | _=>failW)
 | _,_,_=>failW
def ResOk (P:Program):List ResultVar→List Ty→Prop
 | [],[]=>True
 | .tmp _ :: r,_ :: l=>ResOk P r l
 | .cell _ T :: r,y :: l=>tyOf P T=some y∧ResOk P r l
 | _,_=>False
def env0:List Value→Env
 | [],_=>none
 | v :: r,i=>match i with
  | 0=>some v
  | j+1=>env0 r j
def denF (P:Program) (h:Hints) (fn:Func) (ts:List Ty) (args:List Value):W (Res ts) :=
 match fn.body with
 | none=>failW
 | some c=>@den _ (noPan _) P fn.ntmps h 0 c (fun e=>resVars e fn.results.toList ts retW) (fun _ _=>failW) (fun e=>resVars e fn.results.toList ts retW) (env0 args)
end Go.Proofs.YtoiahhpgkoknfaaGreat.Den
namespace Go.Proofs.YtoiahhpgkoknfaaGreat.Den
open Go
variable {R:Type} {P:Program} {n:Nat} {D:List Deferred}
structure Ag (D:List Deferred) (n:Nat) (env:Env) (a:Act):Prop where
 defers:a.defers=D
 size:a.tmps.size=n
 get:∀ i v,env i=some v→a.tmps[i]?=some v
theorem Ag.eval {env:Env} {a:Act} (h:Ag D n env a) {x:Operand} {v:Value} (hx:ev env x=some v):a.eval x=v:=by
 cases x with
 | tmp t=>simp only [ev] at hx; have:=h.get t v hx; simp [Act.eval,this]
 | const u=>simp only [ev] at hx; cases hx; rfl
 | global g=>simp only [ev] at hx; cases hx; rfl
 | func f=>simp only [ev] at hx; cases hx; rfl
theorem Ag.evalU {env:Env} {a:Act} (h:Ag D n env a) {x:Operand} (hx:(ev env x).isSome=true):a.eval x=evU env x:=by
 obtain ⟨v,hv⟩:=Option.isSome_iff_exists.1 hx
 rw [h.eval hv]; simp [evU,hv]
theorem Ag.eset {env:Env} {a:Act} (h:Ag D n env a) {d:Nat} (hd:d < n) (v:Value):Ag D n (eset env d (some v)) (a.put (some d) v):=by
 refine ⟨h.defers,by simp [Act.put,h.size],fun i u hu=>?_⟩
 simp only [Den.eset] at hu
 cases hb:Nat.beq i d with
 | true =>
  rw [hb] at hu
  have hi:=nbeq.1 hb
  subst hi
  cases hu
  simp [Act.put,h.size,hd]
 | false =>
  rw [hb] at hu
  have hi:=Zgt.1 hb
  have:=h.get i u hu
  simp only [Act.put]
  rw [Array.getElem?_setIfInBounds_ne (fun e=>hi e.symm)]
  exact this
def lim (e:Env) (ds:List Nat):Env:=fun i=>bif memB ds i then none else e i
theorem Zle {e:Env} {ds:List Nat} {i:Nat} {v:Value} (h:lim e ds i=some v):i ∉ ds∧e i=some v:=by
 unfold lim at h
 cases hm:memB ds i with
 | true=>rw [hm] at h; cases h
 | false=>rw [hm] at h; exact ⟨fun hi=>(by rw [Z67.2 hi] at hm; cases hm),h⟩
theorem Ag.lim {e env:Env} {ds:List Nat} {a:Act} (h:Ag D n e a) (he:∀ i,i ∉ ds→e i=env i):Ag D n (lim env ds) a :=
 ⟨h.defers,h.size,fun i v hv=>by obtain ⟨h1,h2⟩:=Zle hv; exact h.get i v ((he i h1).trans h2)⟩
theorem Ag.limSub {e env:Env} {ds ds':List Nat} {a:Act} (h:Ag D n (Den.lim e ds) a) (hs:∀ i,i ∉ ds'→i ∉ ds∧e i=env i):Ag D n (Den.lim env ds') a :=
 ⟨h.defers,h.size,fun i v hv=>by
  obtain ⟨h1,h2⟩:=Zle hv
  obtain ⟨h3,h4⟩:=hs i h1
  refine h.get i v ?_
  unfold Den.lim
  cases hm:memB ds i with
  | true=>exact absurd (Z67.1 hm) h3
  | false=>exact h4.trans h2⟩
theorem Ag.limPut {env:Env} {ds:List Nat} {a:Act} (h:Ag D n (Den.lim env ds) a) {d:Option Nat} (hd:∀ i,d=some i→i∈ds) (v:Value):Ag D n (Den.lim env ds) (a.put d v):=by
 cases d with
 | none=>exact h
 | some d =>
  refine ⟨h.defers,by simp [Act.put,h.size],fun i u hu=>?_⟩
  have hi:=(Zle hu).1
  simp only [Act.put]
  rw [Array.getElem?_setIfInBounds_ne (fun e=>hi (by have e:d=i:=e; rw [← e]; exact hd d rfl))]
  exact h.get i u hu
theorem Ag.again {env:Env} {a:Act} (h:Ag D n env a) {d:Nat} {v:Value} (hv:env d=some v) (u:Value) (hu:u=v):Ag D n (Den.eset env d (some u)) a:=by
 subst hu
 refine ⟨h.defers,h.size,fun i x hx=>?_⟩
 simp only [Den.eset] at hx
 cases hb:Nat.beq i d with
 | true=>rw [hb] at hx; rw [nbeq.1 hb]; cases hx; exact h.get _ _ hv
 | false=>rw [hb] at hx; exact h.get i x hx
def Nx (D:List Deferred) (n:Nat) (o:Oper) (env:Env) (k:Env→W R) (Q:R→World→Prop) (a:Act) (w:World):Prop :=
 ∃ env',Ag D n env' a∧(∀ i,o.dst≠some i→env' i=env i)∧k env' Q w
theorem Z39 {o:Oper} {v:Value} {k:Env→W R} {env:Env} {Q:R→World→Prop} {w:World} {a:Act} (ha:Ag D n env a) (h:put n o v k env Q w) :
  Nx D n o env k Q (a.put o.dst v) w:=by
 unfold put at h
 cases ho:o.dst with
 | none=>rw [ho] at h; exact ⟨env,by simpa [Act.put] using ha,fun _ _=>rfl,h⟩
 | some d =>
  rw [ho] at h
  dsimp only at h
  cases hb:Nat.blt d n with
  | false=>rw [hb] at h; exact h.elim
  | true =>
   rw [hb] at h
   have hd:d < n:=Nat.le_of_ble_eq_true hb
   refine ⟨_,ha.eset hd v,fun i hi=>?_,h⟩
   have:Nat.beq i d=false:=Zgt.2 (fun e=>hi (by rw [ho,e]))
   simp [Den.eset,this]
theorem Zs8 {α:Type} {p:α→Bool} {l:List α} (h:allB p l=true):∀ x∈l,p x=true:=by
 induction l with
 | nil=>intro x hx; cases hx
 | cons y r ih =>
  simp only [allB] at h
  cases hy:p y with
  | false=>rw [hy] at h; simp at h
  | true =>
   rw [hy] at h
   intro x hx
   rcases List.mem_cons.1 hx with rfl | hx
   ·exact hy
   ·exact ih h x hx
theorem Zlm {T:TypeId} {t:Ty} (ht:tyOf P T=some t) {w:World} {a:Addr} {x:t.T} (h:Rd w a t x):(loadVar T a).run P w=.ok (t.e x) w:=by
 unfold tyOf at ht
 split at ht
 ·cases ht
 ·rename_i i hi
  split at ht
  ·cases ht
  ·rename_i z hz
   have agg:∀ {cs:Array Value} {d:TypeDesc},P.underlying T=some d→(d=d)→(isAgg T).run P w=.ok true w →
     (bif Nat.beq i.size cs.toList.length then (scsOf cs.toList).map Ty.agg else none)=some t→(loadVar T a).run P w=.ok (t.e x) w:=by
    intro cs d hd _ hagg hh
    cases hb:Nat.beq i.size cs.toList.length with
    | false=>rw [hb] at hh; simp at hh
    | true =>
     rw [hb] at hh
     have hsz:=nbeq.1 hb
     cases hs:scsOf cs.toList with
     | none=>rw [hs] at hh; simp at hh
     | some l =>
      rw [hs] at hh
      simp only [cond_true,Option.map_some,Option.some.injEq] at hh
      subst hh
      have hlen:∀ (vs:List Value) (l:List Sc),scsOf vs=some l→∀ x:Tup Sc.T l,(Tup.e Sc.e l x).length=vs.length:=by
       intro vs
       induction vs with
       | nil=>intro l hl x; simp only [scsOf] at hl; cases hl; rfl
       | cons v vs ih =>
        intro l hl x
        simp only [scsOf] at hl
        split at hl
        ·cases hl
        ·split at hl
         ·cases hl
         ·rename_i t0 _ l0 hl0
          cases hl
          cases l0 with
          | nil=>have:=ih _ hl0 (); simp [Tup.e] at this ⊢; exact List.length_eq_zero_iff.1 this.symm
          | cons t1 l1=>have:=ih _ hl0 x.2; simp [Tup.e,this]
      have hl:=hlen _ _ hs x
      have hc:CellsAt w a (Tup.e Sc.e l x):=h
      have hrun:=run_loadCells_list (P:=P) w a (Tup.e Sc.e l x) hc
      rw [hl,← hsz] at hrun
      simp only [loadVar,Sem.run_bind,hagg,Result.andThen_ok,if_true,sizeOf,typeInfo,run_program,hi,Sem.run_pure]
      rw [hrun]
      rfl
   have hsc:∀ {s:Sc},(isAgg T).run P w=.ok false w→t=.sc s→(loadVar T a).run P w=.ok (t.e x) w:=by
    intro s hagg hts
    subst hts
    have hc:w.cell? a=some (s.e x):=h
    simp only [loadVar,Sem.run_bind,hagg,Result.andThen_ok,Bool.false_eq_true,if_false,run_load,hc]
   have hun:∀ {d:TypeDesc},P.underlying T=some d→(underlying T).run P w=.ok d w:=by
    intro d hd; simp [underlying,hd]
   split at ht
   ·rename_i fs cs hd
    exact agg hd rfl (by simp [isAgg,hun hd]) ht
   ·rename_i m el cs hd
    exact agg hd rfl (by simp [isAgg,hun hd]) ht
   ·cases ht
   ·cases ht
   ·rename_i v d hn1 hn2 hd _ _
    cases hs:scOf _ with
    | none=>rw [hs] at ht; simp at ht
    | some s =>
     rw [hs] at ht
     simp only [Option.map_some,Option.some.injEq] at ht
     refine hsc (s:=s) ?_ ht.symm
     cases d <;> first | (simp [isAgg,hun hd]; done) | (exfalso; first | exact hn1 _ rfl | exact hn2 _ _ rfl)
   ·cases ht
theorem Zcf {o:Oper} {env:Env} {a:Act} (ha:Ag D n env a) (hs:∀ cs b,o.op≠.select cs b) (hall:allB (fun x=>(ev env x).isSome) o.op.operands.toList=true) :
  execOp a.eval o=execOp (evU env) o :=
 execOp_congr o hs fun x hx=>ha.evalU (Zs8 hall x (by simpa using hx))
theorem Zbw {o:Oper} {k:Env→W R} {env:Env} {Q:R→World→Prop} {w:World} (h:genDen P n o k env Q w) :
  ∃ v,(∀ w2,(execOp (evU env) o).run P w2=.ok (.value v) w2)∧put n o v k env Q w:=by
 unfold genDen at h
 cases hp:pv P (execOp (evU env) o) with
 | none=>rw [hp] at h; exact h.elim
 | some x=>rw [hp] at h; cases x <;> first | exact ⟨_,Zfe hp,h⟩ | exact h.elim
theorem run_u {T:TypeId} {d:TypeDesc} (hd:P.underlying T=some d) (w:World):(underlying T).run P w=.ok d w:=by simp [underlying,hd]
theorem run_i {T:TypeId} {i:TypeInfo} (hd:P.info? T=some i) (w:World):(typeInfo T).run P w=.ok i w:=by simp [typeInfo,hd]
theorem Zfg {T:TypeId} (hd:(P.info? T).isSome=true) (w:World):(sizeOf T).run P w=.ok (sizeOfT P T) w:=by
 obtain ⟨i,hi⟩:=Option.isSome_iff_exists.1 hd
 simp [sizeOf,run_i hi,sizeOfT,hi]
theorem Zsl (d:Nat) {T e:TypeId} (h:P.underlying T=some (.pointer e)) (p:Option Addr) (w:World):(Op.equalIn (d+1) T (.pointer p) (.pointer none)).run P w=.ok p.isNone w:=by
 cases p <;> simp [Op.equalIn,run_u h]
theorem Zu3 (d:Nat) {T e:TypeId} (h:P.underlying T=some (.slice e)) (a:Option Addr) (l c:Nat) (w:World):(Op.equalIn (d+1) T (.slice a l c) (.slice none 0 0)).run P w=.ok a.isNone w:=by
 cases a <;> simp [Op.equalIn,run_u h]
theorem Ztm {T e:TypeId} (h:P.underlying T=some (.pointer e)) (p:Option Addr) (w:World):(Op.equal T (.pointer p) (.pointer none)).run P w=.ok p.isNone w:=Zsl 9999 h p w
theorem eq_sl {T e:TypeId} (h:P.underlying T=some (.slice e)) (a:Option Addr) (l c:Nat) (w:World):(Op.equal T (.slice a l c) (.slice none 0 0)).run P w=.ok a.isNone w:=Zu3 9999 h a l c w
theorem Zuo (T:TypeId) (p:Option Addr):Go.binOp .eql T (.pointer p) (.pointer none)=(do pure (.bool (← Op.equal T (.pointer p) (.pointer none)))):=by cases p <;> rfl
theorem Zus (T:TypeId) (p:Option Addr):Go.binOp .neq T (.pointer p) (.pointer none)=(do pure (.bool (!(← Op.equal T (.pointer p) (.pointer none))))):=by cases p <;> rfl
theorem Zsk (d:Nat) {T k e:TypeId} (h:P.underlying T=some (.map k e)) (a:Option Nat) (w:World):(Op.equalIn (d+1) T (.map a) (.map none)).run P w=.ok a.isNone w:=by
 cases a <;> simp [Op.equalIn,run_underlying h]
theorem Ztl {T k e:TypeId} (h:P.underlying T=some (.map k e)) (a:Option Nat) (w:World):(Op.equal T (.map a) (.map none)).run P w=.ok a.isNone w:=Zsk 9999 h a w
theorem Zup (T:TypeId) (a:Option Nat):Go.binOp .eql T (.map a) (.map none)=(do pure (.bool (← Op.equal T (.map a) (.map none)))):=rfl
theorem Zur (T:TypeId) (a:Option Nat):Go.binOp .neq T (.map a) (.map none)=(do pure (.bool (!(← Op.equal T (.map a) (.map none))))):=rfl
theorem Zuq (T:TypeId) (a:Option Addr) (l c:Nat):Go.binOp .eql T (.slice a l c) (.slice none 0 0)=(do pure (.bool (← Op.equal T (.slice a l c) (.slice none 0 0)))):=rfl
theorem Zut (T:TypeId) (a:Option Addr) (l c:Nat):Go.binOp .neq T (.slice a l c) (.slice none 0 0)=(do pure (.bool (!(← Op.equal T (.slice a l c) (.slice none 0 0))))):=rfl
theorem Zgw {x y:Value} {k:IntKind} {a b:Int} (h:sameInts x y=some (k,a,b)):x=.int k a∧y=.int k b:=by
 unfold sameInts at h
 split at h
 ·split at h
  ·rename_i hk; subst hk; cases h; exact ⟨rfl,rfl⟩
  ·cases h
 ·cases h
theorem Zje {x y:Value} {k:IntKind} {a b:Int} (h:twoInts x y=some (k,a,b)):x=.int k a∧∃ k',y=.int k' b:=by
 unfold twoInts at h
 split at h
 ·cases h; exact ⟨rfl,_,rfl⟩
 ·cases h
theorem Zqk {o:Oper} {op:BinOp} {T T':TypeId} {x y:Operand} (ho:o.op=.binOp op T x y T') {k:Env→W R} {env:Env} {Q:R→World→Prop} {w:World}
  (h:binDen P n o op T x y k env (genDen P n o k env) Q w) :
  ∃ v,(execOp (evU env) o).run P w=.ok (.value v) w∧put n o v k env Q w∧(pureOp P o.op=true→∀ w2,(execOp (evU env) o).run P w2=.ok (.value v) w2):=by
 have hex:execOp (evU env) o=(do pure (Next.value (← (do eqGuard op T x y (evU env x) (evU env y); Go.binOp op T (evU env x) (evU env y):Sem Value))):Sem Next):=by
  simp only [execOp,ho]
 have hint:∀ (kd:IntKind) (a b:Int) (r:Value),op≠.eql→op≠.neq→evU env x=.int kd a→(∀ w2,(Go.binOp op T (evU env x) (evU env y)).run P w2=.ok r w2) →
   ∀ w2,(execOp (evU env) o).run P w2=.ok (.value r) w2:=by
  intro kd a b r h1 h2 hx hr w2
  rw [hex]
  have hg:(eqGuard op T x y (evU env x) (evU env y)).run P w2=.ok () w2:=by
   unfold eqGuard
   cases op <;> first | exact absurd rfl h1 | exact absurd rfl h2 | rfl
  simp [hg,hr w2]
 have hval:∀ (r:Value),(eqGuard op T x y (evU env x) (evU env y)).run P w=.ok () w→(Go.binOp op T (evU env x) (evU env y)).run P w=.ok r w →
   (execOp (evU env) o).run P w=.ok (.value r) w:=by
  intro r hg hr
  rw [hex]
  simp [hg,hr]
 have hall:∀ {v:Value},(∀ w2,(execOp (evU env) o).run P w2=.ok (.value v) w2)→put n o v k env Q w→∃ v,(execOp (evU env) o).run P w=.ok (.value v) w∧put n o v k env Q w∧(pureOp P o.op=true→∀ w2,(execOp (evU env) o).run P w2=.ok (.value v) w2) :=
  fun h1 h2=>⟨_,h1 w,h2,fun _=>h1⟩
 unfold binDen at h
 split at h
 ·obtain ⟨p,e,hx,hT,h⟩:=Zkf h
  refine ⟨_,hval _ ?_ ?_,h,fun hp=>by rw [ho] at hp; cases hp⟩
  ·rw [hx]; rfl
  ·rw [hx]; show (Go.binOp .eql T (.pointer p) (.pointer none)).run P w=_; rw [Zuo,Sem.run_bind,Ztm hT]; rfl
 ·obtain ⟨p,e,hx,hT,h⟩:=Zkf h
  refine ⟨_,hval _ ?_ ?_,h,fun hp=>by rw [ho] at hp; cases hp⟩
  ·rw [hx]; rfl
  ·rw [hx]; show (Go.binOp .neq T (.pointer p) (.pointer none)).run P w=_; rw [Zus,Sem.run_bind,Ztm hT]; rfl
 ·obtain ⟨a,l,c,e,hx,hT,h⟩:=Zmm h
  refine ⟨_,hval _ ?_ ?_,h,fun hp=>by rw [ho] at hp; cases hp⟩
  ·rw [hx]; rfl
  ·rw [hx]; show (Go.binOp .eql T (.slice a l c) (.slice none 0 0)).run P w=_; rw [Zuq,Sem.run_bind,eq_sl hT]; rfl
 ·obtain ⟨a,l,c,e,hx,hT,h⟩:=Zmm h
  refine ⟨_,hval _ ?_ ?_,h,fun hp=>by rw [ho] at hp; cases hp⟩
  ·rw [hx]; rfl
  ·rw [hx]; show (Go.binOp .neq T (.slice a l c) (.slice none 0 0)).run P w=_; rw [Zut,Sem.run_bind,eq_sl hT]; rfl
 ·obtain ⟨a,k',e,hx,hT,h⟩:=Zke h
  refine ⟨_,hval _ ?_ ?_,h,fun hp=>by rw [ho] at hp; cases hp⟩
  ·rw [hx]; rfl
  ·rw [hx]; show (Go.binOp .eql T (.map a) (.map none)).run P w=_; rw [Zup,Sem.run_bind,Ztl hT]; rfl
 ·obtain ⟨a,k',e,hx,hT,h⟩:=Zke h
  refine ⟨_,hval _ ?_ ?_,h,fun hp=>by rw [ho] at hp; cases hp⟩
  ·rw [hx]; rfl
  ·rw [hx]; show (Go.binOp .neq T (.map a) (.map none)).run P w=_; rw [Zur,Sem.run_bind,Ztl hT]; rfl
 ·obtain ⟨⟨kd,a,b⟩,hz,hb,h⟩:=Z18 h
  obtain ⟨hx,hy⟩:=Zgw hz
  exact hall (hint kd a b _ (by simp) (by simp) hx (fun w2=>by rw [hx,hy]; simp at hb; simp [Go.binOp,Op.intDiv,hb])) h
 ·obtain ⟨⟨kd,a,b⟩,hz,hb,h⟩:=Z18 h
  obtain ⟨hx,hy⟩:=Zgw hz
  exact hall (hint kd a b _ (by simp) (by simp) hx (fun w2=>by rw [hx,hy]; simp at hb; simp [Go.binOp,Op.intDiv,hb])) h
 ·obtain ⟨⟨kd,a,b⟩,hz,hb,h⟩:=Z18 h
  obtain ⟨hx,kd',hy⟩:=Zje hz
  have hb':¬ b < 0:=by dsimp only at hb; omega
  exact hall (hint kd a b _ (by simp) (by simp) hx (fun w2=>by rw [hx,hy]; simp [Go.binOp,Op.shift,hb'])) h
 ·obtain ⟨⟨kd,a,b⟩,hz,hb,h⟩:=Z18 h
  obtain ⟨hx,kd',hy⟩:=Zje hz
  have hb':¬ b < 0:=by dsimp only at hb; omega
  exact hall (hint kd a b _ (by simp) (by simp) hx (fun w2=>by rw [hx,hy]; simp [Go.binOp,Op.shift,hb'])) h
 ·rcases Zmi h with ⟨⟨c,hc⟩,x',hr,h⟩ | ⟨hc,h⟩
  ·refine ⟨_,?_,h,fun hp=>by rw [ho] at hp; cases hp⟩
   rw [hex]
   rw [Sem.run_bind,hr]
   rfl
  ·obtain ⟨v,h1,h2⟩:=Zbw h
   exact hall h1 h2
 ·rcases Zmi h with ⟨⟨c,hc⟩,x',hr,h⟩ | ⟨hc,h⟩
  ·refine ⟨_,?_,h,fun hp=>by rw [ho] at hp; cases hp⟩
   rw [hex]
   rw [Sem.run_bind,hr]
   rfl
  ·obtain ⟨v,h1,h2⟩:=Zbw h
   exact hall h1 h2
 ·obtain ⟨v,h1,h2⟩:=Zbw h
  exact hall h1 h2
theorem Zv5 {T:TypeId} {len:Nat} {parts:Array (Nat × Value)} {z:TypeId × Array Value} (h:pv P (bsCells T len parts)=some z) (w:World) :
  (Instr.buildSlice T len parts).run P w=.ok (.slice (some ⟨w.heap.size,0,none⟩) len len) (w.alloc (.cells z.2 z.1)):=by
 have hb:Instr.buildSlice T len parts=(do let z ← bsCells T len parts; pure (.slice (some (← newRow z.1 z.2)) len len)):=by
  unfold Instr.buildSlice bsCells
  simp only [bind,Sem.bind_assoc']
  congr 1
  funext d
  cases d <;> simp only [Sem.bind_assoc',stuck] <;> try rfl
  congr 1
  funext size
  split
  ·rfl
  ·by_cases hz:len * size=0
   ·simp only [hz,if_true,pure,Sem.bind]
    generalize Instr.fill (fun i=>some (i * size,size)) _ parts.toList=r
    cases r <;> rfl
   ·simp only [hz,if_false,pure,Sem.bind,Sem.bind_assoc']
    congr 1
    funext zero
    generalize Instr.fill (fun i=>some (i * size,size)) _ parts.toList=r
    cases r <;> rfl
 rw [hb,Sem.run_bind,Zfe h w]
 simp [newRow]
theorem _root_.Go.Proofs.YtoiahhpgkoknfaaGreat.Den.Rd.ext {w w2:World} {a:Addr}:∀ {t:Ty} {x:t.T},Rd w a t x→Ext w w2→Rd w2 a t x
 | .sc _,_,h,he=>he _ _ h
 | .agg _,_,h,he=>fun j u hj=>he _ _ (h j u hj)
theorem Zcg (a:Addr):∀ (vs:List Value) (i:Nat) (K:W R) (Q:R→World→Prop) (w:World),stoL a vs i K Q w→∃ w',(storeCells a vs i).run P w=.ok () w'∧K Q w'
 | [],i,K,Q,w,h=>⟨w,rfl,h⟩
 | v :: r,i,K,Q,w,h=>by
  obtain ⟨h1,⟨u,h2⟩,h3,h4⟩:=h
  obtain ⟨w',hr,hk⟩:=Zcg a r (i+1) K Q _ h4
  refine ⟨w',?_,hk⟩
  simp only [storeCells,Sem.run_bind]
  rw [run_store _ _ _ _ _ h1]
  simp [h2,h3,hr]
theorem Zq4 {T el:TypeId} (hT:P.underlying T=some (.slice el)) (hel:(P.info? el).isSome=true) (a:Addr) (len c:Nat) (kd:IntKind) (j:Int) (h0:0≤j) (h1:j < len) (w:World) :
  (Instr.indexAt T (.slice (some a) len c) (.int kd j)).run P w=.ok (.pointer (some (a.add (j.toNat * sizeOfT P el)))) w:=by
 simp [Instr.indexAt,asIntOf,run_u hT,h0,h1,Zfg hel]
theorem Zo8 {T el:TypeId} {len:Nat} (hT:P.underlying T=some (.array len el)) (hel:(P.info? el).isSome=true) (a:Addr) (kd:IntKind) (j:Int) (h0:0≤j) (h1:j < len) (w:World) :
  (Instr.indexAt T (.pointer (some a)) (.int kd j)).run P w=.ok (.pointer (some (a.add (j.toNat * sizeOfT P el)))) w:=by
 simp [Instr.indexAt,Instr.sureAddr,asIntOf,run_u hT,h0,h1,Zfg hel]
theorem Zr3 {v:Value} {j:Int} (h:isInt v=some j):∃ k,v=.int k j:=by
 unfold isInt at h
 split at h
 ·cases h; exact ⟨_,rfl⟩
 ·cases h
theorem Zff {x:Value} {kd:IntKind} {j:Int} {y:Nat} (hx:x=.int kd j) (h0:0≤j) (h1:j≤y) (code:BoundsCode) (w:World):(Instr.sliceBound x y code).run P w=.ok j.toNat w:=by
 subst hx
 simp [Instr.sliceBound,asIntOf,h0,h1]
theorem Zkg {env:Env} {x:Option Operand} {r:Option Int} (h:optInt env x=some r):(x=none∧r=none)∨∃ y k j,x=some y∧evU env y=.int k j∧r=some j:=by
 cases x with
 | none=>simp only [optInt] at h; cases h; exact .inl ⟨rfl,rfl⟩
 | some y =>
  simp only [optInt] at h
  generalize hy:evU env y=v at h
  cases v <;> first | (cases h; done) | (cases h; exact .inr ⟨_,_,_,rfl,hy,rfl⟩)
theorem Zkn {env:Env} {lo hi:Option Operand} {l h:Option Int} (hl:optInt env lo=some l) (hh:optInt env hi=some h) (b:Bool) (len cap:Nat)
  (hc:0≤h.getD len∧h.getD len≤cap∧0≤l.getD 0∧l.getD 0≤h.getD len) (w:World) :
  (Instr.sliceBounds b len cap (lo.map (evU env)) (hi.map (evU env)) none).run P w=.ok ((l.getD 0).toNat,(h.getD len).toNat,cap) w:=by
 obtain ⟨h1,h2,h3,h4⟩:=hc
 rcases Zkg hl with ⟨rfl,rfl⟩ | ⟨y,k,j,rfl,hy,rfl⟩ <;> rcases Zkg hh with ⟨rfl,rfl⟩ | ⟨y',k',j',rfl,hy',rfl⟩
 ·simp [Instr.sliceBounds]
 ·simp only [Option.getD_some] at h1 h2
  simp [Instr.sliceBounds,Zff (P:=P) hy' h1 h2]
 ·simp only [Option.getD_some,Option.getD_none] at h3 h4
  simp [Instr.sliceBounds,Zff (P:=P) hy h3 h4]
 ·simp only [Option.getD_some] at h1 h2 h3 h4
  have h4':j≤(j'.toNat:Int):=by omega
  simp [Instr.sliceBounds,Zff (P:=P) hy' h1 h2,Zff (P:=P) hy h3 h4']
theorem Zuf {T el:TypeId} (hT:P.underlying T=some (.slice el)) (hel:(P.info? el).isSome=true) {env:Env} {lo hi:Option Operand} {l h:Option Int} (hl:optInt env lo=some l) (hh:optInt env hi=some h)
  (b:Option Addr) (len c:Nat) (hc:0≤h.getD len∧h.getD len≤c∧0≤l.getD 0∧l.getD 0≤h.getD len) (w:World) :
  (Instr.sliceAt T (.slice b len c) (lo.map (evU env)) (hi.map (evU env)) none).run P w =
   .ok (.slice (if c=(l.getD 0).toNat then b else b.map (·.add ((l.getD 0).toNat * sizeOfT P el))) ((h.getD len).toNat - (l.getD 0).toNat) (c - (l.getD 0).toNat)) w:=by
 simp only [Instr.sliceAt,Instr.slice,Sem.run_bind,run_u hT,Result.andThen_ok,Zkn hl hh true len c hc,Zfg hel,Sem.run_pure]
theorem Zo9 {T el:TypeId} {len:Nat} (hT:P.underlying T=some (.array len el)) (hel:(P.info? el).isSome=true) {env:Env} {lo hi:Option Operand} {l h:Option Int} (hl:optInt env lo=some l) (hh:optInt env hi=some h)
  (b:Addr) (hc:0≤h.getD len∧h.getD len≤len∧0≤l.getD 0∧l.getD 0≤h.getD len) (w:World) :
  (Instr.sliceAt T (.pointer (some b)) (lo.map (evU env)) (hi.map (evU env)) none).run P w =
   .ok (.slice (if len=(l.getD 0).toNat then some b else (some b).map (·.add ((l.getD 0).toNat * sizeOfT P el))) ((h.getD len).toNat - (l.getD 0).toNat) (len - (l.getD 0).toNat)) w:=by
 simp only [Instr.sliceAt,Instr.sureAddr,Sem.run_bind,run_u hT,Result.andThen_ok,Zkn hl hh false len len hc,Zfg hel,Sem.run_pure]
 split <;> rfl
section
variable [Pan R] {mp:List Nat}
def Out (D:List Deferred) (mp:List Nat) (P:Program) (n:Nat) (o:Oper) (env:Env) (k:Env→W R) (Q:R→World→Prop) (a:Act) (w:World):Prop :=
 Step P mp (fun ch w=>Pan.pan Q ch w) o (fun _=>True) a w (fun _ a' w'=>Nx D n o env k Q a' w')
theorem Z7w {o:Oper} {env:Env} {k:Env→W R} {Q:R→World→Prop} {a:Act} {w:World} {v:Value} (ha:Ag D n env a) (hk:isAlloc o.op=false) (h1:∀ w2,(execOp a.eval o).run P w2=.ok (.value v) w2) (h2:put n o v k env Q w) :
  Out D mp P n o env k Q a w :=
 .inl ⟨v,w,h1 w,Z39 ha h2,fun _=>trivial,fun _=>rfl,fun _=>h1,fun _ w2 _=>h1 w2,fun h=>by rw [hk] at h; cases h⟩
theorem Zc7 {o:Oper} {env:Env} {k:Env→W R} {Q:R→World→Prop} {a:Act} {w:World} {v:Value} (ha:Ag D n env a) (hk:isAlloc o.op=false) (hl:isLoad o.op=false) (h1:(execOp a.eval o).run P w=.ok (.value v) w) (h2:put n o v k env Q w)
  (h3:pureOp P o.op=true→∀ w2,(execOp a.eval o).run P w2=.ok (.value v) w2):Out D mp P n o env k Q a w :=
 .inl ⟨v,w,h1,Z39 ha h2,fun _=>trivial,fun _=>rfl,h3,fun h=>(by rw [hl] at h; cases h),fun h=>by rw [hk] at h; cases h⟩
theorem Ze0 {o:Oper} {env:Env} {k:Env→W R} {Q:R→World→Prop} {a:Act} {w w':World} {v:Value} (ha:Ag D n env a) (hq:quietOp o.op=false) (hk:isAlloc o.op=false) (h1:(execOp a.eval o).run P w=.ok (.value v) w') (h2:put n o v k env Q w') :
  Out D mp P n o env k Q a w :=
 .inl ⟨v,w',h1,Z39 ha h2,fun _=>trivial,fun h=>(by rw [hq] at h; cases h),fun h=>(by rw [Zao h] at hq; cases hq),fun h=>(by rw [(Z65 h).1] at hq; cases hq),fun h=>by rw [hk] at h; cases h⟩
theorem Zik {o:Oper} {env:Env} {k:Env→W R} {Q:R→World→Prop} {a:Act} {w:World} {ob:Obj} {v:Value} (ha:Ag D n env a) (hk:isAlloc o.op=true) (h1:(execOp a.eval o).run P w=.ok (.value v) (w.alloc ob)) (h2:put n o v k env Q (w.alloc ob)) :
  Out D mp P n o env k Q a w :=
 .inl ⟨v,_,h1,Z39 ha h2,fun _=>trivial,fun h=>(by rw [(Zcd hk).1] at h; cases h),fun h=>(by rw [(Zcd hk).2.1] at h; cases h),fun h=>(by rw [(Zcd hk).2.2] at h; cases h),fun _=>⟨ob,rfl⟩⟩
theorem Ztk {T:TypeId} {z:Value} (h:zeroOfT P T=some z) (w:World):(zeroValue T).run P w=.ok z w:=by
 unfold zeroOfT at h
 obtain ⟨i,hi,hz⟩:=Option.bind_eq_some_iff.1 h
 simp [zeroValue,run_i hi,hz]
theorem Zrx {T:TypeId} {a:Addr} {v:Value} (hsz:Nat.beq v.cells.size (sizeOfT P T)=true) (hT:(P.info? T).isSome=true) {w w':World} (h:(storeCells a v.cells.toList 0).run P w=.ok () w') :
  (storeVar T a v).run P w=.ok () w':=by
 have:=nbeq.1 hsz
 simp [storeVar,Zfg hT,this,h]
theorem Zgr {f:Nat} {args:Array Value} (h:callable P f=true) (w:World):(callFunc f args).run P w=.ok (.enter f args) w:=by
 unfold callable at h
 split at h
 ·rename_i fn hf
  simp only [Bool.and_eq_true,Bool.not_eq_true'] at h
  obtain ⟨h1,h2⟩:=h
  have h3:fn.body.isNone=false:=by cases hb:fn.body <;> simp_all
  simp only [callFunc,Sem.run_bind,run_program,Result.andThen_ok,hf,h2,h3,Bool.false_eq_true,if_false,Sem.run_pure]
 ·cases h
theorem Zpm {o:Oper} {k:Env→W R} {env:Env} {Q:R→World→Prop} {w:World} {a:Act} {c:Call} (ha:Ag D n env a) (ho:o.op=.call c) (hall:allB (fun x=>(ev env x).isSome) o.op.operands.toList=true)
  (h:callDen P n o c k env Q w):Out D mp P n o env k Q a w:=by
 have hc:execOp a.eval o=execOp (evU env) o:=Zcf ha (by rw [ho]; intros; simp) hall
 have hal:isAlloc o.op=false:=by rw [ho]; rfl
 have hgen:genDen P n o k env Q w→Out D mp P n o env k Q a w:=by
  intro h
  obtain ⟨v,h1,h2⟩:=Zbw h
  exact Z7w ha hal (fun w2=>by rw [hc]; exact h1 w2) h2
 have hb:∀ b,c.callee=.builtin b→execOp (evU env) o=Go.builtin b c.argTypes o.type (c.args.map fun | .const _=>true | _=>false) (c.args.map (evU env)):=by
  intro b hb
  simp only [execOp,ho,resolve,hb]
  rfl
 unfold callDen at h
 obtain ⟨callee,args,argTypes⟩:=c
 cases callee with
 | value f =>
  obtain ⟨g,first,cap,hf,h⟩:=Zp7 h
  obtain ⟨ts,hts,h⟩:=Z18 h
  cases hcall:callable P g with
  | true =>
   rw [hcall] at h
   refine .inr (.inr ⟨by rw [ho]; rfl,hal,g,first ++ args.map (evU env) ++ cap,w,?_,?_⟩)
   ·rw [hc]
    simp only [execOp,ho,resolve,hf,Deferred.ofValue,Sem.run_bind,Sem.run_pure,Result.andThen_ok,Go.invoke,Zgr hcall]
   ·refine Calls.mono h ?_
    rintro e w'' ⟨r,rfl,hk⟩
    exact .inl ⟨_,rfl,Z39 ha hk,trivial⟩
  | false =>
   rw [hcall] at h
   obtain ⟨x,w',hr,h⟩:=h
   refine Ze0 ha (by rw [ho]; rfl) hal ?_ h
   rw [hc]
   simp only [execOp,ho,resolve,hf,Deferred.ofValue,Sem.run_bind,Sem.run_pure,Result.andThen_ok,Go.invoke]
   exact hr
 | invoke r m=>exact h.elim
 | builtin b =>
  have hb:=hb b rfl
  have raw:∀ (s:Sem Value) (ts:List Ty),(∀ v w',s.run P w=.ok v w'→(execOp (evU env) o).run P w=.ok (.value v) w')→quietOp o.op=false →
    rawW P s ts (fun r=>put n o (resE ts r) k env) Q w→Out D mp P n o env k Q a w:=by
   rintro s ts hs hq ⟨x,w',hr,h⟩
   exact Ze0 ha hq hal (by rw [hc]; exact hs _ _ hr) h
  cases b
  case append=>exact raw _ _ (fun v w' hr=>by rw [hb]; simp only [Go.builtin,Sem.run_bind]; rw [hr]; rfl) (by rw [ho]; rfl) h
  case copy=>exact raw _ _ (fun v w' hr=>by rw [hb]; simp only [Go.builtin,Sem.run_bind]; rw [hr]; rfl) (by rw [ho]; rfl) h
  case delete=>exact raw _ _ (fun v w' hr=>by rw [hb]; simp only [Go.builtin,Sem.run_bind]; rw [hr]; rfl) (by rw [ho]; rfl) h
  case clear=>exact raw _ _ (fun v w' hr=>by rw [hb]; simp only [Go.builtin,Sem.run_bind]; rw [hr]; rfl) (by rw [ho]; rfl) h
  case len =>
   rcases Zrd h with ⟨_,x,hr,h⟩ | ⟨_,h⟩
   ·refine Zc7 ha hal (by rw [ho]; rfl) ?_ h (fun hp=>by rw [ho] at hp; cases hp)
    rw [hc,hb]
    simp only [Go.builtin,Sem.run_bind]
    rw [hr]
    rfl
   ·exact hgen h
  all_goals exact hgen h
theorem Zsx {o:Oper} {k:Env→W R} {env:Env} {Q:R→World→Prop} {w:World} {a:Act} (ha:Ag D n env a) (h:denOp P n o k env Q w):Out D mp P n o env k Q a w:=by
 obtain ⟨hall,h⟩:=Z73 h
 have hgen:(∀ cs b,o.op≠.select cs b)→isAlloc o.op=false→genDen P n o k env Q w→Out D mp P n o env k Q a w:=by
  intro hs hk h
  obtain ⟨v,h1,h2⟩:=Zbw h
  exact Z7w ha hk (fun w2=>by rw [Zcf ha hs hall]; exact h1 w2) h2
 have hc:(∀ cs b,o.op≠.select cs b)→execOp a.eval o=execOp (evU env) o:=fun hs=>Zcf ha hs hall
 generalize ho:o.op=op at h
 cases op
 case pick c x y =>
  obtain ⟨t,ht,h⟩:=Zpz h
  have hr:∀ w2,(execOp a.eval o).run P w2=.ok (.value (if t then evU env x else evU env y)) w2:=by
   intro w2; rw [hc (by rw [ho]; intros; simp)]; simp [execOp,ho,ht,asBool]
  refine Z7w ha (by rw [ho]; rfl) hr ?_
  cases t <;> exact h
 case alloc T =>
  obtain ⟨z,hz,h⟩:=Z18 h
  refine Zik (ob:=(.cells ⟨z.cells.toList⟩ T)) ha (by rw [ho]; rfl) ?_ h
  rw [hc (by rw [ho]; intros; simp)]
  simp [execOp,ho,Instr.alloc,Ztk hz,newVar,newRow]
 case box T x =>
  refine Zik (ob:=(.cells ⟨(evU env x).cells.toList⟩ T)) ha (by rw [ho]; rfl) ?_ h
  rw [hc (by rw [ho]; intros; simp)]
  simp [execOp,ho,Instr.box,newVar,newRow]
 case buildSlice T len parts =>
  obtain ⟨z,hz,h⟩:=Z18 h
  refine Zik (ob:=(.cells ⟨z.2.toList⟩ z.1)) ha (by rw [ho]; rfl) ?_ h
  rw [hc (by rw [ho]; intros; simp)]
  simp [execOp,ho,Zv5 hz]
 case load T x =>
  obtain ⟨p,hp,h⟩:=Zmk h
  obtain ⟨ad,rfl,h⟩:=Z9q h
  obtain ⟨t,ht,v,hv,h⟩:=Z18 h
  have hr:∀ w2,Ext w w2→(execOp a.eval o).run P w2=.ok (.value (t.e v)) w2:=by
   intro w2 he
   rw [hc (by rw [ho]; intros; simp)]
   simp [execOp,ho,Instr.loadAt,Instr.sureAddr,hp,Zlm ht (hv.ext he)]
  exact .inl ⟨_,w,hr w (Ext.refl w),Z39 ha h,fun _=>trivial,fun _=>rfl,fun hq=>(by rw [ho] at hq; cases hq),fun _=>hr,fun hq=>by rw [ho] at hq; cases hq⟩
 case store T x v =>
  obtain ⟨p,hp,h⟩:=Zmk h
  obtain ⟨ad,rfl,h⟩:=Z9q h
  obtain ⟨hb,h⟩:=Z73 h
  obtain ⟨w',hr,h⟩:=Zcg (P:=P) _ _ _ _ _ _ h
  simp only [Bool.and_eq_true] at hb
  refine .inr (.inl ⟨by rw [ho]; rfl,by rw [ho]; rfl,w',?_,Z39 ha h,trivial⟩)
  rw [hc (by rw [ho]; intros; simp)]
  simp [execOp,ho,Instr.storeAt,Instr.sureAddr,hp,Zrx hb.1 hb.2 hr]
 case nilCheck x =>
  rcases Zmj h with ⟨p,hp,h⟩ | h
  ·obtain ⟨ad,rfl,h⟩:=Z9q h
   refine Z7w ha (by rw [ho]; rfl) (fun w2=>?_) h
   rw [hc (by rw [ho]; intros; simp)]
   simp [execOp,ho,hp]
  ·exact hgen (by rw [ho]; intros; simp) (by rw [ho]; rfl) h
 case binOp op T x y T' =>
  obtain ⟨v,hr,h,hp⟩:=Zqk ho h
  exact Zc7 ha (by rw [ho]; rfl) (by rw [ho]; rfl) (by rw [hc (by rw [ho]; intros; simp)]; exact hr) h (fun hq w2=>by rw [hc (by rw [ho]; intros; simp)]; exact hp hq w2)
 case indexAddr T x i =>
  obtain ⟨j,hj,h⟩:=Z18 h
  obtain ⟨kd,hj⟩:=Zr3 hj
  rcases Zml h with ⟨b,l,c,e,hx,hT,h⟩ | ⟨p,l,e,hx,hT,h⟩
  ·obtain ⟨hel,ad,rfl,h0,h1,h⟩:=Z73 h
   refine Z7w ha (by rw [ho]; rfl) (fun w2=>?_) h
   rw [hc (by rw [ho]; intros; simp)]
   simp only [execOp,ho,hx,hj]
   rw [Sem.run_bind,Zq4 hT hel _ _ _ _ _ h0 h1]
   rfl
  ·obtain ⟨hel,h⟩:=Z73 h
   obtain ⟨ad,rfl,h⟩:=Z9q h
   obtain ⟨ad',he,h0,h1,h⟩:=h
   cases he
   refine Z7w ha (by rw [ho]; rfl) (fun w2=>?_) h
   rw [hc (by rw [ho]; intros; simp)]
   simp only [execOp,ho,hx,hj]
   rw [Sem.run_bind,Zo8 hT hel _ _ _ h0 h1]
   rfl
 case slice T x lo hi mx =>
  cases mx
  case some mx =>
   obtain ⟨r,hr,h⟩:=h
   refine Zc7 ha (by rw [ho]; rfl) (by rw [ho]; rfl) ?_ h (fun hp=>by rw [ho] at hp; cases hp)
   rw [hc (by rw [ho]; intros; simp)]
   simp only [execOp,ho,Option.map_some]
   rw [Sem.run_bind,hr]
   rfl
  obtain ⟨l,hl,h⟩:=Z18 h
  obtain ⟨hh,hhi,h⟩:=Z18 h
  rcases Zml h with ⟨b,m,c,e,hx,hT,h⟩ | ⟨p,m,e,hx,hT,h⟩
  ·obtain ⟨hel,hcd,h⟩:=Z73 h
   refine Z7w ha (by rw [ho]; rfl) (fun w2=>?_) h
   rw [hc (by rw [ho]; intros; simp)]
   simp only [execOp,ho,hx,Option.map_none]
   rw [Sem.run_bind,Zuf hT hel hl hhi b m c hcd]
   rfl
  ·obtain ⟨hel,h⟩:=Z73 h
   obtain ⟨ad,rfl,h⟩:=Z9q h
   obtain ⟨hcd,h⟩:=h
   refine Z7w ha (by rw [ho]; rfl) (fun w2=>?_) h
   rw [hc (by rw [ho]; intros; simp)]
   simp only [execOp,ho,hx,Option.map_none]
   rw [Sem.run_bind,Zo9 hT hel hl hhi ad hcd]
   rfl
 case convert S D x =>
  rcases Zsw h with ⟨_,h⟩ | h
  ·obtain ⟨hsl,h⟩:=Z73 h
   obtain ⟨ts,hts,r,hr,h⟩:=Z18 h
   refine Zc7 ha (by rw [ho]; rfl) (by rw [ho]; rfl) ?_ h (fun hp=>by rw [ho] at hp; simp [pureOp,hsl] at hp)
   rw [hc (by rw [ho]; intros; simp)]
   simp only [execOp,ho]
   rw [Sem.run_bind,hr]
   rfl
  ·exact hgen (by rw [ho]; intros; simp) (by rw [ho]; rfl) h
 case fieldAddr T x i =>
  rcases Zmj h with ⟨p,hp,h⟩ | h
  ·obtain ⟨ad,rfl,h⟩:=Z9q h
   obtain ⟨v,hv,h⟩:=Z18 h
   refine Z7w ha (by rw [ho]; rfl) (fun w2=>?_) h
   rw [hc (by rw [ho]; intros; simp)]
   simp only [execOp,ho,hp]
   rw [Sem.run_bind,Zfe hv]
   rfl
  ·exact hgen (by rw [ho]; intros; simp) (by rw [ho]; rfl) h
 case select=>exact h.elim
 case call c=>exact Zpm ha ho hall h
 case lookup T m x ok =>
  obtain ⟨ts,hts,r,hr,h⟩:=Z18 h
  refine Zc7 ha (by rw [ho]; rfl) (by rw [ho]; rfl) ?_ h (fun hp=>by rw [ho] at hp; cases hp)
  rw [hc (by rw [ho]; intros; simp)]
  simp only [execOp,ho]
  rw [Sem.run_bind,hr]
  rfl
 case mapUpdate T m x v =>
  obtain ⟨w',hr,h⟩:=h
  refine .inr (.inl ⟨by rw [ho]; rfl,by rw [ho]; rfl,w',?_,Z39 ha h,trivial⟩)
  rw [hc (by rw [ho]; intros; simp)]
  simp only [execOp,ho]
  rw [Sem.run_bind,hr]
  rfl
 case makeMap T r =>
  obtain ⟨r,w',hr,h⟩:=h
  refine Ze0 ha (by rw [ho]; rfl) (by rw [ho]; rfl) ?_ h
  rw [hc (by rw [ho]; intros; simp)]
  simp only [execOp,ho]
  rw [Sem.run_bind,hr]
  rfl
 case range T x =>
  obtain ⟨r,w',hr,h⟩:=h
  refine Ze0 ha (by rw [ho]; rfl) (by rw [ho]; rfl) ?_ h
  rw [hc (by rw [ho]; intros; simp)]
  simp only [execOp,ho]
  rw [Sem.run_bind,hr]
  rfl
 case next x s =>
  rcases h with ⟨w',hr,h⟩ | ⟨x1,x2,w',hr,h⟩
  all_goals
   refine Ze0 ha (by rw [ho]; rfl) (by rw [ho]; rfl) ?_ h
   rw [hc (by rw [ho]; intros; simp)]
   simp only [execOp,ho]
   rw [Sem.run_bind,hr]
   rfl
 case makeSlice T l c =>
  obtain ⟨r,w',hr,h⟩:=h
  refine Ze0 ha (by rw [ho]; rfl) (by rw [ho]; rfl) ?_ h
  rw [hc (by rw [ho]; intros; simp)]
  simp only [execOp,ho]
  rw [Sem.run_bind,hr]
  rfl
 all_goals exact hgen (by rw [ho]; intros; simp) (by rw [ho]; rfl) h
theorem Zs7 {o:Oper} {k:Env→W R} {env:Env} {Q:R→World→Prop} {w:World} {a:Act} (h:Out D mp P n o env k Q a w) (QX:Exit→Act→World→Prop) (hp:∀ ch w,Pan.pan Q ch w→QX (.panic ch) a w):o.wp P a w (Nx D n o env k Q) QX:=by
 unfold Oper.wp
 rcases h with ⟨v,w',hr,h,_⟩ | ⟨_,_,w',hr,h,_⟩ | ⟨_,_,f,args,w',hr,h⟩
 ·rw [hr]; exact h
 ·rw [hr]; exact h
 ·rw [hr]
  refine Calls.mono h ?_
  rintro e w'' (⟨v,rfl,h,_⟩ | ⟨_,ch,rfl,h⟩)
  ·exact h
  ·exact hp ch w'' h
end
theorem Z3m {l:List Oper} {o:Oper} {d:Nat} (ho:o∈l) (hd:o.dst=some d):d∈dstsOps l:=by
 induction l with
 | nil=>cases ho
 | cons x r ih =>
  simp only [dstsOps]
  rcases List.mem_cons.1 ho with rfl | h
  ·rw [hd]; simp
  ·cases hx:x.dst with
   | none=>exact ih h
   | some e=>simp [ih h]
def Fin (D:List Deferred) (n:Nat) (ds:List Nat) (env:Env) (k:Env→W R) (Q:R→World→Prop) (a:Act) (w:World):Prop :=
 ∃ env',Ag D n env' a∧(∀ i,i ∉ ds→env' i=env i)∧k env' Q w
theorem Fin.base {ds:List Nat} {env env1:Env} {k:Env→W R} {Q:R→World→Prop} {a:Act} {w:World} (h:Fin D n ds env1 k Q a w) (he:∀ i,i ∉ ds→env1 i=env i):Fin D n ds env k Q a w :=
 let ⟨e,h1,h2,h3⟩:=h
 ⟨e,h1,fun i hi=>(h2 i hi).trans (he i hi),h3⟩
def OutP [Pan R] (D:List Deferred) (mp:List Nat) (P:Program) (n:Nat) (o:Oper) (env:Env) (k:Env→W R) (Q:R→World→Prop) (a:Act) (w:World):Prop :=
 a.defers=D∧(Out D mp P n o env k Q a w∨(∃ v w',(execOp a.eval o).run P w=.halt (.panic v) w'∧Pan.pan Q [{ v,recovered:=false }] w'))
theorem Zqh [Pan R] {mp:List Nat} {o:Oper} {k:Env→W R} {env:Env} {Q:R→World→Prop} {w:World} {a:Act} (h:OutP D mp P n o env k Q a w) (QX:Exit→Act→World→Prop) (hp:∀ ch w,Pan.pan Q ch w→QX (.panic ch) a w):o.wp P a w (Nx D n o env k Q) QX:=by
 obtain ⟨hd,h⟩:=h
 rcases h with h | ⟨v,w',hr,h⟩
 ·exact Zs7 h QX fun ch w h=>hp ch w h
 ·unfold Oper.wp
  rw [hr]
  exact hp _ w' h
theorem Zmn [Pan R] {mp:List Nat} {o:Oper} {k:Env→W R} {env:Env} {Q:R→World→Prop} {w:World} {a:Act} (ha:Ag D n env a) (h:denOpC mp P n o k env Q w):Out D mp P n o env k Q a w:=by
 unfold denOpC at h
 cases hm:mpOp mp o with
 | false=>rw [hm] at h; exact Zsx ha h
 | true =>
  rw [hm,cond_true] at h
  obtain ⟨hall,h⟩:=Z73 h
  have hq:quietOp o.op=false∧isAlloc o.op=false:=by
   unfold mpOp at hm
   cases ho:o.op <;> first | (rw [ho] at hm; cases hm; done) | skip
   rename_i c
   rw [ho] at hm
   obtain ⟨callee,args,ts⟩:=c
   cases callee <;> first | exact ⟨rfl,rfl⟩ | cases hm
  cases ho:o.op with
  | call c =>
   rw [ho] at h
   dsimp only at h
   cases hcal:c.callee with
   | value f =>
    rw [hcal] at h
    dsimp only at h
    obtain ⟨g,first,cap,hf,h⟩:=Zp7 h
    obtain ⟨ts,hts,h⟩:=Z18 h
    obtain ⟨hcall,h⟩:=Z73 h
    refine .inr (.inr ⟨hq.1,hq.2,g,first ++ c.args.map (evU env) ++ cap,w,?_,?_⟩)
    ·have hc:execOp a.eval o=execOp (evU env) o:=Zcf ha (by rw [ho]; intros; simp) hall
     rw [hc]
     simp only [execOp,ho,resolve,hcal,hf,Deferred.ofValue,Sem.run_bind,Sem.run_pure,Result.andThen_ok,Go.invoke,Zgr hcall]
    ·refine Calls.mono h ?_
     rintro e w'' (⟨r,rfl,hk⟩ | ⟨ch,rfl,hk⟩)
     ·exact .inl ⟨_,rfl,Z39 ha hk,trivial⟩
     ·exact .inr ⟨hm,ch,rfl,hk⟩
   | _=>rw [hcal] at h; exact h.elim
  | _=>rw [ho] at h; exact h.elim
theorem Zmo [Pan R] {mp:List Nat} {o:Oper} {k:Env→W R} {env:Env} {Q:R→World→Prop} {w:World} {a:Act} (ha:Ag D n env a) (h:denOpP mp P n o k env Q w):OutP D mp P n o env k Q a w:=by
 refine ⟨ha.defers,?_⟩
 unfold denOpP at h
 cases ho:o.op with
 | panic x =>
  rw [ho] at h
  dsimp only at h
  obtain ⟨hall,h⟩:=Z73 h
  rw [← ho] at hall
  have hc:execOp a.eval o=execOp (evU env) o:=Zcf ha (by rw [ho]; intros; simp) hall
  cases hx:evU env x with
  | iface T v =>
   rw [hx] at h
   refine .inr ⟨.iface T v,w,?_,h⟩
   rw [hc]
   simp only [execOp,ho,Sem.run_bind,Sem.run_pure,Result.andThen_ok,hx,Instr.panic]
   rfl
  | _=>rw [hx] at h; exact h.elim
 | entry x =>
  rw [ho] at h
  dsimp only at h
  obtain ⟨ts,hts,h⟩:=Z18 h
  obtain ⟨hall,r,w',hr,h⟩:=Z73 h
  rw [← ho] at hall
  have hc:execOp a.eval o=execOp (evU env) o:=Zcf ha (by rw [ho]; intros; simp) hall
  refine .inl (Ze0 ha (by rw [ho]; rfl) (by rw [ho]; rfl) ?_ h)
  rw [hc]
  simp only [execOp,ho]
  rw [Sem.run_bind,hr]
  rfl
 | _=>rw [ho] at h; exact .inl (Zmn ha h)
theorem Zqd [Pan R] {mp:List Nat} {all:Array Oper} {o:Oper} (hmem:o∈all.toList) {r:List Oper} {k:Env→W R} {env:Env} {Q:R→World→Prop} {w:World} {a:Act} (ha:Ag D n env a)
  (h:denOps mp P n all (o :: r) k env Q w) :
  (Region.wanted o (yielded all a.tmps)=true∧∃ env1,(∀ i,i ∉ dstsOps all.toList→env1 i=env i)∧OutP D mp P n o env1 (denOps mp P n all r k) Q a w) ∨
  (Region.wanted o (yielded all a.tmps)=false∧∃ env1,(∀ i,i ∉ dstsOps all.toList→env1 i=env i)∧Ag D n env1 (a.put o.dst undef)∧denOps mp P n all r k env1 Q w):=by
 simp only [denOps] at h
 cases hg:o.guard with
 | none =>
  rw [hg] at h
  exact .inl ⟨by simp [Region.wanted,hg],env,fun _ _=>rfl,Zmo ha h⟩
 | some g =>
  obtain ⟨j,want⟩:=g
  rw [hg] at h
  dsimp only at h
  cases hd:dstAt all j with
  | none=>rw [hd] at h; exact h.elim
  | some d =>
   rw [hd] at h
   dsimp only at h
   have hdm:d∈dstsOps all.toList:=by
    unfold dstAt at hd
    obtain ⟨oj,hj,hjd⟩:=Option.bind_eq_some_iff.1 hd
    exact Z3m (by have:=Array.mem_of_getElem? hj; simpa using this) hjd
   cases hv:env d with
   | none=>rw [hv] at h; exact h.elim
   | some v =>
    by_cases htup:∃ vs,v=.tuple vs
    ·obtain ⟨vs,rfl⟩:=htup
     rw [hv] at h
     have hy:yielded all a.tmps j=none:=by
      have h1:=ha.get d _ hv
      unfold dstAt at hd
      simp [yielded,hd,h1]
     obtain ⟨e,h1,h2,h3⟩:=Z39 ha h
     exact .inr ⟨by simp [Region.wanted,hg,hy],e,fun i hi=>h2 i (fun hd'=>hi (Z3m hmem hd')),h1,h3⟩
    cases v <;> first | (rw [hv] at h; exact h.elim) | (exact absurd ⟨_,rfl⟩ htup) | skip
    rename_i b
    rw [hv] at h
    dsimp only at h
    have hy:yielded all a.tmps j=some b:=by
     have h1:=ha.get d _ hv
     unfold dstAt at hd
     simp [yielded,hd,h1]
    have hw:Region.wanted o (yielded all a.tmps)=(b == want):=by
     simp only [Region.wanted,hg,hy]
     cases b <;> cases want <;> rfl
    have frame:∀ u,∀ i,i ∉ dstsOps all.toList→eset env d u i=env i:=fun u i hi=>by
     have:Nat.beq i d=false:=Zgt.2 (fun e=>hi (e ▸ hdm))
     simp [Den.eset,this]
    have hX:(b == want)=true→denOpP mp P n o (denOps mp P n all r k) (eset env d (some (.bool want))) Q w →
      OutP D mp P n o (eset env d (some (.bool want))) (denOps mp P n all r k) Q a w:=fun hb h =>
     Zmo (ha.again hv _ (by rw [beq_iff_eq.1 hb])) h
    have hY:(b == want)=false→put n o undef (denOps mp P n all r k) (eset env d (some (.bool !want))) Q w →
      ∃ env1,(∀ i,i ∉ dstsOps all.toList→env1 i=env i)∧Ag D n env1 (a.put o.dst undef)∧denOps mp P n all r k env1 Q w:=fun hb h=>by
     have ha':=ha.again hv (.bool !want) (by cases b <;> cases want <;> simp_all)
     obtain ⟨e,h1,h2,h3⟩:=Z39 ha' h
     exact ⟨e,fun i hi=>(h2 i (fun hd'=>hi (Z3m hmem hd'))).trans (frame _ i hi),h1,h3⟩
    cases want <;> cases b <;> simp only [guardW,cond_true,cond_false] at h
    ·exact .inl ⟨hw,_,frame _,hX rfl h⟩
    ·exact .inr ⟨hw,hY rfl h⟩
    ·exact .inr ⟨hw,hY rfl h⟩
    ·exact .inl ⟨hw,_,frame _,hX rfl h⟩
theorem Zuz {o:Oper} {all:Array Oper} (hmem:o∈all.toList) {env1 env:Env} {k:Env→W R} {Q:R→World→Prop} {a:Act} {w:World} (he:∀ i,i ∉ dstsOps all.toList→env1 i=env i)
  (h:Nx D n o env1 k Q a w):Fin D n (dstsOps all.toList) env k Q a w :=
 let ⟨e,h1,h2,h3⟩:=h
 ⟨e,h1,fun i hi=>(h2 i (fun hd=>hi (Z3m hmem hd))).trans (he i hi),h3⟩
theorem Zij [Pan R] {mp:List Nat} {all:Array Oper} {k:Env→W R} {Q:R→World→Prop} {QX:Exit→Act→World→Prop} {env0:Env} (hQ:∀ a w,Fin D n (dstsOps all.toList) env0 k Q a w→QX .normal a w) (hp:∀ ch a w,Ag D n (lim env0 (dstsOps all.toList)) a→Pan.pan Q ch w→QX (.panic ch) a w) :
  ∀ (l:List Oper),(∀ o∈l,o∈all.toList)→∀ (env:Env) (a:Act) (w:World),(∀ i,i ∉ dstsOps all.toList→env i=env0 i)→Ag D n env a→denOps mp P n all l k env Q w→wpList P all QX l a w
 | [],_,env,a,w,he,ha,h=>hQ a w ⟨env,ha,he,h⟩
 | o :: r,hm,env,a,w,he,ha,h=>by
  have ho:=hm o (by simp)
  have hr:∀ o'∈r,o'∈all.toList:=fun o' h'=>hm o' (by simp [h'])
  unfold wpList
  rcases Zqd ho ha h with ⟨hw,env1,he1,hout⟩ | ⟨hw,env1,he1,ha1,h1⟩
  ·rw [if_pos hw]
   refine .inl (Oper.wp_mono ?_ (Zqh hout QX fun ch w h=>hp ch a w (ha.lim he) h))
   intro a' w' hnx
   obtain ⟨e,h1,h2,h3⟩:=Zuz ho (fun i hi=>(he1 i hi).trans (he i hi)) hnx
   exact Zij hQ hp r hr e a' w' h2 h1 h3
  ·rw [if_neg (by rw [hw]; simp)]
   exact Zij hQ hp r hr env1 _ w (fun i hi=>(he1 i hi).trans (he i hi)) ha1 h1
theorem Zv4 {M:Mem} {S:List Nat} {K:W R} {Q:R→World→Prop} {w:World} (h:rkW M S K Q w):(∀ q∈M,q.1∈S→q.2 w)∧K Q w:=by
 induction M with
 | nil=>exact ⟨fun q hq=>(by cases hq),h⟩
 | cons q M ih =>
  obtain ⟨j,p⟩:=q
  simp only [rkW] at h
  cases hm:memB S j with
  | true =>
   rw [hm] at h
   obtain ⟨h1,h2⟩:=h
   obtain ⟨h3,h4⟩:=ih h2
   exact ⟨fun q hq hS=>by
    rcases List.mem_cons.1 hq with rfl | hq
    ·exact h1
    ·exact h3 q hq hS,h4⟩
  | false =>
   rw [hm] at h
   obtain ⟨h3,h4⟩:=ih h
   exact ⟨fun q hq hS=>by
    rcases List.mem_cons.1 hq with rfl | hq
    ·rw [Z67.2 hS] at hm; cases hm
    ·exact h3 q hq hS,h4⟩
def Tied (M M':Mem):Prop:=∀ q'∈M',∃ q∈M,q.1=q'.1∧∀ w,q.2 w→q'.2 w
theorem Zr8 {T:TypeId} {x:Operand} {v:Value} {e:Env} {a:Act} {o:Oper} {d:Nat} (ho:o.op=.load T x) (he:Ag D n e (a.put (some d) v)) (hx:∀ t,x=.tmp t→t≠d) :
  ∀ w,loadP P T (evU e x) (e d) w→LP P o a v w:=by
 intro w h w3 hext
 generalize hxv:evU e x=xv at h
 generalize hu:e d=uv at h
 generalize htt:tyOf P T=tv at h
 cases xv <;> first | exact h.elim | skip
 rename_i p
 cases p with
 | none=>exact h.elim
 | some ad =>
  cases tv with
  | none=>unfold loadP at h; rw [htt] at h; exact h.elim
  | some t =>
   cases uv with
   | none=>unfold loadP at h; rw [htt] at h; exact h.elim
   | some u =>
    unfold loadP at h
    rw [htt] at h
    dsimp only at h
    generalize hz:t.d u=zv at h
    cases zv with
    | none=>exact h.elim
    | some z =>
     have h1:=he.get d u hu
     have huv:u=v:=by
      simp only [Act.put] at h1
      rw [Array.getElem?_setIfInBounds] at h1
      simp only [if_true] at h1
      split at h1
      ·cases h1; rfl
      ·cases h1
     have hav:a.eval x=.pointer (some ad):=by
      cases hev:ev e x with
      | none=>unfold evU at hxv; rw [hev] at hxv; cases hxv
      | some y =>
       have h2:=he.eval hev
       rw [Act.eval_put (fun d' hd' hxd=>by cases hd'; exact hx _ hxd rfl)] at h2
       unfold evU at hxv
       rw [hev] at hxv
       rw [h2]; exact hxv
     have hr:=Zlm htt (Rd.ext h hext)
     simp only [execOp,ho,hav,Instr.loadAt,Instr.sureAddr,Sem.run_bind,Sem.run_pure,Result.andThen_ok]
     rw [hr,← huv,Ty.d_e _ _ _ hz]
     rfl
theorem Zc6 [Pan R] {mp:List Nat} {all:Array Oper} {k:Env→W R} {Q:R→World→Prop} {env0:Env} :
  ∀ (r:Ord) (M M':Mem) (env:Env) (a:Act) (w:World),Tied M M'→(∀ i,i ∉ dstsOps all.toList→env i=env0 i)→Ag D n env a→denOrd mp P n all r M k env Q w →
   wpL P mp (fun ch w=>Pan.pan Q ch w) all (fun a w=>Fin D n (dstsOps all.toList) env0 k Q a w) r M' a w
 | [],M,M',env,a,w,ht,he,ha,h=>⟨env,ha,he,h⟩
 | (i,S) :: r,M,M',env,a,w,ht,he,ha,h=>by
  simp only [denOrd] at h
  simp only [wpL]
  cases ho:all[i]? with
  | none=>rw [ho] at h; exact h.elim
  | some o =>
   rw [ho] at h
   dsimp only at h ⊢
   have hmem:o∈all.toList:=by have:=Array.mem_of_getElem? ho; simpa using this
   have stepX:∀ env1,(∀ i,i ∉ dstsOps all.toList→env1 i=env0 i)→Ag D n env1 a →
     denOpC mp P n o (fun e=>bif quietOp o.op then denOrd mp P n all r (addM P i o e M) k e else rkW M S (denOrd mp P n all r M k e)) env1 Q w →
     Step P mp (fun ch w=>Pan.pan Q ch w) o (fun w=>∀ q∈M',q.1∈S→q.2 w) a w (fun v a' w'=>wpL P mp (fun ch w=>Pan.pan Q ch w) all (fun a w=>Fin D n (dstsOps all.toList) env0 k Q a w) r (push P i o a v M') a' w'):=by
    intro env1 he1 ha1 hd
    have hout:Step P mp (fun ch w=>Pan.pan Q ch w) o (fun _=>True) a w _:=Zmn ha1 hd
    have nx:∀ {v:Value} {w':World},Nx D n o env1 (fun e=>bif quietOp o.op then denOrd mp P n all r (addM P i o e M) k e else rkW M S (denOrd mp P n all r M k e)) Q (a.put o.dst v) w' →
      (quietOp o.op=false→∀ q∈M',q.1∈S→q.2 w')∧wpL P mp (fun ch w=>Pan.pan Q ch w) all (fun a w=>Fin D n (dstsOps all.toList) env0 k Q a w) r (push P i o a v M') (a.put o.dst v) w':=by
     rintro v w' ⟨e,h1,h2,h3⟩
     have hfe:∀ i,i ∉ dstsOps all.toList→e i=env0 i:=fun i hi=>(h2 i (fun hd'=>hi (Z3m hmem hd'))).trans (he1 i hi)
     cases hq:quietOp o.op with
     | true =>
      rw [hq,cond_true] at h3
      refine ⟨fun h=>(by cases h),Zc6 r (addM P i o e M) (push P i o a v M') e _ w' ?_ hfe h1 h3⟩
      unfold push
      split
      ·rename_i hl
       intro q' hq'
       obtain ⟨T,x,hop⟩:∃ T x,o.op=.load T x:=by
        cases hop:o.op <;> rw [hop] at hl <;> first | exact ⟨_,_,rfl⟩ | cases hl
       have hM:∃ p,addM P i o e M=(i,p) :: M∧∀ w,p w→LP P o a v w:=by
        unfold addM
        rw [hop]
        cases x with
        | tmp t =>
         cases hd':o.dst with
         | none=>exact ⟨_,rfl,fun w h=>h.elim⟩
         | some d =>
          dsimp only
          cases hb:Nat.beq t d with
          | true=>exact ⟨_,rfl,fun w h=>h.elim⟩
          | false =>
           refine ⟨_,rfl,?_⟩
           rw [hd'] at h1
           exact Zr8 hop h1 (fun t' ht'=>by cases ht'; exact Zgt.1 hb)
        | const c=>exact ⟨_,rfl,fun w h=>h.elim⟩
        | global g=>exact ⟨_,rfl,fun w h=>h.elim⟩
        | func f=>exact ⟨_,rfl,fun w h=>h.elim⟩
       obtain ⟨p,hp,hpl⟩:=hM
       rw [hp]
       rcases List.mem_cons.1 hq' with rfl | hq'
       ·exact ⟨(i,p),List.mem_cons_self,rfl,hpl⟩
       ·obtain ⟨q,g1,g2⟩:=ht q' hq'
        exact ⟨q,List.mem_cons_of_mem _ g1,g2⟩
      ·intro q' hq'
       obtain ⟨q,g1,g2⟩:=ht q' hq'
       refine ⟨q,?_,g2⟩
       unfold addM
       split <;> first | exact List.mem_cons_of_mem _ g1 | exact g1
     | false =>
      rw [hq,cond_false] at h3
      obtain ⟨g1,g2⟩:=Zv4 h3
      have hnl:push P i o a v M'=M':=by
       unfold push
       rw [if_neg (fun hl=>by rw [(Z65 hl).1] at hq; cases hq)]
      rw [hnl]
      refine ⟨fun _ q' hq' hS=>?_,Zc6 r M M' e _ w' ht hfe h1 g2⟩
      obtain ⟨q,e1,e2,e3⟩:=ht q' hq'
      exact e3 _ (g1 q e1 (e2 ▸ hS))
    rcases hout with ⟨v,w',q1,q2,q3,q4,q5,q6,q7⟩ | ⟨q0,q1,w',q2,q3,_⟩ | ⟨q0,q1,f,args,w',q2,q3⟩
    ·exact .inl ⟨v,w',q1,(nx q2).2,(nx q2).1,q4,q5,q6,q7⟩
    ·exact .inr (.inl ⟨q0,q1,w',q2,(nx q3).2,(nx q3).1 q0⟩)
    ·refine .inr (.inr ⟨q0,q1,f,args,w',q2,q3.mono ?_⟩)
     rintro e w'' (⟨v,rfl,h,_⟩ | h)
     ·exact .inl ⟨v,rfl,(nx h).2,(nx h).1 q0⟩
     ·exact .inr h
   cases hg:o.guard with
   | none =>
    rw [hg] at h
    rw [if_pos (by simp [Region.wanted,hg])]
    exact stepX env he ha h
   | some g =>
    obtain ⟨j,want⟩:=g
    rw [hg] at h
    dsimp only at h
    cases hd:dstAt all j with
    | none=>rw [hd] at h; exact h.elim
    | some d =>
     rw [hd] at h
     dsimp only at h
     have hdm:d∈dstsOps all.toList:=by
      unfold dstAt at hd
      obtain ⟨oj,hj,hjd⟩:=Option.bind_eq_some_iff.1 hd
      exact Z3m (by have:=Array.mem_of_getElem? hj; simpa using this) hjd
     cases hv:env d with
     | none=>rw [hv] at h; exact h.elim
     | some v =>
      by_cases htup:∃ vs,v=.tuple vs
      ·obtain ⟨vs,rfl⟩:=htup
       rw [hv] at h
       have hy:yielded all a.tmps j=none:=by
        have h1:=ha.get d _ hv
        unfold dstAt at hd
        simp [yielded,hd,h1]
       have hw:Region.wanted o (yielded all a.tmps)=false:=by simp [Region.wanted,hg,hy]
       rw [if_neg (by rw [hw]; simp)]
       obtain ⟨e,h1,h2,h3⟩:=Z39 ha h
       exact Zc6 r M M' e _ w ht (fun i hi=>(h2 i (fun hd'=>hi (Z3m hmem hd'))).trans (he i hi)) h1 h3
      cases v <;> first | (rw [hv] at h; exact h.elim) | (exact absurd ⟨_,rfl⟩ htup) | skip
      rename_i b
      rw [hv] at h
      dsimp only at h
      have hy:yielded all a.tmps j=some b:=by
       have h1:=ha.get d _ hv
       unfold dstAt at hd
       simp [yielded,hd,h1]
      have hw:Region.wanted o (yielded all a.tmps)=(b == want):=by
       simp only [Region.wanted,hg,hy]
       cases b <;> cases want <;> rfl
      have frame:∀ u,∀ i,i ∉ dstsOps all.toList→eset env d u i=env0 i:=fun u i hi=>by
       have:Nat.beq i d=false:=Zgt.2 (fun e=>hi (e ▸ hdm))
       simp [Den.eset,this,he i hi]
      have hskip:(b == want)=false→put n o undef (denOrd mp P n all r M k) (eset env d (some (.bool !want))) Q w →
        wpL P mp (fun ch w=>Pan.pan Q ch w) all (fun a w=>Fin D n (dstsOps all.toList) env0 k Q a w) r M' (a.put o.dst undef) w:=fun hb h=>by
       have ha':=ha.again hv (.bool !want) (by cases b <;> cases want <;> simp_all)
       obtain ⟨e,h1,h2,h3⟩:=Z39 ha' h
       exact Zc6 r M M' e _ w ht (fun i hi=>(h2 i (fun hd'=>hi (Z3m hmem hd'))).trans (frame _ i hi)) h1 h3
      rw [hw]
      cases want <;> cases b <;> simp only [guardW,cond_true,cond_false] at h
      ·rw [if_pos (by rfl)]; exact stepX _ (frame _) (ha.again hv _ rfl) h
      ·rw [if_neg (by simp)]; exact hskip rfl h
      ·rw [if_neg (by simp)]; exact hskip rfl h
      ·rw [if_pos (by rfl)]; exact stepX _ (frame _) (ha.again hv _ rfl) h
theorem Ztp [Pan R] {mp:List Nat} {all:Array Oper} {k:Env→W R} {env:Env} {Q:R→World→Prop} {w:World}:∀ {rs:List Ord},denRs mp P n all k env rs Q w→∀ r∈rs,denOrd mp P n all r [] k env Q w
 | [],_,r,hr=>by cases hr
 | [r0],h,r,hr=>by
  have:r=r0:=by simpa using hr
  subst this
  exact h
 | r0 :: r1 :: rs,h,r,hr=>by
  rcases List.mem_cons.1 hr with rfl | hr
  ·exact h.1
  ·exact Ztp h.2 r hr
theorem Zrk [Pan R] {mp:List Nat} (hmix:P.follows .mixedOrders=true) {id:Nat} {ops:Array Oper} {draw:Bool} {d:Option (List (Nat × Nat) × List Ord)} {k:Env→W R} {env:Env} {Q:R→World→Prop} {QX:Exit→Act→World→Prop} {a:Act} {w:World}
  (hQ:∀ a w,Fin D n (dstsOps ops.toList) env k Q a w→QX .normal a w) (hp:∀ ch a w,Ag D n (lim env (dstsOps ops.toList)) a→Pan.pan Q ch w→QX (.panic ch) a w) (ha:Ag D n env a) (h:regDen mp P n ops draw d k env Q w):(Code.region id ops draw).wp P QX a w:=by
 cases draw with
 | false=>exact wp_region_list (Zij hQ hp ops.toList (fun _ h=>h) env a w (fun _ _=>rfl) ha h)
 | true =>
  obtain ⟨⟨u,rs⟩,rfl,h⟩:=Z18 h
  obtain ⟨hb,h⟩:=Z73 h
  exact Zmp (X:=fun ch w=>Pan.pan Q ch w) (K:=fun a w=>Fin D n (dstsOps ops.toList) env k Q a w) hmix hb (I:=Ag D n (lim env (dstsOps ops.toList))) (fun i o v a ho h=>h.limPut (fun x hx=>Z3m (Array.mem_toList_iff.2 (Array.mem_of_getElem? ho)) hx) v) hp hQ (ha.lim fun _ _=>rfl) (fun r hr=>Zc6 r [] [] env a w.drew (fun q hq=>by cases hq) (fun _ _=>rfl) ha (Ztp h r hr))
theorem Zlk {env env':Env} {ds:List Nat} {sh:Sh} {s:Sh.T sh} {a:Act} (ha:Ag D n env' a) (hf:∀ i,i ∉ ds→env' i=env i) (hg:getSh env' sh=some s):Ag D n (reset env ds sh s) a:=by
 refine ⟨ha.defers,ha.size,fun i v hv=>?_⟩
 unfold reset at hv
 cases hs:shVal sh s i with
 | some u=>rw [hs] at hv; cases hv; exact ha.get i _ (Zi6 hg i _ hs)
 | none =>
  rw [hs] at hv
  dsimp only at hv
  cases hm:memB ds i with
  | true=>rw [hm] at hv; cases hv
  | false =>
   rw [hm,cond_false] at hv
   have:i ∉ ds:=fun h=>by rw [Z67.2 h] at hm; cases hm
   exact ha.get i v (by rw [hf i this]; exact hv)
theorem Ze1 {env env':Env} {ds:List Nat} {sh:Sh} {s:Sh.T sh} (hf:∀ i,i ∉ ds→env' i=env i) (hg:getSh env' sh=some s):∀ i,i ∉ ds→reset env ds sh s i=env i:=by
 intro i hi
 unfold reset
 cases hs:shVal sh s i with
 | some u=>rw [← hf i hi,Zi6 hg i _ hs]
 | none =>
  have:memB ds i=false:=by
   cases hm:memB ds i with
   | false=>rfl
   | true=>exact absurd (Z67.1 hm) hi
  dsimp only
  rw [this]
  rfl
theorem Zld {e:Env} {sh:Sh} {J:Sh.T sh→W R} {Q:R→World→Prop} {w:World} (h:leafW e sh J Q w):∃ s,getSh e sh=some s∧J s Q w:=by
 unfold leafW at h
 cases hg:getSh e sh with
 | none=>rw [hg] at h; exact h.elim
 | some s=>rw [hg] at h; exact ⟨s,rfl,h⟩
theorem Zlb {o:Option Sh} {ds:List Nat} {env:Env} {A:(Env→W R)→W R} {k:Env→W R} {Q:R→World→Prop} {w:World} (h:jn o ds env A k Q w) :
  ∃ k',A k' Q w∧∀ a w',Fin D n ds env k' Q a w'→Fin D n ds env k Q a w':=by
 cases o with
 | none=>exact ⟨k,h,fun _ _ h=>h⟩
 | some sh =>
  obtain ⟨J,hJ,h⟩:=h
  refine ⟨_,h,?_⟩
  rintro a w' ⟨env',ha,hf,hl⟩
  obtain ⟨s,hg,hs⟩:=Zld hl
  exact ⟨_,Zlk ha hf hg,Ze1 hf hg,hJ s w' hs⟩
theorem Fin.sub {ds ds':List Nat} {env:Env} {k:Env→W R} {Q:R→World→Prop} {a:Act} {w:World} (h:Fin D n ds env k Q a w) (hs:∀ i,i∈ds→i∈ds'):Fin D n ds' env k Q a w :=
 let ⟨e,h1,h2,h3⟩:=h
 ⟨e,h1,fun i hi=>h2 i (fun hd=>hi (hs i hd)),h3⟩
theorem Z8i [Pan R] (hmix:P.follows .mixedOrders=true) {h:Hints}:∀ (c:Code) (cur:Nat) (k:Env→W R) (ex:Nat→Env→W R) (rt:Env→W R) (env:Env) (a:Act) (w:World) (Q:R→World→Prop) (QX:Exit→Act→World→Prop),
  Ag D n env a→den P n h cur c k ex rt env Q w→(∀ a w,Fin D n (dsts c) env k Q a w→QX .normal a w)→(∀ id a w,Fin D n (dsts c) env (ex id) Q a w→QX (.exit id) a w) →
  (∀ env' a w,Ag D n env' a→rt env' Q w→QX .ret a w)→(∀ ch a w,Ag D n (lim env (dsts c)) a→Pan.pan Q ch w→QX (.panic ch) a w)→c.wp P QX a w
 | .skip,cur,k,ex,rt,env,a,w,Q,QX,ha,hd,hk,hx,hr,hp=>wp_skip (hk a w ⟨env,ha,fun _ _=>rfl,hd⟩)
 | .region id ops draw,cur,k,ex,rt,env,a,w,Q,QX,ha,hd,hk,hx,hr,hp=>by
  obtain ⟨k',h1,h2⟩:=Zlb (n:=n) hd
  exact Zrk hmix (fun a w hf=>hk a w (h2 a w hf)) hp ha h1
 | .seq x y,cur,k,ex,rt,env,a,w,Q,QX,ha,hd,hk,hx,hr,hp=>by
  refine wp_seq (Z8i hmix x cur (fun e=>den P n h cur y k ex rt e) ex rt env a w Q _ ha hd ?_ ?_ ?_ fun ch a w h1 h2=>hp ch a w (h1.limSub fun i hi=>⟨fun h=>hi (List.mem_append_left _ h),rfl⟩) h2)
  ·rintro a' w' ⟨e,h1,h2,h3⟩
   refine Z8i hmix y cur k ex rt e a' w' Q QX h1 h3 ?_ ?_ hr fun ch a w g1 g2=>hp ch a w (g1.limSub fun i hi=>⟨fun h=>hi (List.mem_append_right _ h),h2 i fun h=>hi (List.mem_append_left _ h)⟩) g2
   ·intro a'' w'' hf
    exact hk _ _ ((hf.sub (ds':=dsts x ++ dsts y) (fun i hi=>List.mem_append_right _ hi)).base (fun i hi=>h2 i (fun hd=>hi (List.mem_append_left _ hd))))
   ·intro id a'' w'' hf
    exact hx _ _ _ ((hf.sub (ds':=dsts x ++ dsts y) (fun i hi=>List.mem_append_right _ hi)).base (fun i hi=>h2 i (fun hd=>hi (List.mem_append_left _ hd))))
  ·intro id a' w' hf
   exact hx id a' w' (hf.sub (fun i hi=>List.mem_append_left _ hi))
  ·intro e a' w' h1 h2
   exact hr e a' w' h1 h2
 | .cond c x y,cur,k,ex,rt,env,a,w,Q,QX,ha,hd,hk,hx,hr,hp=>by
  simp only [den] at hd
  cases hc:ev env c with
  | none=>rw [hc] at hd; exact hd.elim
  | some v =>
   cases v <;> first | (rw [hc] at hd; exact hd.elim) | skip
   rename_i t
   rw [hc] at hd
   obtain ⟨k',h1,h2⟩:=Zlb (n:=n) hd
   refine wp_cond (ha.eval hc) ?_
   cases t with
   | true =>
    refine Z8i hmix x cur k' ex rt env a w Q QX ha h1 (fun a w hf=>hk a w (h2 a w (hf.sub (fun i hi=>List.mem_append_left _ hi)))) (fun id a w hf=>hx id a w (hf.sub (fun i hi=>List.mem_append_left _ hi))) hr fun ch a w h1 h2=>hp ch a w (h1.limSub fun i hi=>⟨fun h=>hi (List.mem_append_left _ h),rfl⟩) h2
   | false =>
    refine Z8i hmix y cur k' ex rt env a w Q QX ha h1 (fun a w hf=>hk a w (h2 a w (hf.sub (fun i hi=>List.mem_append_right _ hi)))) (fun id a w hf=>hx id a w (hf.sub (fun i hi=>List.mem_append_right _ hi))) hr fun ch a w h1 h2=>hp ch a w (h1.limSub fun i hi=>⟨fun h=>hi (List.mem_append_right _ h),rfl⟩) h2
 | .block id c,cur,k,ex,rt,env,a,w,Q,QX,ha,hd,hk,hx,hr,hp=>by
  obtain ⟨k',h1,h2⟩:=Zlb (n:=n) hd
  refine wp_block (Z8i hmix c id k' (fun i e=>bif Nat.beq i id then k' e else ex i e) rt env a w Q _ ha h1 (fun a w hf=>hk a w (h2 a w hf)) ?_ (fun e a w h3 h4=>hr e a w h3 h4) hp)
  intro i a' w' hf
  simp only [Exit.inBlock]
  cases hb:Nat.beq i id with
  | true =>
   rw [if_pos (nbeq.1 hb)]
   refine hk _ _ (h2 _ _ ?_)
   obtain ⟨e,h3,h4,h5⟩:=hf
   rw [hb,cond_true] at h5
   exact ⟨e,h3,h4,h5⟩
  | false =>
   rw [if_neg (Zgt.1 hb)]
   obtain ⟨e,h3,h4,h5⟩:=hf
   rw [hb,cond_false] at h5
   exact hx _ _ _ ⟨e,h3,h4,h5⟩
 | .loop c,cur,k,ex,rt,env,a,w,Q,QX,ha,hd,hk,hx,hr,hp=>by
  simp only [den] at hd
  cases hl:hint h.lop cur with
  | none=>rw [hl] at hd; exact hd.elim
  | some sh =>
   rw [hl] at hd
   obtain ⟨s0,hg,I,μ,h0,hstep⟩:=Zld hd
   refine wp_loop_ghost (fun m a w=>∃ s,μ s w=m∧Ag D n (reset env (dsts c) sh s) a∧(∀ i,i ∉ dsts c→reset env (dsts c) sh s i=env i)∧I s w) (μ s0 w)
    ⟨s0,rfl,Zlk ha (fun _ _=>rfl) hg,Ze1 (fun _ _=>rfl) hg,h0⟩ ?_
   rintro m a' w' ⟨s,rfl,ha',hfr,hI⟩
   refine Z8i hmix c cur _ ex rt (reset env (dsts c) sh s) a' w' Q _ ha' (hstep s w' hI) ?_ ?_ hr fun ch a w h1 h2=>hp ch a w (h1.limSub fun i hi=>⟨hi,hfr i hi⟩) h2
   ·rintro a'' w'' ⟨e,h1,h2,h3⟩
    obtain ⟨s',hg',h4,h5⟩:=Zld h3
    have hf':∀ i,i ∉ dsts c→e i=env i:=fun i hi=>(h2 i hi).trans (hfr i hi)
    exact ⟨_,h5,s',rfl,Zlk h1 hf' hg',Ze1 hf' hg',h4⟩
   ·intro id a'' w'' hf
    exact hx id a'' w'' (hf.base hfr)
 | .exit id,cur,k,ex,rt,env,a,w,Q,QX,ha,hd,hk,hx,hr,hp=>wp_exit (hx id a w ⟨env,ha,fun _ _=>rfl,hd⟩)
 | .ret,cur,k,ex,rt,env,a,w,Q,QX,ha,hd,hk,hx,hr,hp=>wp_ret (hr env a w ha hd)
 | .rangeFunc _ _ _ _,cur,k,ex,rt,env,a,w,Q,QX,ha,hd,hk,hx,hr,hp=>hd.elim
 | .scope _,cur,k,ex,rt,env,a,w,Q,QX,ha,hd,hk,hx,hr,hp=>hd.elim
 | .label _,cur,k,ex,rt,env,a,w,Q,QX,ha,hd,hk,hx,hr,hp=>hd.elim
 | .goto _,cur,k,ex,rt,env,a,w,Q,QX,ha,hd,hk,hx,hr,hp=>hd.elim
 | .refuse _,cur,k,ex,rt,env,a,w,Q,QX,ha,hd,hk,hx,hr,hp=>hd.elim
def rv (tmps:Array Value):ResultVar→Sem Value
 | .tmp t=>pure (tmps.getD t undef)
 | .cell a t=>do loadVar t (← asAddr (tmps.getD a undef))
theorem Ztq {env:Env} {a:Act} (ha:Ag D n env a) {t:Nat} {v:Value} (hv:env t=some v) (w:World):(rv a.tmps (.tmp t)).run P w=.ok v w:=by
 have:=ha.get t v hv
 simp [rv,this]
theorem Zrm {env:Env} {a:Act} (ha:Ag D n env a) {t:Nat} {ad:Addr} (hv:env t=some (.pointer (some ad))) {T:TypeId} {y:Ty} (hT:tyOf P T=some y) {x:y.T} {w:World} (hx:Rd w ad y x) :
  (rv a.tmps (.cell t T)).run P w=.ok (y.e x) w:=by
 have:=ha.get t _ hv
 simp [rv,this,asAddr,Zlm hT hx]
theorem Z9p {tmps:Array Value} {r:ResultVar} {rs:List ResultVar} {v:Value} {vs:List Value} {w:World} (h1:(rv tmps r).run P w=.ok v w) (h2:(rs.mapM (rv tmps)).run P w=.ok vs w) :
  ((r :: rs).mapM (rv tmps)).run P w=.ok (v :: vs) w:=by
 rw [List.mapM_cons,Sem.run_bind,h1]
 simp only [Result.andThen_ok]
 rw [Sem.run_bind,h2]
 rfl
theorem Zlj {env:Env} {a:Act} (ha:Ag D n env a):∀ (rs:List ResultVar) (ts:List Ty) (K:Res ts→W R) (Q:R→World→Prop) (w:World),ResOk P rs ts→resVars env rs ts K Q w →
  ∃ z:Res ts,(rs.mapM (rv a.tmps)).run P w=.ok (Tup.e Ty.e ts z) w∧K z Q w
 | [],[],K,Q,w,_,h=>⟨(),rfl,h⟩
 | [.tmp t],[y],K,Q,w,_,h=>by
  simp only [resVars] at h
  cases hv:env t with
  | none=>rw [hv] at h; exact h.elim
  | some v =>
   rw [hv] at h
   dsimp only at h
   cases hd:y.d v with
   | none=>rw [hd] at h; exact h.elim
   | some x =>
    rw [hd] at h
    have:=Ztq (P:=P) ha hv w
    rw [Ty.d_e _ _ _ hd] at this
    exact ⟨x,Z9p this rfl,h⟩
 | [.cell t T],[y],K,Q,w,hok,h=>by
  simp only [resVars] at h
  cases hv:env t with
  | none=>rw [hv] at h; exact h.elim
  | some v =>
   cases v <;> first | (rw [hv] at h; exact h.elim) | skip
   rename_i p
   rw [hv] at h
   obtain ⟨ad,rfl,x,hx,h⟩:=Z9q h
   exact ⟨x,Z9p (Zrm ha hv hok.1 hx) rfl,h⟩
 | .tmp t :: r0 :: r,y :: y' :: l,K,Q,w,hok,h=>by
  simp only [resVars] at h
  cases hv:env t with
  | none=>rw [hv] at h; exact h.elim
  | some v =>
   rw [hv] at h
   dsimp only at h
   cases hd:y.d v with
   | none=>rw [hd] at h; exact h.elim
   | some x =>
    rw [hd] at h
    obtain ⟨z,hz,hk⟩:=Zlj ha (r0 :: r) (y' :: l) _ Q w hok h
    have:=Ztq (P:=P) ha hv w
    rw [Ty.d_e _ _ _ hd] at this
    exact ⟨(x,z),Z9p this hz,hk⟩
 | .cell t T :: r0 :: r,y :: y' :: l,K,Q,w,hok,h=>by
  simp only [resVars] at h
  cases hv:env t with
  | none=>rw [hv] at h; exact h.elim
  | some v =>
   cases v <;> first | (rw [hv] at h; exact h.elim) | skip
   rename_i p
   rw [hv] at h
   obtain ⟨ad,rfl,x,hx,h⟩:=Z9q h
   obtain ⟨z,hz,hk⟩:=Zlj ha (r0 :: r) (y' :: l) _ Q w hok.2 h
   exact ⟨(x,z),Z9p (Zrm ha hv hok.1 hx) hz,hk⟩
 | [],_ :: _,_,_,_,hok,_=>hok.elim
 | .tmp _ :: _,[],_,_,_,hok,_=>hok.elim
 | .cell _ _ :: _,[],_,_,_,hok,_=>hok.elim
 | [.tmp _],_ :: _ :: _,_,_,_,hok,_=>hok.elim
 | [.cell _ _],_ :: _ :: _,_,_,_,hok,_=>hok.2.elim
 | .tmp _ :: r0 :: r,[_],_,_,_,hok,_=>by cases r0 <;> exact False.elim hok
 | .cell _ _ :: r0 :: r,[_],_,_,_,hok,_=>by cases r0 <;> exact False.elim hok.2
theorem Zq3 (fn:Func) (tmps:Array Value) {vs:List Value} {w:World} (h:(fn.results.toList.mapM (rv tmps)).run P w=.ok vs w) :
  (results fn tmps).run P w=.ok (if h:(⟨vs⟩:Array Value).size=1 then (⟨vs⟩:Array Value)[0] else .tuple ⟨vs⟩) w:=by
 have he:results fn tmps=(do let vs ← fn.results.mapM (rv tmps); pure (if h:vs.size=1 then vs[0] else .tuple vs)):=rfl
 have hl:fn.results.mapM (rv tmps)=List.toArray <$> fn.results.toList.mapM (rv tmps):=by
  rw [Array.mapM_eq_mapM_toList]
 rw [he,Sem.run_bind,hl,Sem.run_map,h]
 rfl
theorem Zud (ts:List Ty) (z:Res ts):(if h:(⟨Tup.e Ty.e ts z⟩:Array Value).size=1 then (⟨Tup.e Ty.e ts z⟩:Array Value)[0] else .tuple ⟨Tup.e Ty.e ts z⟩)=resE ts z:=by
 rcases ts with _ | ⟨t,_ | ⟨u,r⟩⟩
 ·rfl
 ·rfl
 ·have:(Tup.e Ty.e (t :: u :: r) z).length≠1:=by
   rcases r with _ | ⟨v,r⟩ <;> simp [Tup.e]
  rw [dif_neg (by simpa using this)]
  rfl
theorem Zu2 (args:List Value) (m:Nat) (hm:args.length≤m):Ag [] m (env0 args) { tmps:=⟨args⟩ ++ Array.replicate (m - args.length) undef,defers:=[] }:=by
 refine ⟨rfl,by simp; omega,fun i v hv=>?_⟩
 have:∀ (l:List Value) (i:Nat),env0 l i=some v→l[i]?=some v:=by
  intro l
  induction l with
  | nil=>intro i h; simp [env0] at h
  | cons x r ih =>
   intro i h
   cases i with
   | zero=>simpa [env0] using h
   | succ j=>simpa [env0] using ih j (by simpa [env0] using h)
 have h1:=this args i hv
 have h2:i < args.length:=(List.getElem?_eq_some_iff.1 h1).1
 rw [Array.getElem?_append_left (by simpa using h2)]
 simpa using h1
theorem Zqq (hmix:P.follows .mixedOrders=true) {f:Nat} {fn:Func} (hf:P.funcs[f]?=some fn) (h:Hints) {ts:List Ty} (hres:ResOk P fn.results.toList ts) {args:List Value} (hlen:args.length≤fn.ntmps) {w:World} {post:Res ts→World→Prop}
  (hd:denF P h fn ts args post w):Calls P f ⟨args⟩ w (fun e w'=>∃ r,e=.returned (resE ts r)∧post r w'):=by
 unfold denF at hd
 cases hb:fn.body with
 | none=>rw [hb] at hd; exact hd.elim
 | some c =>
  rw [hb] at hd
  refine calls_of_wp hf hb ?_
  have hfin:∀ (env':Env) (a:Act) (w:World),Ag [] fn.ntmps env' a→resVars env' fn.results.toList ts retW post w→∃ v,(results fn a.tmps).run P w=.ok v w∧∃ r,Ending.returned v=.returned (resE ts r)∧post r w:=by
   intro env' a w ha hr
   obtain ⟨z,hz,hk⟩:=Zlj ha _ _ _ _ _ hres hr
   have:=Zq3 fn a.tmps hz
   rw [Zud] at this
   exact ⟨_,this,z,rfl,hk⟩
  refine @Z8i _ _ _ [] (noPan _) hmix h c 0 _ _ _ (env0 args) _ w post _ (by simpa using Zu2 args fn.ntmps hlen) hd ?_ ?_ ?_ (fun _ _ _ _ h=>h.elim)
  ·rintro a w' ⟨e,h1,_,h3⟩
   exact ⟨h1.defers,hfin e a w' h1 h3⟩
  ·rintro id a w' ⟨e,_,_,h3⟩
   exact h3.elim
  ·intro e a w' h1 h3
   exact ⟨h1.defers,hfin e a w' h1 h3⟩
theorem den_c {R:Type} {ts:List Ty} {K:Res ts→W R} {Q:R→World→Prop} {w:World} (hmix:P.follows .mixedOrders=true) {f:Nat} {fn:Func} (hf:P.funcs[f]?=some fn) (h:Hints) (hres:ResOk P fn.results.toList ts) {args:List Value} (hlen:Nat.ble args.length fn.ntmps=true)
  {F:W (Res ts)} (he:denF P h fn ts args=F) (hd:F (fun r w=>K r Q w) w):callW P f args ts K Q w:=Zqq hmix hf h hres (Nat.le_of_ble_eq_true hlen) (by rw [he]; exact hd)
end Go.Proofs.YtoiahhpgkoknfaaGreat.Den
namespace Go.Proofs.YtoiahhpgkoknfaaGreat.Den
open Go Go.RowKit
variable {R:Type} {Q:R→World→Prop} {w:World}
theorem joinK {σ:Type} {A:(σ→W R)→W R} {K:σ→W R} (h:A (fun s _ w'=>K s Q w') Q w):joinW A K Q w:=⟨fun s w'=>K s Q w',fun _ _ h=>h,h⟩
theorem joinI {σ:Type} {A:(σ→W R)→W R} {K:σ→W R} (J:σ→World→Prop) (h:A (fun s _ w'=>J s w') Q w) (hk:∀ s w',J s w'→K s Q w'):joinW A K Q w:=⟨J,hk,h⟩
theorem condI {b:Bool} {X Y:W R} (h1:b=true→X Q w) (h2:b=false→Y Q w):(cond b X Y:W R) Q w:=by
 cases b
 ·exact h2 rfl
 ·exact h1 rfl
theorem condD {p:Prop} [Decidable p] {X Y:W R} (h1:p→X Q w) (h2:¬p→Y Q w):(cond (decide p) X Y:W R) Q w:=by
 by_cases h:p
 ·simp only [h,decide_true,cond_true]; exact h1 h
 ·simp only [h,decide_false,cond_false]; exact h2 h
theorem condT {b:Bool} {X Y:W R} (h:b=true) (hx:X Q w):(cond b X Y:W R) Q w:=by subst h; exact hx
theorem condF {b:Bool} {X Y:W R} (h:b=false) (hx:Y Q w):(cond b X Y:W R) Q w:=by subst h; exact hx
theorem condE {a b:Int} {X Y:W R} (h1:a=b→X Q w) (h2:a≠b→Y Q w):(cond (a == b) X Y:W R) Q w :=
 condI (fun h=>h1 (by simpa using h)) (fun h=>h2 (by simpa using h))
theorem condN {a b:Int} {X Y:W R} (h1:a≠b→X Q w) (h2:a=b→Y Q w):(cond (a != b) X Y:W R) Q w :=
 condI (fun h=>h1 (by simpa using h)) (fun h=>h2 (by simpa using h))
theorem loopI {σ:Type} {body:(σ→W R)→σ→W R} {s0:σ} (I:σ→World→Prop) (μ:σ→World→Nat) (h0:I s0 w) (hs:∀ s w',I s w'→body (fun s' _ w''=>I s' w''∧μ s' w'' < μ s w') s Q w'):loopW body s0 Q w:=⟨I,μ,h0,hs⟩
theorem ldI {t:Ty} {a:Addr} {K:t.T→W R} (x:t.T) (h:Rd w a t x) (hk:K x Q w):ld t a K Q w:=⟨x,h,hk⟩
structure Fr (S:Nat→Prop) (w w':World):Prop where
 os:w'.os=w.os
 tape:w'.tape=w.tape
 output:w'.output=w.output
 size:w.heap.size≤w'.heap.size
 block:∀ k,k < w.heap.size→¬ S k→w'.heap[k]?=w.heap[k]?
abbrev None:Nat→Prop:=fun _=>False
theorem Fr.refl (S:Nat→Prop) (w:World):Fr S w w:=⟨rfl,rfl,rfl,Nat.le_refl _,fun _ _ _=>rfl⟩
theorem Fr.trans {S T U:Nat→Prop} {a b c:World} (h:Fr S a b) (k:Fr T b c) (hs:∀ x,S x→U x) (ht:∀ x,x < a.heap.size→T x→U x):Fr U a c :=
 ⟨k.os.trans h.os,k.tape.trans h.tape,k.output.trans h.output,Nat.le_trans h.size k.size,
  fun i hi hu=>(k.block i (Nat.lt_of_lt_of_le hi h.size) (fun x=>hu (ht i hi x))).trans (h.block i hi (fun x=>hu (hs i x)))⟩
theorem Fr.mono {S T:Nat→Prop} {a b:World} (h:Fr S a b) (hs:∀ x,x < a.heap.size→S x→T x):Fr T a b:=⟨h.os,h.tape,h.output,h.size,fun k hk hn=>h.block k hk (fun x=>hn (hs k hk x))⟩
theorem Fr.then0 {S:Nat→Prop} {a b c:World} (h:Fr S a b) (k:Fr None b c):Fr S a c:=h.trans k (fun _ h=>h) (fun _ _ h=>h.elim)
theorem Fr.then {S:Nat→Prop} {a b c:World} (h:Fr S a b) (k:Fr S b c):Fr S a c:=h.trans k (fun _ h=>h) (fun _ _ h=>h)
theorem Fr.thenNew {S T:Nat→Prop} {a b c:World} (h:Fr S a b) (k:Fr T b c) (ht:∀ x,T x→a.heap.size≤x):Fr S a c:=h.trans k (fun _ h=>h) (fun x hx h=>absurd (ht x h) (by omega))
theorem Fr.alloc {S:Nat→Prop} {a b:World} (h:Fr S a b) (o:Obj):Fr S a (b.alloc o) :=
 h.then0 ⟨rfl,rfl,rfl,by simp,fun k hk _=>heap_alloc_old b o hk⟩
theorem Fr.drew {S:Nat→Prop} {a b:World} (h:Fr S a b):Fr S a b.drew:=⟨h.os,h.tape,h.output,h.size,h.block⟩
theorem Fr.setCell {S:Nat→Prop} {a b:World} (h:Fr S a b) {p:Addr} (hp:S p.block∨a.heap.size≤p.block) (v:Value):Fr S a (b.setCell p v) :=
 h.trans (T:=fun k=>k=p.block) ⟨rfl,rfl,rfl,by simp,fun k _ hn=>heap_setCell_other b p k v (fun e=>hn e)⟩ (fun _ h=>h) (fun x hx e=>by
  subst e
  rcases hp with hp | hp
  ·exact hp
  ·omega)
theorem Fr.grown {S:Nat→Prop} {a b c:World} {row:Option Nat} (h:Fr S a b) (k:b.grownBy c row) (hr:∀ x,row=some x→S x∨a.heap.size≤x):Fr S a c :=
 h.trans (T:=fun x=>row=some x) ⟨k.os,k.tape,k.output,k.size,fun i hi hn=>k.block i hi (fun e=>hn e.symm)⟩ (fun _ h=>h) (fun x hx e=>by
  rcases hr x e with h | h
  ·exact h
  ·omega)
theorem Fr.below {a b:World} (h:Fr None a b):Below a.heap.size a b:=⟨h.os,h.tape,h.output,h.size,fun k hk=>h.block k hk (fun x=>x)⟩
def Blk (w:World) (b:Nat) (T:TypeId) (cs:List Value):Prop:=w.heap[b]?=some (.cells ⟨cs⟩ T (0,0))
theorem Blk.lt {b:Nat} {T:TypeId} {cs:List Value} (h:Blk w b T cs):b < w.heap.size:=(Array.getElem?_eq_some_iff.1 h).1
theorem Blk.cell {b:Nat} {T:TypeId} {cs:List Value} (h:Blk w b T cs) (o:Nat):w.cell? ⟨b,o,none⟩=cs[o]?:=by
 unfold Blk at h
 simp [World.cell?,h]
theorem Blk.frozen {b:Nat} {T:TypeId} {cs:List Value} (h:Blk w b T cs) (o:Nat):w.frozen? ⟨b,o,none⟩=false:=by
 unfold Blk at h
 simp [World.frozen?,h]
theorem Blk.fr {S:Nat→Prop} {w':World} {b:Nat} {T:TypeId} {cs:List Value} (h:Blk w b T cs) (f:Fr S w w') (hn:¬ S b):Blk w' b T cs:=(f.block b h.lt hn).trans h
theorem Blk.new (w:World) (T:TypeId) (cs:List Value):Blk (w.alloc (.cells ⟨cs⟩ T)) w.heap.size T cs:=heap_alloc_new w _
theorem Blk.alloc {b:Nat} {T:TypeId} {cs:List Value} (h:Blk w b T cs) (o:Obj):Blk (w.alloc o) b T cs:=(heap_alloc_old w o h.lt).trans h
theorem Blk.drew {b:Nat} {T:TypeId} {cs:List Value} (h:Blk w b T cs):Blk w.drew b T cs:=h
theorem Blk.set {b:Nat} {T:TypeId} {cs:List Value} (h:Blk w b T cs) (o:Nat) (v:Value):Blk (w.setCell ⟨b,o,none⟩ v) b T (cs.set o v):=by
 have:=heap_setCell_same w b o ⟨cs⟩ T v h
 simpa [Blk] using this
theorem Z3 (b o n:Nat):Addr.add ⟨b,o,none⟩ n=⟨b,o+n,none⟩:=by
 unfold Addr.add
 split
 ·rename_i h; subst h; rfl
 ·rfl
theorem Blk.cells {b:Nat} {T:TypeId} {cs:List Value} (h:Blk w b T cs) (o:Nat) (vs:List Value) (hv:∀ j u,vs[j]?=some u→cs[o+j]?=some u):CellsAt w ⟨b,o,none⟩ vs:=by
 intro j u hj
 rw [Z3,h.cell]
 exact hv j u hj
def putAt (cs:List Value) (o:Nat):List Value→List Value
 | []=>cs
 | v :: vs=>putAt (cs.set o v) (o+1) vs
theorem Z2b:∀ (vs cs:List Value) (o:Nat),(putAt cs o vs).length=cs.length
 | [],_,_=>rfl
 | v :: vs,cs,o=>by simp [putAt,Z2b vs]
theorem stoBlk {b:Nat} {T:TypeId} {K:W R}:∀ (vs:List Value) (i:Nat) {cs:List Value} {o:Nat} {w:World},Blk w b T cs→o+i+vs.length≤cs.length→(∀ v∈vs,v.oneCell'=true) →
  (∀ w',Blk w' b T (putAt cs (o+i) vs)→Fr (fun k=>k=b) w w'→w'.heap.size=w.heap.size→K Q w')→stoL ⟨b,o,none⟩ vs i K Q w
 | [],i,cs,o,w,h,_,_,hk=>hk w h (Fr.refl _ _) rfl
 | v :: vs,i,cs,o,w,h,hl,hv,hk=>by
  simp only [List.length_cons] at hl
  refine ⟨hv v List.mem_cons_self,⟨cs[o+i],?_⟩,?_,?_⟩
  ·rw [Z3,h.cell]; simp
  ·rw [Z3,h.frozen]
  ·rw [Z3]
   refine stoBlk vs (i+1) (h.set (o+i) v) (by simp; omega) (fun v hv'=>hv v (List.mem_cons_of_mem _ hv')) ?_
   intro w' h1 h2 h3
   refine hk w' ?_ ?_ ?_
   ·rw [show o+(i+1)=o+i+1 by omega] at h1; exact h1
   ·exact (Fr.setCell (S:=fun k=>k=b) (Fr.refl _ _) (p:=⟨b,o+i,none⟩) (.inl rfl) v).then h2
   ·rw [h3]; simp
def Sl.v (s:Sl):Value:=.slice s.a s.n s.c
def Ty.size:Ty→Nat
 | .sc _=>1
 | .agg l=>l.length
theorem Ztx {l:List Sc}:∀ (x:Tup Sc.T l),(Tup.e Sc.e l x).length=l.length:=by
 induction l with
 | nil=>intro x; rfl
 | cons t r ih =>
  intro x
  cases r with
  | nil=>rfl
  | cons u r=>simp only [Tup.e,List.length_cons]; rw [ih x.2]; rfl
def Ty.cells:(t:Ty)→t.T→List Value
 | .sc s,x=>[s.e x]
 | .agg l,x=>Tup.e Sc.e l x
theorem Ty.cells_len:∀ (t:Ty) (x:t.T),(t.cells x).length=t.size
 | .sc _,_=>rfl
 | .agg _,x=>Ztx x
structure SlT (ok:Nat→Prop) (w:World) (t:Ty) (s:Sl) (l:List t.T):Prop where
 len:s.n=l.length
 cap:s.n≤s.c
 at_:l=[]∨∃ b o,s.a=some ⟨b,o,none⟩∧ok b∧b < w.heap.size∧∀ i x,l[i]?=some x→Rd w ⟨b,o+i * t.size,none⟩ t x
theorem Rd.keep {w':World} {b o:Nat} (hb:w'.heap[b]?=w.heap[b]?):∀ {t:Ty} {x:t.T},Rd w ⟨b,o,none⟩ t x→Rd w' ⟨b,o,none⟩ t x
 | .sc _,_,h=>(World.cell?_of_block (w:=w) (a:=⟨b,o,none⟩) hb).trans h
 | .agg _,_,h=>fun j u hj=>by
  have:=h j u hj
  rw [Z3] at this ⊢
  exact (World.cell?_of_block (w:=w) (a:=⟨b,o+j,none⟩) hb).trans this
theorem SlT.fr {ok S:Nat→Prop} {w':World} {t:Ty} {s:Sl} {l:List t.T} (h:SlT ok w t s l) (f:Fr S w w') (hn:∀ k,ok k→¬ S k):SlT ok w' t s l:=by
 refine ⟨h.len,h.cap,h.at_.imp id ?_⟩
 rintro ⟨b,o,h1,h2,h3,h4⟩
 exact ⟨b,o,h1,h2,Nat.lt_of_lt_of_le h3 f.size,fun i x hx=>(h4 i x hx).keep (f.block b h3 (hn b h2))⟩
theorem SlT.fr0 {ok:Nat→Prop} {w':World} {t:Ty} {s:Sl} {l:List t.T} (h:SlT ok w t s l) (f:Fr None w w'):SlT ok w' t s l:=h.fr f (fun _ _ h=>h)
theorem SlT.mono {ok ok':Nat→Prop} {t:Ty} {s:Sl} {l:List t.T} (h:SlT ok w t s l) (hk:∀ k,k < w.heap.size→ok k→ok' k):SlT ok' w t s l:=by
 refine ⟨h.len,h.cap,h.at_.imp id ?_⟩
 rintro ⟨b,o,h1,h2,h3,h4⟩
 exact ⟨b,o,h1,hk b h3 h2,h3,h4⟩
theorem SlT.nil {ok:Nat→Prop} (t:Ty) {a:Option Addr} {c:Nat}:SlT ok w t ⟨a,0,c⟩ []:=⟨rfl,Nat.zero_le _,.inl rfl⟩
theorem SlT.idx {ok:Nat→Prop} {t:Ty} {s:Sl} {l:List t.T} (h:SlT ok w t s l) {sz:Nat} (hsz:sz=t.size) {i:Int} (h0:0≤i) (h1:i < l.length) {K:Addr→W R}
  (hk:∀ a x,l[i.toNat]?=some x→Rd w a t x→K a Q w):idxW s.a s.n sz i K Q w:=by
 subst hsz
 have hi:i.toNat < l.length:=by omega
 rcases h.at_ with rfl | ⟨b,o,ha,_,_,hr⟩
 ·simp at hi
 ·refine ⟨⟨b,o,none⟩,ha,h0,by rw [h.len]; exact h1,?_⟩
  rw [Z3]
  exact hk _ _ (List.getElem?_eq_getElem hi) (hr _ _ (List.getElem?_eq_getElem hi))
end Go.Proofs.YtoiahhpgkoknfaaGreat.Den
namespace Go.Proofs.YtoiahhpgkoknfaaGreat.Den
open Go Go.RowKit
variable {R:Type} {Q:R→World→Prop} {w:World}
theorem Rd.cells:∀ {t:Ty} {a:Addr} {x:t.T},Rd w a t x↔CellsAt w a (t.cells x)
 | .sc s,a,x=>by
  constructor
  ·intro h j u hj
   rcases j with _ | j
   ·simp [Ty.cells] at hj
    subst hj
    have:a.add 0=a:=by unfold Addr.add; simp
    rw [this]
    exact h
   ·simp [Ty.cells] at hj
  ·intro h
   have:=h 0 (s.e x) (by simp [Ty.cells])
   have e:a.add 0=a:=by unfold Addr.add; simp
   rw [e] at this
   exact this
 | .agg _,_,_=>Iff.rfl
theorem Sc.one:∀ (s:Sc) (x:s.T),s≠.raw→(s.e x).oneCell'=true
 | .int _,_,_ | .bool,_,_ | .str,_,_ | .ptr,_,_ | .sl,_,_ | .map,_,_=>rfl
 | .raw,_,h=>(h rfl).elim
def Ty.fine:Ty→Bool
 | .sc .raw=>false
 | .sc _=>true
 | .agg l=>l.all fun s=>match s with
  | .raw=>false
  | _=>true
theorem Ty.one:∀ (t:Ty) (x:t.T),t.fine=true→∀ u∈t.cells x,u.oneCell'=true
 | .sc s,x,h,u,hu=>by
  simp only [Ty.cells,List.mem_singleton] at hu
  subst hu
  exact Sc.one s x (fun e=>by subst e; simp [Ty.fine] at h)
 | .agg l,x,h,u,hu=>by
  simp only [Ty.cells] at hu
  simp only [Ty.fine,List.all_eq_true] at h
  revert h
  revert hu
  induction l with
  | nil=>intro hu; simp [Tup.e] at hu
  | cons s r ih =>
   intro hu h
   have hs:s≠.raw:=fun e=>by have:=h s List.mem_cons_self; subst e; simp at this
   cases r with
   | nil =>
    simp only [Tup.e,List.mem_singleton] at hu
    subst hu
    exact Sc.one s x hs
   | cons s2 r =>
    simp only [Tup.e,List.mem_cons] at hu
    rcases hu with rfl | hu
    ·exact Sc.one s x.1 hs
    ·exact ih x.2 hu (fun z hz=>h z (List.mem_cons_of_mem _ hz))
theorem Z27 {t:Ty} (l:List t.T):(l.flatMap t.cells).length=l.length * t.size:=by
 induction l with
 | nil=>simp
 | cons x r ih=>rw [List.flatMap_cons,List.length_append,ih,t.cells_len,List.length_cons,Nat.add_mul]; omega
theorem Zga {t:Ty}:∀ {l:List t.T} {i:Nat} {x:t.T},l[i]?=some x→∀ j u,(t.cells x)[j]?=some u→(l.flatMap t.cells)[i * t.size+j]?=some u
 | [],_,_,h,_,_,_=>by simp at h
 | y :: r,0,x,h,j,u,hj=>by
  simp at h
  subst h
  have hl:j < (t.cells y).length:=(List.getElem?_eq_some_iff.1 hj).1
  rw [List.flatMap_cons,Nat.zero_mul,Nat.zero_add,List.getElem?_append_left hl]
  exact hj
 | y :: r,i+1,x,h,j,u,hj=>by
  simp at h
  rw [List.flatMap_cons,List.getElem?_append_right (by rw [t.cells_len,Nat.add_mul]; omega),t.cells_len]
  have:=Zga h j u hj
  rw [show (i+1) * t.size+j - t.size=i * t.size+j by rw [Nat.add_mul]; omega]
  exact this
theorem Zf6 {t:Ty} (l:List t.T) (n:Nat):(l.take n).flatMap t.cells=(l.flatMap t.cells).take (n * t.size):=by
 induction l generalizing n with
 | nil=>simp
 | cons x r ih =>
  rcases n with _ | n
  ·simp
  ·rw [List.take_succ_cons,List.flatMap_cons,List.flatMap_cons,ih]
   have e1:(n+1) * t.size=(t.cells x).length+n * t.size:=by rw [t.cells_len,Nat.add_mul]; omega
   rw [e1,List.take_length_add_append]
structure Own (S:Nat→Prop) (w:World) (E:TypeId) (t:Ty) (s:Sl) (l:List t.T):Prop where
 row:w.ownsRow 0 E t.size s.v l.length (l.flatMap t.cells)
 own:∀ k,s.v.ownBlock=some k→S k
theorem Own.nil (S:Nat→Prop) (w:World) (E:TypeId) (t:Ty):Own S w E t ⟨none,0,0⟩ []:=⟨World.ownsRow_nil w 0 E t.size,by simp [Sl.v,Value.ownBlock]⟩
section
variable {S:Nat→Prop} {E:TypeId} {t:Ty} {s:Sl} {l:List t.T}
theorem Own.cases (h:Own S w E t s l):(s=⟨none,0,0⟩∧l=[])∨∃ g c cur,s=⟨some ⟨g,0,none⟩,l.length,c⟩∧S g∧w.heap[g]?=some (.cells cur E (0,0))∧l.length≤c∧c≤maxLen∧cur.size=c * t.size∧cur.toList.take (l.length * t.size)=l.flatMap t.cells:=by
 obtain ⟨a,n,c⟩:=s
 rcases h.row.2 with ⟨h1,h2⟩ | ⟨g,cap,cur,h1,_,h3,h4,h5,h6,h7⟩
 ·simp only [Sl.v,Value.slice.injEq] at h1
  obtain ⟨rfl,rfl,rfl⟩:=h1
  exact .inl ⟨rfl,List.eq_nil_of_length_eq_zero h2⟩
 ·simp only [Sl.v,Value.slice.injEq] at h1
  obtain ⟨rfl,rfl,rfl⟩:=h1
  exact .inr ⟨g,_,cur,rfl,h.own g rfl,h3,h4,h5,h6,h7⟩
theorem Own.mk' {g c:Nat} {cur:Array Value} (hg:S g) (h3:w.heap[g]?=some (.cells cur E (0,0))) (h4:l.length≤c) (h5:c≤maxLen) (h6:cur.size=c * t.size) (h7:cur.toList.take (l.length * t.size)=l.flatMap t.cells) :
  Own S w E t ⟨some ⟨g,0,none⟩,l.length,c⟩ l :=
 ⟨⟨Z27 l,.inr ⟨g,c,cur,rfl,Nat.zero_le _,h3,h4,h5,h6,h7⟩⟩,fun k hk=>by simp [Sl.v,Value.ownBlock] at hk; subst hk; exact hg⟩
theorem Own.len (h:Own S w E t s l):s.n=l.length:=by
 rcases h.cases with ⟨rfl,rfl⟩ | ⟨g,c,cur,rfl,_⟩ <;> rfl
theorem Own.cap (h:Own S w E t s l):s.n≤s.c:=by
 rcases h.cases with ⟨rfl,rfl⟩ | ⟨g,c,cur,rfl,_,_,hc,_⟩
 ·exact Nat.le_refl _
 ·exact hc
theorem Own.small (h:Own S w E t s l):l.length≤maxLen:=by
 rcases h.cases with ⟨rfl,rfl⟩ | ⟨g,c,cur,rfl,_,_,hc,h2,_⟩
 ·simp
 ·exact Nat.le_trans hc h2
theorem Own.mono {S':Nat→Prop} (h:Own S w E t s l) (hs:∀ k,k < w.heap.size→S k→S' k):Own S' w E t s l :=
 ⟨h.row,fun k hk=>hs k (h.row.lt k hk).2 (h.own k hk)⟩
theorem Own.fr {T:Nat→Prop} {w':World} (h:Own S w E t s l) (f:Fr T w w') (hn:∀ k,S k→¬ T k):Own S w' E t s l:=by
 rcases h.cases with ⟨rfl,rfl⟩ | ⟨g,c,cur,rfl,hg,h3,h4,h5,h6,h7⟩
 ·exact Own.nil _ _ _ _
 ·exact Own.mk' hg ((f.block g (Array.getElem?_eq_some_iff.1 h3).1 (hn g hg)).trans h3) h4 h5 h6 h7
theorem Own.read (h:Own S w E t s l) {g:Nat} (hg:s.a=some ⟨g,0,none⟩) {i:Nat} {x:t.T} (hx:l[i]?=some x):Rd w ⟨g,i * t.size,none⟩ t x:=by
 rcases h.cases with ⟨rfl,rfl⟩ | ⟨g,c,cur,rfl,hS,h3,h4,h5,h6,h7⟩
 ·simp at hx
 ·simp only [Option.some.injEq,Addr.mk.injEq,and_true] at hg
  subst hg
  refine Rd.cells.2 fun j u hj=>?_
  have:=Zga hx j u hj
  rw [← h7,List.getElem?_take] at this
  split at this
  ·rw [Z3,cell_of_row w g _ cur E (0,0) h3]
   simpa using this
  ·cases this
theorem Own.sl (h:Own S w E t s l):SlT S w t s l:=by
 refine ⟨h.len,h.cap,?_⟩
 rcases h.cases with ⟨rfl,rfl⟩ | ⟨g,c,cur,rfl,hg,h3,h4,h5,h6,h7⟩
 ·exact .inl rfl
 ·refine .inr ⟨g,0,rfl,hg,(Array.getElem?_eq_some_iff.1 h3).1,fun i x hx=>?_⟩
  rw [Nat.zero_add]
  exact h.read rfl hx
theorem Z53:∀ (vs:List Value) {cs:List Value} {o:Nat},o+vs.length≤cs.length→putAt cs o vs=cs.take o ++ vs ++ cs.drop (o+vs.length)
 | [],cs,o,_=>by simp [putAt]
 | v :: vs,cs,o,h=>by
  simp only [List.length_cons] at h
  rw [putAt,Z53 vs (by simp; omega)]
  rw [List.take_set,List.length_cons,List.drop_set_of_lt (by omega)]
  rw [show o+1+vs.length=o+(vs.length+1) by omega]
  congr 1
  rw [show List.take (o+1) cs=List.take o cs ++ [cs[o]'(by omega)] by rw [List.take_append_getElem]]
  rw [List.set_append_right _ _ (by simp; omega)]
  simp [Nat.min_eq_left (by omega:o≤cs.length)]
theorem Zkj:∀ (vs cs:List Value) (o m:Nat),(putAt cs o vs).take m=putAt (cs.take m) o vs
 | [],_,_,_=>rfl
 | v :: vs,cs,o,m=>by rw [putAt,Zkj vs,List.take_set]; rfl
theorem Zhi {t:Ty}:∀ {l:List t.T} {i:Nat} {x:t.T},i < l.length→(l.set i x).flatMap t.cells=putAt (l.flatMap t.cells) (i * t.size) (t.cells x)
 | [],_,_,h=>by simp at h
 | y :: r,0,x,h=>by
  rw [Z53 _ (by rw [Z27,t.cells_len,List.length_cons,Nat.add_mul]; omega)]
  rw [List.set_cons_zero,List.flatMap_cons,List.flatMap_cons,Nat.zero_mul,List.take_zero,List.nil_append,Nat.zero_add,t.cells_len,← t.cells_len y,List.drop_left]
 | y :: r,i+1,x,h=>by
  have hi:i < r.length:=by simpa using h
  have hle:i * t.size+t.size≤r.length * t.size:=by rw [← Nat.succ_mul]; exact Nat.mul_le_mul_right _ hi
  rw [List.set_cons_succ,List.flatMap_cons,List.flatMap_cons,Zhi hi,Z53 _ (by rw [Z27,t.cells_len]; exact hle),Z53 _ (by rw [List.length_append,Z27,t.cells_len,t.cells_len,Nat.add_mul]; omega)]
  have e1:(i+1) * t.size=(t.cells y).length+i * t.size:=by rw [t.cells_len,Nat.add_mul]; omega
  rw [e1,List.take_length_add_append,Nat.add_assoc,List.drop_length_add_append]
  simp
theorem Own.set (h:Own S w E t s l) (hf:t.fine=true) {i:Nat} (hi:i < l.length) {g:Nat} (hg:s.a=some ⟨g,0,none⟩) (x:t.T) {K:W R}
  (hk:∀ w',Own S w' E t s (l.set i x)→Fr (fun k=>s.v.ownBlock=some k) w w'→w'.heap.size=w.heap.size→K Q w'):stoL ⟨g,i * t.size,none⟩ (t.cells x) 0 K Q w:=by
 rcases h.cases with ⟨rfl,rfl⟩ | ⟨g,c,cur,rfl,hS,h3,h4,h5,h6,h7⟩
 ·simp at hi
 ·simp only [Option.some.injEq,Addr.mk.injEq,and_true] at hg
  subst hg
  have hle:i * t.size+t.size≤l.length * t.size:=by rw [← Nat.succ_mul]; exact Nat.mul_le_mul_right _ hi
  have hle2:l.length * t.size≤c * t.size:=Nat.mul_le_mul_right _ h4
  refine stoBlk (T:=E) (cs:=cur.toList) (t.cells x) 0 h3 (by rw [t.cells_len]; simp; omega) (t.one x hf) fun w' hb hfr hsz=>?_
  rw [Nat.add_zero] at hb
  refine hk w' ?_ (hfr.mono fun k _ e=>by simp [Sl.v,Value.ownBlock,e]) hsz
  have hl:(l.set i x).length=l.length:=List.length_set
  have:=Own.mk' (S:=S) (w:=w') (E:=E) (t:=t) (l:=l.set i x) (g:=g) (c:=c) (cur:=⟨putAt cur.toList (i * t.size) (t.cells x)⟩) hS hb (by rw [hl]; exact h4) h5 (by simp [Z2b,h6]) (by
   rw [hl,Zhi hi,← h7,Zkj])
  rw [hl] at this
  exact this
theorem Zgv {v:Value}:∀ (vs cs:List Value) (o q:Nat),q < o→(putAt cs o vs).set q v=putAt (cs.set q v) o vs
 | [],_,_,_,_=>rfl
 | a :: vs,cs,o,q,h=>by
  rw [putAt,putAt,Zgv vs _ _ _ (by omega),List.set_comm _ _ (by omega)]
theorem Zmr {v:Value}:∀ (vs cs:List Value) (o j:Nat),j < vs.length→(putAt cs o vs).set (o+j) v=putAt cs o (vs.set j v)
 | [],_,_,_,h=>by simp at h
 | a :: vs,cs,o,0,_=>by
  rw [putAt,show o+0=o from rfl,Zgv vs _ _ _ (by omega),List.set_set]
  rfl
 | a :: vs,cs,o,j+1,h=>by
  rw [putAt,show o+(j+1)=o+1+j by omega,Zmr vs _ _ _ (by simpa using h)]
  rfl
theorem Own.setFld (h:Own S w E t s l) {i j:Nat} {x x':t.T} (hx:l[i]?=some x) {g:Nat} (hg:s.a=some ⟨g,0,none⟩) (hj:j < t.size) {v:Value} (hc:t.cells x'=(t.cells x).set j v) (h1:v.oneCell'=true) {K:W R}
  (hk:∀ w',Own S w' E t s (l.set i x')→Fr (fun k=>s.v.ownBlock=some k) w w'→w'.heap.size=w.heap.size→K Q w'):stoL ⟨g,i * t.size+j,none⟩ [v] 0 K Q w:=by
 obtain ⟨hi,he⟩:=List.getElem?_eq_some_iff.1 hx
 rcases h.cases with ⟨rfl,rfl⟩ | ⟨g,c,cur,rfl,hS,h3,h4,h5,h6,h7⟩
 ·simp at hi
 ·simp only [Option.some.injEq,Addr.mk.injEq,and_true] at hg
  subst hg
  have hle:i * t.size+t.size≤l.length * t.size:=by rw [← Nat.succ_mul]; exact Nat.mul_le_mul_right _ hi
  have hle2:l.length * t.size≤c * t.size:=Nat.mul_le_mul_right _ h4
  refine stoBlk (T:=E) (cs:=cur.toList) (o:=i * t.size+j) [v] 0 h3 (by simp; omega) (by simpa using h1) fun w' hb hfr hsz=>?_
  rw [Nat.add_zero] at hb
  refine hk w' ?_ (hfr.mono fun k _ e=>by simp [Sl.v,Value.ownBlock,e]) hsz
  have hl:(l.set i x').length=l.length:=List.length_set
  have hself:putAt (l.flatMap t.cells) (i * t.size) (t.cells x)=l.flatMap t.cells:=by
   rw [← Zhi hi]
   congr 1
   rw [← he]
   exact List.set_getElem_self hi
  have:=Own.mk' (S:=S) (w:=w') (E:=E) (t:=t) (l:=l.set i x') (g:=g) (c:=c) (cur:=⟨putAt cur.toList (i * t.size+j) [v]⟩) hS hb (by rw [hl]; exact h4) h5 (by simp [Z2b,h6]) (by
   rw [hl,Zhi hi,hc,← Zmr _ _ _ _ (by rw [t.cells_len]; exact hj),hself,← h7,← List.take_set]
   rfl)
  rw [hl] at this
  exact this
theorem Own.take (h:Own S w E t s l) {n:Nat} (hn:n≤l.length):Own S w E t ⟨s.a,n,s.c⟩ (l.take n):=by
 rcases h.cases with ⟨rfl,rfl⟩ | ⟨g,c,cur,rfl,hS,h3,h4,h5,h6,h7⟩
 ·simp at hn; subst hn; exact Own.nil _ _ _ _
 ·have hl:(l.take n).length=n:=by simp; omega
  have:=Own.mk' (S:=S) (w:=w) (E:=E) (t:=t) (l:=l.take n) (g:=g) (c:=c) (cur:=cur) hS h3 (by omega) h5 h6 (by
   rw [hl,Zf6,← h7,List.take_take,Nat.min_eq_left (Nat.mul_le_mul_right _ hn)])
  rw [hl] at this
  exact this
theorem Own.lit (w:World) (E:TypeId) (t:Ty) (l:List t.T) (hS:S w.heap.size) (hm:l.length≤maxLen) {cs:List Value} (hc:cs=l.flatMap t.cells) {n:Nat} (hn:n=l.length):Own S (w.alloc (.cells ⟨cs⟩ E)) E t ⟨some ⟨w.heap.size,0,none⟩,n,n⟩ l:=by
 subst hc; subst hn
 exact Own.mk' hS (heap_alloc_new w _) (Nat.le_refl _) hm (Z27 l) (by rw [List.take_of_length_le (by rw [Z27]; exact Nat.le_refl _)])
end
structure SlTy (P:Program) (T E:TypeId) (t:Ty) (bytes:Nat):Prop where
 under:P.underlying T=some (.slice E)
 info:∃ i z,P.info? E=some i∧i.zero=some z∧i.size=t.size∧i.bytes=bytes∧z.cells.size=t.size
 pos:0 < t.size
 fine:t.fine=true
theorem SlT.cellsAt {ok:Nat→Prop} {t:Ty} {s:Sl} {l:List t.T} (h:SlT ok w t s l) {a:Addr} (ha:s.a=some a):∀ j u,(l.flatMap t.cells)[j]?=some u→w.cell? (a.add j)=some u:=by
 intro j u hj
 rcases h.at_ with rfl | ⟨b,o,ha',_,_,hr⟩
 ·simp at hj
 ·rw [ha] at ha'
  cases ha'
  have hj':j < l.length * t.size:=by have:=(List.getElem?_eq_some_iff.1 hj).1; rwa [Z27] at this
  have hp:0 < t.size:=by rcases Nat.eq_zero_or_pos t.size with h0 | h0; (rw [h0] at hj'; simp at hj'); exact h0
  have hi:j / t.size < l.length:=Nat.div_lt_of_lt_mul (by rw [Nat.mul_comm]; exact hj')
  have hx:=List.getElem?_eq_getElem hi
  have hm:j % t.size < (t.cells l[j / t.size]).length:=by rw [t.cells_len]; exact Nat.mod_lt _ hp
  have:=Zga hx (j % t.size) _ (List.getElem?_eq_getElem hm)
  rw [Nat.mul_comm,Nat.div_add_mod,hj] at this
  rw [Z3]
  have hc:=Rd.cells.1 (hr _ _ hx) (j % t.size) _ (List.getElem?_eq_getElem hm)
  rw [Z3,Nat.add_assoc,Nat.mul_comm,Nat.div_add_mod] at hc
  rw [hc]
  exact this.symm
theorem appI {P:Program} {T E ty:TypeId} {t:Ty} {bytes:Nat} (H:SlTy P T E t bytes) {S S' ok:Nat→Prop} {s s2:Sl} {l l2:List t.T} (h:Own S w E t s l) (h2:SlT ok w t s2 l2)
  (hb:(l.length+l2.length) * bytes≤140737488355328) (hm:l.length+l2.length≤maxLen) (h1:∀ k,S k→S' k) (h1':S' w.heap.size) {K:Sl→W R}
  (hk:∀ r w',Own S' w' E t r (l ++ l2)→Fr (fun k=>s.v.ownBlock=some k) w w'→w'.heap.size≤w.heap.size+1→K r Q w'):rawW P (Builtin.append_ #[T,T] ty #[.slice s.a s.n s.c,.slice s2.a s2.n s2.c]) [.sc .sl] K Q w:=by
 obtain ⟨i,z,hi,hz,hs,hby,hzs⟩:=H.info
 have hn2:=h2.len
 have flat:(l ++ l2).flatMap t.cells=l.flatMap t.cells ++ l2.flatMap t.cells:=List.flatMap_append
 have hlen:(l ++ l2).length=l.length+l2.length:=List.length_append
 have hmi:((l.length+l2.length:Nat):Int)≤9223372036854775807:=by simp only [maxLen] at hm; omega
 by_cases h0:l2=[]
 ·subst h0
  have hrun:(Builtin.append_ #[T,T] ty #[.slice s.a s.n s.c,.slice s2.a s2.n s2.c]).run P w=.ok (.slice s.a s.n s.c) w:=by
   rw [show s2.n=0 from hn2]
   rcases h.cases with ⟨rfl,rfl⟩ | ⟨g,c,cur,rfl,hS,h3,h4,h5,h6,h7⟩
   ·rcases hsa:s2.a with _ | a <;> simp [Builtin.append_,run_underlying H.under,sizeOf,typeInfo,hi,Builtin.lenOf,Builtin.firstCells,loadCells,loadCellsFrom]
   ·rcases hsa:s2.a with _ | a <;> simp [Builtin.append_,run_underlying H.under,sizeOf,typeInfo,hi,Builtin.lenOf,Builtin.firstCells,loadCells,loadCellsFrom,h4,storeCells]
  refine ⟨s,w,hrun,hk s w ?_ (Fr.refl _ _) (by omega)⟩
  rw [List.append_nil]
  exact h.mono fun k _ hk=>h1 k hk
 rcases h2.at_ with e0 | ⟨b2,o2,ha2,_,_,_⟩
 ·exact (h0 e0).elim
 have hnews:=h2.cellsAt ha2
 have hl2:(l2.flatMap t.cells).length=l2.length * i.size:=by rw [Z27,hs]
 have hpos:0 < l2.length:=List.length_pos_iff.2 h0
 have one:∀ u∈l2.flatMap t.cells,u.oneCell'=true:=fun u hu=>by
  obtain ⟨x,_,hx⟩:=List.mem_flatMap.1 hu
  exact t.one x H.fine u hx
 have grown:∀ (old:Nat) {v:Value} {w':World},old < l.length+l2.length→v=.slice (some ⟨w.heap.size,0,none⟩) (l.length+l2.length) (grownCap w (l.length+l2.length) old E) →
   w'=w.drew.alloc (.cells ((l.flatMap t.cells).toArray ++ (l2.flatMap t.cells).toArray ++ Builtin.zeroCells z.cells (grownCap w (l.length+l2.length) old E - (l.length+l2.length))) E) →
   ∃ r:Sl,v=r.v∧K r Q w':=by
  intro old v w' ho hv hw
  have hge:=grownCap_ge w (l.length+l2.length) old E
  have hcm:=grownCap_le_maxLen w (l.length+l2.length) old E hm
  generalize grownCap w (l.length+l2.length) old E=G at hge hcm hv hw
  subst hv; subst hw
  refine ⟨⟨_,_,_⟩,rfl,hk _ _ ?_ ((Fr.refl _ w).drew.alloc _) (by simp)⟩
  rw [← hlen]
  refine Own.mk' h1' (heap_alloc_new w.drew _) (by rw [hlen]; exact hge) hcm ?_ ?_
  ·simp only [Array.size_append,List.size_toArray,Z27,size_zeroCells,hzs,← Nat.add_mul]
   congr 1
   rw [hlen]
   omega
  ·simp only [Array.toList_append,List.append_assoc]
   rw [← List.append_assoc,flat,← Z27 (l ++ l2),flat]
   exact List.take_left
 rcases h.cases with ⟨rfl,rfl⟩ | ⟨g,c,cur,rfl,hS,h3,h4,h5,h6,h7⟩
 ·have hr:=run_append_nil (P:=P) w T ty E i z H.under hi hz ⟨b2,o2,none⟩ l2.length s2.c _ hl2 hnews hpos (by simpa using hmi) (by rw [hby]; simp at hb; omega)
  obtain ⟨r,hv,hK⟩:=grown 0 (by simpa using hpos) (v:=.slice (some ⟨w.heap.size,0,none⟩) l2.length (grownCap w l2.length 0 E))
   (w':=w.drew.alloc (.cells ((l2.flatMap t.cells).toArray ++ Builtin.zeroCells z.cells (grownCap w l2.length 0 E - l2.length)) E)) (by simp) (by simp)
  refine ⟨r,_,?_,hK⟩
  rw [hn2,ha2]
  rw [hv] at hr
  exact hr
 ·by_cases hroom:l.length+l2.length≤c
  ·have hfit:l.length * i.size+(l2.flatMap t.cells).length≤cur.size:=by rw [hl2,hs,h6,← Nat.add_mul]; exact Nat.mul_le_mul_right _ hroom
   have hr:=run_append_room (P:=P) w T ty E i H.under hi g l.length c cur h3 ⟨b2,o2,none⟩ l2.length s2.c _ hl2 hnews one hroom hfit
   refine ⟨⟨some ⟨g,0,none⟩,l.length+l2.length,c⟩,_,by rw [hn2,ha2]; exact hr,hk _ _ ?_ ?_ (by simp [World.setRow])⟩
   ·rw [← hlen]
    refine Own.mk' (h1 g hS) (setRow_heap w g cur _ E _ h3) (by rw [hlen]; exact hroom) h5 ?_ ?_
    ·simp only [List.size_toArray,List.length_append,List.length_take,List.length_drop,Array.length_toList]
     omega
    ·rw [hs,h7,← flat,← Z27 (l ++ l2)]
     exact List.take_left
   ·exact ⟨rfl,rfl,rfl,by simp [World.setRow],fun k _ hk=>setRow_other w g k _ (fun e=>hk (by simp [Sl.v,Value.ownBlock,e]))⟩
  ·have holds:∀ j u,(l.flatMap t.cells)[j]?=some u→w.cell? ((⟨g,0,none⟩:Addr).add j)=some u:=h.sl.cellsAt rfl
   have hr:=run_append_grow (P:=P) w T ty E i z H.under hi hz ⟨g,0,none⟩ l.length c _ (by rw [Z27,hs]) holds ⟨b2,o2,none⟩ l2.length s2.c _ hl2 hnews (by omega) hmi (growslice_fits (by omega) (by rw [hby]; exact hb))
   obtain ⟨r,hv,hK⟩:=grown c (by omega) rfl rfl
   refine ⟨r,_,?_,hK⟩
   rw [hn2,ha2]
   rw [hv] at hr
   exact hr
theorem Own.idx {S:Nat→Prop} {E:TypeId} {t:Ty} {s:Sl} {l:List t.T} (h:Own S w E t s l) {sz:Nat} (hsz:sz=t.size) {i:Int} (h0:0≤i) (h1:i < l.length) {K:Addr→W R}
  (hk:∀ g x,s.a=some ⟨g,0,none⟩→l[i.toNat]?=some x→Rd w ⟨g,i.toNat * t.size,none⟩ t x→K ⟨g,i.toNat * t.size,none⟩ Q w):idxW s.a s.n sz i K Q w:=by
 subst hsz
 have hi:i.toNat < l.length:=by omega
 rcases h.cases with ⟨rfl,rfl⟩ | ⟨g,c,cur,rfl,hS,h3,h4,h5,h6,h7⟩
 ·simp at hi
 ·refine ⟨⟨g,0,none⟩,rfl,h0,h1,?_⟩
  rw [Z3,Nat.zero_add]
  have hx:=List.getElem?_eq_getElem hi
  exact hk g _ rfl hx (h.read rfl hx)
open Go.ChangeMaps Go.MapKept in
def MapB {κ:Type} (P:Program) (k:TypeId) (ke:κ→Value) (w:World) (b:Nat) (f:κ→Option Value):Prop :=
 ∃ es clock,w.heap[b]?=some (.map es clock)∧Go.MapKept.Stamped es clock∧(∀ x∈es.toList,∃ l,keyOf P k x.key=some l)∧(∀ x∈es.toList,∃ i,x.key=ke i)∧es.toList.Pairwise (fun x y=>x.key≠y.key) ∧
  ∀ i v,f i=some v↔∃ x∈es.toList,x.key=ke i∧x.val=v
section
variable {κ:Type} {P:Program} {k:TypeId} {ke:κ→Value} {b:Nat} {f:κ→Option Value}
theorem MapB.lt (h:MapB P k ke w b f):b < w.heap.size:=by
 obtain ⟨es,clock,hb,_⟩:=h
 exact (Array.getElem?_eq_some_iff.1 hb).1
theorem MapB.fr {S:Nat→Prop} {w':World} (h:MapB P k ke w b f) (hf:Fr S w w') (hn:¬ S b):MapB P k ke w' b f:=by
 have hl:=h.lt
 obtain ⟨es,clock,hb,r⟩:=h
 exact ⟨es,clock,(hf.block b hl hn).trans hb,r⟩
theorem MapB.made (w:World):MapB P k ke (w.alloc (.map #[] 0)) w.heap.size (fun _=>none) :=
 ⟨#[],0,heap_alloc_new w _,Go.MapKept.stamped_empty 0,by simp,by simp,by simp,by simp⟩
theorem MapB.congr (h:MapB P k ke w b f) {g:κ→Option Value} (e:∀ i,g i=f i):MapB P k ke w b g:=by
 have:g=f:=funext e
 rw [this]
 exact h
theorem mapNewI {T:TypeId} {K:Option Nat→W R} (hk:K (some w.heap.size) Q (w.alloc (.map #[] 0))):rawW P (Instr.makeMap T none) [.sc .map] K Q w :=
 ⟨some w.heap.size,_,by rfl,hk⟩
theorem Zv3 {es:List MapEntry} (h:es.Pairwise (fun x y=>x.key≠y.key)) {x y:MapEntry} (hx:x∈es) (hy:y∈es) (e:x.key=y.key):x=y:=by
 induction es with
 | nil=>simp at hx
 | cons z r ih =>
  rw [List.pairwise_cons] at h
  rcases List.mem_cons.1 hx with h1 | h1
  ·rcases List.mem_cons.1 hy with h2 | h2
   ·rw [h1,h2]
   ·subst h1; exact absurd e (h.1 _ h2)
  ·rcases List.mem_cons.1 hy with h2 | h2
   ·subst h2; exact absurd e.symm (h.1 _ h1)
   ·exact ih h.2 h1 h2
theorem Zkh {α:Type}:∀ {l:List α} {j:Nat} {x:α},l[j]?=some x→l.Perm (x :: l.eraseIdx j)
 | [],_,_,h=>by simp at h
 | y :: r,0,x,h=>by simp at h; subst h; exact List.Perm.refl _
 | y :: r,j+1,x,h=>by
  simp at h
  rw [List.eraseIdx_cons_succ]
  exact ((Zkh h).cons y).trans (List.Perm.swap x y _)
theorem MapB.look (h:MapB P k ke w b f) (Kd:Go.Maps.Keyed P k) {T e:TypeId} (ht:P.underlying T=some (.map k e)) {z:Value} (hz:(P.info? e).bind (·.zero)=some z) {i:κ} {l:Lit} (hkey:keyOf P k (ke i)=some l) (ok:Bool) :
  (Instr.lookup T (.map (some b)) (ke i) ok).run P w=.ok (if ok then .tuple #[(f i).getD z,.bool (f i).isSome] else (f i).getD z) w:=by
 obtain ⟨es,clock,hb,_,hks,_,hpw,hf⟩:=h
 have hz':(zeroValue e).run P w=.ok z w:=by
  obtain ⟨i,hi,hz⟩:=Option.bind_eq_some_iff.1 hz
  simp [zeroValue,typeInfo,hi,hz]
 rcases Kd.find w hkey es.toList hks with ⟨h1,h2⟩ | ⟨j,e0,h1,h2,h3⟩
 ·have hn:f i=none:=by
   cases hfi:f i with
   | none=>rfl
   | some v=>obtain ⟨x,hx,hk,_⟩:=(hf i v).1 hfi; exact absurd hk (h2 x hx)
  simp [Instr.lookup,run_underlying ht,MapKept.run_getObj_map hb,Kd.check w _ hkey,h1,hz',hn,Result.andThen]
 ·have hs:f i=some e0.val:=(hf i _).2 ⟨e0,List.mem_of_getElem? h2,h3,rfl⟩
  simp [Instr.lookup,run_underlying ht,MapKept.run_getObj_map hb,Kd.check w _ hkey,h1,hs,Result.andThen]
theorem MapB.put [DecidableEq κ] (h:MapB P k ke w b f) (Kd:Go.Maps.Keyed P k) (hke:∀ i j,ke i=ke j→i=j) {T e:TypeId} (ht:P.underlying T=some (.map k e)) {i:κ} {l:Lit} (hkey:keyOf P k (ke i)=some l) (v:Value) :
  ∃ w',(Instr.mapUpdate T (.map (some b)) (ke i) v).run P w=.ok () w'∧MapB P k ke w' b (fun j=>if j=i then some v else f j)∧Fr (fun k=>k=b) w w'∧w'.heap.size=w.heap.size:=by
 obtain ⟨es,clock,hb,hst,hks,hki,hpw,hf⟩:=h
 have frame:∀ o,Fr (fun k=>k=b) w (Go.ChangeMaps.setBlock w b o):=fun o=>⟨rfl,rfl,rfl,by simp [Go.ChangeMaps.setBlock],fun j _ hj=>Go.ChangeMaps.heap_setBlock_other hb _ hj⟩
 rcases Kd.find w hkey es.toList hks with ⟨h1,h2⟩ | ⟨j,e0,h1,h2,h3⟩
 ·refine ⟨Go.ChangeMaps.setBlock w b (.map (es.push ⟨ke i,v,clock⟩) (clock+1)),?_,⟨_,_,Go.ChangeMaps.heap_setBlock_same hb _,Go.MapKept.stamped_push hst h2,?_,?_,?_,?_⟩,frame _,by simp [Go.ChangeMaps.setBlock]⟩
  ·simp [Instr.mapUpdate,run_underlying ht,MapKept.run_getObj_map hb,Kd.check w false hkey,h1,MapKept.run_setObj_map _ hb,Result.andThen,Go.ChangeMaps.setBlock]
  ·intro x hx
   simp only [Array.toList_push,List.mem_append,List.mem_singleton] at hx
   rcases hx with hx | rfl
   ·exact hks x hx
   ·exact ⟨_,hkey⟩
  ·intro x hx
   simp only [Array.toList_push,List.mem_append,List.mem_singleton] at hx
   rcases hx with hx | rfl
   ·exact hki x hx
   ·exact ⟨_,rfl⟩
  ·rw [Array.toList_push,List.pairwise_append]
   refine ⟨hpw,by simp,fun x hx y hy=>?_⟩
   simp only [List.mem_singleton] at hy
   subst hy
   exact h2 x hx
  ·intro j u
   simp only [Array.toList_push,List.mem_append,List.mem_singleton]
   show (if _ then _ else _)=_↔_
   by_cases hji:j=i
   ·subst hji
    rw [if_pos rfl]
    constructor
    ·intro e; cases e; exact ⟨_,.inr rfl,rfl,rfl⟩
    ·rintro ⟨x,hx | rfl,hk,rfl⟩
     ·exact absurd hk (h2 x hx)
     ·rfl
   ·rw [if_neg hji,hf]
    constructor
    ·rintro ⟨x,hx,r⟩; exact ⟨x,.inl hx,r⟩
    ·rintro ⟨x,hx | rfl,hk,rfl⟩
     ·exact ⟨x,hx,hk,rfl⟩
     ·exact absurd (hke _ _ hk).symm hji
 ·have hj:es[j]?=some e0:=by simpa using h2
  have hjl:j < es.toList.length:=(List.getElem?_eq_some_iff.1 h2).1
  have hm:(es.modify j fun e'=>{ e' with key:=ke i,val:=v }).toList=es.toList.set j { e0 with key:=ke i,val:=v }:=by
   rw [Array.toList_modify]
   apply List.ext_getElem?
   intro q
   rw [List.getElem?_modify,List.getElem?_set]
   by_cases hq:j=q
   ·subst hq; simp [h2]; simpa using hjl
   ·simp [hq]
  refine ⟨Go.ChangeMaps.setBlock w b (.map (es.modify j fun e'=>{ e' with key:=ke i,val:=v }) clock),?_,⟨_,_,Go.ChangeMaps.heap_setBlock_same hb _,Go.MapKept.stamped_modify hst j _ (fun _ _=>rfl) (fun e _ he=>by rw [hj] at he; cases he; exact h3.symm),?_,?_,?_,?_⟩,frame _,by simp [Go.ChangeMaps.setBlock]⟩
  ·simp [Instr.mapUpdate,run_underlying ht,MapKept.run_getObj_map hb,Kd.check w false hkey,h1,hj,h3,Kd.stays w hkey,MapKept.run_setObj_map _ hb,Result.andThen,Go.ChangeMaps.setBlock]
  ·intro x hx
   rw [hm] at hx
   rcases List.mem_or_eq_of_mem_set hx with hx | rfl
   ·exact hks x hx
   ·exact ⟨_,hkey⟩
  ·intro x hx
   rw [hm] at hx
   rcases List.mem_or_eq_of_mem_set hx with hx | rfl
   ·exact hki x hx
   ·exact ⟨_,rfl⟩
  ·rw [hm,← List.pairwise_map (f:=fun x:MapEntry=>x.key) (R:=fun a b=>a≠b),List.map_set]
   rw [show (List.map (fun x:MapEntry=>x.key) es.toList).set j (ke i)=List.map (fun x:MapEntry=>x.key) es.toList by
    apply List.ext_getElem?
    intro q
    rw [List.getElem?_set]
    by_cases hq:j=q
    ·subst hq; simp [h2,h3]; simpa using hjl
    ·simp [hq]]
   rw [List.pairwise_map]
   exact hpw
  ·intro q u
   rw [hm]
   have hother:∀ x,x∈es.toList.set j { e0 with key:=ke i,val:=v }↔x={ e0 with key:=ke i,val:=v }∨(x∈es.toList∧x.key≠ke i):=by
    intro x
    constructor
    ·intro hx
     obtain ⟨p,hp⟩:=List.mem_iff_getElem?.1 hx
     rw [List.getElem?_set] at hp
     by_cases hq:j=p
     ·subst hq; rw [if_pos rfl,if_pos hjl] at hp; exact .inl (Option.some.inj hp).symm
     ·rw [if_neg hq] at hp
      refine .inr ⟨List.mem_of_getElem? hp,fun hk=>hq ?_⟩
      have e1:=Zv3 hpw (List.mem_of_getElem? h2) (List.mem_of_getElem? hp) (h3.trans hk.symm)
      subst e1
      by_cases hlt:j < p
      ·have hpl:=(List.getElem?_eq_some_iff.1 hp).1
       have a1:=(List.getElem?_eq_some_iff.1 hp).2
       have a2:=(List.getElem?_eq_some_iff.1 h2).2
       have:=(List.pairwise_iff_getElem.1 hpw) j p hjl hpl hlt
       rw [a1,a2] at this
       exact absurd rfl this
      ·have hpl:=(List.getElem?_eq_some_iff.1 hp).1
       have a1:=(List.getElem?_eq_some_iff.1 hp).2
       have a2:=(List.getElem?_eq_some_iff.1 h2).2
       have:=(List.pairwise_iff_getElem.1 hpw) p j hpl hjl (by omega)
       rw [a1,a2] at this
       exact absurd rfl this
    ·rintro (rfl | ⟨hx,hk⟩)
     ·exact List.mem_of_getElem? (i:=j) (by rw [List.getElem?_set,if_pos rfl,if_pos hjl])
     ·obtain ⟨p,hp⟩:=List.mem_iff_getElem?.1 hx
      refine List.mem_of_getElem? (i:=p) ?_
      rw [List.getElem?_set,if_neg]
      ·exact hp
      ·intro e; subst e; rw [h2] at hp; cases hp; exact hk h3
   show (if _ then _ else _)=_↔_
   by_cases hji:q=i
   ·subst hji
    rw [if_pos rfl]
    constructor
    ·intro e; cases e; exact ⟨_,(hother _).2 (.inl rfl),rfl,rfl⟩
    ·rintro ⟨x,hx,hk,rfl⟩
     rcases (hother x).1 hx with rfl | ⟨_,hne⟩
     ·rfl
     ·exact absurd hk hne
   ·rw [if_neg hji,hf]
    constructor
    ·rintro ⟨x,hx,hk,hv⟩; exact ⟨x,(hother x).2 (.inr ⟨hx,fun e=>hji (hke _ _ (hk.symm.trans e))⟩),hk,hv⟩
    ·rintro ⟨x,hx,hk,rfl⟩
     rcases (hother x).1 hx with rfl | ⟨hx',hne⟩
     ·exact absurd (hke _ _ hk).symm hji
     ·exact ⟨x,hx',hk,rfl⟩
theorem MapB.del [DecidableEq κ] (h:MapB P k ke w b f) (Kd:Go.Maps.Keyed P k) (hke:∀ i j,ke i=ke j→i=j) {T e ty:TypeId} (ht:P.underlying T=some (.map k e)) {i:κ} {l:Lit} (hkey:keyOf P k (ke i)=some l) :
  ∃ w',(Builtin.delete_ #[T,k] ty #[.map (some b),ke i]).run P w=.ok (.tuple #[]) w'∧MapB P k ke w' b (fun j=>if j=i then none else f j)∧Fr (fun k=>k=b) w w'∧w'.heap.size=w.heap.size:=by
 obtain ⟨es,clock,hb,hst,hks,hki,hpw,hf⟩:=h
 have frame:∀ o,Fr (fun k=>k=b) w (Go.ChangeMaps.setBlock w b o):=fun o=>⟨rfl,rfl,rfl,by simp [Go.ChangeMaps.setBlock],fun j _ hj=>Go.ChangeMaps.heap_setBlock_other hb _ hj⟩
 rcases Kd.find w hkey es.toList hks with ⟨h1,h2⟩ | ⟨j,e0,h1,h2,h3⟩
 ·refine ⟨Go.ChangeMaps.setBlock w b (.map es clock),?_,⟨es,clock,Go.ChangeMaps.heap_setBlock_same hb _,hst,hks,hki,hpw,fun j u=>?_⟩,frame _,by simp [Go.ChangeMaps.setBlock]⟩
  ·simp [Builtin.delete_,run_underlying ht,MapKept.run_getObj_map hb,Kd.check w _ hkey,h1,MapKept.run_setObj_map _ hb,Result.andThen,Go.ChangeMaps.setBlock]
  ·show (if _ then _ else _)=_↔_
   by_cases hji:j=i
   ·subst hji
    rw [if_pos rfl]
    constructor
    ·intro e; cases e
    ·rintro ⟨x,hx,hk,_⟩; exact absurd hk (h2 x hx)
   ·rw [if_neg hji]; exact hf j u
 ·have hjl:j < es.toList.length:=(List.getElem?_eq_some_iff.1 h2).1
  have hjs:j < es.size:=by simpa using hjl
  have hsub:(es.eraseIdxIfInBounds j).toList=es.toList.eraseIdx j:=by
   unfold Array.eraseIdxIfInBounds
   rw [dif_pos hjs]
   simp
  have hsl:∀ x∈es.toList.eraseIdx j,x∈es.toList:=fun x hx=>(List.eraseIdx_sublist _ _).subset hx
  have hother:∀ x,x∈es.toList.eraseIdx j↔(x∈es.toList∧x.key≠ke i):=by
   intro x
   have hperm:es.toList.Perm (e0 :: es.toList.eraseIdx j):=by
    exact Zkh h2
   have hpw2:(e0 :: es.toList.eraseIdx j).Pairwise (fun x y=>x.key≠y.key):=(hperm.pairwise_iff (fun {_ _} hne=>Ne.symm hne)).1 hpw
   rw [List.pairwise_cons] at hpw2
   constructor
   ·intro hx
    exact ⟨hsl x hx,fun hk=>hpw2.1 x hx (h3.trans hk.symm)⟩
   ·rintro ⟨hx,hk⟩
    rcases List.mem_cons.1 (hperm.mem_iff.1 hx) with rfl | hx
    ·exact absurd h3 hk
    ·exact hx
  refine ⟨Go.ChangeMaps.setBlock w b (.map (es.eraseIdxIfInBounds j) clock),?_,⟨_,clock,Go.ChangeMaps.heap_setBlock_same hb _,Go.MapKept.stamped_erase hst j,?_,?_,?_,fun q u=>?_⟩,frame _,by simp [Go.ChangeMaps.setBlock]⟩
  ·simp [Builtin.delete_,run_underlying ht,MapKept.run_getObj_map hb,Kd.check w _ hkey,h1,MapKept.run_setObj_map _ hb,Result.andThen,Go.ChangeMaps.setBlock]
  ·intro x hx; rw [hsub] at hx; exact hks x (hsl x hx)
  ·intro x hx; rw [hsub] at hx; exact hki x (hsl x hx)
  ·rw [hsub]; exact hpw.sublist (List.eraseIdx_sublist _ _)
  ·rw [hsub]
   show (if _ then _ else _)=_↔_
   by_cases hji:q=i
   ·subst hji
    rw [if_pos rfl]
    constructor
    ·intro e; cases e
    ·rintro ⟨x,hx,hk,_⟩; exact absurd hk ((hother x).1 hx).2
   ·rw [if_neg hji,hf]
    constructor
    ·rintro ⟨x,hx,hk,hv⟩; exact ⟨x,(hother x).2 ⟨hx,fun e=>hji (hke _ _ (hk.symm.trans e))⟩,hk,hv⟩
    ·rintro ⟨x,hx,hk,hv⟩; exact ⟨x,((hother x).1 hx).1,hk,hv⟩
end
end Go.Proofs.YtoiahhpgkoknfaaGreat.Den
namespace Go.Proofs.YtoiahhpgkoknfaaGreat.Den
open Go Go.RowKit
variable {R:Type} {Q:R→World→Prop} {w:World}
theorem w64 {x:Int} (h:-9223372036854775808≤x∧x≤9223372036854775807):IntKind.wrap .i64 x=x:=by rw [IntKind.wrap_i64]; omega
theorem w32 {x:Int} (h:-2147483648≤x∧x≤2147483647):IntKind.wrap .i32 x=x:=by rw [IntKind.wrap_i32]; omega
theorem wu32 {x:Int} (h:0≤x∧x≤4294967295):IntKind.wrap .u32 x=x:=by rw [IntKind.wrap_u32]; omega
theorem wu8 {x:Int} (h:0≤x∧x≤255):IntKind.wrap .u8 x=x:=by rw [IntKind.wrap_u8]; omega
theorem Zn:maxLen=9223372036854775807:=by simp [maxLen]
theorem newI {T:TypeId} {cs:List Value} {K:Addr→W R} (hk:∀ w',Blk w' w.heap.size T cs→Fr None w w'→w'.heap.size=w.heap.size+1→K ⟨w.heap.size,0,none⟩ Q w'):newW T cs K Q w :=
 hk _ (Blk.new w T cs) ((Fr.refl _ _).alloc _) (by simp)
theorem Zin:∀ {vs cs:List Value},vs.length=cs.length→putAt cs 0 vs=vs:=by
 intro vs cs h
 rw [Z53 vs (by omega)]
 simp [h]
def one1:List Value→Bool
 | []=>true
 | v :: r=>v.oneCell' && one1 r
theorem Zp8:∀ {vs:List Value},one1 vs=true→∀ v∈vs,v.oneCell'=true
 | u :: r,h,v,hv=>by
  simp only [one1,Bool.and_eq_true] at h
  rcases List.mem_cons.1 hv with rfl | hv
  ·exact h.1
  ·exact Zp8 h.2 v hv
theorem stoAll {b:Nat} {T:TypeId} {cs vs:List Value} {K:W R} (h:Blk w b T cs) (hl:vs.length=cs.length) (h1:one1 vs=true) (hk:∀ w',Blk w' b T vs→Fr (fun k=>k=b) w w'→w'.heap.size=w.heap.size→K Q w'):stoL ⟨b,0,none⟩ vs 0 K Q w :=
 stoBlk vs 0 h (by omega) (Zp8 h1) fun w' hb hf hs=>hk w' (by rw [Zin hl] at hb; exact hb) hf hs
theorem locI {T:TypeId} {cs vs:List Value} {K:Addr→W R} (hl:vs.length=cs.length) (h1:one1 vs=true)
  (hk:∀ w',Blk w' w.heap.size T vs→Fr None w w'→w'.heap.size=w.heap.size+1→K ⟨w.heap.size,0,none⟩ Q w'):newW T cs (fun a=>stoL a vs 0 (K a)) Q w :=
 newI fun _ B f hs=>stoAll B hl h1 fun w2 B2 f2 hs2=>hk w2 B2 (f.thenNew f2 (fun x e=>by omega)) (by omega)
theorem fldI {b:Nat} {T:TypeId} {cs:List Value} {s:Sc} {i:Nat} {K:s.T→W R} (B:Blk w b T cs) {x:s.T} (hx:cs[i]?=some (s.e x)) (hk:K x Q w):ld (.sc s) (Addr.add ⟨b,0,none⟩ i) K Q w :=
 ⟨x,by rw [Z3,Nat.zero_add]; exact (B.cell i).trans hx,hk⟩
theorem fld0 {b:Nat} {T:TypeId} {cs:List Value} {s:Sc} {i:Nat} {K:s.T→W R} (B:Blk w b T cs) {x:s.T} (hx:cs[i]?=some (s.e x)) (hk:K x Q w):ld (.sc s) ⟨b,i,none⟩ K Q w :=
 ⟨x,(B.cell i).trans hx,hk⟩
theorem aggI {b:Nat} {T:TypeId} {cs:List Value} {l:List Sc} {K:Tup Sc.T l→W R} (B:Blk w b T cs) {x:Tup Sc.T l} (hx:cs=Tup.e Sc.e l x) (hk:K x Q w):ld (.agg l) ⟨b,0,none⟩ K Q w :=
 ⟨x,by subst hx; exact B.cells 0 _ (fun j u h=>by rw [Nat.zero_add]; exact h),hk⟩
theorem aggI' {b o:Nat} {T:TypeId} {cs:List Value} {l:List Sc} {K:Tup Sc.T l→W R} (B:Blk w b T cs) {x:Tup Sc.T l} (hx:∀ j u,(Tup.e Sc.e l x)[j]?=some u→cs[o+j]?=some u) (hk:K x Q w):ld (.agg l) ⟨b,o,none⟩ K Q w :=
 ⟨x,B.cells o _ hx,hk⟩
theorem setI {b:Nat} {T:TypeId} {cs:List Value} {i:Nat} {v:Value} {K:W R} (B:Blk w b T cs) (hi:i < cs.length) (h1:v.oneCell'=true)
  (hk:∀ w',Blk w' b T (cs.set i v)→Fr (fun k=>k=b) w w'→w'.heap.size=w.heap.size→K Q w'):stoL ⟨b,i,none⟩ [v] 0 K Q w :=
 stoBlk (o:=i) [v] 0 B (by simp; omega) (by simpa using h1) fun w' hb hf hs=>hk w' (by simpa [putAt] using hb) hf hs
theorem idxB {b:Nat} {n sz:Nat} {i:Int} (h0:0≤i) (h1:i < n) {o:Nat} {K:Addr→W R} (hk:K ⟨b,o+i.toNat * sz,none⟩ Q w):idxW (some ⟨b,o,none⟩) n sz i K Q w :=
 ⟨_,rfl,h0,h1,by rw [Z3]; exact hk⟩
theorem ptrI {a:Addr} {K:Addr→W R} (hk:K a Q w):ptrW (some a) K Q w:=hk
theorem chkI {c:Prop} {K:W R} (h:c) (hk:K Q w):chkW c K Q w:=⟨h,hk⟩
theorem Fr.newer {a b c:World} {T:Nat→Prop} (h:Fr None a b) (k:Fr T b c) (ht:∀ x,T x→a.heap.size≤x):Fr None a c:=h.thenNew k ht
theorem forI {σ:Type} {step:(σ→W R)→σ→W R} {done:σ→W R} {s0:σ} {N:Nat} (idx:σ→Int) (P:Nat→σ→World→Prop)
  (h0:P 0 s0 w) (hi:∀ j s w',P j s w'→idx s=j)
  (hs:∀ j s w' (K:σ→W R),j < N→P j s w'→idx s=j→(∀ s' w'',P (j+1) s' w''→K s' Q w'')→step K s Q w') (hd:∀ s w',P N s w'→done s Q w') :
  loopW (fun K s=>cond (decide (idx s < (N:Int))) (step K s) (done s)) s0 Q w:=by
 refine loopI (fun s w'=>∃ j,j≤N∧P j s w') (fun s _=>N - (idx s).toNat) ⟨0,Nat.zero_le _,h0⟩ ?_
 rintro s w' ⟨j,hj,hp⟩
 have e:=hi j s w' hp
 rcases Nat.lt_or_ge j N with hlt | hge
 ·refine condT (by simp [e]; omega) ?_
  refine hs j s w' _ hlt hp e ?_
  intro s' w'' hp'
  refine ⟨⟨j+1,hlt,hp'⟩,?_⟩
  rw [hi _ _ _ hp',e]
  omega
 ·have:j=N:=by omega
  subst this
  exact condF (by simp [e]) (hd s w' hp)
theorem wsucc {j N:Nat} (h:j < N) (hN:N≤9223372036854775807):IntKind.wrap .i64 ((j:Int)+1)=((j+1:Nat):Int):=by rw [w64 (by omega)]; rfl
def slTyB (P:Program) (T E:TypeId) (t:Ty) (bytes:Nat):Bool:=match P.underlying T,P.info? E with
 | some (.slice E'),some i=>Nat.beq E' E && (match i.zero with
  | some z=>Nat.beq i.size t.size && Nat.beq i.bytes bytes && Nat.beq z.cells.size t.size
  | none=>false) && Nat.blt 0 t.size && t.fine
 | _,_=>false
theorem slTy {P:Program} {T E:TypeId} {t:Ty} {bytes:Nat} (h:slTyB P T E t bytes=true):SlTy P T E t bytes:=by
 unfold slTyB at h
 split at h
 ·rename_i E' i h1 h2
  simp only [Bool.and_eq_true] at h
  obtain ⟨⟨⟨hE,hz⟩,hp⟩,hf⟩:=h
  have:=Nat.eq_of_beq_eq_true hE
  subst this
  split at hz
  ·rename_i z hz1
   simp only [Bool.and_eq_true] at hz
   exact ⟨h1,⟨i,z,h2,hz1,Nat.eq_of_beq_eq_true hz.1.1,Nat.eq_of_beq_eq_true hz.1.2,Nat.eq_of_beq_eq_true hz.2⟩,by simpa [Nat.blt_eq] using hp,hf⟩
  ·cases hz
 ·cases h
theorem app1 {P:Program} {T E ty:TypeId} {t:Ty} {bytes:Nat} (H:SlTy P T E t bytes) {S S':Nat→Prop} {s:Sl} {l:List t.T} {b:Nat} {T':TypeId} {cs:List Value} {x:t.T} (h:Own S w E t s l) (B:Blk w b T' cs) (hc:cs=t.cells x)
  (hb:(l.length+1) * bytes≤140737488355328) (hm:l.length+1≤maxLen) (h1:∀ k,S k→S' k) (h1':S' w.heap.size) {K:Sl→W R}
  (hk:∀ r w',Own S' w' E t r (l ++ [x])→Fr (fun k=>s.v.ownBlock=some k) w w'→w'.heap.size≤w.heap.size+1→K r Q w'):rawW P (Builtin.append_ #[T,T] ty #[.slice s.a s.n s.c,.slice (some ⟨b,0,none⟩) 1 1]) [.sc .sl] K Q w:=by
 have h2:SlT (fun _=>True) w t ⟨some ⟨b,0,none⟩,1,1⟩ [x]:=by
  refine ⟨rfl,Nat.le_refl _,.inr ⟨b,0,rfl,trivial,B.lt,fun i y hy=>?_⟩⟩
  rcases i with _ | i
  ·simp at hy
   subst hy
   subst hc
   exact Rd.cells.2 (B.cells _ _ (fun j u hj=>by rw [Nat.zero_add,Nat.zero_mul,Nat.zero_add]; exact hj))
  ·simp at hy
 exact appI H h h2 hb hm h1 h1' hk
theorem SlT.get {ok:Nat→Prop} {t:Ty} {s:Sl} {l:List t.T} (h:SlT ok w t s l) {sz:Nat} (hsz:sz=t.size) {i:Int} {j:Nat} (hi:i=j) (hj:j < l.length) {K:t.T→W R} (hk:∀ x,l[j]?=some x→K x Q w) :
  idxW s.a s.n sz i (fun a=>ld t a K) Q w:=by
 subst hi
 refine h.idx hsz (by omega) (by omega) fun a x hx hr=>ldI x hr (hk x (by simpa using hx))
theorem Zqr {α:Type} {l:List α} {j:Nat} {x:α} (h:l[j]?=some x):l.drop j=x :: l.drop (j+1):=by
 obtain ⟨hl,he⟩:=List.getElem?_eq_some_iff.1 h
 rw [List.drop_eq_getElem_cons hl,he]
theorem Z1q {α:Type} {l:List α} {j:Nat} {x:α} (h:l[j]?=some x):l.take (j+1)=l.take j ++ [x]:=by
 rw [List.take_add_one,h]; rfl
abbrev Up (n:Nat):Nat→Prop:=fun k=>n≤k
theorem Fr.up {n:Nat} {a b:World} (h:Fr None a b):Fr (Up n) a b:=h.mono fun _ _ h=>h.elim
theorem Fr.upLe {n m:Nat} {a b:World} (h:Fr (Up n) a b) (hn:m≤n):Fr (Up m) a b:=h.mono fun _ _ h=>Nat.le_trans hn h
theorem Fr.ofUp {n:Nat} {a b:World} (h:Fr (Up n) a b) (hn:a.heap.size≤n):Fr None a b:=h.mono fun x hx h=>by have:n≤x:=h; omega
theorem Fr.thenUp {n:Nat} {a b c:World} (h:Fr None a b) (k:Fr (Up n) b c) (hn:a.heap.size≤n):Fr None a c:=h.newer k fun _ e=>Nat.le_trans hn e
theorem Own.up {n m:Nat} {E:TypeId} {t:Ty} {s:Sl} {l:List t.T} (h:Own (Up n) w E t s l) (hn:m≤n):Own (Up m) w E t s l:=h.mono fun _ _ h=>Nat.le_trans hn h
theorem Own.none {S:Nat→Prop} {w':World} {E:TypeId} {t:Ty} {s:Sl} {l:List t.T} (h:Own S w E t s l) (f:Fr None w w'):Own S w' E t s l:=h.fr f fun _ _ h=>h
theorem appF {P:Program} {T E ty:TypeId} {t:Ty} {bytes:Nat} (H:SlTy P T E t bytes) {n:Nat} {o:Sl} {lo:List t.T} {x:t.T} {cs:List Value} (hc:cs=t.cells x) (ho:Own (Up n) w E t o lo) (hn:n≤w.heap.size)
  (hb:(lo.length+1) * bytes≤140737488355328) (hm:lo.length+1≤9223372036854775807) {K:Sl→W R}
  (hk:∀ r w',Own (Up n) w' E t r (lo ++ [x])→Fr (fun k=>o.v.ownBlock=some k) w w'→(∀ k,r.v.ownBlock=some k→o.v.ownBlock=some k∨w.heap.size≤k)→K r Q w'):newW E cs (fun a=>rawW P (Builtin.append_ #[T,T] ty #[.slice o.a o.n o.c,.slice (some a) 1 1]) [.sc .sl] K) Q w:=by
 subst hc
 refine newI fun w2 B2 f2 s2=>?_
 have ho2:Own (fun k=>o.v.ownBlock=some k) w2 E t o lo:=⟨(ho.none f2).row,fun k h=>h⟩
 refine app1 (S':=fun k=>o.v.ownBlock=some k∨w.heap.size≤k) H ho2 B2 rfl hb (by rw [Zn]; exact hm) (fun _ h=>.inl h) (.inr (by omega)) fun r w3 o3 f3 s3=>?_
 refine hk r w3 (o3.mono fun k _ h=>?_) (f2.trans f3 (fun _ h=>h.elim) (fun x _ e=>e)) o3.own
 rcases h with h | h
 ·exact ho.own k h
 ·exact Nat.le_trans hn h
theorem Sl.own (s:Sl):s.v.ownBlock=s.a.map (·.block):=by
 obtain ⟨a,n,c⟩:=s
 cases a <;> rfl
theorem Own.lt {S:Nat→Prop} {E:TypeId} {t:Ty} {s:Sl} {l:List t.T} (h:Own S w E t s l) {k:Nat} (e:s.v.ownBlock=some k):k < w.heap.size:=(h.row.lt k e).2
theorem Own.upFr {n:Nat} {v w':World} {E:TypeId} {t:Ty} {s:Sl} {l:List t.T} (h:Own (Up n) v E t s l) (f:Fr (fun k=>s.v.ownBlock=some k) w w'):Fr (Up n) w w':=f.mono fun _ _ e=>h.own _ e
theorem Fr.thenOwn {n:Nat} {a b c v:World} {E:TypeId} {t:Ty} {s:Sl} {l:List t.T} (h:Fr (Up n) a b) (o:Own (Up n) v E t s l) (f:Fr (fun k=>s.v.ownBlock=some k) b c):Fr (Up n) a c:=h.then (o.upFr f)
theorem Blk.frUp {n:Nat} {w':World} {b:Nat} {T:TypeId} {cs:List Value} (h:Blk w b T cs) (f:Fr (Up n) w w') (hb:b < n):Blk w' b T cs:=h.fr f fun e=>by have:n≤b:=e; omega
theorem SlT.frUp {ok:Nat→Prop} {n:Nat} {w':World} {t:Ty} {s:Sl} {l:List t.T} (h:SlT ok w t s l) (f:Fr (Up n) w w') (hn:w.heap.size≤n):SlT ok w' t s l:=h.fr0 (f.ofUp hn)
theorem bothI {X Y:W R} (h1:X Q w) (h2:Y Q w):bothW X Y Q w:=⟨h1,h2⟩
theorem andI {p:World→Prop} {X:W R} (h:p w) (hx:X Q w):andW p X Q w:=⟨h,hx⟩
theorem Blk.rd {b:Nat} {T:TypeId} {cs:List Value} (B:Blk w b T cs) {s:Sc} {i:Nat} {x:s.T} (hx:cs[i]?=some (s.e x)):Rd w (Addr.add ⟨b,0,none⟩ i) (.sc s) x:=by
 rw [Z3,Nat.zero_add]
 exact (B.cell i).trans hx
theorem setA {b:Nat} {T:TypeId} {cs:List Value} {i:Nat} {v:Value} {K:W R} (B:Blk w b T cs) (hi:i < cs.length) (h1:v.oneCell'=true)
  (hk:∀ w',Blk w' b T (cs.set i v)→Fr (fun k=>k=b) w w'→w'.heap.size=w.heap.size→K Q w'):stoL (Addr.add ⟨b,0,none⟩ i) [v] 0 K Q w:=by
 rw [Z3,Nat.zero_add]
 exact setI B hi h1 hk
end Go.Proofs.YtoiahhpgkoknfaaGreat.Den
namespace Go.Proofs.YtoiahhpgkoknfaaGreat.Den
open Go Go.RowKit
variable {R:Type} {Q:R→World→Prop} {w:World} {P:Program}
def eqFs (P:Program) (rec:TypeId→Value→Value→Option Bool) (xs ys:Array Value):List Field→Option Bool
 | []=>some true
 | f :: fs => bif f.name == "_" then eqFs P rec xs ys fs else match pv P (part f.type xs f.offset), pv P (part f.type ys f.offset) with
  | some a,some b=>match rec f.type a b,eqFs P rec xs ys fs with
   | some r,some s=>some (r && s)
   | _,_=>none
  | _,_=>none
def eqIs (P:Program) (rec:TypeId→Value→Value→Option Bool) (e:TypeId) (c:Nat) (xs ys:Array Value):List Nat→Option Bool
 | []=>some true
 | i :: is=>match pv P (part e xs (i * c)),pv P (part e ys (i * c)) with
  | some a,some b=>match rec e a b,eqIs P rec e c xs ys is with
   | some r,some s=>some (r && s)
   | _,_=>none
  | _,_=>none
def eqV (P:Program):Nat→TypeId→Value→Value→Option Bool
 | 0,_,_,_=>none
 | d+1,t,x,y=>match P.underlying t,x,y with
  | some .bool,.bool a,.bool b=>some (a == b)
  | some (.int _),.int k a,.int k' b=>(match k,k' with
   | .i64,.i64=>some (a == b) | .i32,.i32=>some (a == b) | .u32,.u32=>some (a == b) | .u8,.u8=>some (a == b) | .u64,.u64=>some (a == b) | .u16,.u16=>some (a == b)
   | _,_=>none)
  | some .string,.string a,.string b=>some (a.toList == b.toList)
  | some (.struct _),.agg xs,.agg ys=>bif P.stoodInHeld t then none else eqFs P (eqV P d) xs ys (P.fieldsOf t).toList
  | some (.array n e),.agg xs,.agg ys=>bif (P.info? e).isSome then eqIs P (eqV P d) e (P.cellsOf e) xs ys (List.range n) else none
  | _,_,_=>none
theorem Zl6 {rec:TypeId→Value→Value→Option Bool} {d:Nat} (hr:∀ t x y r,rec t x y=some r→∀ w,(Op.equalIn d t x y).run P w=.ok r w) (xs ys:Array Value) :
  ∀ (fs:List Field) (r:Bool),eqFs P rec xs ys fs=some r→∀ w,(Op.eqFields d xs ys fs).run P w=.ok r w
 | [],r,h,w=>by simp only [eqFs] at h; cases h; simp [Op.eqFields]
 | f :: fs,r,h,w=>by
  simp only [eqFs] at h
  cases hn : (f.name == "_") with
  | true =>
   rw [hn] at h
   have : ¬ (f.name ≠ "_") := by simpa using hn
   rw [Op.eqFields,if_neg this]
   exact Zl6 hr xs ys fs r h w
  | false =>
   rw [hn] at h
   have hne : f.name ≠ "_" := by simpa using hn
   simp only [cond_false] at h
   split at h
   ·rename_i a b ha hb
    split at h
    ·rename_i r1 s1 h1 h2
     cases h
     rw [Op.eqFields,if_pos hne]
     simp only [Sem.run_bind,Zfe ha w,Zfe hb w,hr _ _ _ _ h1 w,Result.andThen_ok]
     cases r1
     ·simp
     ·simpa using Zl6 hr xs ys fs s1 h2 w
    ·cases h
   ·cases h
theorem Zou {rec:TypeId→Value→Value→Option Bool} {d:Nat} (hr:∀ t x y r,rec t x y=some r→∀ w,(Op.equalIn d t x y).run P w=.ok r w) (e:TypeId) (c:Nat) (xs ys:Array Value) :
  ∀ (is:List Nat) (r:Bool),eqIs P rec e c xs ys is=some r→∀ w,(Op.eqItems d e c xs ys is).run P w=.ok r w
 | [],r,h,w=>by simp only [eqIs] at h; cases h; simp [Op.eqItems]
 | i :: is,r,h,w=>by
  simp only [eqIs] at h
  split at h
  ·rename_i a b ha hb
   split at h
   ·rename_i r1 s1 h1 h2
    cases h
    rw [Op.eqItems]
    simp only [Sem.run_bind,Zfe ha w,Zfe hb w,hr _ _ _ _ h1 w,Result.andThen_ok]
    cases r1
    ·simp
    ·simpa using Zou hr e c xs ys is s1 h2 w
   ·cases h
  ·cases h
theorem Zqu:∀ (m:Nat) (t:TypeId) (x y:Value) (r:Bool),eqV P m t x y=some r→∀ d,m≤d→∀ w,(Op.equalIn d t x y).run P w=.ok r w
 | 0,_,_,_,_,h,_,_,_=>by simp [eqV] at h
 | m+1,t,x,y,r,h,d,hd,w=>by
  obtain ⟨d,rfl⟩:∃ d',d=d'+1:=⟨d - 1,by omega⟩
  have ih:=fun t x y r h=>Zqu m t x y r h d (by omega)
  simp only [eqV] at h
  split at h
  ·rename_i a b hu; cases h; exact run_equalIn_bool' w d t _ _ hu
  ·rename_i k a k' b hu
   split at h <;> first | (cases h; done) | (cases h; exact run_equalIn_int w d t _ _ _ _ hu)
  ·rename_i a b hu; cases h; exact run_equalIn_string w d t _ _ hu
  ·rename_i fs xs ys hu
   cases hs:P.stoodInHeld t with
   | true=>rw [hs] at h; cases h
   | false =>
    rw [hs] at h
    have hf:P.fieldsOf t=fs:=by simp [Program.fieldsOf,hu]
    rw [run_equalIn_agg w d t xs ys (by rw [hf]; exact hu) hs]
    exact Zl6 ih xs ys _ r h w
  ·rename_i n e xs ys hu
   cases hi:P.info? e with
   | none=>rw [hi] at h; cases h
   | some i =>
    rw [hi] at h
    rw [run_equalIn_array w d xs ys hu hi]
    exact Zou ih e _ xs ys _ r h w
  ·cases h
theorem neqI {T:TypeId} {a b:Operand} {xs ys:Array Value} {r:Bool} {K:Bool→W R} (hg:P.eqGuardType P.depth T=false) (h:eqV P 9 T (.agg xs) (.agg ys)=some r) (hk:K (!r) Q w) :
  rawQ P (do Go.eqGuard .neq T a b (.agg xs) (.agg ys); Go.binOp .neq T (.agg xs) (.agg ys)) [.sc .bool] K Q w:=by
 refine ⟨!r,?_,hk⟩
 rw [Sem.run_bind,run_eqGuard_agg (P:=P) w _ _ _ _ _ _ hg]
 simp only [Result.andThen_ok]
 rw [run_neq_struct,Zqu 9 T _ _ r h 10000 (by omega)]
 rfl
end Go.Proofs.YtoiahhpgkoknfaaGreat.Den
namespace Go.Proofs.YtoiahhpgkoknfaaGreat
open Go Go.Proofs.YtoiahhpgkoknfaaGreat.Den
theorem mix:Tryz.prog.follows .mixedOrders=true:=by kernel_rfl
abbrev Z8z:Nat:=3
abbrev Z4t:Nat:=15
abbrev Z8r:Nat:=16
abbrev Z41:Nat:=17
abbrev Z20:Nat:=18
abbrev Z21:Nat:=19
abbrev Z37:Nat:=20
abbrev Z45:Nat:=21
abbrev Z5u:Nat:=22
abbrev Z4u:Nat:=23
abbrev Z63:Nat:=26
abbrev Z2v:Nat:=29
abbrev Z4w:Nat:=31
abbrev Z58:Nat:=42
abbrev Z2j:Nat:=48
abbrev Z31:Nat:=63
abbrev Zdx:Nat:=64
abbrev Zc0:Nat:=65
abbrev Z4r:Nat:=66
abbrev Zbz:Nat:=67
abbrev Z4s:Nat:=68
abbrev Z9z:Nat:=69
abbrev Zb1:Nat:=70
abbrev Z8p:Nat:=71
abbrev Z64:Nat:=72
abbrev Z4x:Nat:=73
abbrev Z38:Nat:=74
abbrev Z62:Nat:=75
abbrev Z6k:Nat:=76
abbrev Z2k:Nat:=82
abbrev Z5c:Nat:=83
abbrev Z5t:Nat:=84
abbrev Z3v:Nat:=86
abbrev Z5s:Nat:=87
abbrev Z5f:Nat:=100
abbrev Z5d:Nat:=101
abbrev Z5o:Nat:=111
abbrev Z74:Nat:=114
abbrev Z32:Nat:=115
abbrev Z16:Nat:=122
abbrev Zdw:Nat:=123
abbrev Z6m:Nat:=124
abbrev Zdu:Nat:=125
abbrev Z8l:Nat:=126
abbrev Z6z:Nat:=127
abbrev Za0:Nat:=128
abbrev Z17:Nat:=129
abbrev Z2y:Nat:=130
abbrev Z3l:Nat:=131
abbrev Z8q:Nat:=132
abbrev Z15:Nat:=133
abbrev Z3i:Nat:=134
abbrev Z1:Nat:=135
abbrev Z4a:Nat:=136
abbrev Z5z:Nat:=137
abbrev Z4g:Nat:=138
abbrev Z28:Nat:=139
abbrev Z26:Nat:=140
abbrev Z3g:Nat:=141
abbrev Z5p:Nat:=142
abbrev Z3f:Nat:=143
abbrev Z40:Nat:=144
abbrev Z2x:Nat:=145
abbrev Z2l:Nat:=146
abbrev Z5a:Nat:=147
abbrev Z5r:Nat:=148
abbrev Z3z:Nat:=149
abbrev Z59:Nat:=151
abbrev Z3h:Nat:=157
abbrev Z5n:Nat:=162
abbrev Z8o:Nat:=163
abbrev Z5v:Nat:=164
abbrev Z9x:Nat:=165
abbrev Zdv:Nat:=166
abbrev Zc3:Nat:=169
abbrev Z76:Nat:=172
abbrev Z1k:Nat:=175
abbrev Z4i:Nat:=176
abbrev Z7u:Nat:=177
abbrev Zc1:Nat:=178
abbrev Zb0:Nat:=179
abbrev Z6d:Nat:=180
abbrev Zd6:Nat:=181
abbrev Zc2:Nat:=182
abbrev Z6f:Nat:=183
abbrev Zay:Nat:=184
abbrev Z4k:Nat:=185
abbrev Z1j:Nat:=186
abbrev Z5y:Nat:=187
abbrev Z61:Nat:=188
abbrev Z2d:Nat:=189
abbrev Zby:Nat:=190
abbrev Zaz:Nat:=191
abbrev Zdt:Nat:=192
abbrev Zh:Nat:=193
abbrev Z9o:Nat:=194
abbrev Z2e:Nat:=195
abbrev Z55:Nat:=196
abbrev Z36:Nat:=197
abbrev Z4v:Nat:=198
abbrev Zk:Nat:=199
abbrev Z5b:Nat:=200
abbrev Z5q:Nat:=201
abbrev Z60:Nat:=202
abbrev Z44:Nat:=217
abbrev Z43:Nat:=218
abbrev Z6i:Nat:=219
abbrev Z51:Nat:=220
abbrev Z8m:Nat:=221
abbrev Z7p:Nat:=222
abbrev Z7q:Nat:=224
abbrev Z8k:Nat:=225
abbrev Z2n:Nat:=226
abbrev Z1m:Nat:=227
abbrev Z4f:Nat:=228
abbrev Z7v:Nat:=229
abbrev Zb2:Nat:=230
abbrev Z4h:Nat:=231
abbrev Z6y:Nat:=232
abbrev Z13:Nat:=233
abbrev Z1u:Nat:=234
abbrev Z12:Nat:=235
abbrev Z1f:Nat:=236
abbrev Z1c:Nat:=237
abbrev Zg:Nat:=238
abbrev Zz:Nat:=239
abbrev Z1p:Nat:=240
abbrev Z4j:Nat:=241
abbrev Z3j:Nat:=243
abbrev Z2m:Nat:=244
abbrev Z3w:Nat:=256
abbrev Z2z:Nat:=257
abbrev Z42:Nat:=258
abbrev Z50:Nat:=259
abbrev Z29:Nat:=260
abbrev Z4y:Nat:=261
abbrev Z3k:Nat:=262
abbrev Zc:Nat:=263
abbrev Z4z:Nat:=265
abbrev Z6g:Nat:=266
abbrev Z6j:Nat:=267
abbrev Z30:Nat:=268
abbrev Z1r:Nat:=269
abbrev Zy:Nat:=270
abbrev Z6:Nat:=271
abbrev Z19:Nat:=272
abbrev Z8n:Nat:=277
abbrev Zbh:Nat:=278
abbrev Z9y:Nat:=279
abbrev Z70:Nat:=288
abbrev Z5x:Nat:=289
abbrev Z7o:Nat:=290
abbrev Z6h:Nat:=291
abbrev Zl:Nat:=292
abbrev Z5w:Nat:=298
abbrev Zm:Nat:=299
abbrev Z1b:Nat:=302
abbrev Z23:Nat:=303
abbrev Z1a:Nat:=304
abbrev Z1l:Nat:=305
abbrev Z1h:Nat:=306
abbrev Zj:Nat:=307
abbrev Z5:Nat:=308
abbrev Z14:Nat:=309
abbrev Z1v:Nat:=310
abbrev Z10:Nat:=311
abbrev Z7:Nat:=312
abbrev Z1g:Nat:=313
abbrev Z75:Nat:=314
abbrev Zr:Nat:=315
end Go.Proofs.YtoiahhpgkoknfaaGreat
set_option linter.unusedVariables false
namespace Go.Proofs.YtoiahhpgkoknfaaGreat
open Go Go.Proofs.YtoiahhpgkoknfaaGreat.Den
def Z99 (l0:Sl) (n1:Int):W (Sl) :=
 loopW (σ:=Sl × Int) (fun K_1 s_2 =>
  cond (decide (s_2.2 < (l0.n:Int)))
   (idxW l0.a l0.n 4 s_2.2 fun x_3 =>
  ld (.agg [.int .u8,.int .u32,.int .u8,.sl]) x_3 fun (x_4:(Int × Int × Int × Sl)) =>
  newW 37 [.int .u8 0,.int .u32 0,.int .u8 0,.slice none 0 0] fun o_5 =>
  stoL o_5 [.int .u8 x_4.1,.int .u32 x_4.2.1,.int .u8 x_4.2.2.1,.slice x_4.2.2.2.a x_4.2.2.2.n x_4.2.2.2.c] 0 <|
  joinW (σ:=Sl) (fun J_6 =>
   cond (decide (s_2.2 < n1))
    (ld (.sc .sl) (Addr.add o_5 3) fun (x_7:Sl) =>
    ld (.sc .sl) (Addr.add o_5 3) fun (x_8:Sl) =>
    slcW x_7.a x_7.n x_7.c 4 none (some (if 20 < (x_8.n:Int) then 20 else (x_8.n:Int))) fun x_9 =>
    stoL (Addr.add o_5 3) [.slice x_9.a x_9.n x_9.c] 0 <|
    ld (.agg [.int .u8,.int .u32,.int .u8,.sl]) o_5 fun (x_10:(Int × Int × Int × Sl)) =>
    newW 37 [.int .u8 x_10.1,.int .u32 x_10.2.1,.int .u8 x_10.2.2.1,.slice x_10.2.2.2.a x_10.2.2.2.n x_10.2.2.2.c] fun x_11 =>
    rawW Tryz.prog (Builtin.append_ #[30,30] 30 #[.slice s_2.1.a s_2.1.n s_2.1.c,.slice (some x_11) 1 1]) [.sc .sl] fun (x_12:Sl) =>
    J_6 x_12)
    (J_6 s_2.1))
  <| fun s_13 =>
  K_1 (s_13,IntKind.wrap .i64 (s_2.2+1)))
   (retW s_2.1))
  ((⟨none,0,0⟩:Sl),0)
theorem Zeh {R:Type} (l0:Sl) (n1:Int) (K:Res [.sc .sl]→W R) (Q:R→World→Prop) (w:World) (h:Z99 l0 n1 (fun r w=>K r Q w) w):callW Tryz.prog Z41 [.slice l0.a l0.n l0.c,.int .i64 n1] [.sc .sl] K Q w:=den_c (K:=K) mix Tryz.func17 { con:=[(7017,[(5,.sc .sl)])],lop:=[(0,[(5,.sc .sl),(10,.sc (.int .i64))])] } trivial rfl (by kernel_rfl) h
def Z4n (a0:Sl) (b1:Sl):W (Bool) :=
 cond ((a0.n:Int) != (b1.n:Int))
  (retW false)
  (loopW (σ:=Int) (fun K_1 s_2 =>
  cond (decide (s_2 < (a0.n:Int)))
   (drawW <|
  idxW a0.a a0.n 2 s_2 fun x_3 =>
  ld (.agg [.int .i64,.int .u32]) x_3 fun (x_4:(Int × Int)) =>
  idxW b1.a b1.n 2 s_2 fun x_5 =>
  ld (.agg [.int .i64,.int .u32]) x_5 fun (x_6:(Int × Int)) =>
  rawQ Tryz.prog (do Go.eqGuard .neq 71 (.tmp 19) (.tmp 23) (.agg ⟨[.int .i64 x_4.1,.int .u32 x_4.2]⟩) (.agg ⟨[.int .i64 x_6.1,.int .u32 x_6.2]⟩); Go.binOp .neq 71 (.agg ⟨[.int .i64 x_4.1,.int .u32 x_4.2]⟩) (.agg ⟨[.int .i64 x_6.1,.int .u32 x_6.2]⟩)) [.sc .bool] fun (x_7:Bool) =>
  cond x_7
   (retW false)
   (K_1 (IntKind.wrap .i64 (s_2+1))))
   (retW true))
  0)
theorem Z8w {R:Type} (a0:Sl) (b1:Sl) (K:Res [.sc .bool]→W R) (Q:R→World→Prop) (w:World) (h:Z4n a0 b1 (fun r w=>K r Q w) w):callW Tryz.prog Z2v [.slice a0.a a0.n a0.c,.slice b1.a b1.n b1.c] [.sc .bool] K Q w:=den_c (K:=K) mix Tryz.func29 { lop:=[(0,[(13,.sc (.int .i64))])],dr:=[(6,([],[[(0,[]),(1,[]),(2,[]),(3,[]),(4,[]),(5,[]),(6,[]),(7,[]),(8,[])]]))] } trivial rfl (by kernel_rfl) h
def Z7f (s0:Option Addr) (l1:Sl):W (Int × Int) :=
 cond (Option.isNone s0)
  (retW (0,10))
  (callW Tryz.prog Z2k [.slice l1.a l1.n l1.c] [.sc (.int .i64)] fun (x_1:Int) =>
 cond (x_1 != 0)
  (retW (0,x_1))
  (ptrW s0 fun x_2 =>
 ld (.sc .ptr) (Addr.add x_2 0) fun (x_3:Option Addr) =>
 callW Tryz.prog Z5c [.pointer x_3] [.sc (.int .u32),.sc (.int .i64)] fun (x_4:Int × Int) =>
 joinW (σ:=Unit) (fun J_5 =>
  cond (x_4.2 == 0)
   (callW Tryz.prog Z5t [.pointer s0,.int .u32 x_4.1,.slice l1.a l1.n l1.c] [] fun (x_6:Unit) =>
   J_5 ())
   (J_5 ()))
 <| fun s_7 =>
 retW (x_4.1,x_4.2)))
theorem Zcq {R:Type} (s0:Option Addr) (l1:Sl) (K:Res [.sc (.int .u32),.sc (.int .i64)]→W R) (Q:R→World→Prop) (w:World) (h:Z7f s0 l1 (fun r w=>K r Q w) w):callW Tryz.prog Z4w [.pointer s0,.slice l1.a l1.n l1.c] [.sc (.int .u32),.sc (.int .i64)] K Q w:=den_c (K:=K) mix Tryz.func31 { con:=[(9025,[])] } trivial rfl (by kernel_rfl) h
def Z85 (l0:Sl):W (Sl) :=
 newW 52 [] fun x_1 =>
 rawW Tryz.prog (Builtin.append_ #[35,35] 35 #[.slice (some x_1) 0 0,.slice l0.a l0.n l0.c]) [.sc .sl] fun (x_2:Sl) =>
 retW x_2
theorem Zde {R:Type} (l0:Sl) (K:Res [.sc .sl]→W R) (Q:R→World→Prop) (w:World) (h:Z85 l0 (fun r w=>K r Q w) w):callW Tryz.prog Z58 [.slice l0.a l0.n l0.c] [.sc .sl] K Q w:=den_c (K:=K) mix Tryz.func42 {} trivial rfl (by kernel_rfl) h
def Z82 (l0:Sl) (kind1:Int):W (Int) :=
 loopW (σ:=Int) (fun K_1 s_2 =>
  cond (decide (s_2 < (l0.n:Int)))
   (idxW l0.a l0.n 4 s_2 fun x_3 =>
  ld (.agg [.int .u8,.int .i32,.int .i32,.int .i32]) x_3 fun (x_4:(Int × Int × Int × Int)) =>
  newW 52 [.int .u8 0,.int .i32 0,.int .i32 0,.int .i32 0] fun c_5 =>
  stoL c_5 [.int .u8 x_4.1,.int .i32 x_4.2.1,.int .i32 x_4.2.2.1,.int .i32 x_4.2.2.2] 0 <|
  ld (.sc (.int .u8)) (Addr.add c_5 0) fun (x_6:Int) =>
  cond (x_6 == kind1)
   (retW s_2)
   (K_1 (IntKind.wrap .i64 (s_2+1))))
   (retW (-1)))
  0
theorem Zdb {R:Type} (l0:Sl) (kind1:Int) (K:Res [.sc (.int .i64)]→W R) (Q:R→World→Prop) (w:World) (h:Z82 l0 kind1 (fun r w=>K r Q w) w):callW Tryz.prog Z2j [.slice l0.a l0.n l0.c,.int .u8 kind1] [.sc (.int .i64)] K Q w:=den_c (K:=K) mix Tryz.func48 { lop:=[(0,[(9,.sc (.int .i64))])] } trivial rfl (by kernel_rfl) h
def Zhx (n0:Int) (first1:Int):W ((Option Addr) × Int) :=
 callW Tryz.prog Zdw [.int .i64 n0,.int .i64 first1] [.sc .ptr,.sc (.int .i64)] fun (x_1:(Option Addr) × Int) =>
 cond (x_1.2 != 0)
  (retW (none,x_1.2))
  (rawW Tryz.prog (Instr.makeMap 204 none) [.sc .map] fun (x_2:Option Nat) =>
 rawW Tryz.prog (Instr.makeMap 205 none) [.sc .map] fun (x_3:Option Nat) =>
 newW 207 [.pointer x_1.1,.map x_2,.map x_3] fun x_4 =>
 retW ((some x_4),0))
theorem Zno {R:Type} (n0:Int) (first1:Int) (K:Res [.sc .ptr,.sc (.int .i64)]→W R) (Q:R→World→Prop) (w:World) (h:Zhx n0 first1 (fun r w=>K r Q w) w):callW Tryz.prog Zdx [.int .i64 n0,.int .i64 first1] [.sc .ptr,.sc (.int .i64)] K Q w:=den_c (K:=K) mix Tryz.func64 {} trivial rfl (by kernel_rfl) h
def Zgn :W ((Option Addr)) :=
 newW 209 [.slice none 0 0] fun x_1 =>
 retW (some x_1)
theorem Zm2 {R:Type}  (K:Res [.sc .ptr]→W R) (Q:R→World→Prop) (w:World) (h:Zgn (fun r w=>K r Q w) w):callW Tryz.prog Zc0 [] [.sc .ptr] K Q w:=den_c (K:=K) mix Tryz.func65 {} trivial rfl (by kernel_rfl) h
def Z78 (b0:Option Addr) (o1:(Int × Int × Int × Sl)):W (Int) :=
 newW 37 [.int .u8 o1.1,.int .u32 o1.2.1,.int .u8 o1.2.2.1,.slice o1.2.2.2.a o1.2.2.2.n o1.2.2.2.c] fun o_1 =>
 cond (Option.isNone b0)
  (retW 10)
  (ld (.agg [.int .u8,.int .u32,.int .u8,.sl]) o_1 fun (x_2:(Int × Int × Int × Sl)) =>
 callW Tryz.prog Z6m [.agg ⟨[.int .u8 x_2.1,.int .u32 x_2.2.1,.int .u8 x_2.2.2.1,.slice x_2.2.2.2.a x_2.2.2.2.n x_2.2.2.2.c]⟩] [.sc (.int .i64)] fun (x_3:Int) =>
 cond (x_3 != 0)
  (retW x_3)
  (ptrW b0 fun x_4 =>
 ld (.sc .sl) (Addr.add x_4 0) fun (x_5:Sl) =>
 cond (decide ((x_5.n:Int) ≥ 256))
  (retW 8)
  (ld (.sc .sl) (Addr.add o_1 3) fun (x_6:Sl) =>
 callW Tryz.prog Z5d [.slice x_6.a x_6.n x_6.c] [.sc .sl] fun (x_7:Sl) =>
 stoL (Addr.add o_1 3) [.slice x_7.a x_7.n x_7.c] 0 <|
 drawW <|
 ptrW b0 fun x_8 =>
 ld (.sc .sl) (Addr.add x_8 0) fun (x_9:Sl) =>
 ld (.agg [.int .u8,.int .u32,.int .u8,.sl]) o_1 fun (x_10:(Int × Int × Int × Sl)) =>
 newW 37 [.int .u8 x_10.1,.int .u32 x_10.2.1,.int .u8 x_10.2.2.1,.slice x_10.2.2.2.a x_10.2.2.2.n x_10.2.2.2.c] fun x_11 =>
 rawW Tryz.prog (Builtin.append_ #[30,30] 30 #[.slice x_9.a x_9.n x_9.c,.slice (some x_11) 1 1]) [.sc .sl] fun (x_12:Sl) =>
 ptrW b0 fun x_13 =>
 stoL (Addr.add x_13 0) [.slice x_12.a x_12.n x_12.c] 0 <|
 retW 0)))
theorem Zcj {R:Type} (b0:Option Addr) (o1:(Int × Int × Int × Sl)) (K:Res [.sc (.int .i64)]→W R) (Q:R→World→Prop) (w:World) (h:Z78 b0 o1 (fun r w=>K r Q w) w):callW Tryz.prog Z4r [.pointer b0,.agg ⟨[.int .u8 o1.1,.int .u32 o1.2.1,.int .u8 o1.2.2.1,.slice o1.2.2.2.a o1.2.2.2.n o1.2.2.2.c]⟩] [.sc (.int .i64)] K Q w:=den_c (K:=K) mix Tryz.func66 { dr:=[(9,([],[[(0,[]),(1,[]),(2,[]),(3,[]),(4,[]),(5,[]),(6,[]),(7,[]),(8,[]),(9,[]),(10,[])]]))] } trivial rfl (by kernel_rfl) h
def Zgm (s0:Option Addr) (l1:Sl):W (Sl) :=
 loopW (σ:=Sl × Int) (fun K_1 s_2 =>
  cond (decide (s_2.2 < (l1.n:Int)))
   (idxW l1.a l1.n 4 s_2.2 fun x_3 =>
  ld (.agg [.int .u8,.int .u32,.int .u8,.sl]) x_3 fun (x_4:(Int × Int × Int × Sl)) =>
  newW 37 [.int .u8 0,.int .u32 0,.int .u8 0,.slice none 0 0] fun o_5 =>
  stoL o_5 [.int .u8 x_4.1,.int .u32 x_4.2.1,.int .u8 x_4.2.2.1,.slice x_4.2.2.2.a x_4.2.2.2.n x_4.2.2.2.c] 0 <|
  ld (.agg [.int .u8,.int .u32,.int .u8,.sl]) o_5 fun (x_6:(Int × Int × Int × Sl)) =>
  callW Tryz.prog Zdu [.pointer s0,.agg ⟨[.int .u8 x_6.1,.int .u32 x_6.2.1,.int .u8 x_6.2.2.1,.slice x_6.2.2.2.a x_6.2.2.2.n x_6.2.2.2.c]⟩] [.agg [.int .i64,.int .u32]] fun (x_7:(Int × Int)) =>
  newW 71 [.int .i64 x_7.1,.int .u32 x_7.2] fun x_8 =>
  rawW Tryz.prog (Builtin.append_ #[39,39] 39 #[.slice s_2.1.a s_2.1.n s_2.1.c,.slice (some x_8) 1 1]) [.sc .sl] fun (x_9:Sl) =>
  K_1 (x_9,IntKind.wrap .i64 (s_2.2+1)))
   (retW s_2.1))
  ((⟨none,0,0⟩:Sl),0)
theorem Zm1 {R:Type} (s0:Option Addr) (l1:Sl) (K:Res [.sc .sl]→W R) (Q:R→World→Prop) (w:World) (h:Zgm s0 l1 (fun r w=>K r Q w) w):callW Tryz.prog Zbz [.pointer s0,.slice l1.a l1.n l1.c] [.sc .sl] K Q w:=den_c (K:=K) mix Tryz.func67 { lop:=[(0,[(5,.sc .sl),(10,.sc (.int .i64))])] } trivial rfl (by kernel_rfl) h
def Z79 (b0:Option Addr):W (Sl) :=
 cond (Option.isNone b0)
  (retW (⟨none,0,0⟩:Sl))
  (ptrW b0 fun x_1 =>
 ld (.sc .sl) (Addr.add x_1 0) fun (x_2:Sl) =>
 ptrW b0 fun x_3 =>
 stoL (Addr.add x_3 0) [.slice none 0 0] 0 <|
 callW Tryz.prog Z8l [.slice x_2.a x_2.n x_2.c] [.sc .sl] fun (x_4:Sl) =>
 retW x_4)
theorem Zck {R:Type} (b0:Option Addr) (K:Res [.sc .sl]→W R) (Q:R→World→Prop) (w:World) (h:Z79 b0 (fun r w=>K r Q w) w):callW Tryz.prog Z4s [.pointer b0] [.sc .sl] K Q w:=den_c (K:=K) mix Tryz.func68 {} trivial rfl (by kernel_rfl) h
def Zf1 (s0:Option Addr):W (Sl) :=
 callW Tryz.prog Z4a [.pointer s0] [.sc .ptr] fun (x_1:(Option Addr)) =>
 callW Tryz.prog Z5z [.pointer x_1] [.sc .sl] fun (x_2:Sl) =>
 retW x_2
theorem Zeo {R:Type} (s0:Option Addr) (K:Res [.sc .sl]→W R) (Q:R→World→Prop) (w:World) (h:Zf1 s0 (fun r w=>K r Q w) w):callW Tryz.prog Z62 [.pointer s0] [.sc .sl] K Q w:=den_c (K:=K) mix Tryz.func75 {} trivial rfl (by kernel_rfl) h
def Z83 (l0:Sl):W (Int) :=
 loopW (σ:=Int × Int) (fun K_1 s_2 =>
  cond (decide (s_2.2 < (l0.n:Int)))
   (idxW l0.a l0.n 4 s_2.2 fun x_3 =>
  ld (.agg [.int .u8,.int .i32,.int .i32,.int .i32]) x_3 fun (x_4:(Int × Int × Int × Int)) =>
  newW 52 [.int .u8 0,.int .i32 0,.int .i32 0,.int .i32 0] fun c_5 =>
  stoL c_5 [.int .u8 x_4.1,.int .i32 x_4.2.1,.int .i32 x_4.2.2.1,.int .i32 x_4.2.2.2] 0 <|
  ld (.agg [.int .u8,.int .i32,.int .i32,.int .i32]) c_5 fun (x_6:(Int × Int × Int × Int)) =>
  callW Tryz.prog Z26 [.agg ⟨[.int .u8 x_6.1,.int .i32 x_6.2.1,.int .i32 x_6.2.2.1,.int .i32 x_6.2.2.2]⟩] [.sc (.int .i64)] fun (x_7:Int) =>
  cond (x_7 != 0)
   (retW x_7)
   (ld (.sc (.int .u8)) (Addr.add c_5 0) fun (x_8:Int) =>
  cond (decide ((IntKind.wrap .i64 x_8)≤s_2.1))
   (retW 4)
   (ld (.sc (.int .u8)) (Addr.add c_5 0) fun (x_9:Int) =>
  K_1 (IntKind.wrap .i64 x_9,IntKind.wrap .i64 (s_2.2+1)))))
   (retW 0))
  ((-1),0)
theorem Zdc {R:Type} (l0:Sl) (K:Res [.sc (.int .i64)]→W R) (Q:R→World→Prop) (w:World) (h:Z83 l0 (fun r w=>K r Q w) w):callW Tryz.prog Z2k [.slice l0.a l0.n l0.c] [.sc (.int .i64)] K Q w:=den_c (K:=K) mix Tryz.func82 { lop:=[(0,[(3,.sc (.int .i64)),(9,.sc (.int .i64))])] } trivial rfl (by kernel_rfl) h
def Z8b (d0:Option Addr):W (Int × Int) :=
 cond (Option.isNone d0)
  (retW (0,10))
  (ptrW d0 fun x_1 =>
 ld (.sc .sl) (Addr.add x_1 1) fun (x_2:Sl) =>
 loopW (σ:=Int × Int) (fun K_3 s_4 =>
  cond (decide (s_4.2 < (x_2.n:Int)))
   (idxW x_2.a x_2.n 3 s_4.2 fun x_5 =>
  ld (.agg [.int .i64,.bool,.int .i64]) x_5 fun (x_6:(Int × Bool × Int)) =>
  newW 229 [.int .i64 0,.bool false,.int .i64 0] fun x_7 =>
  stoL x_7 [.int .i64 x_6.1,.bool x_6.2.1,.int .i64 x_6.2.2] 0 <|
  joinW (σ:=Bool) (fun J_8 =>
   drawW <|
   ld (.sc (.int .i64)) (Addr.add x_7 2) fun (x_9:Int) =>
   cond (decide (x_9 > 0))
    (cond (decide (s_4.1 < 0))
       (J_8 true)
       (ld (.sc (.int .i64)) (Addr.add x_7 2) fun (x_10:Int) =>
        ptrW d0 fun x_11 =>
          ld (.sc .sl) (Addr.add x_11 1) fun (x_12 : Sl) =>
              idxW x_12.a x_12.n 3 s_4.1 fun x_13 =>
                ld (.sc (.int .i64)) (Addr.add x_13 2) fun (x_14 : Int) =>
                    J_8 (decide (x_10 > x_14))))
    (J_8 false))
  <| fun s_15 =>
  joinW (σ:=Int) (fun J_16 =>
   cond s_15
    (J_16 s_4.2)
    (J_16 s_4.1))
  <| fun s_17 =>
  K_3 (s_17,IntKind.wrap .i64 (s_4.2+1)))
   (loopW (σ:=Int × Int) (fun K_18 s_19 =>
  joinW (σ:=Bool) (fun J_20 =>
   cond (decide (s_19.1 < 0))
    (ptrW d0 fun x_21 =>
      ld (.sc .sl) (Addr.add x_21 1) fun (x_22 : Sl) =>
          J_20 (decide (s_19.2 < (x_22.n:Int))))
    (J_20 false))
  <| fun s_23 =>
  cond s_23
   (ptrW d0 fun x_24 =>
  ld (.sc .sl) (Addr.add x_24 1) fun (x_25:Sl) =>
  idxW x_25.a x_25.n 3 s_19.2 fun x_26 =>
  ld (.sc (.int .i64)) (Addr.add x_26 0) fun (x_27:Int) =>
  joinW (σ:=Int) (fun J_28 =>
   cond (x_27 == 0)
    (J_28 s_19.2)
    (J_28 s_19.1))
  <| fun s_29 =>
  K_18 (s_29,IntKind.wrap .i64 (s_19.2+1)))
   (cond (decide (s_19.1 < 0))
  (retW (0,8))
  (ptrW d0 fun x_30 =>
 ld (.sc .sl) (Addr.add x_30 1) fun (x_31:Sl) =>
 idxW x_31.a x_31.n 3 s_19.1 fun x_32 =>
 ld (.sc (.int .i64)) (Addr.add x_32 0) fun (x_33:Int) =>
 joinW (σ:=Int) (fun J_34 =>
  cond ((IntKind.wrap .i64 (x_33+1)) == 1)
   (ptrW d0 fun x_35 =>
   ld (.sc (.int .i64)) (Addr.add x_35 0) fun (x_36:Int) =>
   J_34 x_36)
   (J_34 (IntKind.wrap .i64 (x_33+1))))
 <| fun s_37 =>
 ptrW d0 fun x_38 =>
 ld (.sc .sl) (Addr.add x_38 1) fun (x_39:Sl) =>
 idxW x_39.a x_39.n 3 s_19.1 fun x_40 =>
 stoL x_40 [.int .i64 s_37,.bool true,.int .i64 0] 0 <|
 callW Tryz.prog Z3g [.int .i64 s_19.1,.int .i64 s_37] [.sc (.int .u32),.sc (.int .i64)] fun (x_41:Int × Int) =>
 retW (x_41.1,x_41.2))))
  (s_4.1,0)))
  ((-1),0))
theorem Zdk {R:Type} (d0:Option Addr) (K:Res [.sc (.int .u32),.sc (.int .i64)]→W R) (Q:R→World→Prop) (w:World) (h:Z8b d0 (fun r w=>K r Q w) w):callW Tryz.prog Z5c [.pointer d0] [.sc (.int .u32),.sc (.int .i64)] K Q w:=den_c (K:=K) mix Tryz.func83 { reg:=[(7,[(40,.sc .bool)]),(11,[(53,.sc .bool)])],con:=[(9040,[(4,.sc (.int .i64))]),(15064,[(4,.sc (.int .i64))]),(20078,[(8,.sc (.int .i64))])],lop:=[(0,[(4,.sc (.int .i64)),(16,.sc (.int .i64))]),(2,[(4,.sc (.int .i64)),(7,.sc (.int .i64))])],dr:=[(7,([],[[(0,[]),(1,[]),(2,[]),(3,[]),(4,[]),(5,[]),(6,[]),(7,[]),(8,[]),(9,[]),(10,[]),(11,[]),(12,[]),(13,[]),(14,[]),(15,[]),(16,[]),(17,[]),(18,[]),(19,[])]]))] } trivial rfl (by kernel_rfl) h
def Z98 (s0:Option Addr) (id1:Int) (l2:Sl):W (Unit) :=
 drawW <|
 ptrW s0 fun x_1 =>
 callW Tryz.prog Z3f [.slice l2.a l2.n l2.c] [.sc (.int .u8)] fun (x_2:Int) =>
 idxW (some (Addr.add x_1 1)) 64 2 x_2 fun x_3 =>
 callW Tryz.prog Z5p [.pointer (some x_3),.int .u32 id1,.slice l2.a l2.n l2.c] [.sc (.int .i64)] fun (x_4:Int) =>
 retW ()
theorem Zeg {R:Type} (s0:Option Addr) (id1:Int) (l2:Sl) (K:Res []→W R) (Q:R→World→Prop) (w:World) (h:Z98 s0 id1 l2 (fun r w=>K r Q w) w):callW Tryz.prog Z5t [.pointer s0,.int .u32 id1,.slice l2.a l2.n l2.c] [] K Q w:=den_c (K:=K) mix Tryz.func84 { dr:=[(0,([],[[(0,[]),(1,[]),(3,[]),(4,[]),(6,[]),(7,[]),(2,[]),(5,[]),(8,[])]]))] } trivial rfl (by kernel_rfl) h
def Z69 (s0:Option Addr) (id1:Int):W (Int) :=
 callW Tryz.prog Z40 [.pointer s0,.int .u32 id1] [.agg [.int .u32,.sl],.sc (.int .i64)] fun (x_1:(Int × Sl) × Int) =>
 newW 49 [.int .u32 0,.slice none 0 0] fun x_2 =>
 stoL x_2 [.int .u32 x_1.1.1,.slice x_1.1.2.a x_1.1.2.n x_1.1.2.c] 0 <|
 cond (x_1.2 != 0)
  (retW x_1.2)
  (callW Tryz.prog Z2l [.pointer s0,.int .u32 id1] [.sc .ptr] fun (x_3:(Option Addr)) =>
 callW Tryz.prog Z2x [.pointer x_3,.int .u32 id1] [.sc .sl,.sc (.int .i64)] fun (x_4:Sl × Int) =>
 ptrW s0 fun x_5 =>
 ld (.sc .ptr) (Addr.add x_5 0) fun (x_6:Option Addr) =>
 callW Tryz.prog Z5a [.pointer x_6,.int .u32 id1] [.sc (.int .i64)] fun (x_7:Int) =>
 retW x_7)
theorem Zbd {R:Type} (s0:Option Addr) (id1:Int) (K:Res [.sc (.int .i64)]→W R) (Q:R→World→Prop) (w:World) (h:Z69 s0 id1 (fun r w=>K r Q w) w):callW Tryz.prog Z3v [.pointer s0,.int .u32 id1] [.sc (.int .i64)] K Q w:=den_c (K:=K) mix Tryz.func86 {} trivial rfl (by kernel_rfl) h
def Z97 (s0:Option Addr) (id1:Int) (c2:(Int × Int × Int × Int)):W (Int) :=
 newW 52 [.int .u8 c2.1,.int .i32 c2.2.1,.int .i32 c2.2.2.1,.int .i32 c2.2.2.2] fun c_1 =>
 cond (Option.isNone s0)
  (retW 10)
  (ld (.agg [.int .u8,.int .i32,.int .i32,.int .i32]) c_1 fun (x_2:(Int × Int × Int × Int)) =>
 callW Tryz.prog Z26 [.agg ⟨[.int .u8 x_2.1,.int .i32 x_2.2.1,.int .i32 x_2.2.2.1,.int .i32 x_2.2.2.2]⟩] [.sc (.int .i64)] fun (x_3:Int) =>
 cond (x_3 != 0)
  (retW x_3)
  (ld (.sc (.int .u8)) (Addr.add c_1 0) fun (x_4:Int) =>
 callW Tryz.prog Z5r [.pointer s0,.int .u32 id1,.int .u8 x_4] [.agg [.int .u8,.int .i32,.int .i32,.int .i32],.sc (.int .i64)] fun (x_5:(Int × Int × Int × Int) × Int) =>
 newW 52 [.int .u8 0,.int .i32 0,.int .i32 0,.int .i32 0] fun x_6 =>
 stoL x_6 [.int .u8 x_5.1.1,.int .i32 x_5.1.2.1,.int .i32 x_5.1.2.2.1,.int .i32 x_5.1.2.2.2] 0 <|
 cond (x_5.2 != 0)
  (retW x_5.2)
  (drawW <|
 ld (.agg [.int .u8,.int .i32,.int .i32,.int .i32]) c_1 fun (x_7:(Int × Int × Int × Int)) =>
 callW Tryz.prog Z2l [.pointer s0,.int .u32 id1] [.sc .ptr] fun (x_8:(Option Addr)) =>
 andW (fun w=>Rd w c_1 (.agg [.int .u8,.int .i32,.int .i32,.int .i32]) x_7) <|
 callW Tryz.prog Z3z [.pointer x_8,.int .u32 id1,.agg ⟨[.int .u8 x_7.1,.int .i32 x_7.2.1,.int .i32 x_7.2.2.1,.int .i32 x_7.2.2.2]⟩] [.sc (.int .i64)] fun (x_9:Int) =>
 retW x_9)))
theorem Zef {R:Type} (s0:Option Addr) (id1:Int) (c2:(Int × Int × Int × Int)) (K:Res [.sc (.int .i64)]→W R) (Q:R→World→Prop) (w:World) (h:Z97 s0 id1 c2 (fun r w=>K r Q w) w):callW Tryz.prog Z5s [.pointer s0,.int .u32 id1,.agg ⟨[.int .u8 c2.1,.int .i32 c2.2.1,.int .i32 c2.2.2.1,.int .i32 c2.2.2.2]⟩] [.sc (.int .i64)] K Q w:=den_c (K:=K) mix Tryz.func87 { dr:=[(9,([],[[(0,[]),(1,[]),(3,[]),(4,[]),(2,[4]),(5,[]),(6,[])]]))] } trivial rfl (by kernel_rfl) h
def Zs (s0:Sl) (del1c0:Option Addr):W (Sl) :=
 callW Tryz.prog Z28 [.slice s0.a s0.n s0.c,.func (.func 263) #[] #[.pointer del1c0]] [.sc (.int .i64)] fun (x_1:Int) =>
 cond (x_1 == (-1))
  (retW s0)
  (loopW (σ:=Int × Int) (fun K_2 s_3 =>
  cond (decide (s_3.2 < (s0.n:Int)))
   (idxW s0.a s0.n 4 s_3.2 fun x_4 =>
  ld (.agg [.int .u8,.int .i32,.int .i32,.int .i32]) x_4 fun (x_5:(Int × Int × Int × Int)) =>
  newW 52 [.int .u8 0,.int .i32 0,.int .i32 0,.int .i32 0] fun v_6 =>
  stoL v_6 [.int .u8 x_5.1,.int .i32 x_5.2.1,.int .i32 x_5.2.2.1,.int .i32 x_5.2.2.2] 0 <|
  ld (.agg [.int .u8,.int .i32,.int .i32,.int .i32]) v_6 fun (x_7:(Int × Int × Int × Int)) =>
  callW Tryz.prog Zc [.agg ⟨[.int .u8 x_7.1,.int .i32 x_7.2.1,.int .i32 x_7.2.2.1,.int .i32 x_7.2.2.2]⟩,.pointer del1c0] [.sc .bool] fun (x_8:Bool) =>
  joinW (σ:=Int) (fun J_9 =>
   cond (!x_8)
    (ld (.agg [.int .u8,.int .i32,.int .i32,.int .i32]) v_6 fun (x_10:(Int × Int × Int × Int)) =>
    idxW s0.a s0.n 4 s_3.1 fun x_11 =>
    stoL x_11 [.int .u8 x_10.1,.int .i32 x_10.2.1,.int .i32 x_10.2.2.1,.int .i32 x_10.2.2.2] 0 <|
    J_9 (IntKind.wrap .i64 (s_3.1+1)))
    (J_9 s_3.1))
  <| fun s_12 =>
  K_2 (s_12,IntKind.wrap .i64 (s_3.2+1)))
   (slcW s0.a s0.n s0.c 4 (some s_3.1) none fun x_13 =>
 rawW Tryz.prog (Builtin.clear_ #[35] 0 #[.slice x_13.a x_13.n x_13.c]) [] fun (_:Unit) =>
 slcW s0.a s0.n s0.c 4 none (some s_3.1) fun x_15 =>
 retW x_15))
  (x_1,IntKind.wrap .i64 (x_1+1)))
theorem Z2o {R:Type} (s0:Sl) (del1c0:Option Addr) (K:Res [.sc .sl]→W R) (Q:R→World→Prop) (w:World) (h:Zs s0 del1c0 (fun r w=>K r Q w) w):callW Tryz.prog Z5f [.slice s0.a s0.n s0.c,.func (.func 263) #[] #[.pointer del1c0]] [.sc .sl] K Q w:=den_c (K:=K) mix Tryz.func100 { con:=[(10029,[(5,.sc (.int .i64))])],lop:=[(0,[(5,.sc (.int .i64)),(6,.sc (.int .i64))])] } trivial rfl (by kernel_rfl) h
def Z8e (s0:Sl):W (Sl) :=
 cond (Option.isNone s0.a)
  (retW (⟨none,0,0⟩:Sl))
  (newW 52 [] fun x_1 =>
 rawW Tryz.prog (Builtin.append_ #[35,35] 35 #[.slice (some x_1) 0 0,.slice s0.a s0.n s0.c]) [.sc .sl] fun (x_2:Sl) =>
 retW x_2)
theorem Zdn {R:Type} (s0:Sl) (K:Res [.sc .sl]→W R) (Q:R→World→Prop) (w:World) (h:Z8e s0 (fun r w=>K r Q w) w):callW Tryz.prog Z5d [.slice s0.a s0.n s0.c] [.sc .sl] K Q w:=den_c (K:=K) mix Tryz.func101 {} trivial rfl (by kernel_rfl) h
def Z90 (id0:Int):W (Int) :=
 retW (IntKind.wrap .i64 (Int.tdiv (IntKind.wrap .i64 id0) 1024))
theorem Ze8 {R:Type} (id0:Int) (K:Res [.sc (.int .i64)]→W R) (Q:R→World→Prop) (w:World) (h:Z90 id0 (fun r w=>K r Q w) w):callW Tryz.prog Z5o [.int .u32 id0] [.sc (.int .i64)] K Q w:=den_c (K:=K) mix Tryz.func111 {} trivial rfl (by kernel_rfl) h
def Zd2 (c0:(Int × Int × Int × Int)):W (Int) :=
 newW 52 [.int .u8 c0.1,.int .i32 c0.2.1,.int .i32 c0.2.2.1,.int .i32 c0.2.2.2] fun c_1 =>
 ld (.sc (.int .u8)) (Addr.add c_1 0) fun (x_2:Int) =>
 callW Tryz.prog Zdv [.int .u8 x_2] [.agg [.str,.bool,.sl]] fun (x_3:(ByteArray × Bool × Sl)) =>
 cond ((x_3.2.2.n:Int) == 0)
  (retW 1)
  (slcW (some (Addr.add c_1 1)) 3 3 1 (some (x_3.2.2.n:Int)) none fun x_4 =>
 loopW (σ:=Int) (fun K_5 s_6 =>
  cond (decide (s_6 < (x_4.n:Int)))
   (idxW x_4.a x_4.n 1 s_6 fun x_7 =>
  ld (.sc (.int .i32)) x_7 fun (x_8:Int) =>
  cond (x_8 != 0)
   (retW 4)
   (K_5 (IntKind.wrap .i64 (s_6+1))))
   (loopW (σ:=Int) (fun K_9 s_10 =>
  cond (decide (s_10 < (x_3.2.2.n:Int)))
   (idxW x_3.2.2.a x_3.2.2.n 3 s_10 fun x_11 =>
  ld (.agg [.str,.int .i32,.int .i32]) x_11 fun (x_12:(ByteArray × Int × Int)) =>
  newW 260 [.string ⟨#[]⟩,.int .i32 0,.int .i32 0] fun f_13 =>
  stoL f_13 [.string x_12.1,.int .i32 x_12.2.1,.int .i32 x_12.2.2] 0 <|
  joinW (σ:=Bool) (fun J_14 =>
   drawW <|
   idxW (some (Addr.add c_1 1)) 3 1 s_10 fun x_15 =>
   ld (.sc (.int .i32)) x_15 fun (x_16:Int) =>
   ld (.sc (.int .i32)) (Addr.add f_13 1) fun (x_17:Int) =>
   cond (decide (x_16 < x_17))
    (J_14 true)
    (idxW (some (Addr.add c_1 1)) 3 1 s_10 fun x_18 =>
      ld (.sc (.int .i32)) x_18 fun (x_19:Int) =>
       ld (.sc (.int .i32)) (Addr.add f_13 2) fun (x_20 : Int) =>
           J_14 (decide (x_19 > x_20))))
  <| fun s_21 =>
  cond s_21
   (retW 5)
   (K_9 (IntKind.wrap .i64 (s_10+1))))
   (retW 0))
  0))
  0)
theorem Zjk {R:Type} (c0:(Int × Int × Int × Int)) (K:Res [.sc (.int .i64)]→W R) (Q:R→World→Prop) (w:World) (h:Zd2 c0 (fun r w=>K r Q w) w):callW Tryz.prog Z32 [.agg ⟨[.int .u8 c0.1,.int .i32 c0.2.1,.int .i32 c0.2.2.1,.int .i32 c0.2.2.2]⟩] [.sc (.int .i64)] K Q w:=den_c (K:=K) mix Tryz.func115 { reg:=[(13,[(49,.sc .bool)])],lop:=[(0,[(20,.sc (.int .i64))]),(2,[(29,.sc (.int .i64))])],dr:=[(13,([],[[(0,[]),(1,[]),(2,[]),(3,[]),(4,[]),(5,[]),(6,[]),(7,[]),(8,[]),(9,[]),(10,[]),(11,[]),(12,[]),(13,[]),(14,[]),(15,[])]]))] } trivial rfl (by kernel_rfl) h
def Zab (s0:Option Addr) (id1:Int) (kind2:Int):W ((Int × Int × Int × Int) × Int) :=
 newW 52 [.int .u8 0,.int .i32 0,.int .i32 0,.int .i32 0] fun x_1 =>
 callW Tryz.prog Z1k [.pointer s0,.int .u32 id1] [.sc .ptr,.sc (.int .i64)] fun (x_2:(Option Addr) × Int) =>
 cond (x_2.2 != 0)
  (stoL x_1 [.int .u8 0,.int .i32 0,.int .i32 0,.int .i32 0] 0 <|
  ld (.agg [.int .u8,.int .i32,.int .i32,.int .i32]) x_1 fun (x_3:(Int × Int × Int × Int)) =>
  retW (x_3,x_2.2))
  (callW Tryz.prog Z4i [.pointer x_2.1,.int .u32 id1,.int .u8 kind2] [.agg [.int .u8,.int .i32,.int .i32,.int .i32],.sc (.int .i64)] fun (x_4:(Int × Int × Int × Int) × Int) =>
 stoL x_1 [.int .u8 x_4.1.1,.int .i32 x_4.1.2.1,.int .i32 x_4.1.2.2.1,.int .i32 x_4.1.2.2.2] 0 <|
 ld (.agg [.int .u8,.int .i32,.int .i32,.int .i32]) x_1 fun (x_5:(Int × Int × Int × Int)) =>
 retW (x_5,x_4.2))
theorem Zfz {R:Type} (s0:Option Addr) (id1:Int) (kind2:Int) (K:Res [.agg [.int .u8,.int .i32,.int .i32,.int .i32],.sc (.int .i64)]→W R) (Q:R→World→Prop) (w:World) (h:Zab s0 id1 kind2 (fun r w=>K r Q w) w):callW Tryz.prog Z16 [.pointer s0,.int .u32 id1,.int .u8 kind2] [.agg [.int .u8,.int .i32,.int .i32,.int .i32],.sc (.int .i64)] K Q w:=den_c (K:=K) mix Tryz.func122 {} ⟨by kernel_rfl,trivial⟩ rfl (by kernel_rfl) h
def Zhw (n0:Int) (first1:Int):W ((Option Addr) × Int) :=
 joinW (σ:=Bool) (fun J_1 =>
  cond (decide (n0 < 1))
   (J_1 true)
   (cond (decide (n0 > 1024))
     (J_1 true)
     (cond (decide (first1 < 1))
       (J_1 true)
       (J_1 (decide (first1 > 4194303))))))
 <| fun s_2 =>
 cond s_2
  (retW (none,1))
  (joinW (σ:=(Option Addr) × Int) (fun J_3 =>
  drawW <|
  bothW
   (rawW Tryz.prog (Instr.makeSlice 273 (.int .i64 n0) (.int .i64 n0)) [.sc .sl] fun (x_4:Sl) =>
   rawW Tryz.prog (Instr.makeSlice 274 (.int .i64 n0) (.int .i64 n0)) [.sc .sl] fun (x_5:Sl) =>
   newW 276 [.int .i64 first1,.slice x_4.a x_4.n x_4.c,.slice x_5.a x_5.n x_5.c,.slice none 0 0,.int .i64 0,.int .i64 0] fun x_6 =>
   J_3 ((some x_6),0))
   (rawW Tryz.prog (Instr.makeSlice 274 (.int .i64 n0) (.int .i64 n0)) [.sc .sl] fun (x_7:Sl) =>
   rawW Tryz.prog (Instr.makeSlice 273 (.int .i64 n0) (.int .i64 n0)) [.sc .sl] fun (x_8:Sl) =>
   newW 276 [.int .i64 first1,.slice x_8.a x_8.n x_8.c,.slice x_7.a x_7.n x_7.c,.slice none 0 0,.int .i64 0,.int .i64 0] fun x_9 =>
   J_3 ((some x_9),0)))
 <| fun s_10 =>
 retW (s_10.1,s_10.2))
theorem Znn {R:Type} (n0:Int) (first1:Int) (K:Res [.sc .ptr,.sc (.int .i64)]→W R) (Q:R→World→Prop) (w:World) (h:Zhw n0 first1 (fun r w=>K r Q w) w):callW Tryz.prog Zdw [.int .i64 n0,.int .i64 first1] [.sc .ptr,.sc (.int .i64)] K Q w:=den_c (K:=K) mix Tryz.func123 { reg:=[(1,[(19,.sc .bool)]),(3,[(4,.sc .ptr),(5,.sc (.int .i64))])],dr:=[(3,([(2,4)],[[(0,[]),(1,[]),(3,[]),(2,[]),(4,[]),(5,[]),(6,[]),(7,[]),(8,[])],[(0,[]),(1,[]),(3,[]),(4,[]),(2,[]),(5,[]),(6,[]),(7,[]),(8,[])]]))] } trivial rfl (by kernel_rfl) h
def Zd0 (o0:(Int × Int × Int × Sl)):W (Int) :=
 newW 37 [.int .u8 o0.1,.int .u32 o0.2.1,.int .u8 o0.2.2.1,.slice o0.2.2.2.a o0.2.2.2.n o0.2.2.2.c] fun o_1 =>
 ld (.sc (.int .u8)) (Addr.add o_1 0) fun (x_2:Int) =>
 cond (x_2 == 1)
  (ld (.sc .sl) (Addr.add o_1 3) fun (x_3:Sl) =>
  callW Tryz.prog Z5v [.slice x_3.a x_3.n x_3.c] [.sc (.int .i64)] fun (x_4:Int) =>
  retW x_4)
  (cond (x_2 == 2)
   (ld (.sc .sl) (Addr.add o_1 3) fun (x_5:Sl) =>
   callW Tryz.prog Z7u [.slice x_5.a x_5.n x_5.c] [.sc (.int .i64)] fun (x_6:Int) =>
   retW x_6)
   (joinW (σ:=Bool) (fun J_7 =>
    cond (x_2 == 3)
     (J_7 (x_2 == 3))
     (J_7 (x_2 == 4)))
   <| fun s_8 =>
   cond s_8
    (ld (.sc .sl) (Addr.add o_1 3) fun (x_9:Sl) =>
    callW Tryz.prog Zc1 [.slice x_9.a x_9.n x_9.c] [.sc (.int .i64)] fun (x_10:Int) =>
    retW x_10)
    (joinW (σ:=Unit) (fun J_11 =>
     cond (x_2 == 5)
      (ld (.sc (.int .u8)) (Addr.add o_1 2) fun (x_12:Int) =>
      cond (decide (x_12 < 6))
       (ld (.sc .sl) (Addr.add o_1 3) fun (x_13:Sl) =>
       callW Tryz.prog Z7u [.slice x_13.a x_13.n x_13.c] [.sc (.int .i64)] fun (x_14:Int) =>
       retW x_14)
       (J_11 ()))
      (J_11 ()))
    <| fun s_15 =>
    retW 1)))
theorem Zji {R:Type} (o0:(Int × Int × Int × Sl)) (K:Res [.sc (.int .i64)]→W R) (Q:R→World→Prop) (w:World) (h:Zd0 o0 (fun r w=>K r Q w) w):callW Tryz.prog Z6m [.agg ⟨[.int .u8 o0.1,.int .u32 o0.2.1,.int .u8 o0.2.2.1,.slice o0.2.2.2.a o0.2.2.2.n o0.2.2.2.c]⟩] [.sc (.int .i64)] K Q w:=den_c (K:=K) mix Tryz.func124 { con:=[(8015,[(15,.sc .bool)]),(11021,[])] } trivial rfl (by kernel_rfl) h
def Zhs (s0:Option Addr) (o1:(Int × Int × Int × Sl)):W ((Int × Int)) :=
 newW 37 [.int .u8 o1.1,.int .u32 o1.2.1,.int .u8 o1.2.2.1,.slice o1.2.2.2.a o1.2.2.2.n o1.2.2.2.c] fun o_1 =>
 newW 71 [.int .i64 0,.int .u32 0] fun x_2 =>
 ld (.agg [.int .u8,.int .u32,.int .u8,.sl]) o_1 fun (x_3:(Int × Int × Int × Sl)) =>
 callW Tryz.prog Z6m [.agg ⟨[.int .u8 x_3.1,.int .u32 x_3.2.1,.int .u8 x_3.2.2.1,.slice x_3.2.2.2.a x_3.2.2.2.n x_3.2.2.2.c]⟩] [.sc (.int .i64)] fun (x_4:Int) =>
 cond (x_4 != 0)
  (stoL x_2 [.int .i64 x_4,.int .u32 0] 0 <|
  ld (.agg [.int .i64,.int .u32]) x_2 fun (x_5:(Int × Int)) =>
  retW x_5)
  (ld (.agg [.int .u8,.int .u32,.int .u8,.sl]) o_1 fun (x_6:(Int × Int × Int × Sl)) =>
 callW Tryz.prog Zb0 [.pointer s0,.agg ⟨[.int .u8 x_6.1,.int .u32 x_6.2.1,.int .u8 x_6.2.2.1,.slice x_6.2.2.2.a x_6.2.2.2.n x_6.2.2.2.c]⟩] [.sc (.int .u32),.sc (.int .i64)] fun (x_7:Int × Int) =>
 cond (x_7.2 != 0)
  (stoL x_2 [.int .i64 x_7.2,.int .u32 0] 0 <|
  ld (.agg [.int .i64,.int .u32]) x_2 fun (x_8:(Int × Int)) =>
  retW x_8)
  (stoL x_2 [.int .i64 0,.int .u32 x_7.1] 0 <|
 ld (.agg [.int .i64,.int .u32]) x_2 fun (x_9:(Int × Int)) =>
 retW x_9))
theorem Znk {R:Type} (s0:Option Addr) (o1:(Int × Int × Int × Sl)) (K:Res [.agg [.int .i64,.int .u32]]→W R) (Q:R→World→Prop) (w:World) (h:Zhs s0 o1 (fun r w=>K r Q w) w):callW Tryz.prog Zdu [.pointer s0,.agg ⟨[.int .u8 o1.1,.int .u32 o1.2.1,.int .u8 o1.2.2.1,.slice o1.2.2.2.a o1.2.2.2.n o1.2.2.2.c]⟩] [.agg [.int .i64,.int .u32]] K Q w:=den_c (K:=K) mix Tryz.func125 {} ⟨by kernel_rfl,trivial⟩ rfl (by kernel_rfl) h
def Z8d (s0:Sl):W (Sl) :=
 rawQ Tryz.prog (Instr.sliceAt 30 (.slice s0.a s0.n s0.c) none (some (.int .i64 (s0.n:Int))) (some (.int .i64 (s0.n:Int)))) [.sc .sl] fun (x_1:Sl) =>
 retW x_1
theorem Zdm {R:Type} (s0:Sl) (K:Res [.sc .sl]→W R) (Q:R→World→Prop) (w:World) (h:Z8d s0 (fun r w=>K r Q w) w):callW Tryz.prog Z8l [.slice s0.a s0.n s0.c] [.sc .sl] K Q w:=den_c (K:=K) mix Tryz.func126 {} trivial rfl (by kernel_rfl) h
def Zac (s0:Option Addr) (id1:Int) (c2:(Int × Int × Int × Int)):W (Int) :=
 newW 52 [.int .u8 c2.1,.int .i32 c2.2.1,.int .i32 c2.2.2.1,.int .i32 c2.2.2.2] fun c_1 =>
 ld (.agg [.int .u8,.int .i32,.int .i32,.int .i32]) c_1 fun (x_2:(Int × Int × Int × Int)) =>
 callW Tryz.prog Z32 [.agg ⟨[.int .u8 x_2.1,.int .i32 x_2.2.1,.int .i32 x_2.2.2.1,.int .i32 x_2.2.2.2]⟩] [.sc (.int .i64)] fun (x_3:Int) =>
 joinW (σ:=Bool) (fun J_4 =>
  cond (x_3 != 0)
   (J_4 (!Option.isNone s0))
   (J_4 false))
 <| fun s_5 =>
 cond s_5
  (retW x_3)
  (callW Tryz.prog Z1k [.pointer s0,.int .u32 id1] [.sc .ptr,.sc (.int .i64)] fun (x_6:(Option Addr) × Int) =>
 cond (x_6.2 != 0)
  (retW x_6.2)
  (ld (.agg [.int .u8,.int .i32,.int .i32,.int .i32]) c_1 fun (x_7:(Int × Int × Int × Int)) =>
 callW Tryz.prog Z4k [.pointer x_6.1,.int .u32 id1,.agg ⟨[.int .u8 x_7.1,.int .i32 x_7.2.1,.int .i32 x_7.2.2.1,.int .i32 x_7.2.2.2]⟩] [.sc (.int .i64)] fun (x_8:Int) =>
 retW x_8))
theorem Zg0 {R:Type} (s0:Option Addr) (id1:Int) (c2:(Int × Int × Int × Int)) (K:Res [.sc (.int .i64)]→W R) (Q:R→World→Prop) (w:World) (h:Zac s0 id1 c2 (fun r w=>K r Q w) w):callW Tryz.prog Z17 [.pointer s0,.int .u32 id1,.agg ⟨[.int .u8 c2.1,.int .i32 c2.2.1,.int .i32 c2.2.2.1,.int .i32 c2.2.2.2]⟩] [.sc (.int .i64)] K Q w:=den_c (K:=K) mix Tryz.func129 { reg:=[(2,[(17,.sc .bool)])] } trivial rfl (by kernel_rfl) h
def Z6s (s0:Option Addr) (id1:Int):W (Int) :=
 callW Tryz.prog Z1k [.pointer s0,.int .u32 id1] [.sc .ptr,.sc (.int .i64)] fun (x_1:(Option Addr) × Int) =>
 cond (x_1.2 != 0)
  (retW x_1.2)
  (callW Tryz.prog Z1j [.pointer x_1.1,.int .u32 id1] [.sc .sl,.sc (.int .i64)] fun (x_2:Sl × Int) =>
 ptrW s0 fun x_3 =>
 ld (.sc .map) (Addr.add x_3 2) fun (x_4:Option Nat) =>
 rawW Tryz.prog (Builtin.delete_ #[205,34] 0 #[.map x_4,.int .u32 id1]) [] fun (_:Unit) =>
 ptrW s0 fun x_6 =>
 ld (.sc .ptr) (Addr.add x_6 0) fun (x_7:Option Addr) =>
 callW Tryz.prog Z5y [.pointer x_7,.int .u32 id1] [.sc (.int .i64)] fun (x_8:Int) =>
 retW x_8)
theorem Zbm {R:Type} (s0:Option Addr) (id1:Int) (K:Res [.sc (.int .i64)]→W R) (Q:R→World→Prop) (w:World) (h:Z6s s0 id1 (fun r w=>K r Q w) w):callW Tryz.prog Z2y [.pointer s0,.int .u32 id1] [.sc (.int .i64)] K Q w:=den_c (K:=K) mix Tryz.func130 {} trivial rfl (by kernel_rfl) h
def Z8h (s0:Option Addr) (l1:Sl):W (Int × Int) :=
 cond (Option.isNone s0)
  (retW (0,10))
  (callW Tryz.prog Z5v [.slice l1.a l1.n l1.c] [.sc (.int .i64)] fun (x_1:Int) =>
 cond (x_1 != 0)
  (retW (0,x_1))
  (ptrW s0 fun x_2 =>
 ld (.sc .ptr) (Addr.add x_2 0) fun (x_3:Option Addr) =>
 callW Tryz.prog Z61 [.pointer x_3] [.sc (.int .u32),.sc (.int .i64)] fun (x_4:Int × Int) =>
 joinW (σ:=Unit) (fun J_5 =>
  cond (x_4.2 == 0)
   (callW Tryz.prog Z2d [.pointer s0,.int .u32 x_4.1,.slice l1.a l1.n l1.c] [] fun (x_6:Unit) =>
   J_5 ())
   (J_5 ()))
 <| fun s_7 =>
 retW (x_4.1,x_4.2)))
theorem Zdq {R:Type} (s0:Option Addr) (l1:Sl) (K:Res [.sc (.int .u32),.sc (.int .i64)]→W R) (Q:R→World→Prop) (w:World) (h:Z8h s0 l1 (fun r w=>K r Q w) w):callW Tryz.prog Z3l [.pointer s0,.slice l1.a l1.n l1.c] [.sc (.int .u32),.sc (.int .i64)] K Q w:=den_c (K:=K) mix Tryz.func131 { con:=[(9025,[])] } trivial rfl (by kernel_rfl) h
def Zgq (id0:Int):W (Int) :=
 retW (IntKind.wrap .i64 (Int.tmod id0 1024))
theorem Zbl {R:Type} (id0:Int) (K:Res [.sc (.int .i64)]→W R) (Q:R→World→Prop) (w:World) (h:Zgq id0 (fun r w=>K r Q w) w):callW Tryz.prog Z15 [.int .u32 id0] [.sc (.int .i64)] K Q w:=den_c (K:=K) mix Tryz.func133 {} trivial rfl (by kernel_rfl) h
def Zbs (s0:Option Addr):W ((Option Addr)) :=
 cond (Option.isNone s0)
  (retW none)
  (ptrW s0 fun x_1 =>
 ld (.sc .ptr) (Addr.add x_1 0) fun (x_2:Option Addr) =>
 retW x_2)
theorem Zbn {R:Type} (s0:Option Addr) (K:Res [.sc .ptr]→W R) (Q:R→World→Prop) (w:World) (h:Zbs s0 (fun r w=>K r Q w) w):callW Tryz.prog Z4a [.pointer s0] [.sc .ptr] K Q w:=den_c (K:=K) mix Tryz.func136 {} trivial rfl (by kernel_rfl) h
def Z9d (s0:Option Addr):W (Sl) :=
 cond (Option.isNone s0)
  (retW (⟨none,0,0⟩:Sl))
  (ptrW s0 fun x_1 =>
 ld (.sc .sl) (Addr.add x_1 2) fun (x_2:Sl) =>
 loopW (σ:=Sl × Int) (fun K_3 s_4 =>
  cond (decide (s_4.2 < (x_2.n:Int)))
   (idxW x_2.a x_2.n 1 s_4.2 fun x_5 =>
  ld (.sc .bool) x_5 fun (x_6:Bool) =>
  joinW (σ:=Sl) (fun J_7 =>
   cond x_6
    (ptrW s0 fun x_8 =>
    ld (.sc .sl) (Addr.add x_8 1) fun (x_9:Sl) =>
    idxW x_9.a x_9.n 1 s_4.2 fun x_10 =>
    ld (.sc (.int .i64)) x_10 fun (x_11:Int) =>
    callW Tryz.prog Z9o [.int .i64 s_4.2,.int .i64 x_11] [.sc (.int .u32),.sc (.int .i64)] fun (x_12:Int × Int) =>
    newW 34 [.int .u32 x_12.1] fun x_13 =>
    rawW Tryz.prog (Builtin.append_ #[62,62] 62 #[.slice s_4.1.a s_4.1.n s_4.1.c,.slice (some x_13) 1 1]) [.sc .sl] fun (x_14:Sl) =>
    J_7 x_14)
    (J_7 s_4.1))
  <| fun s_15 =>
  K_3 (s_15,IntKind.wrap .i64 (s_4.2+1)))
   (callW Tryz.prog Z76 [.slice s_4.1.a s_4.1.n s_4.1.c] [.sc .sl] fun (x_16:Sl) =>
 retW x_16))
  ((⟨none,0,0⟩:Sl),0))
theorem Zel {R:Type} (s0:Option Addr) (K:Res [.sc .sl]→W R) (Q:R→World→Prop) (w:World) (h:Z9d s0 (fun r w=>K r Q w) w):callW Tryz.prog Z5z [.pointer s0] [.sc .sl] K Q w:=den_c (K:=K) mix Tryz.func137 { con:=[(9020,[(3,.sc .sl)])],lop:=[(0,[(3,.sc .sl),(15,.sc (.int .i64))])] } trivial rfl (by kernel_rfl) h
def Zaa (s0:Option Addr) (id1:Int):W ((Int × Sl) × Int) :=
 newW 49 [.int .u32 0,.slice none 0 0] fun x_1 =>
 callW Tryz.prog Z1k [.pointer s0,.int .u32 id1] [.sc .ptr,.sc (.int .i64)] fun (x_2:(Option Addr) × Int) =>
 cond (x_2.2 != 0)
  (stoL x_1 [.int .u32 0,.slice none 0 0] 0 <|
  ld (.agg [.int .u32,.sl]) x_1 fun (x_3:(Int × Sl)) =>
  retW (x_3,x_2.2))
  (callW Tryz.prog Z2e [.pointer x_2.1,.int .u32 id1] [.sc (.int .i64),.sc .bool] fun (x_4:Int × Bool) =>
 callW Tryz.prog Z55 [.pointer x_2.1,.int .i64 x_4.1] [.agg [.int .u32,.sl],.sc .bool] fun (x_5:(Int × Sl) × Bool) =>
 newW 49 [.int .u32 0,.slice none 0 0] fun x_6 =>
 stoL x_6 [.int .u32 x_5.1.1,.slice x_5.1.2.a x_5.1.2.n x_5.1.2.c] 0 <|
 ld (.agg [.int .u32,.sl]) x_6 fun (x_7:(Int × Sl)) =>
 stoL x_1 [.int .u32 x_7.1,.slice x_7.2.a x_7.2.n x_7.2.c] 0 <|
 ld (.agg [.int .u32,.sl]) x_1 fun (x_8:(Int × Sl)) =>
 retW (x_8,0))
theorem Zfy {R:Type} (s0:Option Addr) (id1:Int) (K:Res [.agg [.int .u32,.sl],.sc (.int .i64)]→W R) (Q:R→World→Prop) (w:World) (h:Zaa s0 id1 (fun r w=>K r Q w) w):callW Tryz.prog Z4g [.pointer s0,.int .u32 id1] [.agg [.int .u32,.sl],.sc (.int .i64)] K Q w:=den_c (K:=K) mix Tryz.func138 {} ⟨by kernel_rfl,trivial⟩ rfl (by kernel_rfl) h
def Z11 (s0:Sl) (f1c0:Option Addr):W (Int) :=
 loopW (σ:=Int) (fun K_1 s_2 =>
  cond (decide (s_2 < (s0.n:Int)))
   (idxW s0.a s0.n 4 s_2 fun x_3 =>
  ld (.agg [.int .u8,.int .i32,.int .i32,.int .i32]) x_3 fun (x_4:(Int × Int × Int × Int)) =>
  callW Tryz.prog Z29 [.agg ⟨[.int .u8 x_4.1,.int .i32 x_4.2.1,.int .i32 x_4.2.2.1,.int .i32 x_4.2.2.2]⟩,.pointer f1c0] [.sc .bool] fun (x_5:Bool) =>
  cond x_5
   (retW s_2)
   (K_1 (IntKind.wrap .i64 (s_2+1))))
   (retW (-1)))
  0
theorem Z34 {R:Type} (s0:Sl) (f1c0:Option Addr) (K:Res [.sc (.int .i64)]→W R) (Q:R→World→Prop) (w:World) (h:Z11 s0 f1c0 (fun r w=>K r Q w) w):callW Tryz.prog Z28 [.slice s0.a s0.n s0.c,.func (.func 260) #[] #[.pointer f1c0]] [.sc (.int .i64)] K Q w:=den_c (K:=K) mix Tryz.func139 { lop:=[(0,[(8,.sc (.int .i64))])] } trivial rfl (by kernel_rfl) h
def Zu (s0:Sl) (f1c0:Option Addr):W (Int) :=
 loopW (σ:=Int) (fun K_1 s_2 =>
  cond (decide (s_2 < (s0.n:Int)))
   (idxW s0.a s0.n 4 s_2 fun x_3 =>
  ld (.agg [.int .u8,.int .i32,.int .i32,.int .i32]) x_3 fun (x_4:(Int × Int × Int × Int)) =>
  callW Tryz.prog Zc [.agg ⟨[.int .u8 x_4.1,.int .i32 x_4.2.1,.int .i32 x_4.2.2.1,.int .i32 x_4.2.2.2]⟩,.pointer f1c0] [.sc .bool] fun (x_5:Bool) =>
  cond x_5
   (retW s_2)
   (K_1 (IntKind.wrap .i64 (s_2+1))))
   (retW (-1)))
  0
theorem Z2s {R:Type} (s0:Sl) (f1c0:Option Addr) (K:Res [.sc (.int .i64)]→W R) (Q:R→World→Prop) (w:World) (h:Zu s0 f1c0 (fun r w=>K r Q w) w):callW Tryz.prog Z28 [.slice s0.a s0.n s0.c,.func (.func 263) #[] #[.pointer f1c0]] [.sc (.int .i64)] K Q w:=den_c (K:=K) mix Tryz.func139 { lop:=[(0,[(8,.sc (.int .i64))])] } trivial rfl (by kernel_rfl) h
def Z7c (c0:(Int × Int × Int × Int)):W (Int) :=
 newW 52 [.int .u8 c0.1,.int .i32 c0.2.1,.int .i32 c0.2.2.1,.int .i32 c0.2.2.2] fun c_1 =>
 ld (.sc (.int .u8)) (Addr.add c_1 0) fun (x_2:Int) =>
 callW Tryz.prog Z36 [.int .u8 x_2] [.sc (.int .i64)] fun (x_3:Int) =>
 cond (x_3 == 0)
  (retW 1)
  (loopW (σ:=Int) (fun K_4 s_5 =>
  cond (decide (s_5 < 3))
   (idxW (some (Addr.add c_1 1)) 3 1 s_5 fun x_6 =>
  ld (.sc (.int .i32)) x_6 fun (x_7:Int) =>
  cond (x_7 != 0)
   (retW 4)
   (K_4 (IntKind.wrap .i64 (s_5+1))))
   (loopW (σ:=Int) (fun K_8 s_9 =>
  cond (decide (s_9 < x_3))
   (ld (.sc (.int .u8)) (Addr.add c_1 0) fun (x_10:Int) =>
  callW Tryz.prog Z4v [.int .u8 x_10,.int .i64 s_9] [.sc (.int .i32),.sc (.int .i32),.sc (.int .i64)] fun (x_11:Int × Int × Int) =>
  joinW (σ:=Bool) (fun J_12 =>
   idxW (some (Addr.add c_1 1)) 3 1 s_9 fun x_13 =>
   ld (.sc (.int .i32)) x_13 fun (x_14:Int) =>
   cond (decide (x_14 < x_11.1))
    (J_12 true)
    (idxW (some (Addr.add c_1 1)) 3 1 s_9 fun x_15 =>
      ld (.sc (.int .i32)) x_15 fun (x_16:Int) =>
       J_12 (decide (x_16 > x_11.2.1))))
  <| fun s_17 =>
  cond s_17
   (retW 5)
   (K_8 (IntKind.wrap .i64 (s_9+1))))
   (retW 0))
  0))
  x_3)
theorem Zcn {R:Type} (c0:(Int × Int × Int × Int)) (K:Res [.sc (.int .i64)]→W R) (Q:R→World→Prop) (w:World) (h:Z7c c0 (fun r w=>K r Q w) w):callW Tryz.prog Z26 [.agg ⟨[.int .u8 c0.1,.int .i32 c0.2.1,.int .i32 c0.2.2.1,.int .i32 c0.2.2.2]⟩] [.sc (.int .i64)] K Q w:=den_c (K:=K) mix Tryz.func140 { reg:=[(13,[(49,.sc .bool)])],lop:=[(0,[(4,.sc (.int .i64))]),(2,[(25,.sc (.int .i64))])] } trivial rfl (by kernel_rfl) h
def Z89 (slot0:Int) (gen1:Int):W (Int × Int) :=
 joinW (σ:=Bool) (fun J_1 =>
  cond (decide (slot0 < 0))
   (J_1 true)
   (cond (decide (slot0 > 1023))
     (J_1 true)
     (cond (decide (gen1 < 1))
       (J_1 true)
       (J_1 (decide (gen1 > 4194303))))))
 <| fun s_2 =>
 cond s_2
  (retW (0,1))
  (retW (IntKind.wrap .u32 ((IntKind.wrap .u32 ((IntKind.wrap .u32 gen1) * 1024))+(IntKind.wrap .u32 slot0)),0))
theorem Zdi {R:Type} (slot0:Int) (gen1:Int) (K:Res [.sc (.int .u32),.sc (.int .i64)]→W R) (Q:R→World→Prop) (w:World) (h:Z89 slot0 gen1 (fun r w=>K r Q w) w):callW Tryz.prog Z3g [.int .i64 slot0,.int .i64 gen1] [.sc (.int .u32),.sc (.int .i64)] K Q w:=den_c (K:=K) mix Tryz.func141 { reg:=[(1,[(19,.sc .bool)])] } trivial rfl (by kernel_rfl) h
def Z91 (t0:Option Addr) (id1:Int) (l2:Sl):W (Int) :=
 cond (Option.isNone t0)
  (retW 10)
  (callW Tryz.prog Z2k [.slice l2.a l2.n l2.c] [.sc (.int .i64)] fun (x_1:Int) =>
 cond (x_1 != 0)
  (retW x_1)
  (drawW <|
 ptrW t0 fun x_2 =>
 ld (.sc (.int .u8)) (Addr.add x_2 0) fun (x_3:Int) =>
 callW Tryz.prog Z3f [.slice l2.a l2.n l2.c] [.sc (.int .u8)] fun (x_4:Int) =>
 andW (fun w=>Rd w (Addr.add x_2 0) (.sc (.int .u8)) x_3) <|
 cond (x_4 != x_3)
  (retW 4)
  (callW Tryz.prog Zk [.pointer t0,.int .u32 id1] [.sc (.int .i64)] fun (x_5:Int) =>
 cond (decide (x_5 ≥ 0))
  (retW 9)
  (drawW <|
 ptrW t0 fun x_6 =>
 ld (.sc .sl) (Addr.add x_6 1) fun (x_7:Sl) =>
 callW Tryz.prog Z58 [.slice l2.a l2.n l2.c] [.sc .sl] fun (x_8:Sl) =>
 andW (fun w=>Rd w (Addr.add x_6 1) (.sc .sl) x_7) <|
 newW 49 [.int .u32 id1,.slice x_8.a x_8.n x_8.c] fun x_9 =>
 rawW Tryz.prog (Builtin.append_ #[46,46] 46 #[.slice x_7.a x_7.n x_7.c,.slice (some x_9) 1 1]) [.sc .sl] fun (x_10:Sl) =>
 ptrW t0 fun x_11 =>
 stoL (Addr.add x_11 1) [.slice x_10.a x_10.n x_10.c] 0 <|
 retW 0))))
theorem Ze9 {R:Type} (t0:Option Addr) (id1:Int) (l2:Sl) (K:Res [.sc (.int .i64)]→W R) (Q:R→World→Prop) (w:World) (h:Z91 t0 id1 l2 (fun r w=>K r Q w) w):callW Tryz.prog Z5p [.pointer t0,.int .u32 id1,.slice l2.a l2.n l2.c] [.sc (.int .i64)] K Q w:=den_c (K:=K) mix Tryz.func142 { dr:=[(6,([],[[(0,[]),(2,[]),(3,[]),(4,[]),(5,[]),(1,[5]),(6,[])]])),(10,([],[[(0,[]),(1,[]),(2,[]),(3,[]),(4,[]),(5,[]),(6,[]),(7,[4]),(8,[]),(9,[]),(10,[]),(11,[]),(12,[]),(13,[])]]))] } trivial rfl (by kernel_rfl) h
def Z84 (l0:Sl):W (Int) :=
 loopW (σ:=Int × Int) (fun K_1 s_2 =>
  cond (decide (s_2.2 < 6))
   (loopW (σ:=Int × Int) (fun K_3 s_4 =>
   cond (decide (s_4.2 < (l0.n:Int)))
    (idxW l0.a l0.n 4 s_4.2 fun x_5 =>
   ld (.agg [.int .u8,.int .i32,.int .i32,.int .i32]) x_5 fun (x_6:(Int × Int × Int × Int)) =>
   newW 52 [.int .u8 0,.int .i32 0,.int .i32 0,.int .i32 0] fun c_7 =>
   stoL c_7 [.int .u8 x_6.1,.int .i32 x_6.2.1,.int .i32 x_6.2.2.1,.int .i32 x_6.2.2.2] 0 <|
   joinW (σ:=Bool) (fun J_8 =>
    ld (.sc (.int .u8)) (Addr.add c_7 0) fun (x_9:Int) =>
    cond (x_9 == s_2.2)
     (chkW (0≤s_2.2) <|
       J_8 ((Int.tmod (shR .u8 s_4.1 s_2.2) 2) == 0))
     (J_8 false))
   <| fun s_10 =>
   joinW (σ:=Int) (fun J_11 =>
    cond s_10
     (chkW (0≤s_2.2) <|
     J_11 (IntKind.wrap .u8 (s_4.1+(shL .u8 1 s_2.2))))
     (J_11 s_4.1))
   <| fun s_12 =>
   K_3 (s_12,IntKind.wrap .i64 (s_4.2+1)))
    (K_1 (s_4.1,IntKind.wrap .u8 (s_2.2+1))))
   (s_2.1,0))
   (retW s_2.1))
  (0,0)
theorem Zdd {R:Type} (l0:Sl) (K:Res [.sc (.int .u8)]→W R) (Q:R→World→Prop) (w:World) (h:Z84 l0 (fun r w=>K r Q w) w):callW Tryz.prog Z3f [.slice l0.a l0.n l0.c] [.sc (.int .u8)] K Q w:=den_c (K:=K) mix Tryz.func143 { reg:=[(8,[(26,.sc .bool)])],con:=[(10026,[(3,.sc (.int .u8))])],lop:=[(0,[(3,.sc (.int .u8)),(7,.sc (.int .u8))]),(2,[(3,.sc (.int .u8)),(12,.sc (.int .i64))])] } trivial rfl (by kernel_rfl) h
def Z95 (s0:Option Addr) (id1:Int):W ((Int × Sl) × Int) :=
 newW 49 [.int .u32 0,.slice none 0 0] fun x_1 =>
 cond (Option.isNone s0)
  (stoL x_1 [.int .u32 0,.slice none 0 0] 0 <|
  ld (.agg [.int .u32,.sl]) x_1 fun (x_2:(Int × Sl)) =>
  retW (x_2,10))
  (callW Tryz.prog Z2l [.pointer s0,.int .u32 id1] [.sc .ptr] fun (x_3:(Option Addr)) =>
 cond (Option.isNone x_3)
  (stoL x_1 [.int .u32 0,.slice none 0 0] 0 <|
  ld (.agg [.int .u32,.sl]) x_1 fun (x_4:(Int × Sl)) =>
  retW (x_4,7))
  (drawW <|
 ptrW x_3 fun x_5 =>
 ld (.sc .sl) (Addr.add x_5 1) fun (x_6:Sl) =>
 callW Tryz.prog Zk [.pointer x_3,.int .u32 id1] [.sc (.int .i64)] fun (x_7:Int) =>
 andW (fun w=>Rd w (Addr.add x_5 1) (.sc .sl) x_6) <|
 idxW x_6.a x_6.n 2 x_7 fun x_8 =>
 ld (.agg [.int .u32,.sl]) x_8 fun (x_9:(Int × Sl)) =>
 stoL x_1 [.int .u32 x_9.1,.slice x_9.2.a x_9.2.n x_9.2.c] 0 <|
 ld (.agg [.int .u32,.sl]) x_1 fun (x_10:(Int × Sl)) =>
 retW (x_10,0)))
theorem Zed {R:Type} (s0:Option Addr) (id1:Int) (K:Res [.agg [.int .u32,.sl],.sc (.int .i64)]→W R) (Q:R→World→Prop) (w:World) (h:Z95 s0 id1 (fun r w=>K r Q w) w):callW Tryz.prog Z40 [.pointer s0,.int .u32 id1] [.agg [.int .u32,.sl],.sc (.int .i64)] K Q w:=den_c (K:=K) mix Tryz.func144 { dr:=[(6,([],[[(0,[]),(1,[]),(2,[]),(3,[]),(4,[]),(5,[]),(6,[3]),(7,[]),(8,[]),(9,[]),(10,[])]]))] } ⟨by kernel_rfl,trivial⟩ rfl (by kernel_rfl) h
def Z6q (d0:Option Addr) (o1:Int):W (Sl × Int) :=
 cond (Option.isNone d0)
  (retW ((⟨none,0,0⟩:Sl),10))
  (callW Tryz.prog Zk [.pointer d0,.int .u32 o1] [.sc (.int .i64)] fun (x_1:Int) =>
 cond (decide (x_1 < 0))
  (retW ((⟨none,0,0⟩:Sl),7))
  (ptrW d0 fun x_2 =>
 ld (.sc .sl) (Addr.add x_2 1) fun (x_3:Sl) =>
 idxW x_3.a x_3.n 2 x_1 fun x_4 =>
 ld (.sc .sl) (Addr.add x_4 1) fun (x_5:Sl) =>
 ptrW d0 fun x_6 =>
 ld (.sc .sl) (Addr.add x_6 1) fun (x_7:Sl) =>
 ptrW d0 fun x_8 =>
 ld (.sc .sl) (Addr.add x_8 1) fun (x_9:Sl) =>
 slcW x_9.a x_9.n x_9.c 2 none (some (IntKind.wrap .i64 ((x_7.n:Int) - 1))) fun x_10 =>
 loopW (σ:=Sl × Int) (fun K_11 s_12 =>
  cond (decide (s_12.2 < (x_10.n:Int)))
   (idxW x_10.a x_10.n 2 s_12.2 fun x_13 =>
  ld (.agg [.int .u32,.sl]) x_13 fun (x_14:(Int × Sl)) =>
  newW 49 [.int .u32 0,.slice none 0 0] fun x_15 =>
  stoL x_15 [.int .u32 x_14.1,.slice x_14.2.a x_14.2.n x_14.2.c] 0 <|
  joinW (σ:=Unit) (fun J_16 =>
   cond (s_12.2 == x_1)
    (ptrW d0 fun x_17 =>
    ld (.sc .sl) (Addr.add x_17 1) fun (x_18:Sl) =>
    idxW x_18.a x_18.n 2 (IntKind.wrap .i64 ((x_7.n:Int) - 1)) fun x_19 =>
    ld (.agg [.int .u32,.sl]) x_19 fun (x_20:(Int × Sl)) =>
    stoL x_15 [.int .u32 x_20.1,.slice x_20.2.a x_20.2.n x_20.2.c] 0 <|
    J_16 ())
    (J_16 ()))
  <| fun s_21 =>
  ld (.agg [.int .u32,.sl]) x_15 fun (x_22:(Int × Sl)) =>
  newW 49 [.int .u32 x_22.1,.slice x_22.2.a x_22.2.n x_22.2.c] fun x_23 =>
  rawW Tryz.prog (Builtin.append_ #[46,46] 46 #[.slice s_12.1.a s_12.1.n s_12.1.c,.slice (some x_23) 1 1]) [.sc .sl] fun (x_24:Sl) =>
  K_11 (x_24,IntKind.wrap .i64 (s_12.2+1)))
   (ptrW d0 fun x_25 =>
 stoL (Addr.add x_25 1) [.slice s_12.1.a s_12.1.n s_12.1.c] 0 <|
 retW (x_5,0)))
  ((⟨none,0,0⟩:Sl),0)))
theorem Zbj {R:Type} (d0:Option Addr) (o1:Int) (K:Res [.sc .sl,.sc (.int .i64)]→W R) (Q:R→World→Prop) (w:World) (h:Z6q d0 o1 (fun r w=>K r Q w) w):callW Tryz.prog Z2x [.pointer d0,.int .u32 o1] [.sc .sl,.sc (.int .i64)] K Q w:=den_c (K:=K) mix Tryz.func145 { con:=[(14047,[])],lop:=[(0,[(9,.sc .sl),(40,.sc (.int .i64))])] } trivial rfl (by kernel_rfl) h
def Z8c (s0:Option Addr) (id1:Int):W ((Option Addr)) :=
 loopW (σ:=Int) (fun K_1 s_2 =>
  cond (decide (s_2 < 64))
   (ptrW s0 fun x_3 =>
  idxW (some (Addr.add x_3 1)) 64 2 s_2 fun x_4 =>
  callW Tryz.prog Zk [.pointer (some x_4),.int .u32 id1] [.sc (.int .i64)] fun (x_5:Int) =>
  cond (decide (x_5 ≥ 0))
   (ptrW s0 fun x_6 =>
   idxW (some (Addr.add x_6 1)) 64 2 s_2 fun x_7 =>
   retW (some x_7))
   (K_1 (IntKind.wrap .i64 (s_2+1))))
   (retW none))
  0
theorem Zdl {R:Type} (s0:Option Addr) (id1:Int) (K:Res [.sc .ptr]→W R) (Q:R→World→Prop) (w:World) (h:Z8c s0 id1 (fun r w=>K r Q w) w):callW Tryz.prog Z2l [.pointer s0,.int .u32 id1] [.sc .ptr] K Q w:=den_c (K:=K) mix Tryz.func146 { lop:=[(0,[(6,.sc (.int .i64))])] } trivial rfl (by kernel_rfl) h
def Z87 (s0:Option Addr) (id1:Int):W (Int) :=
 cond (Option.isNone s0)
  (retW 10)
  (callW Tryz.prog Z5b [.pointer s0,.int .u32 id1] [.sc .bool] fun (x_1:Bool) =>
 cond (!x_1)
  (retW 7)
  (callW Tryz.prog Z3h [.int .u32 id1] [.sc (.int .i64)] fun (x_2:Int) =>
 ptrW s0 fun x_3 =>
 ld (.sc .sl) (Addr.add x_3 1) fun (x_4:Sl) =>
 idxW x_4.a x_4.n 3 x_2 fun x_5 =>
 stoL (Addr.add x_5 1) [.bool false] 0 <|
 ptrW s0 fun x_6 =>
 ld (.sc .sl) (Addr.add x_6 1) fun (x_7:Sl) =>
 idxW x_7.a x_7.n 3 x_2 fun x_8 =>
 ld (.sc (.int .i64)) (Addr.add x_8 0) fun (x_9:Int) =>
 joinW (σ:=Unit) (fun J_10 =>
  cond (decide (x_9 < 4194303))
   (ptrW s0 fun x_11 =>
   ld (.sc (.int .i64)) (Addr.add x_11 2) fun (x_12:Int) =>
   ptrW s0 fun x_13 =>
   stoL (Addr.add x_13 2) [.int .i64 (IntKind.wrap .i64 (x_12+1))] 0 <|
   drawW <|
   ptrW s0 fun x_14 =>
   ld (.sc .sl) (Addr.add x_14 1) fun (x_15:Sl) =>
   ptrW s0 fun x_16 =>
   ld (.sc (.int .i64)) (Addr.add x_16 2) fun (x_17:Int) =>
   idxW x_15.a x_15.n 3 x_2 fun x_18 =>
   stoL (Addr.add x_18 2) [.int .i64 x_17] 0 <|
   J_10 ())
   (J_10 ()))
 <| fun s_19 =>
 retW 0))
theorem Zdg {R:Type} (s0:Option Addr) (id1:Int) (K:Res [.sc (.int .i64)]→W R) (Q:R→World→Prop) (w:World) (h:Z87 s0 id1 (fun r w=>K r Q w) w):callW Tryz.prog Z5a [.pointer s0,.int .u32 id1] [.sc (.int .i64)] K Q w:=den_c (K:=K) mix Tryz.func147 { con:=[(9029,[])],dr:=[(9,([],[[(0,[]),(1,[]),(2,[]),(3,[]),(4,[]),(5,[]),(6,[]),(7,[]),(8,[]),(9,[]),(10,[]),(11,[])]]))] } trivial rfl (by kernel_rfl) h
def Z96 (s0:Option Addr) (id1:Int) (kind2:Int):W ((Int × Int × Int × Int) × Int) :=
 newW 52 [.int .u8 0,.int .i32 0,.int .i32 0,.int .i32 0] fun x_1 =>
 callW Tryz.prog Z40 [.pointer s0,.int .u32 id1] [.agg [.int .u32,.sl],.sc (.int .i64)] fun (x_2:(Int × Sl) × Int) =>
 newW 49 [.int .u32 0,.slice none 0 0] fun x_3 =>
 stoL x_3 [.int .u32 x_2.1.1,.slice x_2.1.2.a x_2.1.2.n x_2.1.2.c] 0 <|
 cond (x_2.2 != 0)
  (stoL x_1 [.int .u8 0,.int .i32 0,.int .i32 0,.int .i32 0] 0 <|
  ld (.agg [.int .u8,.int .i32,.int .i32,.int .i32]) x_1 fun (x_4:(Int × Int × Int × Int)) =>
  retW (x_4,x_2.2))
  (ld (.sc .sl) (Addr.add x_3 1) fun (x_5:Sl) =>
 callW Tryz.prog Z2j [.slice x_5.a x_5.n x_5.c,.int .u8 kind2] [.sc (.int .i64)] fun (x_6:Int) =>
 cond (decide (x_6 < 0))
  (stoL x_1 [.int .u8 0,.int .i32 0,.int .i32 0,.int .i32 0] 0 <|
  ld (.agg [.int .u8,.int .i32,.int .i32,.int .i32]) x_1 fun (x_7:(Int × Int × Int × Int)) =>
  retW (x_7,10))
  (ld (.sc .sl) (Addr.add x_3 1) fun (x_8:Sl) =>
 idxW x_8.a x_8.n 4 x_6 fun x_9 =>
 ld (.agg [.int .u8,.int .i32,.int .i32,.int .i32]) x_9 fun (x_10:(Int × Int × Int × Int)) =>
 stoL x_1 [.int .u8 x_10.1,.int .i32 x_10.2.1,.int .i32 x_10.2.2.1,.int .i32 x_10.2.2.2] 0 <|
 ld (.agg [.int .u8,.int .i32,.int .i32,.int .i32]) x_1 fun (x_11:(Int × Int × Int × Int)) =>
 retW (x_11,0)))
theorem Zee {R:Type} (s0:Option Addr) (id1:Int) (kind2:Int) (K:Res [.agg [.int .u8,.int .i32,.int .i32,.int .i32],.sc (.int .i64)]→W R) (Q:R→World→Prop) (w:World) (h:Z96 s0 id1 kind2 (fun r w=>K r Q w) w):callW Tryz.prog Z5r [.pointer s0,.int .u32 id1,.int .u8 kind2] [.agg [.int .u8,.int .i32,.int .i32,.int .i32],.sc (.int .i64)] K Q w:=den_c (K:=K) mix Tryz.func148 {} ⟨by kernel_rfl,trivial⟩ rfl (by kernel_rfl) h
def Z94 (t0:Option Addr) (id1:Int) (c2:(Int × Int × Int × Int)):W (Int) :=
 newW 52 [.int .u8 c2.1,.int .i32 c2.2.1,.int .i32 c2.2.2.1,.int .i32 c2.2.2.2] fun c_1 =>
 cond (Option.isNone t0)
  (retW 10)
  (ld (.agg [.int .u8,.int .i32,.int .i32,.int .i32]) c_1 fun (x_2:(Int × Int × Int × Int)) =>
 callW Tryz.prog Z26 [.agg ⟨[.int .u8 x_2.1,.int .i32 x_2.2.1,.int .i32 x_2.2.2.1,.int .i32 x_2.2.2.2]⟩] [.sc (.int .i64)] fun (x_3:Int) =>
 cond (x_3 != 0)
  (retW x_3)
  (ld (.sc (.int .u8)) (Addr.add c_1 0) fun (x_4:Int) =>
 callW Tryz.prog Z5q [.pointer t0,.int .u32 id1,.int .u8 x_4] [.agg [.int .u8,.int .i32,.int .i32,.int .i32],.sc (.int .i64)] fun (x_5:(Int × Int × Int × Int) × Int) =>
 newW 52 [.int .u8 0,.int .i32 0,.int .i32 0,.int .i32 0] fun x_6 =>
 stoL x_6 [.int .u8 x_5.1.1,.int .i32 x_5.1.2.1,.int .i32 x_5.1.2.2.1,.int .i32 x_5.1.2.2.2] 0 <|
 cond (x_5.2 != 0)
  (retW x_5.2)
  (callW Tryz.prog Zk [.pointer t0,.int .u32 id1] [.sc (.int .i64)] fun (x_7:Int) =>
 drawW <|
 ptrW t0 fun x_8 =>
 ld (.sc .sl) (Addr.add x_8 1) fun (x_9:Sl) =>
 ptrW t0 fun x_10 =>
 ld (.sc .sl) (Addr.add x_10 1) fun (x_11:Sl) =>
 idxW x_11.a x_11.n 2 x_7 fun x_12 =>
 ld (.sc .sl) (Addr.add x_12 1) fun (x_13:Sl) =>
 ld (.agg [.int .u8,.int .i32,.int .i32,.int .i32]) c_1 fun (x_14:(Int × Int × Int × Int)) =>
 callW Tryz.prog Z59 [.slice x_13.a x_13.n x_13.c,.agg ⟨[.int .u8 x_14.1,.int .i32 x_14.2.1,.int .i32 x_14.2.2.1,.int .i32 x_14.2.2.2]⟩] [.sc .sl] fun (x_15:Sl) =>
 andW (fun w=>Rd w (Addr.add x_8 1) (.sc .sl) x_9) <|
 idxW x_9.a x_9.n 2 x_7 fun x_16 =>
 stoL (Addr.add x_16 1) [.slice x_15.a x_15.n x_15.c] 0 <|
 retW 0)))
theorem Zec {R:Type} (t0:Option Addr) (id1:Int) (c2:(Int × Int × Int × Int)) (K:Res [.sc (.int .i64)]→W R) (Q:R→World→Prop) (w:World) (h:Z94 t0 id1 c2 (fun r w=>K r Q w) w):callW Tryz.prog Z3z [.pointer t0,.int .u32 id1,.agg ⟨[.int .u8 c2.1,.int .i32 c2.2.1,.int .i32 c2.2.2.1,.int .i32 c2.2.2.2]⟩] [.sc (.int .i64)] K Q w:=den_c (K:=K) mix Tryz.func149 { dr:=[(10,([],[[(0,[]),(1,[]),(2,[]),(3,[]),(4,[]),(5,[]),(6,[]),(7,[]),(8,[]),(9,[]),(10,[]),(11,[]),(12,[]),(13,[]),(14,[3]),(15,[]),(16,[]),(17,[])]]))] } trivial rfl (by kernel_rfl) h
def Z86 (l0:Sl) (c1:(Int × Int × Int × Int)):W (Sl) :=
 newW 52 [.int .u8 c1.1,.int .i32 c1.2.1,.int .i32 c1.2.2.1,.int .i32 c1.2.2.2] fun c_1 =>
 loopW (σ:=Sl × Bool × Int) (fun K_2 s_3 =>
  cond (decide (s_3.2.2 < (l0.n:Int)))
   (idxW l0.a l0.n 4 s_3.2.2 fun x_4 =>
  ld (.agg [.int .u8,.int .i32,.int .i32,.int .i32]) x_4 fun (x_5:(Int × Int × Int × Int)) =>
  newW 52 [.int .u8 0,.int .i32 0,.int .i32 0,.int .i32 0] fun x_6 =>
  stoL x_6 [.int .u8 x_5.1,.int .i32 x_5.2.1,.int .i32 x_5.2.2.1,.int .i32 x_5.2.2.2] 0 <|
  joinW (σ:=Bool) (fun J_7 =>
   cond (!s_3.2.1)
    (ld (.sc (.int .u8)) (Addr.add x_6 0) fun (x_8:Int) =>
     ld (.sc (.int .u8)) (Addr.add c_1 0) fun (x_9 : Int) =>
         J_7 (decide (x_8 ≥ x_9)))
    (J_7 false))
  <| fun s_10 =>
  joinW (σ:=Sl × Bool) (fun J_11 =>
   cond s_10
    (ld (.agg [.int .u8,.int .i32,.int .i32,.int .i32]) c_1 fun (x_12:(Int × Int × Int × Int)) =>
    newW 52 [.int .u8 x_12.1,.int .i32 x_12.2.1,.int .i32 x_12.2.2.1,.int .i32 x_12.2.2.2] fun x_13 =>
    rawW Tryz.prog (Builtin.append_ #[35,35] 35 #[.slice s_3.1.a s_3.1.n s_3.1.c,.slice (some x_13) 1 1]) [.sc .sl] fun (x_14:Sl) =>
    J_11 (x_14,true))
    (J_11 (s_3.1,s_3.2.1)))
  <| fun s_15 =>
  ld (.sc (.int .u8)) (Addr.add x_6 0) fun (x_16:Int) =>
  ld (.sc (.int .u8)) (Addr.add c_1 0) fun (x_17:Int) =>
  joinW (σ:=Sl) (fun J_18 =>
   cond (x_16 != x_17)
    (ld (.agg [.int .u8,.int .i32,.int .i32,.int .i32]) x_6 fun (x_19:(Int × Int × Int × Int)) =>
    newW 52 [.int .u8 x_19.1,.int .i32 x_19.2.1,.int .i32 x_19.2.2.1,.int .i32 x_19.2.2.2] fun x_20 =>
    rawW Tryz.prog (Builtin.append_ #[35,35] 35 #[.slice s_15.1.a s_15.1.n s_15.1.c,.slice (some x_20) 1 1]) [.sc .sl] fun (x_21:Sl) =>
    J_18 x_21)
    (J_18 s_15.1))
  <| fun s_22 =>
  K_2 (s_22,s_15.2,IntKind.wrap .i64 (s_3.2.2+1)))
   (joinW (σ:=Sl) (fun J_23 =>
  cond (!s_3.2.1)
   (ld (.agg [.int .u8,.int .i32,.int .i32,.int .i32]) c_1 fun (x_24:(Int × Int × Int × Int)) =>
   newW 52 [.int .u8 x_24.1,.int .i32 x_24.2.1,.int .i32 x_24.2.2.1,.int .i32 x_24.2.2.2] fun x_25 =>
   rawW Tryz.prog (Builtin.append_ #[35,35] 35 #[.slice s_3.1.a s_3.1.n s_3.1.c,.slice (some x_25) 1 1]) [.sc .sl] fun (x_26:Sl) =>
   J_23 x_26)
   (J_23 s_3.1))
 <| fun s_27 =>
 retW s_27))
  ((⟨none,0,0⟩:Sl),false,0)
theorem Zdf {R:Type} (l0:Sl) (c1:(Int × Int × Int × Int)) (K:Res [.sc .sl]→W R) (Q:R→World→Prop) (w:World) (h:Z86 l0 c1 (fun r w=>K r Q w) w):callW Tryz.prog Z59 [.slice l0.a l0.n l0.c,.agg ⟨[.int .u8 c1.1,.int .i32 c1.2.1,.int .i32 c1.2.2.1,.int .i32 c1.2.2.2]⟩] [.sc .sl] K Q w:=den_c (K:=K) mix Tryz.func151 { reg:=[(6,[(23,.sc .bool)])],con:=[(8023,[(5,.sc .sl),(6,.sc .bool)]),(11032,[(5,.sc .sl)]),(14039,[(5,.sc .sl)])],lop:=[(0,[(5,.sc .sl),(6,.sc .bool),(11,.sc (.int .i64))])] } trivial rfl (by kernel_rfl) h
def Z8a (id0:Int):W (Int) :=
 retW (Int.tmod (IntKind.wrap .i64 id0) 1024)
theorem Zdj {R:Type} (id0:Int) (K:Res [.sc (.int .i64)]→W R) (Q:R→World→Prop) (w:World) (h:Z8a id0 (fun r w=>K r Q w) w):callW Tryz.prog Z3h [.int .u32 id0] [.sc (.int .i64)] K Q w:=den_c (K:=K) mix Tryz.func157 {} trivial rfl (by kernel_rfl) h
def Zhv (id0:Int):W (Int) :=
 retW (IntKind.wrap .i64 (IntKind.wrap .u32 (Int.tdiv id0 1024)))
theorem Znm {R:Type} (id0:Int) (K:Res [.sc (.int .i64)]→W R) (Q:R→World→Prop) (w:World) (h:Zhv id0 (fun r w=>K r Q w) w):callW Tryz.prog Z8o [.int .u32 id0] [.sc (.int .i64)] K Q w:=den_c (K:=K) mix Tryz.func163 {} trivial rfl (by kernel_rfl) h
def Zez (l0:Sl):W (Int) :=
 loopW (σ:=Int) (fun K_1 s_2 =>
  cond (decide (s_2 < (l0.n:Int)))
   (idxW l0.a l0.n 4 s_2 fun x_3 =>
  ld (.agg [.int .u8,.int .i32,.int .i32,.int .i32]) x_3 fun (x_4:(Int × Int × Int × Int)) =>
  newW 52 [.int .u8 0,.int .i32 0,.int .i32 0,.int .i32 0] fun c_5 =>
  stoL c_5 [.int .u8 x_4.1,.int .i32 x_4.2.1,.int .i32 x_4.2.2.1,.int .i32 x_4.2.2.2] 0 <|
  ld (.agg [.int .u8,.int .i32,.int .i32,.int .i32]) c_5 fun (x_6:(Int × Int × Int × Int)) =>
  callW Tryz.prog Z32 [.agg ⟨[.int .u8 x_6.1,.int .i32 x_6.2.1,.int .i32 x_6.2.2.1,.int .i32 x_6.2.2.2]⟩] [.sc (.int .i64)] fun (x_7:Int) =>
  cond (x_7 != 0)
   (retW x_7)
   (joinW (σ:=Bool) (fun J_8 =>
   drawW <|
   cond (decide (s_2 > 0))
    (ld (.sc (.int .u8)) (Addr.add c_5 0) fun (x_9:Int) =>
     idxW l0.a l0.n 4 (IntKind.wrap .i64 (s_2 - 1)) fun x_10 =>
         ld (.sc (.int .u8)) (Addr.add x_10 0) fun (x_11 : Int) =>
             J_8 (decide (x_9≤x_11)))
    (J_8 false))
  <| fun s_12 =>
  cond s_12
   (retW 4)
   (K_1 (IntKind.wrap .i64 (s_2+1)))))
   (retW 0))
  0
theorem Zkv {R:Type} (l0:Sl) (K:Res [.sc (.int .i64)]→W R) (Q:R→World→Prop) (w:World) (h:Zez l0 (fun r w=>K r Q w) w):callW Tryz.prog Z5v [.slice l0.a l0.n l0.c] [.sc (.int .i64)] K Q w:=den_c (K:=K) mix Tryz.func164 { reg:=[(7,[(30,.sc .bool)])],lop:=[(0,[(8,.sc (.int .i64))])],dr:=[(7,([],[[(0,[]),(1,[]),(2,[]),(3,[]),(4,[]),(5,[]),(6,[]),(7,[]),(8,[]),(9,[]),(10,[]),(11,[]),(12,[])]]))] } trivial rfl (by kernel_rfl) h
def Zhu (k0:Int):W ((ByteArray × Bool × Sl)) :=
 newW 256 [.string ⟨#[]⟩,.bool false,.slice none 0 0] fun x_1 =>
 cond (k0 == 0)
  (newW 260 [.string ⟨#[120]⟩,.int .i32 (-524288),.int .i32 524287,.string ⟨#[121]⟩,.int .i32 (-524288),.int .i32 524287] fun x_2 =>
  stoL x_1 [.string ⟨#[112,111,115]⟩,.bool true,.slice (some x_2) 2 2] 0 <|
  ld (.agg [.str,.bool,.sl]) x_1 fun (x_3:(ByteArray × Bool × Sl)) =>
  retW x_3)
  (cond (k0 == 1)
   (newW 260 [.string ⟨#[100,120]⟩,.int .i32 (-32768),.int .i32 32767,.string ⟨#[100,121]⟩,.int .i32 (-32768),.int .i32 32767] fun x_4 =>
   stoL x_1 [.string ⟨#[118,101,108]⟩,.bool true,.slice (some x_4) 2 2] 0 <|
   ld (.agg [.str,.bool,.sl]) x_1 fun (x_5:(ByteArray × Bool × Sl)) =>
   retW x_5)
   (cond (k0 == 2)
    (newW 260 [.string ⟨#[108,101,102,116]⟩,.int .i32 0,.int .i32 4095] fun x_6 =>
    stoL x_1 [.string ⟨#[108,105,102,101]⟩,.bool true,.slice (some x_6) 1 1] 0 <|
    ld (.agg [.str,.bool,.sl]) x_1 fun (x_7:(ByteArray × Bool × Sl)) =>
    retW x_7)
    (cond (k0 == 3)
     (newW 260 [.string ⟨#[115,104,97,112,101]⟩,.int .i32 0,.int .i32 15,.string ⟨#[104,112]⟩,.int .i32 0,.int .i32 1000,.string ⟨#[115,105,122,101]⟩,.int .i32 1,.int .i32 100] fun x_8 =>
     stoL x_1 [.string ⟨#[98,111,100,121]⟩,.bool true,.slice (some x_8) 3 3] 0 <|
     ld (.agg [.str,.bool,.sl]) x_1 fun (x_9:(ByteArray × Bool × Sl)) =>
     retW x_9)
     (cond (k0 == 4)
      (newW 260 [.string ⟨#[116,101,97,109]⟩,.int .i32 0,.int .i32 7,.string ⟨#[99,111,108,111,114]⟩,.int .i32 0,.int .i32 255,.string ⟨#[102,108,97,103,115]⟩,.int .i32 0,.int .i32 31] fun x_10 =>
      stoL x_1 [.string ⟨#[116,97,103]⟩,.bool true,.slice (some x_10) 3 3] 0 <|
      ld (.agg [.str,.bool,.sl]) x_1 fun (x_11:(ByteArray × Bool × Sl)) =>
      retW x_11)
      (cond (k0 == 5)
       (newW 260 [.string ⟨#[101,118,101,114,121]⟩,.int .i32 1,.int .i32 255,.string ⟨#[108,101,102,116]⟩,.int .i32 0,.int .i32 254,.string ⟨#[115,104,97,112,101]⟩,.int .i32 0,.int .i32 15] fun x_12 =>
       stoL x_1 [.string ⟨#[115,112,97,119,110]⟩,.bool false,.slice (some x_12) 3 3] 0 <|
       ld (.agg [.str,.bool,.sl]) x_1 fun (x_13:(ByteArray × Bool × Sl)) =>
       retW x_13)
       (stoL x_1 [.string ⟨#[]⟩,.bool false,.slice none 0 0] 0 <|
 ld (.agg [.str,.bool,.sl]) x_1 fun (x_14:(ByteArray × Bool × Sl)) =>
 retW x_14))))))
theorem Znl {R:Type} (k0:Int) (K:Res [.agg [.str,.bool,.sl]]→W R) (Q:R→World→Prop) (w:World) (h:Zhu k0 (fun r w=>K r Q w) w):callW Tryz.prog Zdv [.int .u8 k0] [.agg [.str,.bool,.sl]] K Q w:=den_c (K:=K) mix Tryz.func166 {} ⟨by kernel_rfl,trivial⟩ rfl (by kernel_rfl) h
def Zh8 (s0:Sl):W (Sl) :=
 rawQ Tryz.prog (Instr.sliceAt 62 (.slice s0.a s0.n s0.c) none (some (.int .i64 (s0.n:Int))) (some (.int .i64 (s0.n:Int)))) [.sc .sl] fun (x_1:Sl) =>
 retW x_1
theorem Zh5 {R:Type} (s0:Sl) (K:Res [.sc .sl]→W R) (Q:R→World→Prop) (w:World) (h:Zh8 s0 (fun r w=>K r Q w) w):callW Tryz.prog Z76 [.slice s0.a s0.n s0.c] [.sc .sl] K Q w:=den_c (K:=K) mix Tryz.func172 {} trivial rfl (by kernel_rfl) h
def Zb7 (s0:Option Addr) (id1:Int):W ((Option Addr) × Int) :=
 cond (Option.isNone s0)
  (retW (none,10))
  (ptrW s0 fun x_1 =>
  ld (.sc .map) (Addr.add x_1 2) fun (x_2:Option Nat) =>
  rawQ Tryz.prog (Instr.lookup 205 (.map x_2) (.int .u32 id1) false) [.sc .ptr] fun (x_3:(Option Addr)) =>
  cond (Option.isNone x_3)
   (retW (none,7))
   (ptrW s0 fun x_4 =>
 ld (.sc .map) (Addr.add x_4 2) fun (x_5:Option Nat) =>
 rawQ Tryz.prog (Instr.lookup 205 (.map x_5) (.int .u32 id1) false) [.sc .ptr] fun (x_6:(Option Addr)) =>
 retW (x_6,0)))
theorem Zh6 {R:Type} (s0:Option Addr) (id1:Int) (K:Res [.sc .ptr,.sc (.int .i64)]→W R) (Q:R→World→Prop) (w:World) (h:Zb7 s0 id1 (fun r w=>K r Q w) w):callW Tryz.prog Z1k [.pointer s0,.int .u32 id1] [.sc .ptr,.sc (.int .i64)] K Q w:=den_c (K:=K) mix Tryz.func175 {} trivial rfl (by kernel_rfl) h
def Zaf (t0:Option Addr) (id1:Int) (kind2:Int):W ((Int × Int × Int × Int) × Int) :=
 newW 52 [.int .u8 0,.int .i32 0,.int .i32 0,.int .i32 0] fun x_1 =>
 callW Tryz.prog Z44 [.pointer t0,.int .u32 id1,.int .u8 kind2] [.sc (.int .i64),.sc (.int .i64)] fun (x_2:Int × Int) =>
 cond (x_2.2 != 0)
  (stoL x_1 [.int .u8 0,.int .i32 0,.int .i32 0,.int .i32 0] 0 <|
  ld (.agg [.int .u8,.int .i32,.int .i32,.int .i32]) x_1 fun (x_3:(Int × Int × Int × Int)) =>
  retW (x_3,x_2.2))
  (callW Tryz.prog Z43 [.pointer t0,.int .i64 x_2.1,.int .u8 kind2] [.agg [.int .u8,.int .i32,.int .i32,.int .i32]] fun (x_4:(Int × Int × Int × Int)) =>
 stoL x_1 [.int .u8 x_4.1,.int .i32 x_4.2.1,.int .i32 x_4.2.2.1,.int .i32 x_4.2.2.2] 0 <|
 ld (.agg [.int .u8,.int .i32,.int .i32,.int .i32]) x_1 fun (x_5:(Int × Int × Int × Int)) =>
 retW (x_5,0))
theorem Zg3 {R:Type} (t0:Option Addr) (id1:Int) (kind2:Int) (K:Res [.agg [.int .u8,.int .i32,.int .i32,.int .i32],.sc (.int .i64)]→W R) (Q:R→World→Prop) (w:World) (h:Zaf t0 id1 kind2 (fun r w=>K r Q w) w):callW Tryz.prog Z4i [.pointer t0,.int .u32 id1,.int .u8 kind2] [.agg [.int .u8,.int .i32,.int .i32,.int .i32],.sc (.int .i64)] K Q w:=den_c (K:=K) mix Tryz.func176 {} ⟨by kernel_rfl,trivial⟩ rfl (by kernel_rfl) h
def Zex (l0:Sl):W (Int) :=
 cond (decide ((l0.n:Int) > 0))
  (retW 4)
  (retW 0)
theorem Zkt {R:Type} (l0:Sl) (K:Res [.sc (.int .i64)]→W R) (Q:R→World→Prop) (w:World) (h:Zex l0 (fun r w=>K r Q w) w):callW Tryz.prog Z7u [.slice l0.a l0.n l0.c] [.sc (.int .i64)] K Q w:=den_c (K:=K) mix Tryz.func177 {} trivial rfl (by kernel_rfl) h
def Zgo (l0:Sl):W (Int) :=
 cond ((l0.n:Int) != 1)
  (retW 4)
  (idxW l0.a l0.n 4 0 fun x_1 =>
 ld (.agg [.int .u8,.int .i32,.int .i32,.int .i32]) x_1 fun (x_2:(Int × Int × Int × Int)) =>
 callW Tryz.prog Z32 [.agg ⟨[.int .u8 x_2.1,.int .i32 x_2.2.1,.int .i32 x_2.2.2.1,.int .i32 x_2.2.2.2]⟩] [.sc (.int .i64)] fun (x_3:Int) =>
 retW x_3)
theorem Zm3 {R:Type} (l0:Sl) (K:Res [.sc (.int .i64)]→W R) (Q:R→World→Prop) (w:World) (h:Zgo l0 (fun r w=>K r Q w) w):callW Tryz.prog Zc1 [.slice l0.a l0.n l0.c] [.sc (.int .i64)] K Q w:=den_c (K:=K) mix Tryz.func178 {} trivial rfl (by kernel_rfl) h
def Zey (s0:Option Addr) (o1:(Int × Int × Int × Sl)):W (Int × Int) :=
 newW 37 [.int .u8 o1.1,.int .u32 o1.2.1,.int .u8 o1.2.2.1,.slice o1.2.2.2.a o1.2.2.2.n o1.2.2.2.c] fun o_1 =>
 ld (.sc (.int .u8)) (Addr.add o_1 0) fun (x_2:Int) =>
 cond (x_2 == 1)
  (ld (.sc .sl) (Addr.add o_1 3) fun (x_3:Sl) =>
  callW Tryz.prog Z3l [.pointer s0,.slice x_3.a x_3.n x_3.c] [.sc (.int .u32),.sc (.int .i64)] fun (x_4:Int × Int) =>
  retW (x_4.1,x_4.2))
  (cond (x_2 == 2)
   (drawW <|
   ld (.sc (.int .u32)) (Addr.add o_1 1) fun (x_5:Int) =>
   ld (.sc (.int .u32)) (Addr.add o_1 1) fun (x_6:Int) =>
   callW Tryz.prog Z2y [.pointer s0,.int .u32 x_6] [.sc (.int .i64)] fun (x_7:Int) =>
   andW (fun w=>Rd w (Addr.add o_1 1) (.sc (.int .u32)) x_5) <|
   retW (x_5,x_7))
   (cond (x_2 == 3)
    (drawW <|
    ld (.sc (.int .u32)) (Addr.add o_1 1) fun (x_8:Int) =>
    ld (.sc (.int .u32)) (Addr.add o_1 1) fun (x_9:Int) =>
    ld (.sc .sl) (Addr.add o_1 3) fun (x_10:Sl) =>
    idxW x_10.a x_10.n 4 0 fun x_11 =>
    ld (.agg [.int .u8,.int .i32,.int .i32,.int .i32]) x_11 fun (x_12:(Int × Int × Int × Int)) =>
    callW Tryz.prog Z17 [.pointer s0,.int .u32 x_9,.agg ⟨[.int .u8 x_12.1,.int .i32 x_12.2.1,.int .i32 x_12.2.2.1,.int .i32 x_12.2.2.2]⟩] [.sc (.int .i64)] fun (x_13:Int) =>
    andW (fun w=>Rd w (Addr.add o_1 1) (.sc (.int .u32)) x_8) <|
    retW (x_8,x_13))
    (cond (x_2 == 4)
     (drawW <|
     ld (.sc (.int .u32)) (Addr.add o_1 1) fun (x_14:Int) =>
     ld (.sc (.int .u32)) (Addr.add o_1 1) fun (x_15:Int) =>
     ld (.sc .sl) (Addr.add o_1 3) fun (x_16:Sl) =>
     idxW x_16.a x_16.n 4 0 fun x_17 =>
     ld (.agg [.int .u8,.int .i32,.int .i32,.int .i32]) x_17 fun (x_18:(Int × Int × Int × Int)) =>
     callW Tryz.prog Z6i [.pointer s0,.int .u32 x_15,.agg ⟨[.int .u8 x_18.1,.int .i32 x_18.2.1,.int .i32 x_18.2.2.1,.int .i32 x_18.2.2.2]⟩] [.sc (.int .i64)] fun (x_19:Int) =>
     andW (fun w=>Rd w (Addr.add o_1 1) (.sc (.int .u32)) x_14) <|
     retW (x_14,x_19))
     (drawW <|
 ld (.sc (.int .u32)) (Addr.add o_1 1) fun (x_20:Int) =>
 ld (.sc (.int .u32)) (Addr.add o_1 1) fun (x_21:Int) =>
 ld (.sc (.int .u8)) (Addr.add o_1 2) fun (x_22:Int) =>
 callW Tryz.prog Z51 [.pointer s0,.int .u32 x_21,.int .u8 x_22] [.sc (.int .i64)] fun (x_23:Int) =>
 andW (fun w=>Rd w (Addr.add o_1 1) (.sc (.int .u32)) x_20) <|
 retW (x_20,x_23)))))
theorem Zku {R:Type} (s0:Option Addr) (o1:(Int × Int × Int × Sl)) (K:Res [.sc (.int .u32),.sc (.int .i64)]→W R) (Q:R→World→Prop) (w:World) (h:Zey s0 o1 (fun r w=>K r Q w) w):callW Tryz.prog Zb0 [.pointer s0,.agg ⟨[.int .u8 o1.1,.int .u32 o1.2.1,.int .u8 o1.2.2.1,.slice o1.2.2.2.a o1.2.2.2.n o1.2.2.2.c]⟩] [.sc (.int .u32),.sc (.int .i64)] K Q w:=den_c (K:=K) mix Tryz.func179 { dr:=[(5,([],[[(0,[]),(1,[]),(2,[]),(3,[]),(4,[]),(5,[1]),(6,[]),(7,[])]])),(7,([],[[(0,[]),(1,[]),(2,[]),(3,[]),(4,[]),(5,[]),(6,[]),(7,[]),(8,[]),(9,[1]),(10,[]),(11,[])]])),(9,([],[[(0,[]),(1,[]),(2,[]),(3,[]),(4,[]),(5,[]),(6,[]),(7,[]),(8,[]),(9,[1]),(10,[]),(11,[])]])),(10,([],[[(0,[]),(1,[]),(2,[]),(3,[]),(4,[]),(5,[]),(6,[]),(7,[1]),(8,[]),(9,[])]]))] } trivial rfl (by kernel_rfl) h
end Go.Proofs.YtoiahhpgkoknfaaGreat
