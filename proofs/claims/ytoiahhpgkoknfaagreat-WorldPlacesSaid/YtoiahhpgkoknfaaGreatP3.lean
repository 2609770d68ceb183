/-
  What the proof of rows:R15p leans on, laid together by a program of this session (wip/pack.py) out of its own texts; the last of these texts holds rows:R15p.
-/
import Derived.Test.YtoiahhpgkoknfaaGreatP2
set_option linter.unusedVariables false
set_option linter.unusedSimpArgs false
namespace Go.Proofs.YtoiahhpgkoknfaaGreat
open Go Go.RowKit Go.Proofs.YtoiahhpgkoknfaaGreat.Den
variable {R:Type} {Q:R→World→Prop} {w:World}
def TabO (b m:Nat) (L:List Ent):OB:=fun F w=>∃ lab,(∀ k,lab k≠0→F k)∧Tab lab w b m L
theorem TabO.st {b m:Nat} {L:List Ent}:St (TabO b m L):=fun {_F _F' _S _w _w'} ⟨lab,hF,h⟩ fr hs =>
 ⟨lab,fun k e=>(hs k (h.lt e) (hF k e)).2,h.fr fr fun k e=>(hs k (h.lt e) (hF k e)).1⟩
section
variable {F:Nat→Prop} {b m:Nat} {L:List Ent}
theorem Ztg {m:Nat} (hm:m < 64) {K:Res [.sc .ptr,.sc (.int .i64)]→W R} (hk:∀ b w',TabO b m [] (Up w.heap.size) w'→Fr None w w'→K (some ⟨b,0,none⟩,0) Q w') :
  callW Tryz.prog Zb2 [.int .u8 (m:Int)] [.sc .ptr,.sc (.int .i64)] K Q w :=
 Znc (by omega) (fun h=>by omega) fun lab b w' _ h hn f=>hk b w' ⟨lab,fun k e=>hn k e,h⟩ f
theorem Zte (h:TabO b m L F w) {id:Int} (hid:IdOk id) {ok:Nat→Prop} {s:Sl} {l:List Comp} (hS:SlT ok w compT s l) (hd:∀ k,k < w.heap.size→ok k→¬ F k) (hm:Small l) (hl:∀ c∈l,CompOk c) (hroom:L.length < 1048576) {K:Res [.sc (.int .i64)]→W R}
  (hk:∀ w',TabO b m (addT m L id l) (Ex F w) w'→Fr F w w'→K (addM m L id l) Q w'):callW Tryz.prog Z4h [.pointer (some ⟨b,0,none⟩),.int .u32 id,.slice s.a s.n s.c] [.sc (.int .i64)] K Q w:=by
 obtain ⟨lab,hF,h⟩:=h
 refine Zn9 h hid (hS.mono (ok':=fun k=>ok k∧k < w.heap.size) fun k hk h=>⟨h,hk⟩) (fun k ⟨h1,h2⟩=>?_) hm hl hroom fun lab' w' h' hn f=>?_
 ·by_cases h0:lab k=0
  ·exact h0
  ·exact absurd (hF k h0) (hd k h2 h1)
 ·exact hk w' ⟨lab',fun k e=>(hn k e).imp (hF k) fun h=>h,h'⟩ (f.sub hF)
theorem Ze6 (h:TabO b m L F w) {id:Int} (hid:IdOk id) {i:Nat} {e:Ent} (hr:rowM L id=some i) (he:L[i]?=some e) {K:Res [.sc .sl,.sc (.int .i64)]→W R}
  (hk:∀ (s:Sl) w',TabO b m (dropI L i) F w'→Den.Own (Up w.heap.size) w' 52 compT s e.2→Fr F w w'→K (s,0) Q w'):callW Tryz.prog Z1j [.pointer (some ⟨b,0,none⟩),.int .u32 id] [.sc .sl,.sc (.int .i64)] K Q w:=by
 obtain ⟨lab,hF,h⟩:=h
 refine Zj7 h hid (fun h0=>by rw [hr] at h0; cases h0) fun i' e' s w' hr' he' h' o f=>?_
 rw [hr] at hr'
 cases hr'
 rw [he] at he'
 cases he'
 exact hk s w' ⟨lab,hF,h'⟩ (o.mono fun k _ h=>h.1) (f.sub hF)
theorem Zth (h:TabO b m L F w) {id:Int} {c:Comp} (hid:IdOk id) {K:Res [.sc (.int .i64)]→W R} (hk:∀ w',TabO b m (setT m L id c) F w'→Fr F w w'→K (setM m L id c) Q w') :
  callW Tryz.prog Z4k [.pointer (some ⟨b,0,none⟩),.int .u32 id,.agg ⟨compC c⟩] [.sc (.int .i64)] K Q w:=by
 obtain ⟨lab,hF,h⟩:=h
 exact Znd h hid fun w' h' f=>hk w' ⟨lab,hF,h'⟩ (f.sub hF)
theorem Ztf (h:TabO b m L F w) {id k:Int} (hid:IdOk id) {K:Res [.agg [.int .u8,.int .i32,.int .i32,.int .i32],.sc (.int .i64)]→W R} (hk:∀ w',Fr None w w'→K (getM m L id k) Q w') :
  callW Tryz.prog Z4i [.pointer (some ⟨b,0,none⟩),.int .u32 id,.int .u8 k] [.agg [.int .u8,.int .i32,.int .i32,.int .i32],.sc (.int .i64)] K Q w:=by
 obtain ⟨lab,hF,h⟩:=h
 exact Zna h hid hk
end
theorem Zpj:Tryz.prog.underlying 204=some (.map 5 270):=by kernel_rfl
theorem Zi9:Tryz.prog.underlying 205=some (.map 34 270):=by kernel_rfl
theorem Zmq:(Tryz.prog.info? 270).bind (·.zero)=some (.pointer none):=by kernel_rfl
theorem Zpk:Go.Maps.Keyed Tryz.prog 5:=Go.Maps.int_keyed Zjf
theorem Ztu {i:Int} (h:0≤i∧i≤255):keyOf Tryz.prog 5 (.int .u8 i)=some (.int .u8 i):=Go.Maps.keyOf_int_mk Zjf (by obtain ⟨h1,h2⟩:=h; simp [Lit.wf,IntKind.min,IntKind.max,IntKind.bits,IntKind.signed]; omega)
theorem intI (k:IntKind) (i j:Int) (h:Value.int k i=Value.int k j):i=j:=by cases h; rfl
def tabsF (tp:Nat→Nat) (D:Nat→Bool) (k:Int):Option Value:=if 0≤k∧k < 64∧D k.toNat=true then some (.pointer (some ⟨tp k.toNat,0,none⟩)) else none
theorem Zpi {tp:Nat→Nat} {D:Nat→Bool} {m:Nat} (hm:m < 64):tabsF tp D (m:Int)=if D m then some (.pointer (some ⟨tp m,0,none⟩)) else none:=by
 unfold tabsF
 rw [Int.toNat_natCast]
 have h1:(0:Int)≤(m:Int):=by omega
 have h2:(m:Int) < 64:=by omega
 cases D m <;> simp [h2]
theorem Zrz {tp:Nat→Nat} {D:Nat→Bool} {m p:Nat} (hm:m < 64) (i:Int):tabsF (fun k=>if k=m then p else tp k) (fun k=>if k=m then true else D k) i=if i=(m:Int) then some (.pointer (some ⟨p,0,none⟩)) else tabsF tp D i:=by
 by_cases e:i=(m:Int)
 ·subst e
  rw [Zpi hm,if_pos rfl]
  simp
 ·rw [if_neg e]
  unfold tabsF
  by_cases h64:0≤i∧i < 64
  ·have:i.toNat≠m:=by omega
   simp only [if_neg this]
  ·rw [if_neg (fun h=>h64 ⟨h.1,h.2.1⟩),if_neg (fun h=>h64 ⟨h.1,h.2.1⟩)]
structure StoR (lab:Nat→Nat) (w:World) (b sb tb hb:Nat) (tp:Nat→Nat) (D:Nat→Bool) (s:SM) (T:Nat→List Ent) (H:Int→Option Nat):Prop where
 blk:Bl b 207 [.pointer (some ⟨sb,0,none⟩),.map (some tb),.map (some hb)] (fun k=>lab k=1) w
 slots:Slots sb s (fun k=>lab k=4) w
 tabs:Mp Tryz.prog 5 (Value.int .u8) tb (tabsF tp D) (fun k=>lab k=2) w
 home:Mp Tryz.prog 34 (Value.int .u32) hb (fun id=>(H id).map fun m=>.pointer (some ⟨tp m,0,none⟩)) (fun k=>lab k=3) w
 tab:∀ m,m < 64→D m=true→TabO (tp m) m (T m) (fun k=>lab k=5+m) w
 no:∀ m,m < 64→D m=false→T m=[]
 hm:∀ id m,H id=some m→m < 64∧D m=true
def Store (b:Nat) (x:StM):OB:=fun F w=>StOk x∧∃ lab sb tb hb tp D,(∀ k,lab k≠0→F k)∧StoR lab w b sb tb hb tp D x.s x.tab (homeT x.tab)
section
variable {lab:Nat→Nat} {b sb tb hb:Nat} {tp:Nat→Nat} {D:Nat→Bool} {s:SM} {T:Nat→List Ent} {H:Int→Option Nat}
theorem StoR.cut (h:StoR lab w b sb tb hb tp D s T H) {S:Nat→Prop} {w':World} (f:Fr S w w') (hs:∀ k,k < w.heap.size→lab k≠0→¬ S k):StoR (Den.cut lab w.heap.size) w' b sb tb hb tp D s T H :=
 ⟨Bl.st.cut h.blk f (by decide) hs,Slots.st.cut h.slots f (by decide) hs,Mp.st.cut h.tabs f (by decide) hs,Mp.st.cut h.home f (by decide) hs,fun m hm hD=>TabO.st.cut (h.tab m hm hD) f (by omega) hs,h.no,h.hm⟩
theorem StoR.fr0 (h:StoR lab w b sb tb hb tp D s T H) {w':World} (f:Fr None w w'):StoR lab w' b sb tb hb tp D s T H :=
 ⟨Bl.st.fr0 h.blk f,Slots.st.fr0 h.slots f,Mp.st.fr0 h.tabs f,Mp.st.fr0 h.home f,fun m hm hD=>TabO.st.fr0 (h.tab m hm hD) f,h.no,h.hm⟩
theorem StoR.setTab (h:StoR lab w b sb tb hb tp D s T H) {m:Nat} (hm:m < 64) (hD:D m=true) {L:List Ent} {w':World} (f:Fr (fun k=>lab k=5+m) w w') (ht:TabO (tp m) m L (Ex (fun k=>lab k=5+m) w) w') :
  StoR (relab lab w.heap.size w'.heap.size (5+m)) w' b sb tb hb tp D s (upd T m L) H:=by
 refine ⟨Bl.st.other h.blk f (by omega),Slots.st.other h.slots f (by omega),Mp.st.other h.tabs f (by omega),Mp.st.other h.home f (by omega),fun k hk hDk=>?_,fun k hk hDk=>?_,h.hm⟩
 ·by_cases e:k=m
  ·subst e; rw [Z4l]; exact TabO.st.grown ht
  ·rw [Z1w e]; exact TabO.st.other (h.tab k hk hDk) f (by omega)
 ·rw [Z1w (fun e=>by subst e; rw [hD] at hDk; cases hDk)]; exact h.no k hk hDk
theorem StoR.setSlots (h:StoR lab w b sb tb hb tp D s T H) {s':SM} {w':World} (f:Fr (fun k=>lab k=4) w w') (ht:Slots sb s' (Ex (fun k=>lab k=4) w) w') :
  StoR (relab lab w.heap.size w'.heap.size 4) w' b sb tb hb tp D s' T H :=
 ⟨Bl.st.other h.blk f (by omega),Slots.st.grown ht,Mp.st.other h.tabs f (by omega),Mp.st.other h.home f (by omega),fun k hk hDk=>TabO.st.other (h.tab k hk hDk) f (by omega),h.no,h.hm⟩
theorem StoR.ofNew (h:StoR lab w b sb tb hb tp D s T H) {w':World} (f:Fr None w w') (c:Nat):StoR (relab lab w.heap.size w'.heap.size c) w' b sb tb hb tp D s T H :=
 have g:∀ j,Fr (fun k=>lab k=j) w w':=fun j=>f.any
 ⟨Bl.st.other h.blk (g 0) (by omega),Slots.st.other h.slots (g 0) (by omega),Mp.st.other h.tabs (g 0) (by omega),Mp.st.other h.home (g 0) (by omega),fun k hk hDk=>TabO.st.other (h.tab k hk hDk) (g 0) (by omega),h.no,h.hm⟩
theorem StoR.homePut (h:StoR lab w b sb tb hb tp D s T H) {id:Int} (hid:IdOk id) {m:Nat} (hm:m < 64) (hD:D m=true) {K:W R}
  (hk:∀ w',StoR lab w' b sb tb hb tp D s T (fun j=>if j=id then some m else H j)→Fr (fun k=>lab k=3) w w'→w'.heap.size=w.heap.size→K Q w') :
  rawU Tryz.prog (Instr.mapUpdate 205 (.map (some hb)) (.int .u32 id) (.pointer (some ⟨tp m,0,none⟩))) K Q w:=by
 obtain ⟨w1,h1,h2,h3,h4⟩:=h.home.2.put Z7t (intI _) Zi9 (Zf9 hid) (.pointer (some ⟨tp m,0,none⟩))
 have f:Fr (fun k=>lab k=3) w w1:=h3.mono fun k _ e=>by rw [e]; exact h.home.1
 refine ⟨w1,h1,hk w1 ⟨Bl.st.fr h.blk f fun k e=>by omega,Slots.st.fr h.slots f fun k e=>by omega,Mp.st.fr h.tabs f fun k e=>by omega,⟨h.home.1,h2.congr fun i=>?_⟩,fun k hk hDk=>TabO.st.fr (h.tab k hk hDk) f fun k e=>by omega,h.no,fun j q e=>?_⟩ f h4⟩
 ·by_cases e:i=id <;> simp [e]
 ·by_cases e2:j=id
  ·rw [if_pos e2] at e; cases e; exact ⟨hm,hD⟩
  ·rw [if_neg e2] at e; exact h.hm j q e
theorem StoR.homeDel (h:StoR lab w b sb tb hb tp D s T H) {id:Int} (hid:IdOk id) {ty:TypeId} {K:Res []→W R}
  (hk:∀ w',StoR lab w' b sb tb hb tp D s T (fun j=>if j=id then none else H j)→Fr (fun k=>lab k=3) w w'→w'.heap.size=w.heap.size→K () Q w') :
  rawW Tryz.prog (Builtin.delete_ #[205,34] ty #[.map (some hb),.int .u32 id]) [] K Q w:=by
 obtain ⟨w1,h1,h2,h3,h4⟩:=h.home.2.del Z7t (intI _) Zi9 (ty:=ty) (Zf9 hid)
 have f:Fr (fun k=>lab k=3) w w1:=h3.mono fun k _ e=>by rw [e]; exact h.home.1
 refine ⟨(),w1,h1,hk w1 ⟨Bl.st.fr h.blk f fun k e=>by omega,Slots.st.fr h.slots f fun k e=>by omega,Mp.st.fr h.tabs f fun k e=>by omega,⟨h.home.1,h2.congr fun i=>?_⟩,fun k hk hDk=>TabO.st.fr (h.tab k hk hDk) f fun k e=>by omega,h.no,fun j q e=>?_⟩ f h4⟩
 ·by_cases e:i=id <;> simp [e]
 ·by_cases e2:j=id
  ·rw [if_pos e2] at e; cases e
  ·rw [if_neg e2] at e; exact h.hm j q e
theorem StoR.tabPut (h:StoR lab w b sb tb hb tp D s T H) {m:Nat} (hm:m < 64) (hD:D m=false) {p:Nat} (hp:TabO p m [] (fun k=>lab k=5+m) w) {K:W R}
  (hk:∀ w',StoR lab w' b sb tb hb (fun k=>if k=m then p else tp k) (fun k=>if k=m then true else D k) s T H→Fr (fun k=>lab k=2) w w'→w'.heap.size=w.heap.size→K Q w') :
  rawU Tryz.prog (Instr.mapUpdate 204 (.map (some tb)) (.int .u8 (m:Int)) (.pointer (some ⟨p,0,none⟩))) K Q w:=by
 obtain ⟨w1,h1,h2,h3,h4⟩:=h.tabs.2.put Zpk (intI _) Zpj (Ztu (i:=(m:Int)) ⟨by omega,by omega⟩) (.pointer (some ⟨p,0,none⟩))
 have f:Fr (fun k=>lab k=2) w w1:=h3.mono fun k _ e=>by rw [e]; exact h.tabs.1
 have hh:∀ id q,H id=some q→q≠m:=fun id q e e2=>by subst e2; have:=(h.hm id q e).2; rw [hD] at this; cases this
 refine ⟨w1,h1,hk w1 ⟨Bl.st.fr h.blk f fun k e=>by omega,Slots.st.fr h.slots f fun k e=>by omega,⟨h.tabs.1,h2.congr fun i=>?_⟩,?_,fun k hk hDk=>?_,fun k hk hDk=>?_,fun j q e=>?_⟩ f h4⟩
 ·exact Zrz hm i
 ·refine ⟨h.home.1,(Mp.st.fr h.home f fun k e=>by omega).2.congr fun id=>?_⟩
  cases e:H id with
  | none=>rfl
  | some q=>simp only [Option.map_some,if_neg (hh id q e)]
 ·by_cases e:k=m
  ·subst e
   simp only [if_true]
   rw [h.no k hm hD]
   exact TabO.st.fr hp f fun k e=>by omega
  ·simp only [if_neg e] at hDk ⊢
   exact TabO.st.fr (h.tab k hk hDk) f fun k e=>by omega
 ·by_cases e:k=m
  ·simp [e] at hDk
  ·simp only [if_neg e] at hDk; exact h.no k hk hDk
 ·have:=h.hm j q e
  exact ⟨this.1,by simp only [if_neg (hh j q e)]; exact this.2⟩
theorem StoR.lookTab (h:StoR lab w b sb tb hb tp D s T H) {m:Nat} (hm:m < 64) {K:Option Addr→W R} (hk:K (if D m then some ⟨tp m,0,none⟩ else none) Q w) :
  rawQ Tryz.prog (Instr.lookup 204 (.map (some tb)) (.int .u8 (m:Int)) false) [.sc .ptr] K Q w:=by
 refine ⟨if D m then some ⟨tp m,0,none⟩ else none,?_,hk⟩
 rw [h.tabs.2.look Zpk Zpj Zmq (Ztu (i:=(m:Int)) ⟨by omega,by omega⟩) false]
 rw [Zpi hm]
 cases D m <;> rfl
theorem StoR.lookHome (h:StoR lab w b sb tb hb tp D s T H) {id:Int} (hid:IdOk id) {K:Option Addr→W R} (hk:K ((H id).map fun m=>⟨tp m,0,none⟩) Q w) :
  rawQ Tryz.prog (Instr.lookup 205 (.map (some hb)) (.int .u32 id) false) [.sc .ptr] K Q w:=by
 refine ⟨(H id).map fun m=>⟨tp m,0,none⟩,?_,hk⟩
 rw [h.home.2.look Z7t Zi9 Zmq (Zf9 hid) false]
 cases H id <;> rfl
theorem Zpg (h:StoR lab w b sb tb hb tp D s T H) {id:Int} (hid:IdOk id) {ok:Nat→Prop} {r:Sl} {l:List Comp} (hS:SlT ok w compT r l) (hd:∀ k,k < w.heap.size→ok k→lab k=0) (hl:∀ c∈l,CompOk c) (hv:listE l=0) (_ht:∀ m,m < 64→TabOk m (T m)) (hno:rowM (T (maskN l)) id=none) (hroom:(T (maskN l)).length < 1048576)
  {K:Res []→W R} (hk:∀ lab' tp' D' w',(∀ k,lab' k≠0→lab k≠0∨w.heap.size≤k)→StoR lab' w' b sb tb hb tp' D' s (putT T id l) (fun j=>if j=id then some (maskN l) else H j)→Fr (fun k=>lab k≠0) w w'→K () Q w') :
  callW Tryz.prog Z2d [.pointer (some ⟨b,0,none⟩),.int .u32 id,.slice r.a r.n r.c] [] K Q w:=by
 have hval:Valid (maskN l) l:=⟨hv,rfl⟩
 have hsm:Small l:=by have:=hval.small; simp [Small]; omega
 have hm:=Z66 l
 generalize hmm:maskN l=m at *
 refine Zg1 _ _ _ K Q w ?_
 unfold Zad
 refine Zbb hS hsm hl fun w1 f1=>?_
 rw [hmm]
 have h1:=h.fr0 f1
 have hS1:=hS.fr0 f1
 refine ptrI (fldI h1.blk.2 (x:=some tb) rfl ?_)
 refine h1.lookTab hm ?_
 refine joinI (fun p w'=>∃ lab' tp' D',(∀ k,lab' k≠0→lab k≠0∨w.heap.size≤k)∧(∀ k,k < w.heap.size→lab' k=lab k)∧StoR lab' w' b sb tb hb tp' D' s T H∧D' m=true∧p=some ⟨tp' m,0,none⟩∧Fr (fun k=>lab k≠0) w w') ?_ ?_
 ·cases hD:D m with
  | true =>
   refine condF rfl ?_
   exact ⟨lab,tp,D,fun k e=>.inl e,fun _ _=>rfl,h1,hD,rfl,f1.any⟩
  | false =>
   refine condT rfl (Ztg hm fun p w2 t2 f2=>?_)
   have h2:=h1.ofNew f2 (5+m)
   have f02:=f1.then0 f2
   have hs1:=f1.size
   refine ptrI (fldI h2.blk.2 (x:=some tb) rfl ?_)
   refine h2.tabPut hm hD (TabO.st.mono t2 fun k hk e=>Z4c e hk) fun w3 h3 f3 s3=>?_
   have hx:∀ k,relab lab w1.heap.size w2.heap.size (5+m) k≠0→lab k≠0∨w.heap.size≤k:=fun k e=>(Zp9 (F:=fun k=>lab k≠0) (fun _ e=>e) k e).imp (fun h=>h) fun h=>Nat.le_trans hs1 h
   exact ⟨_,_,_,hx,fun k hk=>Z4 (Nat.lt_of_lt_of_le hk hs1),h3,by simp,by simp,f02.any.exS f3 fun k e=>hx k (by omega)⟩
 ·rintro p w2 ⟨lab',tp',D',hex,hsame,h2,hD,rfl,f2⟩
  have hS2:SlT ok w2 compT r l:=(hS.mono (ok':=fun k=>ok k∧k < w.heap.size) fun k hk h=>⟨h,hk⟩).fr f2 (fun k e e2=>e2 (hd k e.2 e.1)) |>.mono fun k _ h=>h.1
  have hlt:∀ k,ok k→k < w.heap.size→lab' k=0:=fun k e1 e2=>by rw [hsame k e2]; exact hd k e2 e1
  refine Zte (ok:=fun k=>ok k∧k < w.heap.size) (h2.tab m hm hD) hid ?_ (fun k _ e e2=>by have:=hlt k e.1 e.2; omega) hsm hl hroom fun w3 t3 f3=>?_
  ·exact (hS.mono (ok':=fun k=>ok k∧k < w.heap.size) fun k hk h=>⟨h,hk⟩).fr f2 (fun k e e2=>e2 (hd k e.2 e.1))
  have hadd:addM m (T m) id l=0:=Znr hval hno
  rw [addT,if_pos hadd] at t3
  have h3:=h2.setTab hm hD f3 t3
  have hx3:∀ k,relab lab' w2.heap.size w3.heap.size (5+m) k≠0→lab k≠0∨w.heap.size≤k:=fun k e=>by
   have:=f2.size
   rcases Z2a e with ⟨e,_⟩ | ⟨e,_⟩
   ·exact hex k e
   ·exact .inr (by omega)
  refine ptrI (fldI h3.blk.2 (x:=some hb) rfl ?_)
  refine h3.homePut hid hm hD fun w4 h4 f4 s4=>?_
  refine hk _ tp' D' w4 hx3 ?_ ((f2.exS f3 fun k e=>hex k (by omega)).exS f4 fun k e=>hx3 k (by omega))
  unfold putT
  rw [hmm]
  exact h4
theorem CompsOk.valid {l:List Comp} (hv:listE l=0):∀ c∈l,CompOk c:=fun c hc=>Zf4 ((Z3x.1 hv).1 c hc)
theorem Zgj (h:StoR lab w b sb tb hb tp D s T H) {id:Int} (hid:IdOk id) {K:Res [.sc .ptr,.sc (.int .i64)]→W R} (hk:K (match H id with
  | none=>(none,7)
  | some m=>(some ⟨tp m,0,none⟩,0)) Q w):callW Tryz.prog Z1k [.pointer (some ⟨b,0,none⟩),.int .u32 id] [.sc .ptr,.sc (.int .i64)] K Q w:=by
 refine Zh6 _ _ K Q w ?_
 unfold Zb7
 refine condF rfl (ptrI (fldI h.blk.2 (x:=some hb) rfl (h.lookHome hid ?_)))
 cases hh:H id with
 | none =>
  rw [hh] at hk
  exact condT rfl hk
 | some m =>
  rw [hh] at hk
  refine condF rfl (ptrI (fldI h.blk.2 (x:=some hb) rfl (h.lookHome hid ?_)))
  rw [hh]
  exact hk
end
theorem Store.st {b:Nat} {x:StM}:St (Store b x):=fun {_F _F' _S w _w'} ⟨ok,lab,sb,tb,hb,tp,D,hF,h⟩ fr hs =>
 ⟨ok,cut lab w.heap.size,sb,tb,hb,tp,D,fun k e=>(hs k (Zam e).2 (hF k (Zam e).1)).2,h.cut fr fun k hk e=>(hs k hk (hF k e)).1⟩
theorem Zk2 {n first:Int} {K:Res [.sc .ptr,.sc (.int .i64)]→W R} (h1:¬ (1≤n∧n≤1024∧1≤first∧first≤4194303)→K (none,1) Q w)
  (h2:∀ b w',1≤n∧n≤1024∧1≤first∧first≤4194303→Store b (StM.new n.toNat first) (Up w.heap.size) w'→Fr None w w'→K (some ⟨b,0,none⟩,0) Q w') :
  callW Tryz.prog Zdx [.int .i64 n,.int .i64 first] [.sc .ptr,.sc (.int .i64)] K Q w:=by
 refine Zno n first K Q w ?_
 unfold Zhx
 refine Zjz (fun hn=>condT rfl (h1 hn)) fun sb w1 hp hs f1=>condF rfl ?_
 refine mapNewI (mapNewI ?_)
 have e1:((w1.alloc (.map #[] 0)).heap.size)=w1.heap.size+1:=by simp
 rw [e1]
 have ft:=(Fr.refl None w1).alloc (.map #[] 0)
 have fh:=(Fr.refl None (w1.alloc (.map #[] 0))).alloc (.map #[] 0)
 have mt:=MapB.made (P:=Tryz.prog) (k:=5) (ke:=Value.int .u8) w1
 have mh:=MapB.made (P:=Tryz.prog) (k:=34) (ke:=Value.int .u32) (w1.alloc (.map #[] 0))
 rw [e1] at mh
 have s2:((w1.alloc (.map #[] 0)).alloc (.map #[] 0)).heap.size=w1.heap.size+2:=by simp
 generalize (w1.alloc (.map #[] 0)).alloc (.map #[] 0)=w2 at *
 refine newI fun w3 B3 f3 s3=>?_
 rw [s2] at B3
 have f13:Fr None w1 w3:=(ft.then0 fh).then0 f3
 have hs1:=f1.size
 rw [s2]
 refine h2 (w1.heap.size+2) w3 hp ⟨Ztc (by omega) (by omega) hp.2.2,fun k=>if k=w1.heap.size+2 then 1 else if k=w1.heap.size then 2 else if k=w1.heap.size+1 then 3 else if w.heap.size≤k then 4 else 0,sb,w1.heap.size,w1.heap.size+1,fun _=>0,fun _=>false,fun k e=>?_,
  ⟨⟨by simp,B3⟩,?_,⟨by simp,?_⟩,⟨by simp,?_⟩,fun m _ h=>by simp at h,fun m _ _=>rfl,fun id m e=>?_⟩⟩ (f1.then0 f13)
 ·show w.heap.size≤k
  by_cases a1:k=w1.heap.size+2
  ·omega
  ·by_cases a2:k=w1.heap.size
   ·omega
   ·by_cases a3:k=w1.heap.size+1
    ·omega
    ·by_cases a4:w.heap.size≤k
     ·exact a4
     ·simp [a1,a2,a3,a4] at e
 ·refine Slots.st hs f13 fun k hk e=>⟨fun h=>h,?_⟩
  have a1:¬ k=w1.heap.size+2:=by omega
  have a2:¬ k=w1.heap.size:=by omega
  have a3:¬ k=w1.heap.size+1:=by omega
  show (if _ then _ else _)=_
  rw [if_neg a1,if_neg a2,if_neg a3,if_pos e]
 ·refine ((mt.fr fh fun h=>h).fr f3 fun h=>h).congr fun i=>?_
  unfold tabsF
  rw [if_neg (by simp)]
 ·refine (mh.fr f3 fun h=>h).congr fun i=>?_
  have:homeT (StM.new n.toNat first).tab i=none:=Z3p.2 fun m _ h=>by simp [inT,StM.new,rowM] at h
  rw [this]; rfl
 ·have:homeT (StM.new n.toNat first).tab id=none:=Z3p.2 fun m _ h=>by simp [inT,StM.new,rowM] at h
  rw [this] at e; cases e
section
variable {F:Nat→Prop} {b:Nat} {x:StM}
theorem Zbc (h:Store b x F w) {ok:Nat→Prop} {r:Sl} {l:List Comp} (hS:SlT ok w compT r l) (hd:∀ k,k < w.heap.size→ok k→¬ F k) (hsm:Small l) (hl:∀ c∈l,CompOk c) {K:Res [.sc (.int .u32),.sc (.int .i64)]→W R}
  (hk:∀ w',Store b (x.spawn l).2.2 (Ex F w) w'→Fr F w w'→K ((x.spawn l).1,(x.spawn l).2.1) Q w'):callW Tryz.prog Z3l [.pointer (some ⟨b,0,none⟩),.slice r.a r.n r.c] [.sc (.int .u32),.sc (.int .i64)] K Q w:=by
 refine Zdq _ _ K Q w ?_
 unfold Z8h
 refine condF rfl (Z77 hS hsm fun w1 f1=>?_)
 have ex:∀ {y:StM} {w':World},Store b y F w'→Store b y (Ex F w) w':=fun h=>Store.st.mono h fun _ _ e=>.inl e
 refine condN (fun hc=>?_) fun hc=>?_
 ·have e:x.spawn l=(0,listE l,x):=by rw [StM.spawn,if_pos hc]
  rw [e] at hk
  exact hk w1 (ex (Store.st.fr0 h f1)) f1.any
 have hS1:=hS.fr0 f1
 obtain ⟨ok',lab,sb,tb,hb,tp,D,hF,h1⟩:=Store.st.fr0 h f1
 refine ptrI (fldI h1.blk.2 (x:=some ⟨sb,0,none⟩) rfl ?_)
 refine Zj3 h1.slots (fun ht w2 f2=>?_) fun id s' w2 ht h2 f2=>?_
 ·have e:x.spawn l=(0,8,x):=by rw [StM.spawn,if_neg (by simpa using hc),ht]
  rw [e] at hk
  refine joinK (condF rfl ?_)
  exact hk w2 (ex (Store.st.fr0 (Store.st.fr0 h f1) f2)) (f1.then0 f2).any
 ·have e:x.spawn l=(id,0,⟨s',putT x.tab id l⟩):=by rw [StM.spawn,if_neg (by simpa using hc),ht]
  rw [e] at hk
  obtain ⟨hdead,hlive,hid,_⟩:=ok'.s.take_live ht
  have hh:homeT x.tab id=none:=by
   have:=ok'.home_live id
   rw [hdead] at this
   simpa using this
  have hm:=Z66 l
  have hno:rowM (x.tab (maskN l)) id=none:=by
   have:=Z3p.1 hh _ hm
   unfold inT at this
   simpa using this
  have h3:StoR lab w2 b sb tb hb tp D s' x.tab (homeT x.tab):=⟨Bl.st.fr h1.blk f2 fun k e=>by omega,h2,Mp.st.fr h1.tabs f2 fun k e=>by omega,Mp.st.fr h1.home f2 fun k e=>by omega,fun k hk hDk=>TabO.st.fr (h1.tab k hk hDk) f2 fun k e=>by omega,h1.no,h1.hm⟩
  have f02:Fr (fun k=>lab k≠0) w w2:=f1.any.then (f2.lab (by decide))
  have hs1:=f1.size
  have hS2:SlT (fun k=>ok k∧k < w.heap.size) w2 compT r l:=(hS.mono (ok':=fun k=>ok k∧k < w.heap.size) fun k hk h=>⟨h,hk⟩).fr f02 fun k e e2=>hd k e.2 e.1 (hF k e2)
  have hl0:∀ k,(ok k∧k < w.heap.size)→lab k=0:=fun k e=>by
   by_cases h0:lab k=0
   ·exact h0
   ·exact absurd (hF k h0) (hd k e.2 e.1)
  refine joinK (condT rfl (Zpg h3 hid hS2 (fun k _ e=>hl0 k e) hl (by simpa using hc) ok'.tab hno (by have:=ok'.tab_le hm; omega) fun lab' tp' D' w3 hex h4 f3=>?_))
  have hs2:=f02.size
  refine hk w3 ⟨?_,lab',sb,tb,hb,tp',D',fun k e=>?_,?_⟩ ((f02.exS f3 fun k e=>.inl e).sub hF)
  ·exact ok'.put (ok'.s.take ht) hid (by simpa using hc) hh hlive (by have:=ok'.tab_le hm; omega)
  ·rcases hex k e with e | e
   ·exact .inl (hF k e)
   ·exact .inr (by omega)
  ·have e2:homeT (putT x.tab id l)=fun j=>if j=id then some (maskN l) else homeT x.tab j:=by
    funext j
    exact Zox (e:=(id,l)) hm (Z3p.1 hh) j
   show StoR lab' w3 b sb tb hb tp' D' s' (putT x.tab id l) (homeT (putT x.tab id l))
   rw [e2]
   exact h4
end
end Go.Proofs.YtoiahhpgkoknfaaGreat
namespace Go.Proofs.YtoiahhpgkoknfaaGreat
open Go Go.RowKit Go.Proofs.YtoiahhpgkoknfaaGreat.Den
variable {R:Type} {Q:R→World→Prop} {w:World}
theorem Zka {α:Type} {p:α→Bool}:∀ {l:List α} {n:Nat},(idxF p l=(n:Int)∨(idxF p l < 0∧n=l.length))→l.takeWhile (fun x=>!p x)=l.take n∧l.dropWhile (fun x=>!p x)=l.drop n∧n≤l.length
 | [],n,h=>by
  rcases h with h | ⟨_,rfl⟩
  ·simp [idxF] at h
  ·simp
 | x :: r,n,h=>by
  cases hx:p x with
  | true =>
   have e:idxF p (x :: r)=0:=by simp [idxF,List.findIdx?_cons,hx]
   rw [e] at h
   have:n=0:=by omega
   subst this
   simp [hx]
  | false =>
   have e:idxF p (x :: r)=(match idxF p r with
    | .ofNat k=>((k:Int)+1)
    | .negSucc _=>-1):=by
    unfold idxF
    rw [List.findIdx?_cons,hx]
    cases List.findIdx? p r <;> rfl
   obtain ⟨m,hm⟩:∃ m,n=m+1∧(idxF p r=(m:Int)∨(idxF p r < 0∧m=r.length)):=by
    rw [e] at h
    rcases Zk9 p r with ⟨h1,_⟩ | ⟨k,h1⟩
    ·rw [h1] at h
     refine ⟨r.length,?_,.inr ⟨by omega,rfl⟩⟩
     rcases h with h | ⟨_,h⟩
     ·exact absurd h (by show ¬ ((-1:Int)=_); omega)
     ·simpa using h
    ·rw [h1] at h
     refine ⟨k,?_,.inl h1⟩
     rcases h with h | ⟨h,_⟩
     ·have:((k:Int)+1)=(n:Int):=h
      omega
     ·have:((k:Int)+1) < 0:=h
      omega
   obtain ⟨rfl,hm⟩:=hm
   have ih:=Zka hm
   simp only [List.takeWhile_cons,List.dropWhile_cons,hx,Bool.not_false,if_true,List.take_succ_cons,List.drop_succ_cons,List.length_cons]
   exact ⟨by rw [ih.1],ih.2.1,by omega⟩
theorem Zp0 {l:List Comp} {c x:Comp}:x∈insC l c↔x∈l∨x=c:=by
 unfold insC
 have:=List.takeWhile_append_dropWhile (p:=fun x:Comp=>!decide (x.1 > c.1)) (l:=l)
 rw [List.mem_append,List.mem_cons]
 conv=>rhs; rw [← this,List.mem_append]
 constructor
 ·rintro (h | h | h)
  ·exact .inl (.inl h)
  ·exact .inr h
  ·exact .inl (.inr h)
 ·rintro ((h | h) | h)
  ·exact .inl h
  ·exact .inr (.inr h)
  ·exact .inr (.inl h)
theorem Zib:∀ {l:List Comp} {c:Comp},Rising (l.map (·.1))→(∀ x∈l,x.1≠c.1)→Rising ((insC l c).map (·.1))
 | [],c,_,_=>by simp [insC,Rising]
 | x :: r,c,hr,hne=>by
  rw [List.map_cons,Rising,List.pairwise_cons] at hr
  by_cases h:x.1 > c.1
  ·have e:insC (x :: r) c=c :: x :: r:=by simp [insC,h]
   rw [e]
   simp only [List.map_cons,Rising,List.pairwise_cons]
   refine ⟨fun y hy=>?_,hr.1,hr.2⟩
   rcases List.mem_cons.1 hy with rfl | hy
   ·exact h
   ·have:=hr.1 y hy; omega
  ·have e:insC (x :: r) c=x :: insC r c:=by simp [insC,h]
   rw [e]
   simp only [List.map_cons,Rising,List.pairwise_cons]
   refine ⟨fun y hy=>?_,Zib hr.2 fun y hy=>hne y (List.mem_cons_of_mem _ hy)⟩
   obtain ⟨z,hz,rfl⟩:=List.mem_map.1 hy
   rcases Zp0.1 hz with hz | rfl
   ·exact hr.1 _ (List.mem_map_of_mem hz)
   ·have:=hne x List.mem_cons_self; omega
theorem Valid.ins {m:Nat} {l:List Comp} {c:Comp} (h:Valid m l) (hc:checkM c=0) (hk:c.1 ∉ kindsOf m):listE (insC l c)=0:=by
 rw [Z3x]
 refine ⟨fun x hx=>?_,Zib h.rising fun x hx e=>hk ?_⟩
 ·rcases Zp0.1 hx with hx | rfl
  ·exact (Z3x.1 h.list).1 x hx
  ·exact hc
 ·rw [← h.kinds,← e]; exact List.mem_map_of_mem hx
theorem Valid.filter {m:Nat} {l:List Comp} (h:Valid m l) (p:Comp→Bool):listE (l.filter p)=0:=by
 rw [Z3x]
 refine ⟨fun x hx=>(Z3x.1 h.list).1 x (List.mem_filter.1 hx).1,?_⟩
 have:=h.rising
 unfold Rising at this ⊢
 rw [List.pairwise_map] at this ⊢
 exact this.sublist List.filter_sublist
theorem Zr4 {m:Nat} {k:Int} (h:0≤k):k∈kindsOf m↔k < 6∧Nat.testBit m k.toNat=true:=by
 rw [Z1i]
 constructor
 ·rintro ⟨q,h1,h2,rfl⟩; exact ⟨by omega,by simpa using h2⟩
 ·rintro ⟨h1,h2⟩; exact ⟨k.toNat,by omega,h2,by omega⟩
section
variable {bc:Nat} {Tc:TypeId} {n:Nat} {r:Sl} {l:List Comp}
theorem Zlp {x c:Comp} (B:Blk w bc Tc (compC c)) {K:Res [.sc .bool]→W R} (hk:∀ w',Fr None w w'→K (decide (x.1 > c.1)) Q w'):callW Tryz.prog Z29 [.agg ⟨compC x⟩,.pointer (some ⟨bc,0,none⟩)] [.sc .bool] K Q w:=by
 refine Zat x _ K Q w ?_
 unfold Z5k
 refine newI fun w1 B1 f1 s1=>fldI B1 (x:=x.1) rfl (ptrI (fldI (B.fr f1 fun h=>h) (x:=c.1) rfl ?_))
 exact hk w1 f1
theorem Zfk {x:Comp} {k:Int} (B:Blk w bc Tc [.int .u8 k]) {K:Res [.sc .bool]→W R} (hk:∀ w',Fr None w w'→K (x.1 == k) Q w'):callW Tryz.prog Zc [.agg ⟨compC x⟩,.pointer (some ⟨bc,0,none⟩)] [.sc .bool] K Q w:=by
 refine Z8x x _ K Q w ?_
 unfold Z4o
 refine newI fun w1 B1 f1 s1=>fldI B1 (x:=x.1) rfl (ptrI (fld0 (B.fr f1 fun h=>h) (x:=k) rfl ?_))
 exact hk w1 f1
theorem Zob {S:Nat→Prop} (ho:Den.Own S w 52 compT r l) {vb:Nat} {Tv:TypeId} {x:Comp} (Bv:Blk w vb Tv (compC x)) (hvb:¬ S vb) {i:Nat} (hi:i≤l.length) (hsm:l.length≤1000) {K:Res [.sc .sl]→W R}
  (hk:∀ r' w',Den.Own (Ex S w) w' 52 compT r' (l.take i ++ x :: l.drop i)→Fr S w w'→K r' Q w') :
  callW Tryz.prog Z4y [.slice r.a r.n r.c,.int .i64 (i:Int),.slice (some ⟨vb,0,none⟩) 1 1] [.sc .sl] K Q w:=by
 refine Zcs r _ ⟨some ⟨vb,0,none⟩,1,1⟩ K Q w ?_
 unfold Z7h
 have hlen:=ho.len
 have hcap:=ho.cap
 refine ho.sl.from rfl rfl hi fun r1 hr1 _=>condF rfl ?_
 refine condE (fun he=>?_) fun hne=>?_
 ·have:i=l.length:=by omega
  subst this
  have e:l.take l.length ++ x :: l.drop l.length=l ++ [x]:=by simp
  rw [e] at hk
  refine app1 (x:=x) (S':=Ex S w) Z35 ho Bv rfl (by omega) (by rw [Zn]; omega) (fun _ h=>.inl h) (.inr (Nat.le_refl _)) fun r' w' o' f' _=>hk r' w' o' (f'.mono fun k _ e=>ho.own k e)
 have hil:i < l.length:=by omega
 obtain ⟨ti,z,hti,htz,hts,htb,hzs⟩:=Z35.info
 have ht4:ti.size=4:=hts
 have lenD:((l.drop i).flatMap compT.cells).length=(l.length - i) * 4:=by have:=Z27 (t:=compT) (l.drop i); rw [List.length_drop] at this; exact this
 have lenA:((l.take i).flatMap compT.cells).length=i * 4:=by have:=Z27 (t:=compT) (l.take i); rw [List.length_take,Nat.min_eq_left hi] at this; exact this
 have flatD:(l.drop i).flatMap compT.cells=(l.flatMap compT.cells).drop (i * 4):=by
  have h2:l.flatMap compT.cells=(l.take i).flatMap compT.cells ++ (l.drop i).flatMap compT.cells:=by rw [← List.flatMap_append,List.take_append_drop]
  rw [h2,← lenA,List.drop_left]
 have oneX:∀ v∈compC x,v.oneCell'=true:=compT.one x rfl
 have oneD:∀ v∈(l.drop i).flatMap compT.cells,v.oneCell'=true:=fun u hu=>by
  obtain ⟨y,_,hy⟩:=List.mem_flatMap.1 hu
  exact compT.one y rfl u hy
 have cellsX:∀ {w':World},Blk w' vb Tv (compC x)→CellsAt w' ⟨vb,0,none⟩ (compC x):=fun B=>B.cells 0 _ fun j u h=>by rw [Nat.zero_add]; exact h
 have flatI:(l.take i ++ x :: l.drop i).flatMap compT.cells=(l.take i).flatMap compT.cells ++ compC x ++ (l.drop i).flatMap compT.cells:=by
  rw [List.flatMap_append,List.flatMap_cons,List.append_assoc]; rfl
 have lenI:(l.take i ++ x :: l.drop i).length=l.length+1:=by simp; omega
 rcases ho.cases with ⟨rfl,rfl⟩ | ⟨g,c,cur,rfl,hS,h3,h4,h5,h6,h7⟩
 ·simp at hil
 have hvg:vb≠g:=fun e=>hvb (e ▸ hS)
 have hclen:cur.toList.length=c * 4:=by rw [Array.length_toList,h6]; rfl
 have B:Blk w g 52 cur.toList:=h3
 have hl4:(l.drop i).length * 4+i * 4≤c * 4:=by simp; omega
 have cellsD:CellsAt w ⟨g,i * 4,none⟩ ((l.drop i).flatMap compT.cells):=B.cells _ _ fun j u hj=>by
  rw [flatD,List.getElem?_drop,← h7,List.getElem?_take] at hj
  split at hj
  ·exact hj
  ·cases hj
 have w1:IntKind.wrap .i64 (((l.length:Nat):Int)+((1:Nat):Int))=((l.length+1:Nat):Int):=w64 (by omega)
 have w2:IntKind.wrap .i64 (((i:Nat):Int)+((1:Nat):Int))=((i+1:Nat):Int):=w64 (by omega)
 simp only [w1,w2]
 refine condD (fun hgt=>?_) fun hle=>?_
 ·
  have hcn:c=l.length:=by have:((l.length+1:Nat):Int) > (c:Int):=hgt; omega
  subst hcn
  refine chkI (by simp only [Option.getD_some,Option.getD_none]; omega) ?_
  simp only [Option.getD_some,Option.getD_none,Int.toNat_natCast]
  have e0:(if l.length=Int.toNat 0 then some (⟨g,0,none⟩:Addr) else (some (⟨g,0,none⟩:Addr)).map (·.add (Int.toNat 0 * 4)))=some ⟨g,0,none⟩:=by
   have h0:¬ l.length=Int.toNat 0:=fun h=>by have:l.length=0:=h; omega
   rw [if_neg h0,Option.map_some,Z3,Nat.zero_add]
   rfl
  rw [e0]
  have w3:IntKind.wrap .i64 (((l.length+1:Nat):Int) - (i:Int))=((l.length+1 - i:Nat):Int):=by rw [w64 (by omega)]; omega
  rw [w3]
  have hA:((l.take i).flatMap compT.cells)=cur.toList.take (i * 4):=by
   rw [Zf6,← h7,List.take_take,Nat.min_eq_left (show i * compT.size≤l.length * compT.size from Nat.mul_le_mul_right _ hi)]
   rfl
  have hr:=Zc8 (P:=Tryz.prog) (ty:=35) w 3 ti z .i64 .i64 Z35.under (by kernel_rfl) hti htz ⟨g,0,none⟩ i l.length ((l.take i).flatMap compT.cells) (by rw [lenA,ht4]) (fun j v hj=>by
    rw [Z3,Nat.zero_add,B.cell]
    rw [hA,List.getElem?_take] at hj
    split at hj
    ·exact hj
    ·cases hj) (l.length+1 - i) (by rw [ht4]; omega) (by omega) (by omega) (by
    rw [htb]
    exact growslice_fits (by omega) (by omega)) (by rw [htb]; omega)
  have hge:=grownCap_ge w (i+(l.length+1 - i)) l.length 52
  have hmx:=grownCap_le_maxLen w (i+(l.length+1 - i)) l.length 52 (by rw [Zn]; omega)
  generalize grownCap w (i+(l.length+1 - i)) l.length 52=G at hr hge hmx
  have hn:i+(l.length+1 - i)=l.length+1:=by omega
  rw [hn] at hr hge
  refine ⟨⟨some ⟨w.heap.size,0,none⟩,l.length+1,G⟩,_,hr,?_⟩
  have f1:=(Fr.refl None w).drew.alloc (.cells (((l.take i).flatMap compT.cells).toArray ++ Builtin.zeroCells z.cells (l.length+1 - i) ++ Builtin.zeroCells z.cells (G - (l.length+1))) 52)
  have B1:Blk (w.drew.alloc (.cells (((l.take i).flatMap compT.cells).toArray ++ Builtin.zeroCells z.cells (l.length+1 - i) ++ Builtin.zeroCells z.cells (G - (l.length+1))) 52)) w.heap.size 52
    (((l.take i).flatMap compT.cells) ++ (Builtin.zeroCells z.cells (l.length+1 - i)).toList ++ (Builtin.zeroCells z.cells (G - (l.length+1))).toList):=by
   have:=heap_alloc_new w.drew (.cells (((l.take i).flatMap compT.cells).toArray ++ Builtin.zeroCells z.cells (l.length+1 - i) ++ Builtin.zeroCells z.cells (G - (l.length+1))) 52)
   unfold Blk
   rw [show (⟨((l.take i).flatMap compT.cells) ++ (Builtin.zeroCells z.cells (l.length+1 - i)).toList ++ (Builtin.zeroCells z.cells (G - (l.length+1))).toList⟩:Array Value)=((l.take i).flatMap compT.cells).toArray ++ Builtin.zeroCells z.cells (l.length+1 - i) ++ Builtin.zeroCells z.cells (G - (l.length+1)) from Array.ext' (by simp)]
   exact this
  have hs1:(w.drew.alloc (.cells (((l.take i).flatMap compT.cells).toArray ++ Builtin.zeroCells z.cells (l.length+1 - i) ++ Builtin.zeroCells z.cells (G - (l.length+1))) 52)).heap.size=w.heap.size+1:=by simp
  have hzl:z.cells.size=4:=hzs
  have hl1:(((l.take i).flatMap compT.cells) ++ (Builtin.zeroCells z.cells (l.length+1 - i)).toList ++ (Builtin.zeroCells z.cells (G - (l.length+1))).toList).length=G * 4:=by
   simp only [List.length_append,Array.length_toList,size_zeroCells,lenA,hzl]
   omega
  have hA1:(((l.take i).flatMap compT.cells) ++ (Builtin.zeroCells z.cells (l.length+1 - i)).toList ++ (Builtin.zeroCells z.cells (G - (l.length+1))).toList).take (i * 4)=(l.take i).flatMap compT.cells:=by
   rw [List.append_assoc,← lenA,List.take_left]
  generalize (((l.take i).flatMap compT.cells) ++ (Builtin.zeroCells z.cells (l.length+1 - i)).toList ++ (Builtin.zeroCells z.cells (G - (l.length+1))).toList)=cs1 at B1 hl1 hA1
  generalize w.drew.alloc (.cells (((l.take i).flatMap compT.cells).toArray ++ Builtin.zeroCells z.cells (l.length+1 - i) ++ Builtin.zeroCells z.cells (G - (l.length+1))) 52)=wa at f1 B1 hs1
  have hgl:=B.lt
  have hvl:=Bv.lt
  refine chkI (by simp only [Option.getD_some,Option.getD_none]; omega) ?_
  simp only [Option.getD_some,Option.getD_none,Int.toNat_natCast]
  rw [if_neg (by omega),Option.map_some,Z3,Nat.zero_add]
  refine copyI (vs:=compC x) (n:=1) Z35.under hti B1 (by show 1=min 1 (l.length+1 - i); omega) (by rw [ht4]; rfl) (cellsX (Bv.fr f1 fun h=>h)) (by rw [hl1]; show i * 4+4≤_; omega) oneX fun wb B2 f2 s2=>?_
  refine chkI (by simp only [Option.getD_some,Option.getD_none]; omega) ?_
  simp only [Option.getD_some,Option.getD_none,Int.toNat_natCast]
  rw [if_neg (by omega),Option.map_some,Z3,Nat.zero_add]
  refine chkI (by simp only [Option.getD_some,Option.getD_none]; omega) ?_
  simp only [Option.getD_some,Option.getD_none,Int.toNat_natCast]
  rw [if_neg (by omega),Option.map_some,Z3,Nat.zero_add]
  have f12:=f1.newer f2 fun k e=>by omega
  have cD:CellsAt wb.drew ⟨g,i * 4,none⟩ ((l.drop i).flatMap compT.cells):=by
   have B':=(B.fr f12 fun h=>h).drew
   exact B'.cells _ _ fun j u hj=>by
    rw [flatD,List.getElem?_drop,← h7,List.getElem?_take] at hj
    split at hj
    ·exact hj
    ·cases hj
  refine copyI (vs:=(l.drop i).flatMap compT.cells) (n:=l.length - i) Z35.under hti B2.drew (by show _=min _ _; omega) (by rw [lenD,ht4]) cD (by rw [Z2b,hl1,lenD]; omega) oneD fun wc B3 f3 s3=>?_
  have hfin:=Zr2 (z:=4) (A:=(l.take i).flatMap compT.cells) (X:=compC x) (D:=(l.drop i).flatMap compT.cells) (cs:=cs1) (i:=i) (d:=l.length - i) hA1 lenA rfl lenD (by rw [hl1]; omega)
  rw [show i+1+(l.length - i)=l.length+1 by omega] at hfin
  have o3:=Den.Own.mk' (S:=Ex S w) (w:=wc) (E:=52) (t:=compT) (l:=l.take i ++ x :: l.drop i) (g:=w.heap.size) (c:=G) (cur:=⟨putAt (putAt cs1 (i * 4) (compC x)) ((i+1) * 4) ((l.drop i).flatMap compT.cells)⟩) (.inr (Nat.le_refl _)) B3 (by rw [lenI]; omega) hmx (by simp [Z2b,hl1]; rfl) (by rw [lenI,flatI]; exact hfin)
  rw [lenI] at o3
  refine hk _ wc o3 ?_
  exact ((f12.drew.newer f3 fun k e=>by omega:Fr None w wc)).any
 ·
  have hroom:l.length+1≤c:=by have:¬ ((l.length+1:Nat):Int) > (c:Int):=hle; omega
  have e0:∀ (K:Sl→W Sl) (Q:Sl→World→Prop),K ⟨some ⟨g,0,none⟩,l.length+1,c⟩ Q w→slcW (some (⟨g,0,none⟩:Addr)) l.length c 4 none (some ((l.length+1:Nat):Int)) K Q w:=fun K Q hK=>by
   refine chkI (by simp only [Option.getD_some,Option.getD_none]; omega) ?_
   simp only [Option.getD_some,Option.getD_none,Int.toNat_natCast]
   have h0:¬ c=Int.toNat 0:=fun h=>by have:c=0:=h; omega
   rw [if_neg h0,Option.map_some,Z3,Nat.zero_add]
   exact hK
  refine e0 _ _ ?_
  have from_:∀ (j:Nat) (K:Sl→W Sl) (Q:Sl→World→Prop) (w:World),j≤l.length→K ⟨some ⟨g,j * 4,none⟩,l.length+1 - j,c - j⟩ Q w→slcW (some (⟨g,0,none⟩:Addr)) (l.length+1) c 4 (some (j:Int)) none K Q w:=fun j K Q w hj hK=>by
   refine chkI (by simp only [Option.getD_some,Option.getD_none]; omega) ?_
   simp only [Option.getD_some,Option.getD_none,Int.toNat_natCast]
   rw [if_neg (by omega),Option.map_some,Z3,Nat.zero_add]
   exact hK
  refine from_ (i+1) _ _ _ (by omega) ?_
  refine ⟨false,w,?_,condT rfl ?_⟩
  ·rw [run_callFunc_extern (fn:=Tryz.f278) Tryz.func278 (by kernel_rfl) (by kernel_rfl) (by kernel_rfl) (e:=Extern.SlicesOverlaps.overlaps #[35,35] #[4]) (by kernel_rfl)]
   have hsz:∀ w,(Go.sizeOf 52).run Tryz.prog w=.ok 4 w:=fun w=>by simp [Go.sizeOf,typeInfo,hti,ht4]
   have hsh:∀ {b:Nat} {T:TypeId} {cs:List Value},Blk w b T cs→w.shape? b=some (T,cs.length):=fun B=>by unfold Blk at B; simp [World.shape?,B]
   rw [Lib.run_overlaps_apart w 35 4 52 Z35.under 4 hsz ⟨vb,0,none⟩ ⟨g,(i+1) * 4,none⟩ 1 1 _ _ hvg Tv 52 4 cur.toList.length (hsh Bv) (hsh B) (by rw [hclen]; omega) (Bv.frozen 0) (Bv.frozen 4)]
   rfl
  have fd:=(Fr.refl None w).drew
  refine from_ (i+1) _ _ _ (by omega) (from_ i _ _ _ (by omega) ?_)
  refine copyI (vs:=(l.drop i).flatMap compT.cells) (n:=l.length - i) Z35.under hti B.drew (by show l.length - i=min (l.length+1 - i) (l.length+1 - (i+1)); omega) (by rw [lenD,ht4]) cellsD (by rw [hclen,lenD]; omega) oneD fun wb B2 f2 s2=>?_
  refine from_ i _ _ _ (by omega) ?_
  have f02:Fr (fun k=>k=g) w wb:=fd.any.then f2
  refine copyI (vs:=compC x) (n:=1) Z35.under hti B2 (by show 1=min 1 (l.length+1 - i); omega) (by rw [ht4]; rfl) (cellsX (Bv.fr f02 fun e=>hvg e)) (by rw [Z2b,hclen]; show i * 4+4≤_; omega) oneX fun wc B3 f3 s3=>?_
  have hA:cur.toList.take (i * 4)=(l.take i).flatMap compT.cells:=by
   rw [Zf6,← h7,List.take_take,Nat.min_eq_left (show i * compT.size≤l.length * compT.size from Nat.mul_le_mul_right _ hi)]
   rfl
  have hfin:=Zpt (z:=4) (A:=(l.take i).flatMap compT.cells) (X:=compC x) (D:=(l.drop i).flatMap compT.cells) (cs:=cur.toList) (i:=i) (d:=l.length - i) hA lenA rfl lenD (by rw [hclen]; omega)
  rw [show i+1+(l.length - i)=l.length+1 by omega] at hfin
  have o3:=Den.Own.mk' (S:=Ex S w) (w:=wc) (E:=52) (t:=compT) (l:=l.take i ++ x :: l.drop i) (g:=g) (c:=c) (cur:=⟨putAt (putAt cur.toList ((i+1) * 4) ((l.drop i).flatMap compT.cells)) (i * 4) (compC x)⟩) (.inl hS) B3 (by rw [lenI]; exact hroom) h5 (by simp [Z2b,h6]) (by rw [lenI,flatI]; exact hfin)
  rw [lenI] at o3
  exact hk _ wc o3 ((f02.then f3).mono fun k _ e=>by rw [e]; exact hS)
theorem Zoa (ho:Den.Own (Up n) w 52 compT r l) {c:Comp} (B:Blk w bc Tc (compC c)) (_hb:bc < n) (hn:n≤w.heap.size) (hsm:l.length≤1000) {K:Res [.sc .sl]→W R} (hk:∀ r' w',Den.Own (Up n) w' 52 compT r' (insC l c)→Fr (Up n) w w'→K r' Q w') :
  callW Tryz.prog Z50 [.slice r.a r.n r.c,.pointer (some ⟨bc,0,none⟩)] [.sc .sl] K Q w:=by
 refine Zcu r _ K Q w ?_
 unfold Z7j
 refine Z34 r _ _ _ w ?_
 unfold Z11
 refine idxFuncI (t:=compT) (sz:=4) (callp:=fun x K=>callW Tryz.prog Z29 [.agg ⟨compC x⟩,.pointer (some ⟨bc,0,none⟩)] [.sc .bool] K) (fun x:Comp=>decide (x.1 > c.1)) ho.sl rfl (by omega) (fun x _ X w' f hX=>Zlp (B.fr f fun h=>h) hX) fun w1 f1=>?_
 have hlen:=ho.len
 refine joinI (fun i w'=>w'=w1∧∃ q:Nat,i=(q:Int)∧(idxF (fun x:Comp=>decide (x.1 > c.1)) l=(q:Int)∨(idxF (fun x:Comp=>decide (x.1 > c.1)) l < 0∧q=l.length))) ?_ ?_
 ·refine condD (fun h=>⟨rfl,l.length,by omega,.inr ⟨h,rfl⟩⟩) fun h=>⟨rfl,(idxF (fun x:Comp=>decide (x.1 > c.1)) l).toNat,by omega,.inl (by omega)⟩
 ·rintro i w2 ⟨rfl,q,rfl,hq⟩
  obtain ⟨h1,h2,h3⟩:=Zka hq
  have B2:=B.fr f1 fun h=>h
  refine ptrI (aggI B2 (x:=c) rfl (newI fun w3 B3 f3 s3=>?_))
  have o3:Den.Own (fun k=>n≤k∧k < w2.heap.size) w3 52 compT r l:=by
   have o1:=(ho.none f1)
   have:Den.Own (fun k=>n≤k∧k < w2.heap.size) w2 52 compT r l:=o1.mono fun k hk h=>⟨h,hk⟩
   exact this.none f3
  refine Zob o3 B3 (by omega) h3 hsm fun r' w4 o4 f4=>?_
  have hs1:=f1.size
  have hs3:=f3.size
  refine hk r' w4 ?_ ?_
  ·have:insC l c=l.take q ++ c :: l.drop q:=by unfold insC; rw [h1,h2]
   rw [this]
   exact o4.mono fun k _ h=>by rcases h with h | h; exact h.1; (show n≤k; omega)
  ·exact (f1.then0 f3).any.then (f4.mono fun k _ h=>h.1)
theorem Zjp (ho:Den.Own (Up n) w 52 compT r l) {k:Int} (B:Blk w bc Tc [.int .u8 k]) (hb:bc < n) (hn:n≤w.heap.size) (hsm:l.length≤1000) {K:Res [.sc .sl]→W R} (hk:∀ r' w',Den.Own (Up n) w' 52 compT r' (l.filter fun x=>!(x.1 == k))→Fr (Up n) w w'→K r' Q w') :
  callW Tryz.prog Z3k [.slice r.a r.n r.c,.pointer (some ⟨bc,0,none⟩)] [.sc .sl] K Q w:=by
 refine Zau r _ K Q w ?_
 unfold Z5l
 refine Z2o r _ _ _ w ?_
 unfold Zs
 refine Z2s r _ _ _ w ?_
 unfold Zu
 refine idxFuncI (t:=compT) (sz:=4) (callp:=fun x K=>callW Tryz.prog Zc [.agg ⟨compC x⟩,.pointer (some ⟨bc,0,none⟩)] [.sc .bool] K) (fun x:Comp=>x.1 == k) ho.sl rfl (by omega) (fun x _ X w' f hX=>Zfk (B.fr f fun h=>h) hX) fun w1 f1=>?_
 rcases Zk9 (fun x:Comp=>x.1 == k) l with ⟨h1,hno⟩ | ⟨i,h1⟩
 ·rw [h1]
  refine condT rfl ?_
  have e:l.filter (fun x=>!(x.1 == k))=l:=List.filter_eq_self.2 fun x hx=>by rw [hno x hx]; rfl
  rw [e] at hk
  exact hk r w1 (ho.none f1) f1.any
 ·rw [h1]
  refine condF (by rw [beq_eq_false_iff_ne]; omega) ?_
  have B1:=B.fr f1 fun h=>h
  have hs1:=f1.size
  refine delFuncI (t:=compT) (sz:=4) (callp:=fun x K=>callW Tryz.prog Zc [.agg ⟨compC x⟩,.pointer (some ⟨bc,0,none⟩)] [.sc .bool] K) (z:=(0,0,0,0)) (zv:=.agg #[.int .u8 0,.int .i32 0,.int .i32 0,.int .i32 0]) (fun x:Comp=>x.1 == k) Z35 (by kernel_rfl) rfl rfl (ho.none f1) rfl (by omega) h1 (fun x _ X w' f hX=>Zfk (B1.fr f fun h=>?_) hX) fun q w2 o2 f2=>?_
  ·rcases h with h | h
   ·have:n≤bc:=h; omega
   ·have:w1.heap.size≤bc:=h; omega
  ·exact hk _ w2 o2 (f1.any.then f2)
end
end Go.Proofs.YtoiahhpgkoknfaaGreat
namespace Go.Proofs.YtoiahhpgkoknfaaGreat
open Go Go.RowKit Go.Proofs.YtoiahhpgkoknfaaGreat.Den
variable {R:Type} {Q:R→World→Prop} {w:World}
section
variable {F:Nat→Prop} {b:Nat} {x:StM}
theorem Zkq (h:StOk x) {id:Int}:(x.at id=none∧homeT x.tab id=none)∨∃ m i e,x.at id=some (m,i,e)∧homeT x.tab id=some m∧m < 64∧rowM (x.tab m) id=some i∧(x.tab m)[i]?=some e∧e.1=id∧Valid m e.2∧x.s.live id=true:=by
 cases ha:x.at id with
 | none=>exact .inl ⟨rfl,h.at_none.1 ha⟩
 | some p =>
  obtain ⟨m,i,e⟩:=p
  obtain ⟨h1,h2,h3,h4,h5,h6,h7⟩:=h.at_some ha
  exact .inr ⟨m,i,e,rfl,h1,h2,h3,h4,h5,h6,h7⟩
theorem Z9r (h:Store b x F w) {id:Int} (hid:IdOk id) {K:Res [.sc (.int .i64)]→W R} (hk:∀ w',Store b (x.despawn id).2 (Ex F w) w'→Fr F w w'→K (x.despawn id).1 Q w') :
  callW Tryz.prog Z2y [.pointer (some ⟨b,0,none⟩),.int .u32 id] [.sc (.int .i64)] K Q w:=by
 have hst:=h
 obtain ⟨ok,lab,sb,tb,hb,tp,D,hF,h⟩:=h
 refine Zbm _ _ K Q w ?_
 unfold Z6s
 refine Zgj h hid ?_
 rcases Zkq ok (id:=id) with ⟨ha,hh⟩ | ⟨m,i,e,ha,hh,hm,hr,he,rfl,hv,hl⟩
 ·rw [hh]
  have e1:x.despawn id=(7,x):=by rw [StM.despawn,ha]
  rw [e1] at hk
  exact condT rfl (hk w (Store.st.mono hst fun _ _ e=>.inl e) (Fr.refl _ _))
 ·rw [hh]
  have e1:x.despawn e.1=(0,⟨x.s.freed e.1,upd x.tab m (dropI (x.tab m) i)⟩):=by rw [StM.despawn,ha]
  rw [e1] at hk
  have hD:=(h.hm _ _ hh).2
  refine condF rfl (Ze6 (h.tab m hm hD) hid hr he fun s w1 t1 o1 f1=>?_)
  have h1:=h.setTab hm hD f1 (TabO.st.mono t1 fun _ _ e=>.inl e)
  refine ptrI (fldI h1.blk.2 (x:=some hb) rfl ?_)
  refine h1.homeDel hid fun w2 h2 f2 s2=>?_
  refine ptrI (fldI h2.blk.2 (x:=some ⟨sb,0,none⟩) rfl ?_)
  have hx:∀ k,relab lab w.heap.size w1.heap.size (5+m) k≠0→lab k≠0∨w.heap.size≤k:=Zp9 fun _ e=>e
  have f02:Fr (fun k=>lab k≠0) w w2:=(f1.lab (by omega)).exS f2 fun k e=>hx k (by omega)
  refine Zj0 h2.slots hid (fun hf=>by rw [hl] at hf; cases hf) fun w3 _ sl3 f3=>?_
  have h3:=h2.setSlots f3 sl3
  have hs:=f02.size
  refine hk w3 ⟨ok.drop hm he,relab (relab lab w.heap.size w1.heap.size (5+m)) w2.heap.size w3.heap.size 4,sb,tb,hb,tp,D,fun k e=>?_,?_⟩ ((f02.exS f3 fun k e=>hx k (by omega)).sub hF)
  ·rcases Z2a e with ⟨e,_⟩ | ⟨e,_⟩
   ·exact (hx k e).imp (hF k) fun h=>h
   ·exact .inr (by omega)
  ·have e2:homeT (upd x.tab m (dropI (x.tab m) i))=fun j=>if j=e.1 then none else homeT x.tab j:=by
    funext j
    exact Zbx ok hm he j
   show StoR _ w3 b sb tb hb tp D (x.s.freed e.1) (upd x.tab m (dropI (x.tab m) i)) (homeT (upd x.tab m (dropI (x.tab m) i)))
   rw [e2]
   exact h3
theorem Z3r (h:Store b x F w) {id k:Int} (hid:IdOk id) {K:Res [.agg [.int .u8,.int .i32,.int .i32,.int .i32],.sc (.int .i64)]→W R} (hk:∀ w',Fr None w w'→K (x.get id k) Q w') :
  callW Tryz.prog Z16 [.pointer (some ⟨b,0,none⟩),.int .u32 id,.int .u8 k] [.agg [.int .u8,.int .i32,.int .i32,.int .i32],.sc (.int .i64)] K Q w:=by
 obtain ⟨ok,lab,sb,tb,hb,tp,D,hF,h⟩:=h
 refine Zfz _ _ _ K Q w ?_
 unfold Zab
 refine newI fun w1 B1 f1 s1=>?_
 have h1:=h.fr0 f1
 refine Zgj h1 hid ?_
 rcases Zkq ok (id:=id) with ⟨ha,hh⟩ | ⟨m,i,e,ha,hh,hm,hr,he,rfl,hv,hl⟩
 ·rw [hh]
  refine condT rfl (stoAll B1 rfl rfl fun w2 B2 f2 s2=>aggI B2 (x:=(0,0,0,0)) rfl ?_)
  have:=hk w2 (f1.newer f2 fun k e=>by omega)
  rw [StM.get,ha] at this
  exact this
 ·rw [hh]
  refine condF rfl (Ztf (h1.tab m hm (h.hm _ _ hh).2) hid fun w2 f2=>?_)
  refine stoAll (B1.fr f2 fun h=>h) rfl rfl fun w3 B3 f3 s3=>aggI B3 (x:=(getM m (x.tab m) e.1 k).1) rfl ?_
  have:=hk w3 ((f1.then0 f2).newer f3 fun k e=>by have:=B1.lt; omega)
  have eg:x.get e.1 k=getM m (x.tab m) e.1 k:=by
   rw [StM.get,ha,getM,hr]
   simp only [compM,he]
   rfl
  rw [eg] at this
  exact this
theorem Z3s (h:Store b x F w) {id:Int} (hid:IdOk id) {c:Comp} {K:Res [.sc (.int .i64)]→W R} (hk:∀ w',Store b (x.set id c).2 F w'→Fr F w w'→K (x.set id c).1 Q w') :
  callW Tryz.prog Z17 [.pointer (some ⟨b,0,none⟩),.int .u32 id,.agg ⟨compC c⟩] [.sc (.int .i64)] K Q w:=by
 refine Zg0 _ _ _ K Q w ?_
 unfold Zac
 refine newI fun w1 B1 f1 s1=>aggI B1 (x:=c) rfl (Z3a (c:=c) fun w2 f2=>?_)
 have f02:=f1.then0 f2
 have hst:=Store.st.fr0 h f02
 refine joinI (fun z w'=>z=decide (checkM c≠0)∧w'=w2) ?_ ?_
 ·exact condN (fun h=>⟨by simp [h],rfl⟩) fun h=>⟨by simp [h],rfl⟩
 rintro z w' ⟨rfl,rfl⟩
 refine condD (fun hc=>?_) fun hc=>?_
 ·have e1:x.set id c=(checkM c,x):=by rw [StM.set,if_pos hc]
  rw [e1] at hk
  exact hk _ hst f02.any
 obtain ⟨ok,lab,sb,tb,hb,tp,D,hF,h2⟩:=hst
 have B2:=B1.fr f2 fun h=>h
 have hc0:checkM c=0:=by simpa using hc
 refine Zgj h2 hid ?_
 rcases Zkq ok (id:=id) with ⟨ha,hh⟩ | ⟨m,i,e,ha,hh,hm,hr,he,rfl,hv,hl⟩
 ·rw [hh]
  have e1:x.set id c=(7,x):=by rw [StM.set,if_neg hc,ha]
  rw [e1] at hk
  exact condT rfl (hk _ (Store.st.fr0 h f02) f02.any)
 ·rw [hh]
  have hD:=(h2.hm _ _ hh).2
  refine condF rfl (aggI B2 (x:=c) rfl (Zth (c:=c) (h2.tab m hm hD) hid fun w3 t3 f3=>?_))
  have e0:setM m (x.tab m) e.1 c=if c.1∈kindsOf m then 0 else 10:=by rw [setM,if_neg hc,hr]
  have e1:x.set e.1 c=if c.1∈kindsOf m then (0,⟨x.s,upd x.tab m (setL (x.tab m) i c)⟩) else (10,x):=by rw [StM.set,if_neg hc,ha]
  rw [setT,e0] at t3
  rw [e0]
  have keep:∀ {L:List Ent},TabO (tp m) m L (fun k=>lab k=5+m) w3→StoR lab w3 b sb tb hb tp D x.s (upd x.tab m L) (homeT x.tab):=fun {L} t=>by
   refine ⟨Bl.st.fr h2.blk f3 fun k e=>by omega,Slots.st.fr h2.slots f3 fun k e=>by omega,Mp.st.fr h2.tabs f3 fun k e=>by omega,Mp.st.fr h2.home f3 fun k e=>by omega,fun k hk hDk=>?_,fun k hk hDk=>?_,h2.hm⟩
   ·by_cases e:k=m
    ·subst e; rw [Z4l]; exact t
    ·rw [Z1w e]; exact TabO.st.fr (h2.tab k hk hDk) f3 fun k e=>by omega
   ·rw [Z1w (fun e=>by subst e; rw [hD] at hDk; cases hDk)]; exact h2.no k hk hDk
  have f03:Fr F w w3:=(f02.any.then (f3.lab (by omega))).sub hF
  by_cases hk2:c.1∈kindsOf m
  ·rw [if_pos hk2] at e1
   rw [if_pos hk2,if_pos rfl,hr] at t3
   rw [if_pos hk2]
   rw [e1] at hk
   refine hk w3 ⟨ok.set hm he hc0 hk2,lab,sb,tb,hb,tp,D,hF,?_⟩ f03
   have e2:homeT (upd x.tab m (setL (x.tab m) i c))=homeT x.tab:=Zst he
   show StoR lab w3 b sb tb hb tp D x.s (upd x.tab m (setL (x.tab m) i c)) (homeT (upd x.tab m (setL (x.tab m) i c)))
   rw [e2]
   exact keep t3
  ·rw [if_neg hk2] at e1
   rw [if_neg hk2,if_neg (by omega)] at t3
   rw [if_neg hk2]
   rw [e1] at hk
   refine hk w3 ⟨ok,lab,sb,tb,hb,tp,D,hF,?_⟩ f03
   have:=keep t3
   have e3:upd x.tab m (x.tab m)=x.tab:=by funext k; unfold upd; split; (rename_i e; rw [e]); rfl
   rw [e3] at this
   exact this
theorem Zfl (h:Store b x F w) {K:Res [.sc .ptr]→W R} (hk:∀ sb,Slots sb x.s F w→K (some ⟨sb,0,none⟩) Q w):callW Tryz.prog Z4a [.pointer (some ⟨b,0,none⟩)] [.sc .ptr] K Q w:=by
 obtain ⟨ok,lab,sb,tb,hb,tp,D,hF,h⟩:=h
 refine Zbn _ K Q w ?_
 exact condF rfl (ptrI (fldI h.blk.2 (x:=some ⟨sb,0,none⟩) rfl (hk sb (Slots.st.mono h.slots fun k _ e=>hF k (by omega)))))
theorem Zj5 (h:Store b x F w) {K:Res [.sc .sl]→W R} (hk:∀ r w',SlT (Up w.heap.size) w' idT r x.s.list→Fr None w w'→K r Q w'):callW Tryz.prog Z62 [.pointer (some ⟨b,0,none⟩)] [.sc .sl] K Q w :=
 Zeo _ K Q w (Zfl h fun _sb hs=>Zj1 hs hk)
theorem Zk1 (h:Store b x F w) {id:Int} (hid:IdOk id) {K:Res [.agg [.int .u32,.sl],.sc (.int .i64)]→W R} (h0:x.at id=none→∀ w',Fr None w w'→K ((0,⟨none,0,0⟩),7) Q w')
  (hk:∀ m i e s w',x.at id=some (m,i,e)→Den.Own (Up w.heap.size) w' 52 compT s e.2→Fr None w w'→K ((e.1,s),0) Q w') :
  callW Tryz.prog Z4g [.pointer (some ⟨b,0,none⟩),.int .u32 id] [.agg [.int .u32,.sl],.sc (.int .i64)] K Q w:=by
 obtain ⟨ok,lab,sb,tb,hb,tp,D,hF,h⟩:=h
 refine Zfy _ _ K Q w ?_
 unfold Zaa
 refine newI fun w1 B1 f1 s1=>?_
 have h1:=h.fr0 f1
 refine Zgj h1 hid ?_
 rcases Zkq ok (id:=id) with ⟨ha,hh⟩ | ⟨m,i,e,ha,hh,hm,hr,he,rfl,hv,hl⟩
 ·rw [hh]
  refine condT rfl (stoAll B1 rfl rfl fun w2 B2 f2 s2=>aggI B2 (x:=(0,⟨none,0,0⟩)) rfl ?_)
  exact h0 ha w2 (f1.newer f2 fun k e=>by omega)
 ·rw [hh]
  obtain ⟨labt,_,ht⟩:=h1.tab m hm (h.hm _ _ hh).2
  refine condF rfl (Z9s ht hid ?_)
  rw [hr]
  refine Zj6 ht (fun hb=>?_) fun j e' s w2 hj he' o2 f2=>?_
  ·have:=(List.getElem?_eq_some_iff.1 he).1
   simp only [Option.getD_some] at hb
   omega
  ·simp only [Option.getD_some] at hj
   have:j=i:=by omega
   subst this
   rw [he] at he'
   cases he'
   refine locI rfl rfl fun w3 B3 f3 s3=>aggI B3 (x:=(e.1,s)) rfl ?_
   have f13:=f2.then0 f3
   refine stoAll (B1.fr f13 fun h=>h) rfl rfl fun w4 B4 f4 s4=>aggI B4 (x:=(e.1,s)) rfl ?_
   have hs1:=f1.size
   refine hk m j e s w4 ha ?_ ((f1.then0 f13).newer f4 fun k e=>by omega)
   have o3:Den.Own (fun k=>w1.heap.size≤k) w3 52 compT s e.2:=o2.none f3
   exact (o3.fr f4 fun k h1 h2=>by omega).mono fun k _ h=>by show w.heap.size≤k; omega
end
end Go.Proofs.YtoiahhpgkoknfaaGreat
namespace Go.Proofs.YtoiahhpgkoknfaaGreat
open Go Go.RowKit Go.Proofs.YtoiahhpgkoknfaaGreat.Den
variable {R:Type} {Q:R→World→Prop} {w:World}
theorem Store.open_ {F:Nat→Prop} {b:Nat} {x:StM} (h:Store b x F w):StOk x∧∃ lab sb tb hb tp D,(∀ k,lab k≠0→F k∧k < w.heap.size)∧StoR lab w b sb tb hb tp D x.s x.tab (homeT x.tab):=by
 obtain ⟨ok,lab,sb,tb,hb,tp,D,hF,h⟩:=h
 exact ⟨ok,cut lab w.heap.size,sb,tb,hb,tp,D,fun k e=>⟨hF k (Zam e).1,(Zam e).2⟩,h.cut (Fr.refl None w) fun _ _ _ h=>h⟩
theorem Store.shut {F:Nat→Prop} {b:Nat} {x:StM} (h:Store b x F w):Store b x (fun k=>F k∧k < w.heap.size) w:=Store.st.mono h fun _ hk e=>⟨e,hk⟩
section
variable {lab:Nat→Nat} {b sb tb hb:Nat} {tp:Nat→Nat} {D:Nat→Bool} {x:StM}
theorem StoR.setTab0 {s:SM} {T:Nat→List Ent} {H:Int→Option Nat} (h:StoR lab w b sb tb hb tp D s T H) {m:Nat} (hD:D m=true) {L:List Ent} {w':World} (f:Fr (fun k=>lab k=5+m) w w') (ht:TabO (tp m) m L (fun k=>lab k=5+m) w'):StoR lab w' b sb tb hb tp D s (upd T m L) H:=by
 refine ⟨Bl.st.fr h.blk f fun k e=>by omega,Slots.st.fr h.slots f fun k e=>by omega,Mp.st.fr h.tabs f fun k e=>by omega,Mp.st.fr h.home f fun k e=>by omega,fun k hk hDk=>?_,fun k hk hDk=>?_,h.hm⟩
 ·by_cases e:k=m
  ·subst e; rw [Z4l]; exact ht
  ·rw [Z1w e]; exact TabO.st.fr (h.tab k hk hDk) f fun k e=>by omega
 ·rw [Z1w (fun e=>by subst e; rw [hD] at hDk; cases hDk)]; exact h.no k hk hDk
theorem Zne {F:Nat→Prop} (ok:StOk x) (h:StoR lab w b sb tb hb tp D x.s x.tab (homeT x.tab)) (hF:∀ k,lab k≠0→F k) {m i n:Nat} {e:Ent} (hm:m < 64) (hh:homeT x.tab e.1=some m) (he:(x.tab m)[i]?=some e) (hid:IdOk e.1) {l:List Comp} (hv:listE l=0)
  {w2:World} (t:TabO (tp m) m (dropI (x.tab m) i) (fun k=>lab k=5+m) w2) (f:Fr (fun k=>lab k=5+m) w w2) {w3:World} (f3:Fr (Up n) w2 w3) (hn:∀ k,lab k≠0→k < n) (hwn:w.heap.size≤n) {r:Sl} (o:Den.Own (Up n) w3 52 compT r l)
  {K:Res []→W R} (hk:∀ w',Store b (x.turn e.1 m i l) (Ex F w) w'→Fr (Ex F w) w w'→K () Q w'):callW Tryz.prog Z2d [.pointer (some ⟨b,0,none⟩),.int .u32 e.1,.slice r.a r.n r.c] [] K Q w3:=by
 have hD:=(h.hm _ _ hh).2
 have h2:=h.setTab0 hD f t
 have nn:∀ k,lab k≠0→¬ Up n k:=fun k e h=>by have:=hn k e; have h:n≤k:=h; omega
 have h3:StoR lab w3 b sb tb hb tp D x.s (upd x.tab m (dropI (x.tab m) i)) (homeT x.tab) :=
  ⟨Bl.st.fr h2.blk f3 fun k e=>nn k (by omega),Slots.st.fr h2.slots f3 fun k e=>nn k (by omega),Mp.st.fr h2.tabs f3 fun k e=>nn k (by omega),Mp.st.fr h2.home f3 fun k e=>nn k (by omega),fun k hk hDk=>TabO.st.fr (h2.tab k hk hDk) f3 fun k e=>nn k (by omega),h2.no,h2.hm⟩
 have hd:=ok.drop hm he
 have hml:=Z66 l
 have hno:rowM (upd x.tab m (dropI (x.tab m) i) (maskN l)) e.1=none:=by
  have h0:homeT (upd x.tab m (dropI (x.tab m) i)) e.1=none:=by rw [Zbx ok hm he,if_pos rfl]
  have:=Z3p.1 h0 _ hml
  unfold inT at this
  simpa using this
 have f13:Fr (fun k=>lab k≠0∨n≤k) w w3:=(f.lab (by omega)).trans f3 (fun _ e=>.inl e) fun _ _ e=>.inr e
 refine Zpg h3 hid o.sl (fun k _ e=>?_) (fun c hc=>Zf4 ((Z3x.1 hv).1 c hc)) hv hd.tab hno (by have h:(upd x.tab m (dropI (x.tab m) i) (maskN l)).length≤1024:=hd.tab_le hml; omega) fun lab' tp' D' w4 hex h4 f4=>?_
 ·by_cases h0:lab k=0
  ·exact h0
  ·exact absurd e (nn k h0)
 ·have hs:=f13.size
  refine hk w4 ⟨ok.turn hm he hv,lab',sb,tb,hb,tp',D',fun k e=>?_,?_⟩ ?_
  ·rcases hex k e with e | e
   ·exact .inl (hF k e)
   ·exact .inr (by omega)
  ·have e2:homeT (x.turn e.1 m i l).tab=fun j=>if j=e.1 then some (maskN l) else homeT x.tab j:=by
    funext j
    have h0:homeT (upd x.tab m (dropI (x.tab m) i)) e.1=none:=by rw [Zbx ok hm he,if_pos rfl]
    have:=Zox (T:=upd x.tab m (dropI (x.tab m) i)) (e:=(e.1,l)) hml (Z3p.1 h0) j
    refine this.trans ?_
    by_cases hj:j=e.1
    ·rw [if_pos hj,if_pos hj]
    ·rw [if_neg hj,if_neg hj,Zbx ok hm he,if_neg hj]
   rw [e2]
   exact h4
  ·refine (f13.trans f4 (U:=fun k=>lab k≠0∨n≤k) (fun _ e=>e) fun _ _ e=>.inl e).mono fun k hk e=>?_
   rcases e with e | e
   ·exact .inl (hF k e)
   ·omega
end
section
variable {F:Nat→Prop} {b:Nat} {x:StM}
theorem Zp3 {m:Nat} (hm:m < 64) {k:Int} (h0:0≤k) (h6:k < 6):((bAnd .u8 (shR .u8 (m:Int) k) 1) == 1)=decide (k∈kindsOf m):=by
 have:=Zoq ⟨m,hm⟩ ⟨k.toNat,by omega⟩
 simp only [Int.toNat_of_nonneg h0] at this
 rw [this,Bool.eq_iff_iff,decide_eq_true_eq,Zr4 h0]
 simp [h6]
theorem Zr9 {m:Nat} (hm:m < 64) {k:Int} (h0:0≤k) (h6:k < 6):((bAnd .u8 (shR .u8 (m:Int) k) 1) == 0)=!decide (k∈kindsOf m):=by
 rw [← Zp3 hm h0 h6]
 have key:∀ m:Fin 64,∀ k:Fin 6,((bAnd .u8 (shR .u8 ((m.val:Nat):Int) ((k.val:Nat):Int)) 1) == 0)=!((bAnd .u8 (shR .u8 ((m.val:Nat):Int) ((k.val:Nat):Int)) 1) == 1):=by decide +kernel
 have:=key ⟨m,hm⟩ ⟨k.toNat,by omega⟩
 simp only [Int.toNat_of_nonneg h0] at this
 exact this
theorem Zda {m:Nat} {L:List Ent} {F:Nat→Prop} (h:TabO b m L F w) {K:Res [.sc (.int .u8)]→W R} (hk:K ((m:Nat):Int) Q w):callW Tryz.prog Z2z [.pointer (some ⟨b,0,none⟩)] [.sc (.int .u8)] K Q w:=by
 obtain ⟨lab,_,h⟩:=h
 exact Zlv h hk
theorem Zk0 (h:Store b x F w) {id:Int} (hid:IdOk id) {c:Comp} {K:Res [.sc (.int .i64)]→W R} (hk:∀ w',Store b (x.add id c).2 (Ex F w) w'→Fr F w w'→K (x.add id c).1 Q w') :
  callW Tryz.prog Z6i [.pointer (some ⟨b,0,none⟩),.int .u32 id,.agg ⟨compC c⟩] [.sc (.int .i64)] K Q w:=by
 refine Zfx _ _ _ K Q w ?_
 unfold Za9
 have ex:∀ {y:StM} {w':World},Store b y F w'→Store b y (Ex F w) w':=fun h=>Store.st.mono h fun _ _ e=>.inl e
 obtain ⟨ok,lab,sb,tb,hb,tp,D,hF,h0⟩:=h.open_
 refine newI fun w1 B1 f1 s1=>aggI B1 (x:=c) rfl (Z3a (c:=c) fun w2 f2=>?_)
 have f02:=f1.then0 f2
 refine joinI (fun z w'=>z=decide (checkM c≠0)∧w'=w2) ?_ ?_
 ·exact condN (fun h=>⟨by simp [h],rfl⟩) fun h=>⟨by simp [h],rfl⟩
 rintro z w' ⟨rfl,rfl⟩
 refine condD (fun hc=>?_) fun hc=>?_
 ·have e1:x.add id c=(checkM c,x):=by rw [StM.add,if_pos hc]
  rw [e1] at hk
  exact hk _ (ex (Store.st.fr0 h f02)) f02.any
 have h2:=h0.fr0 f02
 have B2:=B1.fr f2 fun h=>h
 have hc0:checkM c=0:=by simpa using hc
 have hck:=Z49 hc0
 refine Zgj h2 hid ?_
 rcases Zkq ok (id:=id) with ⟨ha,hh⟩ | ⟨m,i,e,ha,hh,hm,hr,he,rfl,hv,hl⟩
 ·rw [hh]
  have e1:x.add id c=(7,x):=by rw [StM.add,if_neg hc,ha]
  rw [e1] at hk
  exact condT rfl (hk _ (ex (Store.st.fr0 h f02)) f02.any)
 rw [hh]
 have e1:x.add e.1 c=if c.1∈kindsOf m then (9,x) else (0,x.turn e.1 m i (insC e.2 c)):=by rw [StM.add,if_neg hc,ha]
 have hD:=(h2.hm _ _ hh).2
 have fd:Fr None w w'.drew:=f02.drew
 have h2d:=h2.fr0 (Fr.refl None w').drew
 refine condF rfl (fldI B2.drew (x:=c.1) rfl (Zda (h2d.tab m hm hD) (andI (B2.drew.rd (s:=.int .u8) (i:=0) (x:=c.1) rfl) (chkI hck.1 ?_))))
 rw [Zp3 hm hck.1 (by omega)]
 refine condD (fun hin=>?_) fun hin=>?_
 ·rw [if_pos hin] at e1
  rw [e1] at hk
  exact hk _ (ex (Store.st.fr0 h fd)) fd.any
 ·rw [if_neg hin] at e1
  rw [e1] at hk
  refine Z4e _ _ _ _ _ _ _ ?_
  unfold Z1z
  refine Ze6 (h2d.tab m hm hD) hid hr he fun s w3 t3 o3 f3=>?_
  have hs2:w.heap.size < w'.heap.size:=B2.lt
  have hd2:w'.drew.heap.size=w'.heap.size:=rfl
  refine Zoa (Tc:=52) o3 (B2.drew.fr f3 fun e=>?_) (by omega) f3.size (by have:=hv.small; omega) fun r w4 o4 f4=>?_
  ·have:=(hF _ (show lab w.heap.size≠0 by omega)).2; omega
  ·refine Zne ok h2d (fun k e=>(hF k e).1) hm hh he hid (hv.ins hc0 hin) t3 f3 f4 (fun k e=>by have:=(hF k e).2; omega) (Nat.le_refl _) o4 fun w5 st5 f5=>?_
   refine hk w5 (Store.st.mono st5 fun k _ e=>?_) ((fd.any.trans f5 (U:=F) (fun _ e=>e) fun k hk e=>?_))
   ·rcases e with e | e
    ·exact .inl e
    ·exact .inr (by omega)
   ·rcases e with e | e
    ·exact e
    ·omega
theorem Zgh (h:Store b x F w) {id:Int} (hid:IdOk id) {k:Int} (hk0:0≤k) {K:Res [.sc (.int .i64)]→W R} (hk:∀ w',Store b (x.remove id k).2 (Ex F w) w'→Fr F w w'→K (x.remove id k).1 Q w') :
  callW Tryz.prog Z51 [.pointer (some ⟨b,0,none⟩),.int .u32 id,.int .u8 k] [.sc (.int .i64)] K Q w:=by
 refine Zcw _ _ _ K Q w ?_
 unfold Z7l
 have ex:∀ {y:StM} {w':World},Store b y F w'→Store b y (Ex F w) w':=fun h=>Store.st.mono h fun _ _ e=>.inl e
 obtain ⟨ok,lab,sb,tb,hb,tp,D,hF,h0⟩:=h.open_
 refine newI fun w1 B1 f1 s1=>?_
 have h1:=h0.fr0 f1
 refine Zgj h1 hid ?_
 rcases Zkq ok (id:=id) with ⟨ha,hh⟩ | ⟨m,i,e,ha,hh,hm,hr,he,rfl,hv,hl⟩
 ·rw [hh]
  have e1:x.remove id k=(7,x):=by rw [StM.remove,ha]
  rw [e1] at hk
  exact condT rfl (hk _ (ex (Store.st.fr0 h f1)) f1.any)
 rw [hh]
 have e1:x.remove e.1 k=if k∈kindsOf m then (0,x.turn e.1 m i (e.2.filter fun c=>!(c.1 == k))) else (10,x):=by rw [StM.remove,ha]
 have hD:=(h1.hm _ _ hh).2
 refine condF rfl (joinI (fun z w'=>z=!decide (k∈kindsOf m)∧w'=w1.drew) ?_ ?_)
 ·refine fld0 B1.drew (x:=k) rfl (condD (fun hge=>⟨?_,rfl⟩) fun hlt=>?_)
  ·rw [decide_eq_false (fun h=>by have:=Zlc h; omega)]; rfl
  ·refine fld0 B1.drew (x:=k) rfl (Zda ((h1.fr0 (Fr.refl None w1).drew).tab m hm hD) (andI ((B1.drew.cell 0).trans rfl) (chkI hk0 ⟨Zr9 hm hk0 (by omega),rfl⟩)))
 ·rintro z w2 ⟨rfl,rfl⟩
  have fd:Fr None w w1.drew:=f1.drew
  have h2:=h1.fr0 (Fr.refl None w1).drew
  refine condI (fun hin=>?_) fun hin=>?_
  ·have hin:k ∉ kindsOf m:=by simpa using hin
   rw [if_neg hin] at e1
   rw [e1] at hk
   exact hk _ (ex (Store.st.fr0 h fd)) fd.any
  ·have hin:k∈kindsOf m:=by simpa using hin
   rw [if_pos hin] at e1
   rw [e1] at hk
   refine Z3u _ _ _ _ _ _ _ ?_
   unfold Z1o
   refine Ze6 (h2.tab m hm hD) hid hr he fun s w3 t3 o3 f3=>?_
   have hs2:w.heap.size < w1.heap.size:=B1.lt
   have hd2:w1.drew.heap.size=w1.heap.size:=rfl
   refine Zjp (Tc:=5) o3 (B1.drew.fr f3 fun e=>?_) (by omega) f3.size (by have:=hv.small; omega) fun r w4 o4 f4=>?_
   ·have:=(hF _ (show lab w.heap.size≠0 by omega)).2; omega
   ·refine Zne ok h2 (fun k e=>(hF k e).1) hm hh he hid (hv.filter _) t3 f3 f4 (fun k e=>by have:=(hF k e).2; omega) (Nat.le_refl _) o4 fun w5 st5 f5=>?_
    refine hk w5 (Store.st.mono st5 fun k _ e=>?_) ((fd.any.trans f5 (U:=F) (fun _ e=>e) fun k hk e=>?_))
    ·rcases e with e | e
     ·exact .inl e
     ·exact .inr (by omega)
    ·rcases e with e | e
     ·exact e
     ·omega
end
theorem SM.ids_mem {s:SM} {id:Int}:∀ {n:Nat},id∈s.ids n→∃ (j:Nat) (g:Int),j < n∧s.used[j]?=some true∧s.gen[j]?=some g∧id=idOf j g
 | 0,h=>by simp [SM.ids] at h
 | n+1,h=>by
  rw [SM.ids,List.mem_append] at h
  rcases h with h | h
  ·obtain ⟨j,g,h1,h2⟩:=SM.ids_mem h
   exact ⟨j,g,by omega,h2⟩
  ·split at h
   ·rename_i g hu hg
    simp at h
    exact ⟨n,g,by omega,hu,hg,h⟩
   ·simp at h
theorem SMOk.list_id {s:SM} (h:SMOk s) {id:Int} (hl:id∈s.list):s.live id=true∧IdOk id:=by
 obtain ⟨j,g,h1,h2,h3,rfl⟩:=SM.ids_mem hl
 have:=h.le
 have e:=Zb3.2 ⟨j,g,rfl,by omega,h2,h3⟩
 exact ⟨e,(h.live_id e).1⟩
theorem SMOk.list_le {s:SM} (h:SMOk s):s.list.length≤1024:=by
 rw [SM.list_len h.len]
 have h1:s.count≤s.used.length:=List.countP_le_length
 have h2:=h.len
 have h3:=h.le
 omega
theorem Zj4 {F:Nat→Prop} {b:Nat} {x:StM} (h:Store b x F w) {id:Int} (hid:IdOk id) {K:Res [.agg [.int .u32,.sl],.sc (.int .i64)]→W R}
  (hk:∀ s w',Den.Own (Up w.heap.size) w' 52 compT s (x.ent id).1.2→Fr None w w'→K (((x.ent id).1.1,s),(x.ent id).2) Q w') :
  callW Tryz.prog Z4g [.pointer (some ⟨b,0,none⟩),.int .u32 id] [.agg [.int .u32,.sl],.sc (.int .i64)] K Q w:=by
 refine Zk1 h hid (fun e w' f=>?_) fun m i e s w' ha o f=>?_
 ·have:=hk ⟨none,0,0⟩ w' (by rw [StM.ent,e]; exact Den.Own.nil _ _ _ _) f
  rw [StM.ent,e] at this
  exact this
 ·have:=hk s w' (by rw [StM.ent,ha]; exact o) f
  rw [StM.ent,ha] at this
  exact this
end Go.Proofs.YtoiahhpgkoknfaaGreat
namespace Go.Proofs.YtoiahhpgkoknfaaGreat.Seq
open Go Go.Proofs Go.RowKit Go.Maps Go.Sort Go.Shelf
abbrev encB:Int→Value:=Value.int .u8
theorem Zsj {x y:Int} (h:encB x=encB y):x=y:=by simpa [encB] using h
theorem Maps.keyOf_u8 {P:Program} {k:TypeId} (hk:P.underlying k=some (.int .u8)) {key:Value} {kl:Lit} (h:keyOf P k key=some kl):∃ x:Int,key=encB x∧kl=.int .u8 x∧(Lit.int .u8 x).wf=true:=by
 cases key <;> simp [keyOf,hk,mapKey] at h
 rename_i q a
 obtain ⟨⟨rfl,hw⟩,rfl⟩:=h
 exact ⟨a,rfl,rfl,hw⟩
def KeysB {H:Type} (D0:DataW H) (ss:List Int):Prop:=ss.Nodup∧∀ x,x∈ss↔Go.Maps.has D0 (.int .u8 x)=true
def CollectedB {H:Type} (D0:DataW H) (left:Lit→Bool) (ss:List Int):Prop:=ss.Nodup∧∀ x,x∈ss↔(Go.Maps.has D0 (.int .u8 x)=true∧left (.int .u8 x)=false)
section
variable {H:Type} {D0:DataW H} {left:Lit→Bool} {ss:List Int}
theorem CollectedB.start (D0:DataW H):CollectedB D0 (Go.Maps.has D0) []:=⟨List.nodup_nil,fun x=>by cases Go.Maps.has D0 (.int .u8 x) <;> simp⟩
theorem CollectedB.step (h:CollectedB D0 left ss) {x:Int} {y:DataW H} (hlk:left (.int .u8 x)=true) (hat:∀ zd,D0.atKey (.int .u8 x) zd=y):CollectedB D0 (fun z=>left z && !z.sameKey (.int .u8 x)) (ss ++ [x]):=by
 have hhas:Go.Maps.has D0 (.int .u8 x)=true:=has_true_of_atKey hat
 have hnew:x ∉ ss:=fun hx=>by have:=((h.2 x).1 hx).2; rw [hlk] at this; cases this
 refine ⟨List.nodup_append.2 ⟨h.1,by simp,fun a ha b hb=>by simp at hb; subst hb; exact fun e=>hnew (e ▸ ha)⟩,fun y=>?_⟩
 by_cases hy:y=x
 ·subst hy; simp [hhas,Lit.sameKey]
 ·simp [h.2 y,hy,Lit.sameKey]
theorem CollectedB.all (h:CollectedB D0 left ss) (hl:∀ kl,left kl=false):KeysB D0 ss:=⟨h.1,fun x=>by rw [h.2 x,hl]; simp⟩
end
set_option maxRecDepth 100000 in
set_option maxHeartbeats 1000000 in
theorem Zm9 {H:Type} {R:Value→Option (DataW H × List MemPlace)} (F:Fence) (n:Nat) (h10:F.fn 290) (hro:F.round=none) (hn:1≤n) (l Bm b nn:Nat) (D0:DataW H) (J:List Int→World→Prop)
  (hY:∀ pre x W,J pre W→pre.length < Maps.size D0→YieldAt F (n - 1) Tryz.prog l #[encB x] W fun e W'=>e=.returned (.bool true)∧J (pre ++ [x]) W'∧KeepsWalks W W')
  (W:World) (hJ:AbidesFrom W.heap.size J) (hm:W.cell? ⟨Bm,0,none⟩=some (.map (some b))) (hown:W.ownsMap Tryz.prog 5 R b nn D0) (h0:J [] W) :
  CallsIn F n Tryz.prog 290 #[.func (.yield l) #[] #[],.pointer (some ⟨Bm,0,none⟩)] W fun e W'=>(∃ v,e=.returned v)∧∃ ss:List Int,KeysB D0 ss∧J ss W':=by
 refine callsIn_of_wp Tryz.func290 rfl h10 ?_ hro
 simp only [Tryz.ntmps290,List.size_toArray,List.length_cons,List.length_nil,Nat.reduceAdd,Nat.reduceSub,Array.replicate_succ,Array.replicate_zero,List.push_toArray,List.append_toArray,List.nil_append,List.cons_append]
 gi_wp2_with (first
  | (gi_at_range; refine wpListIn_range_own _ rfl _ 204 rfl 5 270 (int_keyed Tryz.underlying5) Tryz.underlying204 _ b nn _ rfl hown ?_; intro w0 hrg0 hg0 hs0)
  | gi_in)
 go_frame
 gi_loopw [3] (fun _ wr=>∃ (left:Lit→Bool) (cnt:Nat) (ss:List Int),wr.ranges Tryz.prog 5 R b W.heap.size nn D0 left cnt∧ss.length+cnt≤Maps.size D0∧CollectedB D0 left ss∧J ss wr)
  (fun _ wr=>wr.rangeLeft b W.heap.size)
 case atStart =>
  exact ⟨_,_,[],hrg0,by simp,CollectedB.start D0,hJ [] W w0 none h0 hg0 (fun r e=>by cases e)⟩
 case round =>
  obtain ⟨left,cnt,ss,hrg,hcs,hC,hJs⟩:=hrel
  gi_wp2_with (first
   | (gi_at_next; refine wpListIn_next_ranges _ rfl _ rfl 5 (int_keyed Tryz.underlying5) R encB id (fun key kl hk=>by obtain ⟨x,hx,_⟩:=Maps.keyOf_u8 Tryz.underlying5 hk; exact ⟨x,hx⟩) (fun v _ _=>⟨v,rfl⟩) b W.heap.size nn _ _ _ rfl hrg ?_ ?_)
   | gi_in)
  ·
   intro hc0 hl0
   gi_wp2
   go_end0
   exact ⟨⟨_,rfl⟩,ss,hC.all hl0,hJs⟩
  ·
   intro x c kl yd yp w2 cnt2 hkey hlk hv hat hrg2 hlt hg2 hs2 hen
   obtain ⟨x',ex,rfl,_⟩:=Maps.keyOf_u8 Tryz.underlying5 hkey
   obtain rfl:x=x':=Zsj ex
   have hJ2:J ss w2:=hJ ss wr w2 (some W.heap.size) hJs hg2 (fun r e=>by cases e; exact ⟨Nat.le_refl _,hrg.iter_walk⟩)
   obtain ⟨fn,tmps,assign,body,hy,hR⟩:=hY ss x w2 hJ2 (by omega)
   clear hs2
   gi_wp2
   refine hR.mono ?_
   rintro e W3 ⟨rfl,hJ3,hk3⟩
   gi_wp2
   have hrg3:=hrg2.of_walks hk3
   go_roundw
   case rel=>exact ⟨_,cnt2,ss ++ [x],hrg3,by simp; omega,hC.step hlk hat,hJ3⟩
   case measure=>rw [hrg3.left_eq,hrg.left_eq]; exact hlt
theorem bk_keys_gives {H:Type} {R:Value→Option (DataW H × List MemPlace)} (F:Fence) (n:Nat) (h10:F.fn 290) (hro:F.round=none) (hn:1≤n) (Bm b nn:Nat) (D0:DataW H) (w:World) (hBm:Bm < w.heap.size)
  (hm:w.cell? ⟨Bm,0,none⟩=some (.map (some b))) (hown:w.ownsMap Tryz.prog 5 R b nn D0) :
  SeqGives F n Tryz.prog 290 #[.pointer (some ⟨Bm,0,none⟩)] encB (KeysB D0) (Maps.size D0) w:=fun l J W hW hJ hY h0=>by
 have hown':W.ownsMap Tryz.prog 5 R b nn D0:=by
  have hbl:=hown.lt
  obtain ⟨es,clock,hb,Ft,hs,hD⟩:=hown
  exact ⟨es,clock,(hW.block b hbl).trans hb,Ft,hs,hD⟩
 exact Zm9 F n h10 hro hn l Bm b nn D0 J hY W hJ ((hW.cell (p:=⟨Bm,0,none⟩) hBm).trans hm) hown' h0
def Zdr : Code := (Code.region 2 #[{ dst := some 5, op := Op.assign (Operand.tmp 7), type := 5, pos := "iter.go:51", after := #[], guard := none }] false)
def Zi1 : Code := (Code.block 1 (Code.region 3 #[{ dst := some 8, op := Op.load 326 (Operand.tmp 2), type := 326, pos := "iter.go:52", after := #[], guard := none }, { dst := some 9, op := Op.move (Operand.tmp 5), type := 5, pos := "iter.go:52", after := #[], guard := none }, { dst := some 10, op := Op.buildSlice 326 1 #[(0, Operand.tmp 9)], type := 326, pos := "iter.go:52", after := #[{ on := 1, ground := Ground.data }], guard := none }, { dst := some 11, op := Op.call { callee := Callee.builtin Builtin.append, args := #[Operand.tmp 8, Operand.tmp 10], argTypes := #[326, 326] }, type := 326, pos := "iter.go:52", after := #[{ on := 0, ground := Ground.data }, { on := 2, ground := Ground.data }], guard := none }, { dst := none, op := Op.store 326 (Operand.tmp 2) (Operand.tmp 11), type := 0, pos := "iter.go:52", after := #[{ on := 3, ground := Ground.data }, { on := 3, ground := Ground.chain }, { on := 0, ground := Ground.phase }, { on := 1, ground := Ground.phase }, { on := 2, ground := Ground.phase }, { on := 3, ground := Ground.phase }], guard := none }] false))
def Z5m (fn:FuncId) (sv:Value) (Bs D:Nat) (st:LoopState) (pend:Option Code):Loop :=
 {state:=st,pending:=pend,fn,tmps:=#[.slice none 0 0,sv,.pointer (some ⟨Bs,0,none⟩),undef,.slice none 0 0,undef,sv,undef,undef,undef,undef,undef,undef],params:=#[7],assign:=Zdr,body:=Zi1,defers:=D }
structure bk_ApAt (w0:World) (fn:FuncId) (sv:Value) (Bs l D:Nat) (ss:List Int) (W:World):Prop where
 box:∃ v,W.heap[Bs]?=some (.cells #[v] 326 (0,0))∧W.ownsRow w0.heap.size 5 1 v ss.length (ss.map encB)∧(v=.slice none 0 0↔ss=[])
 L:W.heap[l]?=some (.loop (Z5m fn sv Bs D .ready none))
 K:W.heap[D]?=some (.deferred (some []))
 below:Below w0.heap.size w0 W
theorem Zjo {W W':World} {row:Option Nat} {base:Nat} {e:TypeId} {size:Nat} {v:Value} {k:Nat} {xs:List Value} (h:W.ownsRow base e size v k xs) (hg:W.grownBy W' row)
  (hrow:∀ r,row=some r→∃ o:Obj,W.heap[r]?=some o∧o.isWalk=true):W'.ownsRow base e size v k xs:=by
 refine h.kept hg ?_
 rcases h.2 with ⟨rfl,_⟩ | ⟨g,cap,cur,rfl,_,hgb,_⟩
 ·exact .inl rfl
 ·refine .inr fun e'=>?_
  obtain ⟨o,ho,hw⟩:=hrow g (by simpa [Value.ownBlock] using e'.symm)
  rw [hgb] at ho; cases ho; cases hw
theorem Zm8 (w0:World) (fn:FuncId) (sv:Value) (Bs l D B:Nat) (hB:w0.heap.size≤B):AbidesFrom B (bk_ApAt w0 fn sv Bs l D):=fun s W W' row h hg hrow=>by
 have hrow':∀ r,row=some r→∃ o:Obj,W.heap[r]?=some o∧o.isWalk=true:=fun r e=>(hrow r e).2
 obtain ⟨v,hv,hr,hn⟩:=h.box
 exact ⟨⟨v,(grownBy_keeps hg hrow' hv rfl).trans hv,Zjo hr hg hrow',hn⟩,(grownBy_keeps hg hrow' h.L rfl).trans h.L,(grownBy_keeps hg hrow' h.K rfl).trans h.K,
  h.below.grown hg h.below.size (fun k e=>Nat.le_trans hB (hrow k e).1)⟩
theorem Z3q (W:World) (l:Nat) (o:Obj):W.grownBy (W.putObj l o) (some l) :=
 ⟨rfl,rfl,rfl,by simp,fun k _ hk=>World.putObj_heap_other (fun e=>hk (by rw [e]))⟩
theorem Zh9 (W:World) (b:Nat) (v:Value):W.grownBy (W.setCell ⟨b,0,none⟩ v) (some b) :=
 ⟨rfl,rfl,rfl,(KeepsWalks.setCell W _ v).size,fun k _ hk=>Below.heap_setCell _ _ _ k (fun e=>hk (by rw [e]))⟩
theorem Z7y {W:World} {base:Nat} {e:TypeId} {size:Nat} {v:Value} {k:Nat} {xs:List Value} (h:W.ownsRow base e size v k xs) {j:Nat} {o:Obj} (hj:W.heap[j]?=some o) (hno:∀ cur,o≠.cells cur e (0,0)) :
  v.ownBlock=none∨v.ownBlock≠some j:=by
 rcases h.2 with ⟨rfl,_⟩ | ⟨g,cap,cur,rfl,_,hgb,_⟩
 ·exact .inl rfl
 ·refine .inr fun e'=>?_
  have:g=j:=by simpa [Value.ownBlock] using e'
  subst this; rw [hgb] at hj; cases hj; exact hno cur rfl
theorem Z6e {W:World} {B:Nat} {v:Value} {t:TypeId} (h:W.heap[B]?=some (.cells #[v] t (0,0))):W.cell? ⟨B,0,none⟩=some v∧W.frozen? ⟨B,0,none⟩=false:=by
 constructor <;> simp [World.cell?,World.frozen?,h]
theorem Zb9 {W:World} {B:Nat} {v:Value} {t:TypeId} (v':Value) (h:W.heap[B]?=some (.cells #[v] t (0,0))):(W.setCell ⟨B,0,none⟩ v').heap[B]?=some (.cells #[v'] t (0,0)):=by
 obtain ⟨hlt,hk⟩:=Array.getElem?_eq_some_iff.1 h
 show (W.heap.modify B _)[B]?=_
 rw [Array.getElem?_eq_getElem (by rw [Array.size_modify]; exact hlt),Array.getElem_modify_self,hk]
 rfl
theorem Zha {W:World} {base:Nat} {e:TypeId} {size:Nat} {v:Value} {k:Nat} {xs:List Value} (h:W.ownsRow base e size v k xs):∀ (j:Nat) (o:Obj),v.ownBlock=some j→W.heap[j]?=some o→o.isWalk=false:=by
 intro j o hj ho
 rcases h.2 with ⟨rfl,_⟩ | ⟨g,cap,cur,rfl,_,hgb,_⟩
 ·simp [Value.ownBlock] at hj
 ·have:g=j:=by simpa [Value.ownBlock] using hj
  subst this; rw [hgb] at ho; cases ho; rfl
theorem info8:(Tryz.prog.info? 5).map (fun i=>(i.zero,i.size,i.bytes))=some (some (.int .u8 0),1,1):=by kernel_rfl
set_option maxRecDepth 100000 in
set_option maxHeartbeats 2000000 in
theorem Zpl (F:Fence) (m:Nat) (w0:World) (fn:FuncId) (hfn:F.fn fn) (sv:Value) (Bs l D:Nat) (hBl:Bs≠l) (hDl:D≠l) (hDB:D≠Bs) (h0B:w0.heap.size≤Bs) (h0l:w0.heap.size≤l)
  (N:Nat) (hN:N≤maxLen) (hNb:N * 1≤140737488355328) (ss:List Int) (x:Int) (W:World) (h:bk_ApAt w0 fn sv Bs l D ss W) (hlen:ss.length < N) :
  YieldAt F m Tryz.prog l #[encB x] W fun e W'=>e=.returned (.bool true)∧bk_ApAt w0 fn sv Bs l D (ss ++ [x]) W'∧KeepsWalks W W':=by
 obtain ⟨i0,hi,hz0,hz1,hz2⟩:=info_parts info8
 obtain ⟨v,hv,hrow,_⟩:=h.box
 refine ⟨fn,#[.slice none 0 0,sv,.pointer (some ⟨Bs,0,none⟩),undef,.slice none 0 0,undef,sv,encB x,undef,undef,undef,undef,undef],Zdr,Zi1,by simpa [Z5m] using run_yield (P:=Tryz.prog) (args:=#[encB x]) h.L rfl,roundIn_of_wpIn hfn ?_⟩
 have hl:l < W.heap.size:=(Array.getElem?_eq_some_iff.1 h.L).1
 have hbr:=run_beginRound (P:=Tryz.prog) h.L rfl
 obtain ⟨W2,hW2⟩:∃ W2,W.putObj l (.loop { Z5m fn sv Bs D .ready none with state:=.busy })=W2:=⟨_,rfl⟩
 rw [hW2] at hbr
 have hg2:W.grownBy W2 (some l):=by rw [← hW2]; exact Z3q _ _ _
 have hk2:KeepsWalks W W2:=by rw [← hW2]; exact KeepsWalks.putObj _ h.L rfl
 have hv2:W2.heap[Bs]?=some (.cells #[v] 326 (0,0)):=by rw [← hW2]; exact (World.putObj_heap_other hBl).trans hv
 have hK2:W2.heap[D]?=some (.deferred (some [])):=by rw [← hW2]; exact (World.putObj_heap_other hDl).trans h.K
 have hL2:W2.heap[l]?=some (.loop { Z5m fn sv Bs D .ready none with state:=.busy }):=by rw [← hW2]; exact World.putObj_heap_same hl
 have hrow2:W2.ownsRow w0.heap.size 5 1 v ss.length (ss.map encB):=hrow.kept hg2 (Z7y hrow h.L (fun cur e=>by cases e))
 have hb2:Below w0.heap.size w0 W2:=h.below.grown hg2 h.below.size (fun k e=>by cases e; exact h0l)
 obtain ⟨hc2,hf2⟩:=Z6e hv2
 have hBlt:Bs < W2.heap.size:=(Array.getElem?_eq_some_iff.1 hv2).1
 have hl2:l < W2.heap.size:=(Array.getElem?_eq_some_iff.1 hL2).1
 have hDlt:D < W2.heap.size:=(Array.getElem?_eq_some_iff.1 hK2).1
 have ne_of:∀ {j:Nat} {o:Obj},W2.heap[j]?=some o→(∀ cur,o≠.cells cur 5 (0,0))→some j≠v.ownBlock:=fun hj hno=>by
  rcases Z7y hrow2 hj hno with e | e
  ·rw [e]; simp
  ·exact fun e'=>e e'.symm
 clear hW2
 unfold Zdr
 gi_wp2_with (rw [Oper.semAt_eq _ _ _ (fun c h=>by cases h)]; go_simp; try go_bits)
 unfold Zi1
 gi_wp2_with (first
  | (gi_at_builtin; refine wpListIn_append_own _ rfl _ _ 326 rfl w0.heap.size 5 i0 (.int .u8 0) 1 1 Tryz.underlying326 hi hz0 hz1 hz2 rfl (by decide) _ _ _ rfl (hrow2.alloc _) ⟨W2.heap.size, 0, none⟩ 1 1 [encB x] rfl rfl (cell_one_new _ _ _) (by simp [Value.oneCell', encB]) (by omega) (by omega) (by have := hb2.size; simp; omega) ?_; intro v' w3 hown' hg3 hnil3
     have hv3:w3.heap[Bs]?=some (.cells #[v] 326 (0,0)):=(hg3.block Bs (by simp; omega) (ne_of hv2 (fun cur e=>by cases e))).trans ((Below.heap_alloc _ _ Bs hBlt).trans hv2)
     obtain ⟨hc3,hf3⟩:=Z6e hv3
     obtain ⟨g',cap',cur',rfl,hbase',hgb',hr1,hr2,hr3,hr4⟩:∃ g' cap' cur',v'=.slice (some ⟨g',0,none⟩) (ss.length+1) cap'∧w0.heap.size≤g'∧w3.heap[g']?=some (.cells cur' 5 (0,0))∧ss.length+1≤cap'∧cap'≤maxLen∧cur'.size=cap' * 1∧cur'.toList.take ((ss.length+1) * 1)=ss.map encB ++ [encB x]:=by
      rcases hown'.2 with ⟨_,h0⟩ | h'
      ·exact absurd h0 (by omega)
      ·exact h'
     go_frame)
  | (rw [Oper.semAt_eq _ _ _ (fun c h=>by cases h)]; go_simp; try go_bits))
 have hg3':(W2.alloc (.cells #[encB x] 5)).grownBy w3 v.ownBlock:=hg3
 have hL3:w3.heap[l]?=some (.loop { Z5m fn sv Bs D .ready none with state:=.busy }):=(hg3'.block l (by simp; omega) (ne_of hL2 (fun cur e=>by cases e))).trans ((Below.heap_alloc _ _ l hl2).trans hL2)
 have hK3:w3.heap[D]?=some (.deferred (some [])):=(hg3'.block D (by simp; omega) (ne_of hK2 (fun cur e=>by cases e))).trans ((Below.heap_alloc _ _ D hDlt).trans hK2)
 obtain ⟨w4,hw4⟩:∃ w4,w3.setCell ⟨Bs,0,none⟩ (.slice (some ⟨g',0,none⟩) (ss.length+1) cap')=w4:=⟨_,rfl⟩
 rw [hw4]
 have hg4:w3.grownBy w4 (some Bs):=by rw [← hw4]; exact Zh9 _ _ _
 have hv4:w4.heap[Bs]?=some (.cells #[.slice (some ⟨g',0,none⟩) (ss.length+1) cap'] 326 (0,0)):=by rw [← hw4]; exact Zb9 _ hv3
 have hL4:w4.heap[l]?=some (.loop { Z5m fn sv Bs D .ready none with state:=.busy }):=(hg4.block l (Array.getElem?_eq_some_iff.1 hL3).1 (fun e=>hBl (by cases e; rfl))).trans hL3
 have hK4:w4.heap[D]?=some (.deferred (some [])):=(hg4.block D (Array.getElem?_eq_some_iff.1 hK3).1 (fun e=>hDB (by cases e; rfl))).trans hK3
 have hrow4:=hown'.kept hg4 (Z7y hown' hv3 (fun cur e=>by cases e))
 have hl4:l < w4.heap.size:=(Array.getElem?_eq_some_iff.1 hL4).1
 have hb3:Below w0.heap.size w0 w3:=(hb2.alloc hb2.size _).grown hg3' (by have:=hb2.size; simp; omega) (fun k e=>(hrow2.lt k e).1)
 have hb4:Below w0.heap.size w0 w4:=hb3.grown hg4 hb3.size (fun k e=>by cases e; exact h0B)
 have hk4:KeepsWalks W w4:=((hk2.trans (KeepsWalks.alloc _ _)).trans (KeepsWalks.of_grownBy hg3' (Zha (hrow2.alloc _)))).trans (by rw [← hw4]; exact KeepsWalks.setCell _ _ _)
 clear hw4
 refine ⟨_,_,run_endRound none hL4,rfl,⟨⟨_,(World.putObj_heap_other hBl).trans hv4,?_,by simp⟩,World.putObj_heap_same hl4,(World.putObj_heap_other hDl).trans hK4,hb4.grown (Z3q _ _ _) hb4.size (fun k e=>by cases e; exact h0l)⟩,hk4.trans (KeepsWalks.putObj _ hL4 rfl)⟩
 have:=hrow4.kept (Z3q w4 l (.loop { { Z5m fn sv Bs D .ready none with state:=.busy } with state:=if (none:Option Code).isNone then .ready else .done,pending:=none })) (Z7y hrow4 hL4 (fun cur e=>by cases e))
 simpa using this
set_option maxRecDepth 100000 in
set_option maxHeartbeats 2000000 in
theorem bk_appendSeq_in (F:Fence) (n:Nat) (h11:F.fn 298) (hro:F.round=none) (hn:2≤n) (g:Nat) (lb:Array Value) (hFg:F.fn g) (eg:∀ args w,(callFunc g args).run Tryz.prog w=.ok (.enter g args) w)
  (S:List Int→Prop) (N:Nat) (hN:N≤maxLen) (hNb:N * 1≤140737488355328) (w:World) (hseq:SeqGives F (n - 1) Tryz.prog g lb encB S N w) :
  CallsIn F n Tryz.prog 298 #[.slice none 0 0,.func (.func g) #[] lb] w fun e w'=>∃ (v:Value) (ss:List Int),e=.returned v∧S ss∧w'.ownsRow w.heap.size 5 1 v ss.length (ss.map encB)∧(v=.slice none 0 0↔ss=[])∧Below w.heap.size w w':=by
 have h1:1≤n:=by omega
 refine callsIn_of_wp_marks Tryz.func298 rfl h11 ?_ hro
 simp only [Tryz.ntmps298,List.size_toArray,List.length_cons,List.length_nil,Nat.reduceAdd,Nat.reduceSub,Array.replicate_succ,Array.replicate_zero,List.push_toArray,List.append_toArray,List.nil_append,List.cons_append]
 gi_wp2
 refine wpIn_rangeFunc ?_
 intro fn hfn
 rw [hro]
 obtain ⟨W0,hW0⟩:∃ W0,w.alloc (.cells #[.slice none 0 0] 326)=W0:=⟨_,rfl⟩
 have hs0:W0.heap.size=w.heap.size+1:=by rw [← hW0]; simp
 have hv0:W0.heap[w.heap.size]?=some (.cells #[.slice none 0 0] 326 (0,0)):=by rw [← hW0]; exact World.alloc_heap_new w _
 have hb0:Below w.heap.size w W0:=by rw [← hW0]; exact (Below.refl _ w).alloc (Nat.le_refl _) _
 rw [hW0]
 obtain ⟨W1,hW1⟩:∃ W1,(W0.alloc (.deferred (some []))).alloc (.loop (Z5m fn (.func (.func g) #[] lb) w.heap.size W0.heap.size .ready none))=W1:=⟨_,rfl⟩
 have hold:∀ k,k < W0.heap.size→W1.heap[k]?=W0.heap[k]?:=fun k hk=>by
  rw [← hW1]; exact (Below.heap_alloc _ _ k (by simp; omega)).trans (Below.heap_alloc _ _ k hk)
 have hb1:Below w.heap.size w W1:=by rw [← hW1]; exact (hb0.alloc hb0.size _).alloc (by have:=hb0.size; simp; omega) _
 have hs1:W1.heap.size=W0.heap.size+2:=by rw [← hW1]; simp
 have hM:bk_ApAt w fn (.func (.func g) #[] lb) w.heap.size (W0.heap.size+1) W0.heap.size [] W1 :=
  ⟨⟨_,(hold w.heap.size (by omega)).trans hv0,⟨rfl,.inl ⟨rfl,rfl⟩⟩,by simp⟩,
   by rw [← hW1]; have:=World.alloc_heap_new (W0.alloc (.deferred (some []))) (.loop (Z5m fn (.func (.func g) #[] lb) w.heap.size W0.heap.size .ready none)); rwa [World.size_alloc] at this,
   by rw [← hW1]; exact (Below.heap_alloc _ _ _ (by simp)).trans (World.alloc_heap_new W0 _),hb1⟩
 refine ⟨W0.heap.size+1,[{ target:=.collected W0.heap.size,args:=#[] }],W1,{ target:=.fn (.func g) lb,args:=#[.func (.yield (W0.heap.size+1)) #[] #[]] },W1,g,
  #[.func (.yield (W0.heap.size+1)) #[] #[]] ++ lb,W1,?_,?_,?_,?_,fun _=>h1,?_⟩
 ·rw [← hW1]; exact run_enterLoop_outer _ _ _ _ _
 ·simp [resolve,go_sem]
 ·intro f' hf'; simp [Target.leads] at hf'; subst hf'; exact hFg
 ·simp [invoke,go_sem,eg]
 ·refine (hseq (W0.heap.size+1) (bk_ApAt w fn (.func (.func g) #[] lb) w.heap.size (W0.heap.size+1) W0.heap.size) W1 hb1 (Zm8 _ _ _ _ _ _ _ hb1.size)
   (fun pre x W hJ hl=>Zpl F (n - 1 - 1) w fn hfn _ w.heap.size (W0.heap.size+1) W0.heap.size (by omega) (by omega) (by omega) (Nat.le_refl _) (by omega) N hN hNb pre x W hJ hl) hM).mono ?_
  rintro e W2 ⟨⟨v0,rfl⟩,ss,hS,h2⟩
  obtain ⟨v,hv,hrow,hnil⟩:=h2.box
  have hend:=run_endLoop (P:=Tryz.prog) h2.L (by simp [Z5m])
  obtain ⟨W3,hW3⟩:∃ W3,W2.putObj (W0.heap.size+1) (.loop { Z5m fn (.func (.func g) #[] lb) w.heap.size W0.heap.size .ready none with state:=.exhausted })=W3:=⟨_,rfl⟩
  rw [hW3] at hend
  have hg3:W2.grownBy W3 (some (W0.heap.size+1)):=by rw [← hW3]; exact Z3q _ _ _
  have hv3:W3.heap[w.heap.size]?=some (.cells #[v] 326 (0,0)):=by rw [← hW3]; exact (World.putObj_heap_other (by omega)).trans hv
  have hK3:W3.heap[W0.heap.size]?=some (.deferred (some [])):=by rw [← hW3]; exact (World.putObj_heap_other (by omega)).trans h2.K
  have hrow3:=hrow.kept hg3 (Z7y hrow h2.L (fun cur e=>by cases e))
  have hb3:Below w.heap.size w W3:=h2.below.grown hg3 h2.below.size (fun k e=>by cases e; omega)
  obtain ⟨hc3,hf3⟩:=Z6e hv3
  clear hW3
  refine ⟨none,W3,hend,?_⟩
  gi_wp2
  rw [← hs0]
  refine ⟨by simp,.inl ⟨_,_,rfl,run_takeDeferred hK3,?_⟩⟩
  exact ⟨_,results_tmp rfl _ _ _,v,ss,rfl,hS,hrow3.kept (Z3q _ _ _) (Z7y hrow3 hK3 (fun cur e=>by cases e)),hnil,hb3.grown (Z3q _ _ _) hb3.size (fun k e=>by cases e; omega)⟩
end Go.Proofs.YtoiahhpgkoknfaaGreat.Seq
set_option linter.unusedVariables false
namespace Go.Proofs.YtoiahhpgkoknfaaGreat
open Go Go.Proofs.YtoiahhpgkoknfaaGreat.Den
def Z3e (length0:Int):W (Int) :=
 callW Tryz.prog Z5n [.int .u64 (IntKind.wrap .u64 length0)] [.sc (.int .i64)] fun (x_1:Int) =>
 chkW (0≤x_1) <|
 retW (shL .u64 1 x_1)
theorem Z5i {R:Type} (length0:Int) (K:Res [.sc (.int .u64)]→W R) (Q:R→World→Prop) (w:World) (h:Z3e length0 (fun r w=>K r Q w) w):callW Tryz.prog Z3j [.int .i64 length0] [.sc (.int .u64)] K Q w:=den_c (K:=K) mix Tryz.func243 {} trivial rfl (by kernel_rfl) h
def Z6b (r0:Option Addr):W (Int) :=
 drawW <|
 ptrW r0 fun x_1 =>
 ld (.sc (.int .u64)) x_1 fun (x_2:Int) =>
 ptrW r0 fun x_3 =>
 ld (.sc (.int .u64)) x_3 fun (x_4:Int) =>
 ptrW r0 fun x_5 =>
 stoL x_5 [.int .u64 (bXor .u64 x_2 (shL .u64 x_4 13))] 0 <|
 drawW <|
 ptrW r0 fun x_6 =>
 ld (.sc (.int .u64)) x_6 fun (x_7:Int) =>
 ptrW r0 fun x_8 =>
 ld (.sc (.int .u64)) x_8 fun (x_9:Int) =>
 ptrW r0 fun x_10 =>
 stoL x_10 [.int .u64 (bXor .u64 x_7 (shR .u64 x_9 7))] 0 <|
 drawW <|
 ptrW r0 fun x_11 =>
 ld (.sc (.int .u64)) x_11 fun (x_12:Int) =>
 ptrW r0 fun x_13 =>
 ld (.sc (.int .u64)) x_13 fun (x_14:Int) =>
 ptrW r0 fun x_15 =>
 stoL x_15 [.int .u64 (bXor .u64 x_12 (shL .u64 x_14 17))] 0 <|
 ptrW r0 fun x_16 =>
 ld (.sc (.int .u64)) x_16 fun (x_17:Int) =>
 retW x_17
theorem Zbf {R:Type} (r0:Option Addr) (K:Res [.sc (.int .u64)]→W R) (Q:R→World→Prop) (w:World) (h:Z6b r0 (fun r w=>K r Q w) w):callW Tryz.prog Z2m [.pointer r0] [.sc (.int .u64)] K Q w:=den_c (K:=K) mix Tryz.func244 { dr:=[(1,([],[[(0,[]),(1,[]),(2,[]),(3,[]),(4,[]),(5,[]),(6,[]),(7,[]),(8,[]),(9,[])]])),(2,([],[[(0,[]),(1,[]),(2,[]),(3,[]),(4,[]),(5,[]),(6,[]),(7,[]),(8,[]),(9,[])]])),(3,([],[[(0,[]),(1,[]),(2,[]),(3,[]),(4,[]),(5,[]),(6,[]),(7,[]),(8,[]),(9,[])]]))] } trivial rfl (by kernel_rfl) h
def Z9b (x0:Sl):W (Unit) :=
 callW Tryz.prog Z5n [.int .u64 (IntKind.wrap .u64 (x0.n:Int))] [.sc (.int .i64)] fun (x_1:Int) =>
 callW Tryz.prog Zm [.slice x0.a x0.n x0.c,.int .i64 0,.int .i64 (x0.n:Int),.int .i64 x_1] [] fun (x_2:Unit) =>
 retW ()
theorem Zej {R:Type} (x0:Sl) (K:Res []→W R) (Q:R→World→Prop) (w:World) (h:Z9b x0 (fun r w=>K r Q w) w):callW Tryz.prog Z5x [.slice x0.a x0.n x0.c] [] K Q w:=den_c (K:=K) mix Tryz.func289 {} trivial rfl (by kernel_rfl) h
def Z3y (d0:Sl) (o1:Int) (p2:Int) (p3:Int):W (Unit) :=
 loopW (σ:=Int × Int × Int × Bool × Bool) (fun K_1 s_2 =>
  joinW (σ:=Int × Int × Int × Bool × Bool) (fun J_3 =>
   cond (decide ((IntKind.wrap .i64 (s_2.2.1 - s_2.1))≤12))
    (callW Tryz.prog Z1b [.slice d0.a d0.n d0.c,.int .i64 s_2.1,.int .i64 s_2.2.1] [] fun (x_4:Unit) =>
    retW ())
    (cond (s_2.2.2.1 == 0)
    (callW Tryz.prog Z23 [.slice d0.a d0.n d0.c,.int .i64 s_2.1,.int .i64 s_2.2.1] [] fun (x_5:Unit) =>
    retW ())
    (joinW (σ:=Int) (fun J_6 =>
    cond (!s_2.2.2.2.1)
     (callW Tryz.prog Z1a [.slice d0.a d0.n d0.c,.int .i64 s_2.1,.int .i64 s_2.2.1] [] fun (x_7:Unit) =>
     J_6 (IntKind.wrap .i64 (s_2.2.2.1 - 1)))
     (J_6 s_2.2.2.1))
   <| fun s_8 =>
   callW Tryz.prog Z1l [.slice d0.a d0.n d0.c,.int .i64 s_2.1,.int .i64 s_2.2.1] [.sc (.int .i64),.sc (.int .i64)] fun (x_9:Int × Int) =>
   joinW (σ:=Int × Int) (fun J_10 =>
    cond (x_9.2 == 2)
     (callW Tryz.prog Z1h [.slice d0.a d0.n d0.c,.int .i64 s_2.1,.int .i64 s_2.2.1] [] fun (x_11:Unit) =>
     J_10 (IntKind.wrap .i64 ((IntKind.wrap .i64 (s_2.2.1 - 1)) - (IntKind.wrap .i64 (x_9.1 - s_2.1))),1))
     (J_10 (x_9.1,x_9.2)))
   <| fun s_12 =>
   joinW (σ:=Bool) (fun J_13 =>
    cond s_2.2.2.2.1
     (cond s_2.2.2.2.2
      (J_13 (s_12.2 == 1))
      (J_13 false))
     (J_13 false))
   <| fun s_14 =>
   joinW (σ:=Unit) (fun J_15 =>
    cond s_14
     (callW Tryz.prog Zj [.slice d0.a d0.n d0.c,.int .i64 s_2.1,.int .i64 s_2.2.1] [.sc .bool] fun (x_16:Bool) =>
     cond x_16
      (retW ())
      (J_15 ()))
     (J_15 ()))
   <| fun s_17 =>
   joinW (σ:=Bool) (fun J_18 =>
    drawW <|
    cond (decide (s_2.1 > 0))
     (idxW d0.a d0.n 1 (IntKind.wrap .i64 (s_2.1 - 1)) fun x_19 =>
        ld (.sc (.int .u8)) x_19 fun (x_20:Int) =>
         idxW d0.a d0.n 1 s_12.1 fun x_21 =>
            ld (.sc (.int .u8)) x_21 fun (x_22:Int) =>
             callW Tryz.prog Z5 [.int .u8 x_20,.int .u8 x_22] [.sc .bool] fun (x_23:Bool) =>
              J_18 (!x_23))
     (J_18 false))
   <| fun s_24 =>
   cond s_24
    (callW Tryz.prog Z14 [.slice d0.a d0.n d0.c,.int .i64 s_2.1,.int .i64 s_2.2.1,.int .i64 s_12.1] [.sc (.int .i64)] fun (x_25:Int) =>
    J_3 (x_25,s_2.2.1,s_8,s_2.2.2.2.1,s_2.2.2.2.2))
    (callW Tryz.prog Z1v [.slice d0.a d0.n d0.c,.int .i64 s_2.1,.int .i64 s_2.2.1,.int .i64 s_12.1] [.sc (.int .i64),.sc .bool] fun (x_26:Int × Bool) =>
   joinW (σ:=Int × Int × Bool) (fun J_27 =>
    cond (decide ((IntKind.wrap .i64 (x_26.1 - s_2.1)) < (IntKind.wrap .i64 (s_2.2.1 - x_26.1))))
     (callW Tryz.prog Zm [.slice d0.a d0.n d0.c,.int .i64 s_2.1,.int .i64 x_26.1,.int .i64 s_8] [] fun (x_28:Unit) =>
     J_27 (IntKind.wrap .i64 (x_26.1+1),s_2.2.1,decide ((IntKind.wrap .i64 (x_26.1 - s_2.1)) ≥ (IntKind.wrap .i64 (Int.tdiv (IntKind.wrap .i64 (s_2.2.1 - s_2.1)) 8)))))
     (callW Tryz.prog Zm [.slice d0.a d0.n d0.c,.int .i64 (IntKind.wrap .i64 (x_26.1+1)),.int .i64 s_2.2.1,.int .i64 s_8] [] fun (x_29:Unit) =>
     J_27 (s_2.1,x_26.1,decide ((IntKind.wrap .i64 (s_2.2.1 - x_26.1)) ≥ (IntKind.wrap .i64 (Int.tdiv (IntKind.wrap .i64 (s_2.2.1 - s_2.1)) 8))))))
   <| fun s_30 =>
   J_3 (s_30.1,s_30.2.1,s_8,s_30.2.2,x_26.2)))))
  <| fun s_31 =>
  K_1 (s_31.1,s_31.2.1,s_31.2.2.1,s_31.2.2.2.1,s_31.2.2.2.2))
  (o1,p2,p3,true,true)
theorem Z7r {R:Type} (d0:Sl) (o1:Int) (p2:Int) (p3:Int) (K:Res []→W R) (Q:R→World→Prop) (w:World) (h:Z3y d0 o1 p2 p3 (fun r w=>K r Q w) w):callW Tryz.prog Zm [.slice d0.a d0.n d0.c,.int .i64 o1,.int .i64 p2,.int .i64 p3] [] K Q w:=den_c (K:=K) mix Tryz.func299 { reg:=[(15,[(68,.sc .bool)]),(17,[(87,.sc .bool)])],con:=[(9035,[(3,.sc (.int .i64))]),(13050,[(11,.sc (.int .i64)),(12,.sc (.int .i64))]),(17068,[]),(26113,[(1,.sc (.int .i64)),(2,.sc (.int .i64)),(8,.sc .bool)])],blk:=[(1,[(1,.sc (.int .i64)),(2,.sc (.int .i64)),(3,.sc (.int .i64)),(8,.sc .bool),(9,.sc .bool)])],lop:=[(0,[(1,.sc (.int .i64)),(2,.sc (.int .i64)),(3,.sc (.int .i64)),(8,.sc .bool),(9,.sc .bool)])],dr:=[(17,([],[[(0,[]),(1,[]),(2,[]),(3,[]),(4,[]),(5,[]),(6,[]),(7,[]),(8,[]),(9,[]),(10,[]),(11,[]),(12,[]),(13,[]),(14,[])]]))] } trivial rfl (by kernel_rfl) h
def Z2r (data0:Sl) (a1:Int) (b2:Int):W (Unit) :=
 loopW (σ:=Int) (fun K_1 s_2 =>
  cond (decide (s_2 < b2))
   (loopW (σ:=Int) (fun K_3 s_4 =>
   joinW (σ:=Bool) (fun J_5 =>
    drawW <|
    cond (decide (s_4 > a1))
     (idxW data0.a data0.n 1 s_4 fun x_6 =>
       ld (.sc (.int .u8)) x_6 fun (x_7:Int) =>
        idxW data0.a data0.n 1 (IntKind.wrap .i64 (s_4 - 1)) fun x_8 =>
            ld (.sc (.int .u8)) x_8 fun (x_9:Int) =>
             callW Tryz.prog Z5 [.int .u8 x_7,.int .u8 x_9] [.sc .bool] fun (x_10:Bool) =>
              J_5 x_10)
     (J_5 false))
   <| fun s_11 =>
   cond s_11
    (drawW <|
   idxW data0.a data0.n 1 (IntKind.wrap .i64 (s_4 - 1)) fun x_12 =>
   ld (.sc (.int .u8)) x_12 fun (x_13:Int) =>
   idxW data0.a data0.n 1 s_4 fun x_14 =>
   ld (.sc (.int .u8)) x_14 fun (x_15:Int) =>
   idxW data0.a data0.n 1 s_4 fun x_16 =>
   stoL x_16 [.int .u8 x_13] 0 <|
   idxW data0.a data0.n 1 (IntKind.wrap .i64 (s_4 - 1)) fun x_17 =>
   stoL x_17 [.int .u8 x_15] 0 <|
   K_3 (IntKind.wrap .i64 (s_4 - 1)))
    (K_1 (IntKind.wrap .i64 (s_2+1))))
   s_2)
   (retW ()))
  (IntKind.wrap .i64 (a1+1))
theorem Z5h {R:Type} (data0:Sl) (a1:Int) (b2:Int) (K:Res []→W R) (Q:R→World→Prop) (w:World) (h:Z2r data0 a1 b2 (fun r w=>K r Q w) w):callW Tryz.prog Z1b [.slice data0.a data0.n data0.c,.int .i64 a1,.int .i64 b2] [] K Q w:=den_c (K:=K) mix Tryz.func302 { reg:=[(4,[(30,.sc .bool)])],lop:=[(0,[(6,.sc (.int .i64))]),(2,[(7,.sc (.int .i64))])],dr:=[(4,([],[[(0,[]),(1,[]),(2,[]),(3,[]),(4,[]),(5,[]),(6,[]),(7,[]),(8,[]),(9,[]),(10,[]),(11,[]),(12,[]),(13,[]),(14,[])]])),(6,([],[[(0,[]),(1,[]),(2,[]),(3,[]),(4,[]),(5,[]),(6,[]),(7,[]),(8,[]),(9,[]),(10,[]),(11,[]),(12,[]),(13,[]),(14,[]),(15,[]),(16,[]),(17,[])]]))] } trivial rfl (by kernel_rfl) h
def Z3n (data0:Sl) (a1:Int) (b2:Int):W (Unit) :=
 loopW (σ:=Int) (fun K_1 s_2 =>
  cond (decide (s_2 ≥ 0))
   (callW Tryz.prog Z10 [.slice data0.a data0.n data0.c,.int .i64 s_2,.int .i64 (IntKind.wrap .i64 (b2 - a1)),.int .i64 a1] [] fun (x_3:Unit) =>
  K_1 (IntKind.wrap .i64 (s_2 - 1)))
   (loopW (σ:=Int) (fun K_4 s_5 =>
  cond (decide (s_5 ≥ 0))
   (drawW <|
  idxW data0.a data0.n 1 (IntKind.wrap .i64 (a1+s_5)) fun x_6 =>
  ld (.sc (.int .u8)) x_6 fun (x_7:Int) =>
  idxW data0.a data0.n 1 a1 fun x_8 =>
  ld (.sc (.int .u8)) x_8 fun (x_9:Int) =>
  idxW data0.a data0.n 1 a1 fun x_10 =>
  stoL x_10 [.int .u8 x_7] 0 <|
  idxW data0.a data0.n 1 (IntKind.wrap .i64 (a1+s_5)) fun x_11 =>
  stoL x_11 [.int .u8 x_9] 0 <|
  callW Tryz.prog Z10 [.slice data0.a data0.n data0.c,.int .i64 0,.int .i64 s_5,.int .i64 a1] [] fun (x_12:Unit) =>
  K_4 (IntKind.wrap .i64 (s_5 - 1)))
   (retW ()))
  (IntKind.wrap .i64 ((IntKind.wrap .i64 (b2 - a1)) - 1))))
  (IntKind.wrap .i64 (Int.tdiv (IntKind.wrap .i64 ((IntKind.wrap .i64 (b2 - a1)) - 1)) 2))
theorem Z71 {R:Type} (data0:Sl) (a1:Int) (b2:Int) (K:Res []→W R) (Q:R→World→Prop) (w:World) (h:Z3n data0 a1 b2 (fun r w=>K r Q w) w):callW Tryz.prog Z23 [.slice data0.a data0.n data0.c,.int .i64 a1,.int .i64 b2] [] K Q w:=den_c (K:=K) mix Tryz.func303 { lop:=[(0,[(9,.sc (.int .i64))]),(2,[(10,.sc (.int .i64))])],dr:=[(10,([],[[(0,[]),(1,[]),(2,[]),(3,[]),(4,[]),(5,[]),(6,[]),(7,[]),(8,[]),(9,[]),(10,[]),(11,[]),(12,[]),(13,[]),(14,[]),(15,[]),(16,[]),(17,[]),(18,[]),(19,[])]]))] } trivial rfl (by kernel_rfl) h
def Z2q (d0:Sl) (o1:Int) (p2:Int):W (Unit) :=
 joinW (σ:=Unit) (fun J_1 =>
  cond (decide ((IntKind.wrap .i64 (p2 - o1)) ≥ 8))
   (newW 344 [.int .u64 0] fun x_2 =>
   stoL x_2 [.int .u64 (IntKind.wrap .u64 (IntKind.wrap .i64 (p2 - o1)))] 0 <|
   callW Tryz.prog Z3j [.int .i64 (IntKind.wrap .i64 (p2 - o1))] [.sc (.int .u64)] fun (x_3:Int) =>
   loopW (σ:=Int) (fun K_4 s_5 =>
    cond (decide (s_5≤(IntKind.wrap .i64 ((IntKind.wrap .i64 (o1+(IntKind.wrap .i64 ((IntKind.wrap .i64 (Int.tdiv (IntKind.wrap .i64 (p2 - o1)) 4)) * 2))))+1))))
     (callW Tryz.prog Z2m [.pointer (some x_2)] [.sc (.int .u64)] fun (x_6:Int) =>
    joinW (σ:=Int) (fun J_7 =>
     cond (decide ((IntKind.wrap .i64 (bAnd .u64 x_6 (IntKind.wrap .u64 (x_3 - 1)))) ≥ (IntKind.wrap .i64 (p2 - o1))))
      (J_7 (IntKind.wrap .i64 ((IntKind.wrap .i64 (bAnd .u64 x_6 (IntKind.wrap .u64 (x_3 - 1)))) - (IntKind.wrap .i64 (p2 - o1)))))
      (J_7 (IntKind.wrap .i64 (bAnd .u64 x_6 (IntKind.wrap .u64 (x_3 - 1))))))
    <| fun s_8 =>
    drawW <|
    idxW d0.a d0.n 1 (IntKind.wrap .i64 (o1+s_8)) fun x_9 =>
    ld (.sc (.int .u8)) x_9 fun (x_10:Int) =>
    idxW d0.a d0.n 1 s_5 fun x_11 =>
    ld (.sc (.int .u8)) x_11 fun (x_12:Int) =>
    idxW d0.a d0.n 1 s_5 fun x_13 =>
    stoL x_13 [.int .u8 x_10] 0 <|
    idxW d0.a d0.n 1 (IntKind.wrap .i64 (o1+s_8)) fun x_14 =>
    stoL x_14 [.int .u8 x_12] 0 <|
    K_4 (IntKind.wrap .i64 (s_5+1)))
     (J_1 ()))
    (IntKind.wrap .i64 ((IntKind.wrap .i64 (o1+(IntKind.wrap .i64 ((IntKind.wrap .i64 (Int.tdiv (IntKind.wrap .i64 (p2 - o1)) 4)) * 2)))) - 1)))
   (J_1 ()))
 <| fun s_15 =>
 retW ()
theorem Z5g {R:Type} (d0:Sl) (o1:Int) (p2:Int) (K:Res []→W R) (Q:R→World→Prop) (w:World) (h:Z2q d0 o1 p2 (fun r w=>K r Q w) w):callW Tryz.prog Z1a [.slice d0.a d0.n d0.c,.int .i64 o1,.int .i64 p2] [] K Q w:=den_c (K:=K) mix Tryz.func304 { con:=[(10043,[(10,.sc (.int .i64))]),(3015,[])],lop:=[(0,[(9,.sc (.int .i64))])],dr:=[(10,([],[[(0,[]),(1,[]),(2,[]),(3,[]),(4,[]),(5,[]),(6,[]),(7,[]),(8,[]),(9,[]),(10,[]),(11,[]),(12,[]),(13,[]),(14,[]),(15,[]),(16,[]),(17,[]),(18,[]),(19,[])]]))] } trivial rfl (by kernel_rfl) h
def Z33 (data0:Sl) (a1:Int) (b2:Int):W (Int × Int) :=
 newW 3 [.int .i64 0] fun swaps_1 =>
 joinW (σ:=Int) (fun J_2 =>
  cond (decide ((IntKind.wrap .i64 (b2 - a1)) ≥ 8))
   (joinW (σ:=Int × Int × Int) (fun J_3 =>
    cond (decide ((IntKind.wrap .i64 (b2 - a1)) ≥ 50))
     (callW Tryz.prog Z7 [.slice data0.a data0.n data0.c,.int .i64 (IntKind.wrap .i64 (a1+(IntKind.wrap .i64 ((IntKind.wrap .i64 (Int.tdiv (IntKind.wrap .i64 (b2 - a1)) 4)) * 1)))),.pointer (some swaps_1)] [.sc (.int .i64)] fun (x_4:Int) =>
     callW Tryz.prog Z7 [.slice data0.a data0.n data0.c,.int .i64 (IntKind.wrap .i64 (a1+(IntKind.wrap .i64 ((IntKind.wrap .i64 (Int.tdiv (IntKind.wrap .i64 (b2 - a1)) 4)) * 2)))),.pointer (some swaps_1)] [.sc (.int .i64)] fun (x_5:Int) =>
     callW Tryz.prog Z7 [.slice data0.a data0.n data0.c,.int .i64 (IntKind.wrap .i64 (a1+(IntKind.wrap .i64 ((IntKind.wrap .i64 (Int.tdiv (IntKind.wrap .i64 (b2 - a1)) 4)) * 3)))),.pointer (some swaps_1)] [.sc (.int .i64)] fun (x_6:Int) =>
     J_3 (x_4,x_5,x_6))
     (J_3 (IntKind.wrap .i64 (a1+(IntKind.wrap .i64 ((IntKind.wrap .i64 (Int.tdiv (IntKind.wrap .i64 (b2 - a1)) 4)) * 1))),IntKind.wrap .i64 (a1+(IntKind.wrap .i64 ((IntKind.wrap .i64 (Int.tdiv (IntKind.wrap .i64 (b2 - a1)) 4)) * 2))),IntKind.wrap .i64 (a1+(IntKind.wrap .i64 ((IntKind.wrap .i64 (Int.tdiv (IntKind.wrap .i64 (b2 - a1)) 4)) * 3))))))
   <| fun s_7 =>
   callW Tryz.prog Z1g [.slice data0.a data0.n data0.c,.int .i64 s_7.1,.int .i64 s_7.2.1,.int .i64 s_7.2.2,.pointer (some swaps_1)] [.sc (.int .i64)] fun (x_8:Int) =>
   J_2 x_8)
   (J_2 (IntKind.wrap .i64 (a1+(IntKind.wrap .i64 ((IntKind.wrap .i64 (Int.tdiv (IntKind.wrap .i64 (b2 - a1)) 4)) * 2))))))
 <| fun s_9 =>
 ld (.sc (.int .i64)) swaps_1 fun (x_10:Int) =>
 cond (x_10 == 0)
  (retW (s_9,1))
  (cond (x_10 == 12)
   (retW (s_9,2))
   (retW (s_9,0)))
theorem Z68 {R:Type} (data0:Sl) (a1:Int) (b2:Int) (K:Res [.sc (.int .i64),.sc (.int .i64)]→W R) (Q:R→World→Prop) (w:World) (h:Z33 data0 a1 b2 (fun r w=>K r Q w) w):callW Tryz.prog Z1l [.slice data0.a data0.n data0.c,.int .i64 a1,.int .i64 b2] [.sc (.int .i64),.sc (.int .i64)] K Q w:=den_c (K:=K) mix Tryz.func305 { con:=[(9034,[(10,.sc (.int .i64)),(11,.sc (.int .i64)),(12,.sc (.int .i64))]),(8032,[(11,.sc (.int .i64))])] } trivial rfl (by kernel_rfl) h
def Z2w (data0:Sl) (a1:Int) (b2:Int):W (Unit) :=
 loopW (σ:=Int × Int) (fun K_1 s_2 =>
  cond (decide (s_2.1 < s_2.2))
   (drawW <|
  idxW data0.a data0.n 1 s_2.2 fun x_3 =>
  ld (.sc (.int .u8)) x_3 fun (x_4:Int) =>
  idxW data0.a data0.n 1 s_2.1 fun x_5 =>
  ld (.sc (.int .u8)) x_5 fun (x_6:Int) =>
  idxW data0.a data0.n 1 s_2.1 fun x_7 =>
  stoL x_7 [.int .u8 x_4] 0 <|
  idxW data0.a data0.n 1 s_2.2 fun x_8 =>
  stoL x_8 [.int .u8 x_6] 0 <|
  K_1 (IntKind.wrap .i64 (s_2.1+1),IntKind.wrap .i64 (s_2.2 - 1)))
   (retW ()))
  (a1,IntKind.wrap .i64 (b2 - 1))
theorem Z5j {R:Type} (data0:Sl) (a1:Int) (b2:Int) (K:Res []→W R) (Q:R→World→Prop) (w:World) (h:Z2w data0 a1 b2 (fun r w=>K r Q w) w):callW Tryz.prog Z1h [.slice data0.a data0.n data0.c,.int .i64 a1,.int .i64 b2] [] K Q w:=den_c (K:=K) mix Tryz.func306 { lop:=[(0,[(6,.sc (.int .i64)),(7,.sc (.int .i64))])],dr:=[(3,([],[[(0,[]),(1,[]),(2,[]),(3,[]),(4,[]),(5,[]),(6,[]),(7,[]),(8,[]),(9,[]),(10,[]),(11,[]),(12,[]),(13,[]),(14,[]),(15,[])]]))] } trivial rfl (by kernel_rfl) h
def Z1n (d0:Sl) (o1:Int) (p2:Int):W (Bool) :=
 loopW (σ:=Int × Int) (fun K_1 s_2 =>
  cond (decide (s_2.2 < 5))
   (loopW (σ:=Int) (fun K_3 s_4 =>
   joinW (σ:=Bool) (fun J_5 =>
    drawW <|
    cond (decide (s_4 < p2))
     (idxW d0.a d0.n 1 s_4 fun x_6 =>
       ld (.sc (.int .u8)) x_6 fun (x_7:Int) =>
        idxW d0.a d0.n 1 (IntKind.wrap .i64 (s_4 - 1)) fun x_8 =>
            ld (.sc (.int .u8)) x_8 fun (x_9:Int) =>
             callW Tryz.prog Z5 [.int .u8 x_7,.int .u8 x_9] [.sc .bool] fun (x_10:Bool) =>
              J_5 (!x_10))
     (J_5 false))
   <| fun s_11 =>
   cond s_11
    (K_3 (IntKind.wrap .i64 (s_4+1)))
    (cond (s_4 == p2)
   (retW true)
   (cond (decide ((IntKind.wrap .i64 (p2 - o1)) < 50))
   (retW false)
   (drawW <|
  idxW d0.a d0.n 1 (IntKind.wrap .i64 (s_4 - 1)) fun x_12 =>
  ld (.sc (.int .u8)) x_12 fun (x_13:Int) =>
  idxW d0.a d0.n 1 s_4 fun x_14 =>
  ld (.sc (.int .u8)) x_14 fun (x_15:Int) =>
  idxW d0.a d0.n 1 s_4 fun x_16 =>
  stoL x_16 [.int .u8 x_13] 0 <|
  idxW d0.a d0.n 1 (IntKind.wrap .i64 (s_4 - 1)) fun x_17 =>
  stoL x_17 [.int .u8 x_15] 0 <|
  joinW (σ:=Unit) (fun J_18 =>
   cond (decide ((IntKind.wrap .i64 (s_4 - o1)) ≥ 2))
    (joinW (σ:=Unit) (fun J_19 =>
     loopW (σ:=Int) (fun K_20 s_21 =>
      cond (decide (s_21 ≥ 1))
       (drawW <|
      idxW d0.a d0.n 1 s_21 fun x_22 =>
      ld (.sc (.int .u8)) x_22 fun (x_23:Int) =>
      idxW d0.a d0.n 1 (IntKind.wrap .i64 (s_21 - 1)) fun x_24 =>
      ld (.sc (.int .u8)) x_24 fun (x_25:Int) =>
      callW Tryz.prog Z5 [.int .u8 x_23,.int .u8 x_25] [.sc .bool] fun (x_26:Bool) =>
      cond (!x_26)
       (J_19 ())
       (drawW <|
      idxW d0.a d0.n 1 (IntKind.wrap .i64 (s_21 - 1)) fun x_27 =>
      ld (.sc (.int .u8)) x_27 fun (x_28:Int) =>
      idxW d0.a d0.n 1 s_21 fun x_29 =>
      ld (.sc (.int .u8)) x_29 fun (x_30:Int) =>
      idxW d0.a d0.n 1 s_21 fun x_31 =>
      stoL x_31 [.int .u8 x_28] 0 <|
      idxW d0.a d0.n 1 (IntKind.wrap .i64 (s_21 - 1)) fun x_32 =>
      stoL x_32 [.int .u8 x_30] 0 <|
      K_20 (IntKind.wrap .i64 (s_21 - 1))))
       (J_19 ()))
      (IntKind.wrap .i64 (s_4 - 1)))
    <| fun s_33 =>
    J_18 ())
    (J_18 ()))
  <| fun s_34 =>
  joinW (σ:=Unit) (fun J_35 =>
   cond (decide ((IntKind.wrap .i64 (p2 - s_4)) ≥ 2))
    (joinW (σ:=Unit) (fun J_36 =>
     loopW (σ:=Int) (fun K_37 s_38 =>
      cond (decide (s_38 < p2))
       (drawW <|
      idxW d0.a d0.n 1 s_38 fun x_39 =>
      ld (.sc (.int .u8)) x_39 fun (x_40:Int) =>
      idxW d0.a d0.n 1 (IntKind.wrap .i64 (s_38 - 1)) fun x_41 =>
      ld (.sc (.int .u8)) x_41 fun (x_42:Int) =>
      callW Tryz.prog Z5 [.int .u8 x_40,.int .u8 x_42] [.sc .bool] fun (x_43:Bool) =>
      cond (!x_43)
       (J_36 ())
       (drawW <|
      idxW d0.a d0.n 1 (IntKind.wrap .i64 (s_38 - 1)) fun x_44 =>
      ld (.sc (.int .u8)) x_44 fun (x_45:Int) =>
      idxW d0.a d0.n 1 s_38 fun x_46 =>
      ld (.sc (.int .u8)) x_46 fun (x_47:Int) =>
      idxW d0.a d0.n 1 s_38 fun x_48 =>
      stoL x_48 [.int .u8 x_45] 0 <|
      idxW d0.a d0.n 1 (IntKind.wrap .i64 (s_38 - 1)) fun x_49 =>
      stoL x_49 [.int .u8 x_47] 0 <|
      K_37 (IntKind.wrap .i64 (s_38+1))))
       (J_36 ()))
      (IntKind.wrap .i64 (s_4+1)))
    <| fun s_50 =>
    J_35 ())
    (J_35 ()))
  <| fun s_51 =>
  K_1 (s_4,IntKind.wrap .i64 (s_2.2+1))))))
   s_2.1)
   (retW false))
  (IntKind.wrap .i64 (o1+1),0)
theorem Z3t {R:Type} (d0:Sl) (o1:Int) (p2:Int) (K:Res [.sc .bool]→W R) (Q:R→World→Prop) (w:World) (h:Z1n d0 o1 p2 (fun r w=>K r Q w) w):callW Tryz.prog Zj [.slice d0.a d0.n d0.c,.int .i64 o1,.int .i64 p2] [.sc .bool] K Q w:=den_c (K:=K) mix Tryz.func307 { reg:=[(5,[(32,.sc .bool)])],con:=[(14061,[]),(20098,[])],blk:=[(4,[]),(6,[])],lop:=[(0,[(7,.sc (.int .i64)),(8,.sc (.int .i64))]),(2,[(7,.sc (.int .i64))]),(4,[(9,.sc (.int .i64))]),(6,[(10,.sc (.int .i64))])],dr:=[(5,([],[[(0,[]),(1,[]),(2,[]),(3,[]),(4,[]),(5,[]),(6,[]),(7,[]),(8,[]),(9,[]),(10,[]),(11,[]),(12,[]),(13,[]),(14,[]),(15,[])]])),(11,([],[[(0,[]),(1,[]),(2,[]),(3,[]),(4,[]),(5,[]),(6,[]),(7,[]),(8,[]),(9,[]),(10,[]),(11,[]),(12,[]),(13,[]),(14,[]),(15,[]),(16,[]),(17,[])]])),(16,([],[[(0,[]),(1,[]),(2,[]),(3,[]),(4,[]),(5,[]),(6,[]),(7,[]),(8,[]),(9,[]),(10,[])]])),(17,([],[[(0,[]),(1,[]),(2,[]),(3,[]),(4,[]),(5,[]),(6,[]),(7,[]),(8,[]),(9,[]),(10,[]),(11,[]),(12,[]),(13,[]),(14,[]),(15,[]),(16,[]),(17,[])]])),(22,([],[[(0,[]),(1,[]),(2,[]),(3,[]),(4,[]),(5,[]),(6,[]),(7,[]),(8,[]),(9,[]),(10,[])]])),(23,([],[[(0,[]),(1,[]),(2,[]),(3,[]),(4,[]),(5,[]),(6,[]),(7,[]),(8,[]),(9,[]),(10,[]),(11,[]),(12,[]),(13,[]),(14,[]),(15,[]),(16,[]),(17,[])]]))] } trivial rfl (by kernel_rfl) h
def Zbr (x0:Int) (y1:Int):W (Bool) :=
 joinW (σ:=Bool) (fun J_1 =>
  callW Tryz.prog Z75 [.int .u8 x0] [.sc .bool] fun (x_2:Bool) =>
  cond x_2
   (callW Tryz.prog Z75 [.int .u8 y1] [.sc .bool] fun (x_3:Bool) =>
    cond (!x_3)
      (J_1 true)
      (J_1 (decide (x0 < y1))))
   (J_1 (decide (x0 < y1))))
 <| fun s_4 =>
 retW s_4
theorem Zhm {R:Type} (x0:Int) (y1:Int) (K:Res [.sc .bool]→W R) (Q:R→World→Prop) (w:World) (h:Zbr x0 y1 (fun r w=>K r Q w) w):callW Tryz.prog Z5 [.int .u8 x0,.int .u8 y1] [.sc .bool] K Q w:=den_c (K:=K) mix Tryz.func308 { reg:=[(1,[(4,.sc .bool)])] } trivial rfl (by kernel_rfl) h
def Z2i (d0:Sl) (o1:Int) (p2:Int) (p3:Int):W (Int) :=
 drawW <|
 idxW d0.a d0.n 1 p3 fun x_1 =>
 ld (.sc (.int .u8)) x_1 fun (x_2:Int) =>
 idxW d0.a d0.n 1 o1 fun x_3 =>
 ld (.sc (.int .u8)) x_3 fun (x_4:Int) =>
 idxW d0.a d0.n 1 o1 fun x_5 =>
 stoL x_5 [.int .u8 x_2] 0 <|
 idxW d0.a d0.n 1 p3 fun x_6 =>
 stoL x_6 [.int .u8 x_4] 0 <|
 loopW (σ:=Int × Int) (fun K_7 s_8 =>
  loopW (σ:=Int) (fun K_9 s_10 =>
   joinW (σ:=Bool) (fun J_11 =>
    drawW <|
    cond (decide (s_10≤s_8.2))
     (idxW d0.a d0.n 1 o1 fun x_12 =>
       ld (.sc (.int .u8)) x_12 fun (x_13:Int) =>
        idxW d0.a d0.n 1 s_10 fun x_14 =>
           ld (.sc (.int .u8)) x_14 fun (x_15:Int) =>
            callW Tryz.prog Z5 [.int .u8 x_13,.int .u8 x_15] [.sc .bool] fun (x_16:Bool) =>
             J_11 (!x_16))
     (J_11 false))
   <| fun s_17 =>
   cond s_17
    (K_9 (IntKind.wrap .i64 (s_10+1)))
    (loopW (σ:=Int) (fun K_18 s_19 =>
   joinW (σ:=Bool) (fun J_20 =>
    drawW <|
    cond (decide (s_10≤s_19))
     (idxW d0.a d0.n 1 o1 fun x_21 =>
       ld (.sc (.int .u8)) x_21 fun (x_22:Int) =>
        idxW d0.a d0.n 1 s_19 fun x_23 =>
           ld (.sc (.int .u8)) x_23 fun (x_24:Int) =>
            callW Tryz.prog Z5 [.int .u8 x_22,.int .u8 x_24] [.sc .bool] fun (x_25:Bool) =>
             J_20 x_25)
     (J_20 false))
   <| fun s_26 =>
   cond s_26
    (K_18 (IntKind.wrap .i64 (s_19 - 1)))
    (cond (decide (s_10 > s_19))
   (retW s_10)
   (drawW <|
  idxW d0.a d0.n 1 s_19 fun x_27 =>
  ld (.sc (.int .u8)) x_27 fun (x_28:Int) =>
  idxW d0.a d0.n 1 s_10 fun x_29 =>
  ld (.sc (.int .u8)) x_29 fun (x_30:Int) =>
  idxW d0.a d0.n 1 s_10 fun x_31 =>
  stoL x_31 [.int .u8 x_28] 0 <|
  idxW d0.a d0.n 1 s_19 fun x_32 =>
  stoL x_32 [.int .u8 x_30] 0 <|
  K_7 (IntKind.wrap .i64 (s_10+1),IntKind.wrap .i64 (s_19 - 1)))))
   s_8.2))
   s_8.1)
  (IntKind.wrap .i64 (o1+1),IntKind.wrap .i64 (p2 - 1))
theorem Z57 {R:Type} (d0:Sl) (o1:Int) (p2:Int) (p3:Int) (K:Res [.sc (.int .i64)]→W R) (Q:R→World→Prop) (w:World) (h:Z2i d0 o1 p2 p3 (fun r w=>K r Q w) w):callW Tryz.prog Z14 [.slice d0.a d0.n d0.c,.int .i64 o1,.int .i64 p2,.int .i64 p3] [.sc (.int .i64)] K Q w:=den_c (K:=K) mix Tryz.func309 { reg:=[(3,[(43,.sc .bool)]),(5,[(59,.sc .bool)])],lop:=[(0,[(9,.sc (.int .i64)),(10,.sc (.int .i64))]),(2,[(9,.sc (.int .i64))]),(4,[(10,.sc (.int .i64))])],dr:=[(1,([],[[(0,[]),(1,[]),(2,[]),(3,[]),(4,[]),(5,[]),(6,[]),(7,[]),(8,[]),(9,[]),(10,[]),(11,[]),(12,[]),(13,[]),(14,[]),(15,[])]])),(3,([],[[(0,[]),(1,[]),(2,[]),(3,[]),(4,[]),(5,[]),(6,[]),(7,[]),(8,[]),(9,[]),(10,[]),(11,[]),(12,[]),(13,[]),(14,[])]])),(5,([],[[(0,[]),(1,[]),(2,[]),(3,[]),(4,[]),(5,[]),(6,[]),(7,[]),(8,[]),(9,[]),(10,[]),(11,[]),(12,[]),(13,[])]])),(8,([],[[(0,[]),(1,[]),(2,[]),(3,[]),(4,[]),(5,[]),(6,[]),(7,[]),(8,[]),(9,[]),(10,[]),(11,[]),(12,[]),(13,[]),(14,[]),(15,[])]]))] } trivial rfl (by kernel_rfl) h
def Z3d (d0:Sl) (o1:Int) (p2:Int) (p3:Int):W (Int × Bool) :=
 drawW <|
 idxW d0.a d0.n 1 p3 fun x_1 =>
 ld (.sc (.int .u8)) x_1 fun (x_2:Int) =>
 idxW d0.a d0.n 1 o1 fun x_3 =>
 ld (.sc (.int .u8)) x_3 fun (x_4:Int) =>
 idxW d0.a d0.n 1 o1 fun x_5 =>
 stoL x_5 [.int .u8 x_2] 0 <|
 idxW d0.a d0.n 1 p3 fun x_6 =>
 stoL x_6 [.int .u8 x_4] 0 <|
 loopW (σ:=Int) (fun K_7 s_8 =>
  joinW (σ:=Bool) (fun J_9 =>
   drawW <|
   cond (decide (s_8≤(IntKind.wrap .i64 (p2 - 1))))
    (idxW d0.a d0.n 1 s_8 fun x_10 =>
      ld (.sc (.int .u8)) x_10 fun (x_11:Int) =>
       idxW d0.a d0.n 1 o1 fun x_12 =>
          ld (.sc (.int .u8)) x_12 fun (x_13:Int) =>
           callW Tryz.prog Z5 [.int .u8 x_11,.int .u8 x_13] [.sc .bool] fun (x_14:Bool) =>
            J_9 x_14)
    (J_9 false))
  <| fun s_15 =>
  cond s_15
   (K_7 (IntKind.wrap .i64 (s_8+1)))
   (loopW (σ:=Int) (fun K_16 s_17 =>
  joinW (σ:=Bool) (fun J_18 =>
   drawW <|
   cond (decide (s_8≤s_17))
    (idxW d0.a d0.n 1 s_17 fun x_19 =>
      ld (.sc (.int .u8)) x_19 fun (x_20:Int) =>
       idxW d0.a d0.n 1 o1 fun x_21 =>
          ld (.sc (.int .u8)) x_21 fun (x_22:Int) =>
           callW Tryz.prog Z5 [.int .u8 x_20,.int .u8 x_22] [.sc .bool] fun (x_23:Bool) =>
            J_18 (!x_23))
    (J_18 false))
  <| fun s_24 =>
  cond s_24
   (K_16 (IntKind.wrap .i64 (s_17 - 1)))
   (cond (decide (s_8 > s_17))
  (drawW <|
  idxW d0.a d0.n 1 o1 fun x_25 =>
  ld (.sc (.int .u8)) x_25 fun (x_26:Int) =>
  idxW d0.a d0.n 1 s_17 fun x_27 =>
  ld (.sc (.int .u8)) x_27 fun (x_28:Int) =>
  idxW d0.a d0.n 1 s_17 fun x_29 =>
  stoL x_29 [.int .u8 x_26] 0 <|
  idxW d0.a d0.n 1 o1 fun x_30 =>
  stoL x_30 [.int .u8 x_28] 0 <|
  retW (s_17,true))
  (drawW <|
 idxW d0.a d0.n 1 s_17 fun x_31 =>
 ld (.sc (.int .u8)) x_31 fun (x_32:Int) =>
 idxW d0.a d0.n 1 s_8 fun x_33 =>
 ld (.sc (.int .u8)) x_33 fun (x_34:Int) =>
 idxW d0.a d0.n 1 s_8 fun x_35 =>
 stoL x_35 [.int .u8 x_32] 0 <|
 idxW d0.a d0.n 1 s_17 fun x_36 =>
 stoL x_36 [.int .u8 x_34] 0 <|
 loopW (σ:=Int × Int) (fun K_37 s_38 =>
  loopW (σ:=Int) (fun K_39 s_40 =>
   joinW (σ:=Bool) (fun J_41 =>
    drawW <|
    cond (decide (s_40≤s_38.2))
     (idxW d0.a d0.n 1 s_40 fun x_42 =>
       ld (.sc (.int .u8)) x_42 fun (x_43:Int) =>
        idxW d0.a d0.n 1 o1 fun x_44 =>
           ld (.sc (.int .u8)) x_44 fun (x_45:Int) =>
            callW Tryz.prog Z5 [.int .u8 x_43,.int .u8 x_45] [.sc .bool] fun (x_46:Bool) =>
             J_41 x_46)
     (J_41 false))
   <| fun s_47 =>
   cond s_47
    (K_39 (IntKind.wrap .i64 (s_40+1)))
    (loopW (σ:=Int) (fun K_48 s_49 =>
   joinW (σ:=Bool) (fun J_50 =>
    drawW <|
    cond (decide (s_40≤s_49))
     (idxW d0.a d0.n 1 s_49 fun x_51 =>
       ld (.sc (.int .u8)) x_51 fun (x_52:Int) =>
        idxW d0.a d0.n 1 o1 fun x_53 =>
           ld (.sc (.int .u8)) x_53 fun (x_54:Int) =>
            callW Tryz.prog Z5 [.int .u8 x_52,.int .u8 x_54] [.sc .bool] fun (x_55:Bool) =>
             J_50 (!x_55))
     (J_50 false))
   <| fun s_56 =>
   cond s_56
    (K_48 (IntKind.wrap .i64 (s_49 - 1)))
    (cond (decide (s_40 > s_49))
   (drawW <|
 idxW d0.a d0.n 1 o1 fun x_57 =>
 ld (.sc (.int .u8)) x_57 fun (x_58:Int) =>
 idxW d0.a d0.n 1 s_49 fun x_59 =>
 ld (.sc (.int .u8)) x_59 fun (x_60:Int) =>
 idxW d0.a d0.n 1 s_49 fun x_61 =>
 stoL x_61 [.int .u8 x_58] 0 <|
 idxW d0.a d0.n 1 o1 fun x_62 =>
 stoL x_62 [.int .u8 x_60] 0 <|
 retW (s_49,false))
   (drawW <|
  idxW d0.a d0.n 1 s_49 fun x_63 =>
  ld (.sc (.int .u8)) x_63 fun (x_64:Int) =>
  idxW d0.a d0.n 1 s_40 fun x_65 =>
  ld (.sc (.int .u8)) x_65 fun (x_66:Int) =>
  idxW d0.a d0.n 1 s_40 fun x_67 =>
  stoL x_67 [.int .u8 x_64] 0 <|
  idxW d0.a d0.n 1 s_49 fun x_68 =>
  stoL x_68 [.int .u8 x_66] 0 <|
  K_37 (IntKind.wrap .i64 (s_40+1),IntKind.wrap .i64 (s_49 - 1)))))
   s_38.2))
   s_38.1)
  (IntKind.wrap .i64 (s_8+1),IntKind.wrap .i64 (s_17 - 1)))))
  (IntKind.wrap .i64 (p2 - 1))))
  (IntKind.wrap .i64 (o1+1))
theorem Z6p {R:Type} (d0:Sl) (o1:Int) (p2:Int) (p3:Int) (K:Res [.sc (.int .i64),.sc .bool]→W R) (Q:R→World→Prop) (w:World) (h:Z3d d0 o1 p2 p3 (fun r w=>K r Q w) w):callW Tryz.prog Z1v [.slice d0.a d0.n d0.c,.int .i64 o1,.int .i64 p2,.int .i64 p3] [.sc (.int .i64),.sc .bool] K Q w:=den_c (K:=K) mix Tryz.func310 { reg:=[(3,[(43,.sc .bool)]),(5,[(60,.sc .bool)]),(13,[(112,.sc .bool)]),(15,[(129,.sc .bool)])],lop:=[(0,[(10,.sc (.int .i64))]),(2,[(11,.sc (.int .i64))]),(4,[(10,.sc (.int .i64)),(11,.sc (.int .i64))]),(6,[(10,.sc (.int .i64))]),(8,[(11,.sc (.int .i64))])],dr:=[(1,([],[[(0,[]),(1,[]),(2,[]),(3,[]),(4,[]),(5,[]),(6,[]),(7,[]),(8,[]),(9,[]),(10,[]),(11,[]),(12,[]),(13,[]),(14,[]),(15,[])]])),(3,([],[[(0,[]),(1,[]),(2,[]),(3,[]),(4,[]),(5,[]),(6,[]),(7,[]),(8,[]),(9,[]),(10,[]),(11,[]),(12,[]),(13,[])]])),(5,([],[[(0,[]),(1,[]),(2,[]),(3,[]),(4,[]),(5,[]),(6,[]),(7,[]),(8,[]),(9,[]),(10,[]),(11,[]),(12,[]),(13,[]),(14,[])]])),(8,([],[[(0,[]),(1,[]),(2,[]),(3,[]),(4,[]),(5,[]),(6,[]),(7,[]),(8,[]),(9,[]),(10,[]),(11,[]),(12,[]),(13,[]),(14,[]),(15,[])]])),(10,([],[[(0,[]),(1,[]),(2,[]),(3,[]),(4,[]),(5,[]),(6,[]),(7,[]),(8,[]),(9,[]),(10,[]),(11,[]),(12,[]),(13,[]),(14,[]),(15,[])]])),(13,([],[[(0,[]),(1,[]),(2,[]),(3,[]),(4,[]),(5,[]),(6,[]),(7,[]),(8,[]),(9,[]),(10,[]),(11,[]),(12,[]),(13,[])]])),(15,([],[[(0,[]),(1,[]),(2,[]),(3,[]),(4,[]),(5,[]),(6,[]),(7,[]),(8,[]),(9,[]),(10,[]),(11,[]),(12,[]),(13,[]),(14,[])]])),(18,([],[[(0,[]),(1,[]),(2,[]),(3,[]),(4,[]),(5,[]),(6,[]),(7,[]),(8,[]),(9,[]),(10,[]),(11,[]),(12,[]),(13,[]),(14,[]),(15,[])]])),(21,([],[[(0,[]),(1,[]),(2,[]),(3,[]),(4,[]),(5,[]),(6,[]),(7,[]),(8,[]),(9,[]),(10,[]),(11,[]),(12,[]),(13,[]),(14,[]),(15,[])]]))] } trivial rfl (by kernel_rfl) h
def Z3o (d0:Sl) (o1:Int) (p2:Int) (p3:Int):W (Unit) :=
 loopW (σ:=Int) (fun K_1 s_2 =>
  cond (decide ((IntKind.wrap .i64 ((IntKind.wrap .i64 (2 * s_2))+1)) ≥ p2))
   (retW ())
   (joinW (σ:=Bool) (fun J_3 =>
   drawW <|
   cond (decide ((IntKind.wrap .i64 ((IntKind.wrap .i64 ((IntKind.wrap .i64 (2 * s_2))+1))+1)) < p2))
    (idxW d0.a d0.n 1 (IntKind.wrap .i64 (p3 + (IntKind.wrap .i64 ((IntKind.wrap .i64 (2 * s_2)) + 1)))) fun x_4 =>
        ld (.sc (.int .u8)) x_4 fun (x_5:Int) =>
         idxW d0.a d0.n 1 (IntKind.wrap .i64 ((IntKind.wrap .i64 (p3 + (IntKind.wrap .i64 ((IntKind.wrap .i64 (2 * s_2)) + 1)))) + 1)) fun x_6 =>
               ld (.sc (.int .u8)) x_6 fun (x_7:Int) =>
                callW Tryz.prog Z5 [.int .u8 x_5,.int .u8 x_7] [.sc .bool] fun (x_8:Bool) =>
                 J_3 x_8)
    (J_3 false))
  <| fun s_9 =>
  joinW (σ:=Int) (fun J_10 =>
   cond s_9
    (J_10 (IntKind.wrap .i64 ((IntKind.wrap .i64 ((IntKind.wrap .i64 (2 * s_2))+1))+1)))
    (J_10 (IntKind.wrap .i64 ((IntKind.wrap .i64 (2 * s_2))+1))))
  <| fun s_11 =>
  drawW <|
  idxW d0.a d0.n 1 (IntKind.wrap .i64 (p3+s_2)) fun x_12 =>
  ld (.sc (.int .u8)) x_12 fun (x_13:Int) =>
  idxW d0.a d0.n 1 (IntKind.wrap .i64 (p3+s_11)) fun x_14 =>
  ld (.sc (.int .u8)) x_14 fun (x_15:Int) =>
  callW Tryz.prog Z5 [.int .u8 x_13,.int .u8 x_15] [.sc .bool] fun (x_16:Bool) =>
  cond (!x_16)
   (retW ())
   (drawW <|
  idxW d0.a d0.n 1 (IntKind.wrap .i64 (p3+s_11)) fun x_17 =>
  ld (.sc (.int .u8)) x_17 fun (x_18:Int) =>
  idxW d0.a d0.n 1 (IntKind.wrap .i64 (p3+s_2)) fun x_19 =>
  ld (.sc (.int .u8)) x_19 fun (x_20:Int) =>
  idxW d0.a d0.n 1 (IntKind.wrap .i64 (p3+s_2)) fun x_21 =>
  stoL x_21 [.int .u8 x_18] 0 <|
  idxW d0.a d0.n 1 (IntKind.wrap .i64 (p3+s_11)) fun x_22 =>
  stoL x_22 [.int .u8 x_20] 0 <|
  K_1 s_11)))
  o1
theorem Z72 {R:Type} (d0:Sl) (o1:Int) (p2:Int) (p3:Int) (K:Res []→W R) (Q:R→World→Prop) (w:World) (h:Z3o d0 o1 p2 p3 (fun r w=>K r Q w) w):callW Tryz.prog Z10 [.slice d0.a d0.n d0.c,.int .i64 o1,.int .i64 p2,.int .i64 p3] [] K Q w:=den_c (K:=K) mix Tryz.func311 { reg:=[(3,[(36,.sc .bool)])],con:=[(5036,[(9,.sc (.int .i64))])],lop:=[(0,[(8,.sc (.int .i64))])],dr:=[(3,([],[[(0,[]),(1,[]),(2,[]),(3,[]),(4,[]),(5,[]),(6,[]),(7,[]),(8,[]),(9,[]),(10,[]),(11,[]),(12,[]),(13,[]),(14,[]),(15,[]),(16,[]),(17,[]),(18,[]),(19,[])]])),(5,([],[[(0,[]),(1,[]),(2,[]),(3,[]),(4,[]),(5,[]),(6,[]),(7,[]),(8,[]),(9,[]),(10,[]),(11,[]),(12,[]),(13,[])]])),(6,([],[[(0,[]),(1,[]),(2,[]),(3,[]),(4,[]),(5,[]),(6,[]),(7,[]),(8,[]),(9,[]),(10,[]),(11,[]),(12,[]),(13,[]),(14,[]),(15,[]),(16,[]),(17,[]),(18,[]),(19,[]),(20,[]),(21,[]),(22,[]),(23,[])]]))] } trivial rfl (by kernel_rfl) h
def Z2h (data0:Sl) (a1:Int) (swaps2:Option Addr):W (Int) :=
 callW Tryz.prog Z1g [.slice data0.a data0.n data0.c,.int .i64 (IntKind.wrap .i64 (a1 - 1)),.int .i64 a1,.int .i64 (IntKind.wrap .i64 (a1+1)),.pointer swaps2] [.sc (.int .i64)] fun (x_1:Int) =>
 retW x_1
theorem Z56 {R:Type} (data0:Sl) (a1:Int) (swaps2:Option Addr) (K:Res [.sc (.int .i64)]→W R) (Q:R→World→Prop) (w:World) (h:Z2h data0 a1 swaps2 (fun r w=>K r Q w) w):callW Tryz.prog Z7 [.slice data0.a data0.n data0.c,.int .i64 a1,.pointer swaps2] [.sc (.int .i64)] K Q w:=den_c (K:=K) mix Tryz.func312 {} trivial rfl (by kernel_rfl) h
def Z47 (data0:Sl) (a1:Int) (b2:Int) (c3:Int) (swaps4:Option Addr):W (Int) :=
 callW Tryz.prog Zr [.slice data0.a data0.n data0.c,.int .i64 a1,.int .i64 b2,.pointer swaps4] [.sc (.int .i64),.sc (.int .i64)] fun (x_1:Int × Int) =>
 callW Tryz.prog Zr [.slice data0.a data0.n data0.c,.int .i64 x_1.2,.int .i64 c3,.pointer swaps4] [.sc (.int .i64),.sc (.int .i64)] fun (x_2:Int × Int) =>
 callW Tryz.prog Zr [.slice data0.a data0.n data0.c,.int .i64 x_1.1,.int .i64 x_2.1,.pointer swaps4] [.sc (.int .i64),.sc (.int .i64)] fun (x_3:Int × Int) =>
 retW x_3.2
theorem Z7z {R:Type} (data0:Sl) (a1:Int) (b2:Int) (c3:Int) (swaps4:Option Addr) (K:Res [.sc (.int .i64)]→W R) (Q:R→World→Prop) (w:World) (h:Z47 data0 a1 b2 c3 swaps4 (fun r w=>K r Q w) w):callW Tryz.prog Z1g [.slice data0.a data0.n data0.c,.int .i64 a1,.int .i64 b2,.int .i64 c3,.pointer swaps4] [.sc (.int .i64)] K Q w:=den_c (K:=K) mix Tryz.func313 {} trivial rfl (by kernel_rfl) h
def Zb6 (x0:Int):W (Bool) :=
 retW (x0 != x0)
theorem Zh4 {R:Type} (x0:Int) (K:Res [.sc .bool]→W R) (Q:R→World→Prop) (w:World) (h:Zb6 x0 (fun r w=>K r Q w) w):callW Tryz.prog Z75 [.int .u8 x0] [.sc .bool] K Q w:=den_c (K:=K) mix Tryz.func314 {} trivial rfl (by kernel_rfl) h
def Z48 (data0:Sl) (a1:Int) (b2:Int) (swaps3:Option Addr):W (Int × Int) :=
 drawW <|
 idxW data0.a data0.n 1 b2 fun x_1 =>
 ld (.sc (.int .u8)) x_1 fun (x_2:Int) =>
 idxW data0.a data0.n 1 a1 fun x_3 =>
 ld (.sc (.int .u8)) x_3 fun (x_4:Int) =>
 callW Tryz.prog Z5 [.int .u8 x_2,.int .u8 x_4] [.sc .bool] fun (x_5:Bool) =>
 cond x_5
  (ptrW swaps3 fun x_6 =>
  ld (.sc (.int .i64)) x_6 fun (x_7:Int) =>
  ptrW swaps3 fun x_8 =>
  stoL x_8 [.int .i64 (IntKind.wrap .i64 (x_7+1))] 0 <|
  retW (b2,a1))
  (retW (a1,b2))
theorem Z80 {R:Type} (data0:Sl) (a1:Int) (b2:Int) (swaps3:Option Addr) (K:Res [.sc (.int .i64),.sc (.int .i64)]→W R) (Q:R→World→Prop) (w:World) (h:Z48 data0 a1 b2 swaps3 (fun r w=>K r Q w) w):callW Tryz.prog Zr [.slice data0.a data0.n data0.c,.int .i64 a1,.int .i64 b2,.pointer swaps3] [.sc (.int .i64),.sc (.int .i64)] K Q w:=den_c (K:=K) mix Tryz.func315 { dr:=[(1,([],[[(0,[]),(1,[]),(2,[]),(3,[]),(4,[]),(5,[]),(6,[]),(7,[]),(8,[])]]))] } trivial rfl (by kernel_rfl) h
end Go.Proofs.YtoiahhpgkoknfaaGreat
namespace Go.Proofs.YtoiahhpgkoknfaaGreat
open Go Go.RowKit Go.Shelf Go.Proofs.YtoiahhpgkoknfaaGreat.Den
variable {R:Type} {Q:R→World→Prop} {w:World}
def bitsRen:Ren where
 f:=fun x=>match x with
  | 125=>162
  | 128=>211
  | 129=>212
  | n=>n
 t:=fun x=>match x with
  | 46=>252
  | 3=>3
  | 51=>28
  | 53=>308
  | 4=>4
  | 5=>5
  | 9=>9
  | n=>n
 g:=fun n=>n
theorem bitsLays:Lays.n125 Tryz.prog bitsRen :=
 {mixed:=rfl,f125:=Eq.trans Tryz.func162 rfl,f128:=Eq.trans Tryz.func211 rfl,f129:=Eq.trans Tryz.func212 rfl,t3:=Tryz.underlying3,
  a3:=Tryz.isAgg3,z3:=Tryz.sizeOf3,v3:=Tryz.zeroValue3,t4:=Tryz.underlying4,a4:=Tryz.isAgg4,z4:=Tryz.sizeOf4,
  v4:=Tryz.zeroValue4,t5:=Tryz.underlying5,a5:=Tryz.isAgg5,z5:=Tryz.sizeOf5,v5:=Tryz.zeroValue5,
  t9:=Tryz.underlying9,a9:=Tryz.isAgg9,z9:=Tryz.sizeOf9,v9:=Tryz.zeroValue9,t46:=Tryz.underlying252,
  a46:=Tryz.isAgg252,z46:=Tryz.sizeOf252,v46:=Tryz.zeroValue252,t51:=Tryz.underlying28,a51:=Tryz.isAgg28,
  z51:=Tryz.sizeOf28,v51:=Tryz.zeroValue28,t53:=Tryz.underlying308,a53:=Tryz.isAgg308,z53:=Tryz.sizeOf308,
  v53:=Tryz.zeroValue308 }
theorem Z7x {x:Int} (h0:0≤x) (h1:x≤18446744073709551615) {K:Res [.sc (.int .i64)]→W R} (hk:K (Lib.bitLen x.toNat:Int) Q w):callW Tryz.prog Z5n [.int .u64 x] [.sc (.int .i64)] K Q w :=
 (Any.bits_Len bitsLays x w h0 h1).mono fun e w' ⟨h1,h2⟩=>by
  subst h2
  exact ⟨_,h1,hk⟩
end Go.Proofs.YtoiahhpgkoknfaaGreat
namespace Go.Proofs.YtoiahhpgkoknfaaGreat
open Go Go.RowKit Go.Proofs.YtoiahhpgkoknfaaGreat.Den
variable {R:Type} {Q:R→World→Prop} {w:World}
abbrev bT:Ty:=.sc (.int .u8)
def gi (m:List Int) (p:Nat):Int:=m[p]?.getD 0
theorem Ztn {m:List Int} {q:Nat} {v:Int} (hq:q < m.length) (p:Nat):gi (m.set q v) p=if p=q then v else gi m p:=by
 unfold gi
 rw [List.getElem?_set]
 by_cases e:q=p
 ·subst e; rw [if_pos rfl,if_pos hq,if_pos rfl]; rfl
 ·rw [if_neg e,if_neg (fun h=>e h.symm)]
def swapL (m:List Int) (i j:Nat):List Int:=(m.set j (gi m i)).set i (gi m j)
theorem Ztd {m:List Int} {i j:Nat} (hi:i < m.length) (hj:j < m.length) (p:Nat):gi (swapL m i j) p=if p=i then gi m j else if p=j then gi m i else gi m p:=by
 unfold swapL
 rw [Ztn (by simpa using hi),Ztn hj]
theorem Z9 {x y:Int} {K:Res [.sc .bool]→W R} (hk:K (decide (x < y)) Q w):callW Tryz.prog Z5 [.int .u8 x,.int .u8 y] [.sc .bool] K Q w:=by
 refine Zhm _ _ K Q w ?_
 unfold Zbr
 refine joinK (Zh4 _ _ _ _ ?_)
 unfold Zb6
 exact condF (by simp) hk
structure Ins (m:List Int) (i j:Nat):Prop where
 a:∀ p q,p < q→q≤i→p≠j→q≠j→gi m p≤gi m q
 b:∀ q,j < q→q≤i→gi m j≤gi m q
def Srt (m:List Int) (i:Nat):Prop:=∀ p q,p < q→q < i→gi m p≤gi m q
theorem Ins.start {m:List Int} {i:Nat} (h:Srt m i):Ins m i i:=⟨fun p q h1 h2 h3 h4=>h p q h1 (by omega),fun q h1 h2=>by omega⟩
theorem Ins.swap {m:List Int} {i j:Nat} (h:Ins m i (j+1)) (hj:j+1 < m.length) (hlt:gi m (j+1) < gi m j):Ins (swapL m (j+1) j) i j:=by
 have e:=Ztd (m:=m) (i:=j+1) (j:=j) hj (by omega)
 refine ⟨fun p q h1 h2 h3 h4=>?_,fun q h1 h2=>?_⟩
 ·rw [e,e,if_neg h3,if_neg h4]
  by_cases hq:q=j+1
  ·subst hq
   rw [if_pos rfl,if_neg (by omega)]
   exact h.a p j (by omega) (by omega) (by omega) (by omega)
  ·rw [if_neg hq]
   by_cases hp:p=j+1
   ·rw [if_pos hp]
    exact h.a j q (by omega) h2 (by omega) hq
   ·rw [if_neg hp]
    exact h.a p q h1 h2 hp hq
 ·rw [e,e,if_neg (by omega),if_pos rfl,if_neg (show q≠j by omega)]
  by_cases hq:q=j+1
  ·rw [if_pos hq]; omega
  ·rw [if_neg hq]
   exact h.b q (by omega) h2
theorem Ins.done {m:List Int} {i j:Nat} (h:Ins m i j) (hd:j=0∨∃ k,j=k+1∧gi m k≤gi m j):Srt m (i+1):=by
 intro p q h1 h2
 by_cases hp:p=j
 ·subst hp; exact h.b q h1 (by omega)
 ·by_cases hq:q=j
  ·subst hq
   rcases hd with hd | ⟨k,rfl,hk⟩
   ·omega
   ·by_cases hpk:p=k
    ·subst hpk; exact hk
    ·exact Int.le_trans (h.a p k (by omega) (by omega) hp (by omega)) hk
  ·exact h.a p q h1 (by omega) hp hq
end Go.Proofs.YtoiahhpgkoknfaaGreat
namespace Go.Proofs.YtoiahhpgkoknfaaGreat
open Go Go.RowKit Go.Proofs.YtoiahhpgkoknfaaGreat.Den
open Go.Sort (swp ltInt PermIn SortedIn)
variable {R:Type} {Q:R→World→Prop} {w:World}
abbrev DA (S:Nat→Prop) (w:World) (s:Sl) (d:Array Int):Prop:=Den.Own S w 5 bT s d.toList
abbrev OwnB (s:Sl):Nat→Prop:=fun k=>s.v.ownBlock=some k
theorem swo:Go.Sort.SWO ltInt:=Go.Sort.swo_ltInt
section
variable {S:Nat→Prop} {s:Sl} {d:Array Int}
theorem DA.n (h:DA S w s d):s.n=d.size:=by rw [h.len]; rfl
theorem rdA (h:DA S w s d) {ie:Int} {j:Nat} (hi:ie=(j:Int)) (hj:j < d.size) {K:Int→W R} (hk:K d[j]! Q w):idxW s.a s.n 1 ie (fun a=>ld (.sc (.int .u8)) a K) Q w:=by
 refine h.sl.get rfl hi (by simpa using hj) fun x hx=>?_
 rw [Array.getElem?_toList] at hx
 have e:d[j]! = x:=by
  rw [getElem!_pos d j hj]
  exact (Array.getElem?_eq_some_iff.1 hx).2
 rw [e] at hk
 exact hk
theorem Zip (d:Array Int) (i:Nat) (x:Int):(d.setIfInBounds i x).toList=d.toList.set i x:=by simp
theorem swpA (h:DA S w s d) {ie je:Int} {i j:Nat} (ei:ie=(i:Int)) (ej:je=(j:Int)) (hi:i < d.size) (hj:j < d.size) {K:W R} (hk:∀ w',DA S w' s (swp d i j)→Fr (OwnB s) w w'→K Q w') :
  (idxW s.a s.n 1 je fun a=>ld (.sc (.int .u8)) a fun (x:Int)=>idxW s.a s.n 1 ie fun b=>ld (.sc (.int .u8)) b fun (y:Int) =>
   idxW s.a s.n 1 ie fun c=>stoL c [.int .u8 x] 0 <| idxW s.a s.n 1 je fun e=>stoL e [.int .u8 y] 0 K) Q w:=by
 subst ei; subst ej
 refine rdA h rfl hj (rdA h rfl hi ?_)
 refine h.idx rfl (by omega) (by rw [Array.length_toList]; omega) fun g u hg hu _=>?_
 refine h.set rfl (by rw [Array.length_toList]; omega) hg d[j]! fun w4 o4 f4 _=>?_
 refine o4.idx rfl (by omega) (by rw [List.length_set,Array.length_toList]; omega) fun g2 u2 hg2 hu2 _=>?_
 refine o4.set rfl (by rw [List.length_set,Array.length_toList]; omega) hg2 d[i]! fun w5 o5 f5 _=>?_
 refine hk w5 ?_ (f4.then f5)
 show Den.Own S w5 5 bT s (swp d i j).toList
 rw [swp,Zip,Zip]
 simpa using o5
theorem szs (d:Array Int) (i j:Nat):(swp d i j).size=d.size:=Go.Sort.size_swp d i j
theorem Zt9 (h:DA S w s d) (hm:d.size≤1048576) {a b:Nat} (hab:a≤b) (hb:b≤d.size) {K:Res []→W R} (hk:∀ w',DA S w' s (Go.Sort.insertionSort ltInt d a b)→Fr (OwnB s) w w'→K () Q w') :
  callW Tryz.prog Z1b [.slice s.a s.n s.c,.int .i64 (a:Int),.int .i64 (b:Int)] [] K Q w:=by
 refine Z5h _ _ _ K Q w ?_
 unfold Z2r
 have hn:=h.n
 rw [show IntKind.wrap .i64 ((a:Int)+1)=((a+1:Nat):Int) by rw [w64 (by omega)]; rfl]
 refine loopI (fun i w'=>∃ (n:Nat) (d':Array Int),i=(n:Int)∧a < n∧DA S w' s d'∧d'.size=d.size∧Go.Sort.insOuter ltInt a b n d'=Go.Sort.insertionSort ltInt d a b∧Fr (OwnB s) w w') (fun i _=>b - i.toNat) ⟨a+1,d,rfl,by omega,h,rfl,rfl,Fr.refl _ _⟩ ?_
 rintro i w1 ⟨n,d',rfl,hn1,o1,hz,he,f1⟩
 refine condD (fun hlt=>?_) fun hge=>?_
 ·have hnb:n < b:=by have:(n:Int) < (b:Int):=hlt; omega
  refine loopI (fun j w'=>∃ (q:Nat) (e:Array Int),j=(q:Int)∧q≤n∧DA S w' s e∧e.size=d.size∧Go.Sort.insInner ltInt a q e=Go.Sort.insInner ltInt a n d'∧Fr (OwnB s) w w') (fun j _=>j.toNat) ⟨n,d',rfl,Nat.le_refl _,o1,hz,rfl,f1⟩ ?_
  rintro j w2 ⟨q,e,rfl,hq,o2,hz2,he2,f2⟩
  have fd:Fr None w2 w2.drew:=(Fr.refl _ _).drew
  have out:∀ {w':World},Fr None w2 w'→Go.Sort.insInner ltInt a q e=e→∃ (n':Nat) (d':Array Int),IntKind.wrap .i64 ((n:Int)+1)=(n':Int)∧a < n'∧DA S w' s d'∧d'.size=d.size∧Go.Sort.insOuter ltInt a b n' d'=Go.Sort.insertionSort ltInt d a b∧Fr (OwnB s) w w':=fun f h=>by
   refine ⟨n+1,e,wsucc hnb (by omega),by omega,o2.none f,hz2,?_,f2.then f.any⟩
   rw [← he,← h,he2]
   conv=>rhs; rw [Go.Sort.insOuter,if_pos hnb]
  have meas:b - (IntKind.wrap .i64 ((n:Int)+1)).toNat < b - (n:Int).toNat:=by rw [wsucc hnb (by omega)]; omega
  refine joinI (fun z w'=>w'=w2.drew∧((z=true∧∃ k,q=k+1∧Go.Sort.insInner ltInt a q e=Go.Sort.insInner ltInt a k (swp e (k+1) k))∨(z=false∧Go.Sort.insInner ltInt a q e=e))) ?_ ?_
  ·refine condD (fun h0=>?_) fun h0=>⟨rfl,.inr ⟨rfl,?_⟩⟩
   ·have h0:(q:Int) > (a:Int):=h0
    obtain ⟨k,rfl⟩:∃ k,q=k+1:=⟨q - 1,by omega⟩
    have e1:IntKind.wrap .i64 (((k+1:Nat):Int) - 1)=(k:Int):=by rw [w64 (by omega)]; omega
    refine rdA (o2.none fd) rfl (by omega) (rdA (o2.none fd) e1 (by omega) (Z9 ⟨rfl,?_⟩))
    have hdef:Go.Sort.insInner ltInt a (k+1) e=if k+1 > a && ltInt e[k+1]! e[k]! then Go.Sort.insInner ltInt a k (swp e (k+1) k) else e:=rfl
    have hka:k+1 > a:=by omega
    by_cases hl:e[k+1]! < e[k]!
    ·refine .inl ⟨decide_eq_true hl,k,rfl,?_⟩
     rw [hdef,if_pos (by simp [ltInt,hl,hka])]
    ·refine .inr ⟨decide_eq_false hl,?_⟩
     rw [hdef,if_neg (by simp [ltInt,hl])]
   ·have h0:¬ (q:Int) > (a:Int):=h0
    cases q with
    | zero=>rfl
    | succ k =>
     have hdef:Go.Sort.insInner ltInt a (k+1) e=if k+1 > a && ltInt e[k+1]! e[k]! then Go.Sort.insInner ltInt a k (swp e (k+1) k) else e:=rfl
     rw [hdef,if_neg (by simp; omega)]
  ·rintro z w3 ⟨rfl,⟨rfl,k,rfl,hx⟩ | ⟨rfl,hx⟩⟩
   ·have e1:IntKind.wrap .i64 (((k+1:Nat):Int) - 1)=(k:Int):=by rw [w64 (by omega)]; omega
    have fdd:=fd.then0 (Fr.refl None w2.drew).drew
    refine condT rfl (swpA (o2.none fdd) rfl e1 (by omega) (by omega) fun w4 o4 f4=>?_)
    refine ⟨⟨k,_,e1,by omega,o4,by rw [szs]; exact hz2,by rw [← hx,he2],(f2.then fdd.any).then f4⟩,?_⟩
    rw [e1]; omega
   ·exact condF rfl ⟨out fd hx,meas⟩
 ·have:¬ n < b:=fun h=>hge (show (n:Int) < (b:Int) by omega)
  refine hk w1 ?_ f1
  rw [← he,Go.Sort.insOuter,if_neg this]
  exact o1
end
end Go.Proofs.YtoiahhpgkoknfaaGreat
namespace Go.Proofs.YtoiahhpgkoknfaaGreat
open Go Go.RowKit Go.Proofs.YtoiahhpgkoknfaaGreat.Den
open Go.Sort (swp ltInt PermIn SortedIn)
variable {R:Type} {Q:R→World→Prop} {w:World}
section
variable {S:Nat→Prop} {s:Sl} {d:Array Int}
theorem wn {x:Int} {n:Nat} (h:x=(n:Int)) (hn:n≤1000000000):IntKind.wrap .i64 x=(n:Int):=by rw [h,w64 (by omega)]
theorem Zn8 (h:DA S w s d) (hm:d.size≤1048576) {root hi first:Nat} (hf:first+hi≤d.size) (hr:root≤1048576) (_hr2:root < hi∨2 * root+1 ≥ hi) {K:Res []→W R} (hk:∀ w',DA S w' s (Go.Sort.siftDown ltInt hi first root d)→(Go.Sort.siftDown ltInt hi first root d).size=d.size→Fr (OwnB s) w w'→K () Q w') :
  callW Tryz.prog Z10 [.slice s.a s.n s.c,.int .i64 (root:Int),.int .i64 (hi:Int),.int .i64 (first:Int)] [] K Q w:=by
 refine Z72 _ _ _ _ K Q w ?_
 unfold Z3o
 refine loopI (fun i w'=>∃ (r:Nat) (e:Array Int),i=(r:Int)∧r≤1048576∧DA S w' s e∧e.size=d.size∧Go.Sort.siftDown ltInt hi first r e=Go.Sort.siftDown ltInt hi first root d∧Fr (OwnB s) w w') (fun i _=>hi - i.toNat) ⟨root,d,rfl,hr,h,rfl,rfl,Fr.refl _ _⟩ ?_
 rintro i w1 ⟨r,e,rfl,hr,o1,hz,he,f1⟩
 have e2:IntKind.wrap .i64 (IntKind.wrap .i64 (2 * (r:Int))+1)=((2 * r+1:Nat):Int):=by rw [wn (x:=2 * (r:Int)) (n:=2 * r) (by omega) (by omega)]; exact wn (by omega) (by omega)
 have e3:IntKind.wrap .i64 (IntKind.wrap .i64 (IntKind.wrap .i64 (2 * (r:Int))+1)+1)=((2 * r+2:Nat):Int):=by rw [e2]; exact wn (by omega) (by omega)
 rw [e3,e2]
 refine condD (fun hge=>?_) fun hlt=>?_
 ·have hge:(((2 * r+1:Nat):Int)) ≥ (hi:Int):=hge
  rw [Go.Sort.siftDown,dif_pos (show 2 * r+1 ≥ hi by omega)] at he
  rw [← he] at hk
  exact hk w1 o1 hz f1
 ·have hlt:¬ (((2 * r+1:Nat):Int)) ≥ (hi:Int):=hlt
  have hr2:2 * r+1 < hi:=by omega
  have e4:IntKind.wrap .i64 ((first:Int)+((2 * r+1:Nat):Int))=((first+(2 * r+1):Nat):Int):=wn (by omega) (by omega)
  have e5:IntKind.wrap .i64 (((first+(2 * r+1):Nat):Int)+1)=((first+(2 * r+1)+1:Nat):Int):=wn (by omega) (by omega)
  have hdef:=Go.Sort.siftDown.eq_def ltInt hi first r e
  rw [dif_neg (show ¬ 2 * r+1 ≥ hi by omega)] at hdef
  have fd:Fr None w1 w1.drew:=(Fr.refl _ _).drew
  refine joinI (fun z w'=>w'=w1.drew∧z=(decide (2 * r+1+1 < hi) && ltInt e[first+(2 * r+1)]! e[first+(2 * r+1)+1]!)) ?_ ?_
  ·refine condD (fun h1=>?_) fun h1=>⟨rfl,?_⟩
   ·have h1:((2 * r+2:Nat):Int) < (hi:Int):=h1
    refine rdA (o1.none fd) e4 (by omega) (rdA (o1.none fd) (by rw [e4]; exact e5) (by omega) (Z9 ⟨rfl,?_⟩))
    rw [decide_eq_true (show 2 * r+1+1 < hi by omega)]
    rfl
   ·have h1:¬ ((2 * r+2:Nat):Int) < (hi:Int):=h1
    rw [decide_eq_false (show ¬ 2 * r+1+1 < hi by omega)]
    rfl
  rintro z w2 ⟨rfl,hz1⟩
  rw [← hz1] at hdef
  refine joinI (fun (c:Int) w'=>w'=w1.drew∧∃ q:Nat,c=(q:Int)∧r < q∧q < hi∧Go.Sort.siftDown ltInt hi first r e=if !ltInt e[first+r]! e[first+q]! then e else Go.Sort.siftDown ltInt hi first q (swp e (first+r) (first+q))) ?_ ?_
  ·cases z with
   | true =>
    simp only [if_true] at hdef
    have hq:2 * r+2 < hi:=by
     have:=hz1.symm
     simp only [Bool.and_eq_true,decide_eq_true_eq] at this
     omega
    rw [dif_pos hq] at hdef
    exact ⟨rfl,2 * r+2,rfl,by omega,hq,hdef⟩
   | false =>
    simp only [Bool.false_eq_true,if_false] at hdef
    exact ⟨rfl,2 * r+1,rfl,by omega,by omega,hdef⟩
  rintro c w3 ⟨rfl,q,rfl,hrq,hq,hdef2⟩
  have e6:IntKind.wrap .i64 ((first:Int)+(r:Int))=((first+r:Nat):Int):=wn (by omega) (by omega)
  have e7:IntKind.wrap .i64 ((first:Int)+(q:Int))=((first+q:Nat):Int):=wn (by omega) (by omega)
  have fd2:=fd.then0 (Fr.refl None w1.drew).drew
  refine rdA (o1.none fd2) e6 (by omega) (rdA (o1.none fd2) e7 (by omega) (Z9 ?_))
  refine condI (fun hb=>?_) fun hb=>?_
  ·rw [if_pos (show (!ltInt e[first+r]! e[first+q]!)=true from hb)] at hdef2
   rw [hdef2] at he
   rw [← he] at hk
   exact hk _ (o1.none fd2) hz (f1.then fd2.any)
  ·rw [if_neg (show ¬ (!ltInt e[first+r]! e[first+q]!)=true from fun h=>by rw [show (!ltInt e[first+r]! e[first+q]!)=false from hb] at h; cases h)] at hdef2
   have fd3:=fd2.then0 (Fr.refl None w1.drew.drew).drew
   refine swpA (o1.none fd3) e6 e7 (by omega) (by omega) fun w4 o4 f4=>⟨⟨q,_,rfl,by omega,o4,by rw [szs]; exact hz,by rw [← hdef2,he],(f1.then fd3.any).then f4⟩,by omega⟩
theorem Zrt (h:DA S w s d) (hm:d.size≤1048576) {a b:Nat} (hab:a < b) (hb:b≤d.size) {K:Res []→W R} (hk:∀ w',DA S w' s (Go.Sort.heapSort ltInt d a b)→Fr (OwnB s) w w'→K () Q w') :
  callW Tryz.prog Z23 [.slice s.a s.n s.c,.int .i64 (a:Int),.int .i64 (b:Int)] [] K Q w:=by
 refine Z71 _ _ _ K Q w ?_
 unfold Z3n
 have e1:IntKind.wrap .i64 ((b:Int) - (a:Int))=((b - a:Nat):Int):=wn (by omega) (by omega)
 have e2:IntKind.wrap .i64 (((b - a:Nat):Int) - 1)=((b - a - 1:Nat):Int):=wn (by omega) (by omega)
 have e3:IntKind.wrap .i64 (Int.tdiv ((b - a - 1:Nat):Int) 2)=(((b - a - 1) / 2:Nat):Int):=wn (by rw [Int.tdiv_eq_ediv_of_nonneg (by omega)]; omega) (by omega)
 rw [e1,e2,e3]
 refine loopI (fun i w'=>∃ (k:Nat) (e:Array Int),i=(k:Int) - 1∧k≤(b - a - 1) / 2+1∧DA S w' s e∧e.size=d.size∧Go.Sort.heapBuild ltInt (b - a) a k e=Go.Sort.heapBuild ltInt (b - a) a ((b - a - 1) / 2+1) d∧Fr (OwnB s) w w') (fun i _=>(i+1).toNat) ⟨(b - a - 1) / 2+1,d,by omega,Nat.le_refl _,h,rfl,rfl,Fr.refl _ _⟩ ?_
 rintro i w1 ⟨k,e,rfl,hk1,o1,hz,he,f1⟩
 refine condD (fun hge=>?_) fun hlt=>?_
 ·have hge:(k:Int) - 1 ≥ 0:=hge
  obtain ⟨q,rfl⟩:∃ q,k=q+1:=⟨k - 1,by omega⟩
  rw [show (((q+1:Nat):Int) - 1)=(q:Int) by omega]
  refine Zn8 o1 (by omega) (by omega) (by omega) (by omega) fun w2 o2 hz2 f2=>?_
  have e4:IntKind.wrap .i64 ((q:Int) - 1)=(q:Int) - 1:=w64 (by omega)
  rw [e4]
  exact ⟨⟨q,_,rfl,by omega,o2,by rw [hz2]; exact hz,by rw [← he]; rfl,f1.then f2⟩,by omega⟩
 ·have hlt:¬ (k:Int) - 1 ≥ 0:=hlt
  have hk0:k=0:=by omega
  subst hk0
  have he:e=Go.Sort.heapBuild ltInt (b - a) a ((b - a - 1) / 2+1) d:=he
  refine loopI (fun i w'=>∃ (k:Nat) (g:Array Int),i=(k:Int) - 1∧k≤b - a∧DA S w' s g∧g.size=d.size∧Go.Sort.heapPop ltInt a k g=Go.Sort.heapSort ltInt d a b∧Fr (OwnB s) w w') (fun i _=>(i+1).toNat) ⟨b - a,e,by omega,Nat.le_refl _,o1,hz,by rw [Go.Sort.heapSort,← he],f1⟩ ?_
  rintro i w2 ⟨k,g,rfl,hk2,o2,hz2,he2,f2⟩
  refine condD (fun hge=>?_) fun hlt=>?_
  ·have hge:(k:Int) - 1 ≥ 0:=hge
   obtain ⟨q,rfl⟩:∃ q,k=q+1:=⟨k - 1,by omega⟩
   rw [show (((q+1:Nat):Int) - 1)=(q:Int) by omega]
   have fd:Fr None w2 w2.drew:=(Fr.refl _ _).drew
   have e5:IntKind.wrap .i64 ((a:Int)+(q:Int))=((a+q:Nat):Int):=wn (by omega) (by omega)
   refine swpA (o2.none fd) rfl e5 (by omega) (by omega) fun w3 o3 f3=>?_
   refine Zn8 (root:=0) (hi:=q) (first:=a) o3 (by rw [szs]; omega) (by rw [szs]; omega) (by omega) (by omega) fun w4 o4 hz4 f4=>?_
   have e4:IntKind.wrap .i64 ((q:Int) - 1)=(q:Int) - 1:=w64 (by omega)
   rw [e4]
   exact ⟨⟨q,_,rfl,by omega,o4,by rw [hz4,szs]; exact hz2,by rw [← he2]; rfl,((f2.then fd.any).then f3).then f4⟩,by omega⟩
  ·have hlt:¬ (k:Int) - 1 ≥ 0:=hlt
   have hk0:k=0:=by omega
   subst hk0
   rw [← he2] at hk
   exact hk w2 o2 f2
theorem Zn7 (h:DA S w s d) (hm:d.size≤1048576) {a b:Nat} (hab:a < b) (hb:b≤d.size) {K:Res []→W R} (hk:∀ d' w',DA S w' s d'→PermIn a b d d'→Fr (OwnB s) w w'→K () Q w') :
  callW Tryz.prog Z1h [.slice s.a s.n s.c,.int .i64 (a:Int),.int .i64 (b:Int)] [] K Q w:=by
 refine Z5j _ _ _ K Q w ?_
 unfold Z2w
 have e1:IntKind.wrap .i64 ((b:Int) - 1)=((b - 1:Nat):Int):=wn (by omega) (by omega)
 rw [e1]
 refine loopI (fun (st:Int × Int) w'=>∃ (i j:Nat) (e:Array Int),st=((i:Int),(j:Int))∧a≤i∧i≤b∧j < b∧DA S w' s e∧PermIn a b d e∧Fr (OwnB s) w w') (fun st _=>(st.2 - st.1).toNat) ⟨a,b - 1,d,rfl,Nat.le_refl _,by omega,by omega,h,Go.Sort.permIn_refl _ _ _,Fr.refl _ _⟩ ?_
 rintro st w1 ⟨i,j,e,rfl,h1,h2,h3,o1,hp,f1⟩
 have hz:e.size=d.size:=hp.1
 refine condD (fun hlt=>?_) fun hge=>hk e w1 o1 hp f1
 have hlt:(i:Int) < (j:Int):=hlt
 have fd:Fr None w1 w1.drew:=(Fr.refl _ _).drew
 refine swpA (o1.none fd) rfl rfl (by omega) (by omega) fun w2 o2 f2=>?_
 have e2:IntKind.wrap .i64 ((i:Int)+1)=((i+1:Nat):Int):=wn (by omega) (by omega)
 have e3:IntKind.wrap .i64 ((j:Int) - 1)=((j - 1:Nat):Int):=wn (by omega) (by omega)
 rw [e2,e3]
 refine ⟨⟨i+1,j - 1,_,rfl,by omega,by omega,by omega,o2,Go.Sort.permIn_trans _ _ _ _ _ hp (Go.Sort.swp_permIn _ _ _ _ _ (by omega) (by omega) (by omega) (by omega) (by omega)),(f1.then fd.any).then f2⟩,?_⟩
 show (((j - 1:Nat):Int) - ((i+1:Nat):Int)).toNat < ((j:Int) - (i:Int)).toNat
 omega
theorem scanUpI (p:Int→Bool) (d:Array Int) {jhi:Int} {j:Nat} (hj:jhi=(j:Int)) (hjm:j≤1048576) {body:Int→(Bool→W R)→W R} {done:Int→W R} {i0:Nat} (hi0:i0≤1048577)
  (hb:∀ i w' J,i0≤i→i≤j→Fr None w w'→J (p d[i]!) Q w'→body (i:Int) J Q w') (hd:∀ w',Fr None w w'→done ((Go.Sort.scanUp p d j i0:Nat):Int) Q w') :
  loopW (fun K i=>joinW (σ:=Bool) (fun J=>drawW (cond (decide (i≤jhi)) (body i J) (J false))) fun b=>cond b (K (IntKind.wrap .i64 (i+1))) (done i)) (i0:Int) Q w:=by
 subst hj
 refine loopI (fun i w'=>∃ q:Nat,i=(q:Int)∧i0≤q∧q≤1048577∧Go.Sort.scanUp p d j q=Go.Sort.scanUp p d j i0∧Fr None w w') (fun i _=>j+1 - i.toNat) ⟨i0,rfl,Nat.le_refl _,hi0,rfl,Fr.refl _ _⟩ ?_
 rintro i w1 ⟨q,rfl,hq0,hq,he,f1⟩
 have f1d:=f1.then0 (Fr.refl None w1).drew
 have hdef:=Go.Sort.scanUp.eq_def p d j q
 refine joinI (fun z w'=>Fr None w w'∧z=(decide (q≤j) && p d[q]!)) ?_ ?_
 ·refine condD (fun h1=>?_) fun h1=>⟨f1d,?_⟩
  ·have h1:(q:Int)≤(j:Int):=h1
   refine hb q _ _ hq0 (by omega) f1d ⟨f1d,?_⟩
   rw [decide_eq_true (show q≤j by omega)]; rfl
  ·have h1:¬ (q:Int)≤(j:Int):=h1
   rw [decide_eq_false (show ¬ q≤j by omega)]; rfl
 ·rintro z w2 ⟨f2,hz⟩
  rw [← hz] at hdef
  cases z with
  | true =>
   simp only [if_true] at hdef
   have hqj:q≤j:=by
    have:=hz.symm
    simp only [Bool.and_eq_true,decide_eq_true_eq] at this
    exact this.1
   have e1:IntKind.wrap .i64 ((q:Int)+1)=((q+1:Nat):Int):=wn (by omega) (by omega)
   exact condT rfl ⟨⟨q+1,e1,by omega,by omega,by rw [← hdef,he],f2⟩,by rw [e1]; omega⟩
  | false =>
   simp only [Bool.false_eq_true,if_false] at hdef
   have:=hd w2 f2
   rw [← he,hdef] at this
   exact condF rfl this
theorem scanDownI (p:Int→Bool) (d:Array Int) {ilo:Int} {i:Nat} (hi:ilo=(i:Int)) (hi1:1≤i) {body:Int→(Bool→W R)→W R} {done:Int→W R} {j0:Nat} (hj0:j0≤1048577)
  (hb:∀ j w' J,i≤j→j≤j0→Fr None w w'→J (p d[j]!) Q w'→body (j:Int) J Q w') (hd:∀ w',Fr None w w'→done ((Go.Sort.scanDown p d i j0:Nat):Int) Q w') :
  loopW (fun K j=>joinW (σ:=Bool) (fun J=>drawW (cond (decide (ilo≤j)) (body j J) (J false))) fun b=>cond b (K (IntKind.wrap .i64 (j - 1))) (done j)) (j0:Int) Q w:=by
 subst hi
 refine loopI (fun j w'=>∃ q:Nat,j=(q:Int)∧q≤j0∧Go.Sort.scanDown p d i q=Go.Sort.scanDown p d i j0∧Fr None w w') (fun j _=>j.toNat) ⟨j0,rfl,Nat.le_refl _,rfl,Fr.refl _ _⟩ ?_
 rintro j w1 ⟨q,rfl,hq,he,f1⟩
 have f1d:=f1.then0 (Fr.refl None w1).drew
 refine joinI (fun z w'=>Fr None w w'∧z=(decide (i≤q) && p d[q]!)) ?_ ?_
 ·refine condD (fun h1=>?_) fun h1=>⟨f1d,?_⟩
  ·have h1:(i:Int)≤(q:Int):=h1
   refine hb q _ _ (by omega) hq f1d ⟨f1d,?_⟩
   rw [decide_eq_true (show i≤q by omega)]; rfl
  ·have h1:¬ (i:Int)≤(q:Int):=h1
   rw [decide_eq_false (show ¬ i≤q by omega)]; rfl
 ·rintro z w2 ⟨f2,hz⟩
  cases q with
  | zero =>
   have:z=false:=by rw [hz,decide_eq_false (by omega)]; rfl
   subst this
   have:=hd w2 f2
   rw [← he] at this
   exact condF rfl this
  | succ q =>
   have hdef:Go.Sort.scanDown p d i (q+1)=if (decide (i≤q+1) && p d[q+1]!)=true then Go.Sort.scanDown p d i q else q+1:=rfl
   rw [← hz] at hdef
   cases z with
   | true =>
    simp only [if_true] at hdef
    have e1:IntKind.wrap .i64 (((q+1:Nat):Int) - 1)=(q:Int):=wn (by omega) (by omega)
    exact condT rfl ⟨⟨q,e1,by omega,by rw [← hdef,he],f2⟩,by rw [e1]; omega⟩
   | false =>
    simp only [Bool.false_eq_true,if_false] at hdef
    have:=hd w2 f2
    rw [← he,hdef] at this
    exact condF rfl this
end
end Go.Proofs.YtoiahhpgkoknfaaGreat
namespace Go.Proofs.YtoiahhpgkoknfaaGreat
open Go Go.RowKit Go.Proofs.YtoiahhpgkoknfaaGreat.Den
open Go.Sort (swp ltInt PermIn SortedIn)
variable {R:Type} {Q:R→World→Prop} {w:World}
section
variable {S:Nat→Prop} {s:Sl} {d:Array Int}
theorem Zoe (h:DA S w s d) (hm:d.size≤1048576) {a b pivot:Nat} (h1:a≤pivot) (h2:pivot < b) (hb:b≤d.size) {K:Res [.sc (.int .i64)]→W R}
  (hk:∀ w',DA S w' s (Go.Sort.partitionEqual ltInt d a b pivot).2→Fr (OwnB s) w w'→K ((Go.Sort.partitionEqual ltInt d a b pivot).1:Int) Q w') :
  callW Tryz.prog Z14 [.slice s.a s.n s.c,.int .i64 (a:Int),.int .i64 (b:Int),.int .i64 (pivot:Int)] [.sc (.int .i64)] K Q w:=by
 refine Z57 _ _ _ _ K Q w ?_
 unfold Z2i
 have fd:Fr None w w.drew:=(Fr.refl _ _).drew
 refine swpA (h.none fd) rfl rfl (by omega) (by omega) fun w1 o1 f1=>?_
 have e1:IntKind.wrap .i64 ((a:Int)+1)=((a+1:Nat):Int):=wn (by omega) (by omega)
 have e2:IntKind.wrap .i64 ((b:Int) - 1)=((b - 1:Nat):Int):=wn (by omega) (by omega)
 rw [e1,e2]
 generalize hr:Go.Sort.partitionEqual ltInt d a b pivot=r at hk
 refine loopI (fun (st:Int × Int) w'=>∃ (i j:Nat) (e:Array Int),st=((i:Int),(j:Int))∧a < i∧i≤b∧j < b∧DA S w' s e∧e.size=d.size∧Go.Sort.partEqLoop ltInt a i j e=r∧Fr (OwnB s) w w') (fun st _=>(st.2+1 - st.1).toNat)
  ⟨a+1,b - 1,_,rfl,by omega,by omega,by omega,o1,szs _ _ _,by rw [← hr]; rfl,fd.any.then f1⟩ ?_
 rintro st w2 ⟨i,j,e,rfl,hi,hib,hj,o2,hz,he,f2⟩
 have hdef:=Go.Sort.partEqLoop_eq ltInt a i j e
 refine scanUpI (fun x=>!ltInt e[a]! x) e (jhi:=(j:Int)) rfl (by omega) (i0:=i) (by omega) (fun q w' J h1 h2 f hJ=>?_) fun w3 f3=>?_
 ·exact rdA (o2.none f) rfl (by omega) (rdA (o2.none f) rfl (by omega) (Z9 hJ))
 have hge:=Go.Sort.scanUp_ge (fun x=>!ltInt e[a]! x) e j i
 generalize Go.Sort.scanUp (fun x=>!ltInt e[a]! x) e j i=i2 at hdef hge ⊢
 refine scanDownI (fun x=>ltInt e[a]! x) e (ilo:=(i2:Int)) rfl (by omega) (j0:=j) (by omega) (fun q w' J h1 h2 f hJ=>?_) fun w4 f4=>?_
 ·exact rdA ((o2.none f3).none f) rfl (by omega) (rdA ((o2.none f3).none f) rfl (by omega) (Z9 hJ))
 have hle:=Go.Sort.scanDown_le (fun x=>ltInt e[a]! x) e i2 j
 generalize Go.Sort.scanDown (fun x=>ltInt e[a]! x) e i2 j=j2 at hdef hle ⊢
 have f24:=f3.then0 f4
 refine condD (fun hgt=>?_) fun hgt=>?_
 ·have hgt:(i2:Int) > (j2:Int):=hgt
  rw [if_pos (show i2 > j2 by omega)] at hdef
  have:r=(i2,e):=by rw [← he,hdef]
  subst this
  exact hk w4 (o2.none f24) (f2.then f24.any)
 ·have hgt:¬ (i2:Int) > (j2:Int):=hgt
  rw [if_neg (show ¬ i2 > j2 by omega)] at hdef
  have fd4:Fr None w4 w4.drew:=(Fr.refl _ _).drew
  refine swpA ((o2.none f24).none fd4) rfl rfl (by omega) (by omega) fun w5 o5 f5=>?_
  have e3:IntKind.wrap .i64 ((i2:Int)+1)=((i2+1:Nat):Int):=wn (by omega) (by omega)
  have e4:IntKind.wrap .i64 ((j2:Int) - 1)=((j2 - 1:Nat):Int):=wn (by omega) (by omega)
  rw [e3,e4]
  refine ⟨⟨i2+1,j2 - 1,_,rfl,by omega,by omega,by omega,o5,by rw [szs]; exact hz,by rw [← hdef,he],(f2.then (f24.then0 fd4).any).then f5⟩,?_⟩
  show (((j2 - 1:Nat):Int)+1 - ((i2+1:Nat):Int)).toNat < ((j:Int)+1 - (i:Int)).toNat
  omega
theorem Zrv (h:DA S w s d) (hm:d.size≤1048576) {a b pivot:Nat} (h1:a≤pivot) (h2:pivot < b) (hb:b≤d.size) {K:Res [.sc (.int .i64),.sc .bool]→W R}
  (hk:∀ w',DA S w' s (Go.Sort.partition ltInt d a b pivot).2.2→Fr (OwnB s) w w'→K (((Go.Sort.partition ltInt d a b pivot).1:Int),(Go.Sort.partition ltInt d a b pivot).2.1) Q w') :
  callW Tryz.prog Z1v [.slice s.a s.n s.c,.int .i64 (a:Int),.int .i64 (b:Int),.int .i64 (pivot:Int)] [.sc (.int .i64),.sc .bool] K Q w:=by
 refine Z6p _ _ _ _ K Q w ?_
 unfold Z3d
 have fd:Fr None w w.drew:=(Fr.refl _ _).drew
 refine swpA (h.none fd) rfl rfl (by omega) (by omega) fun w1 o1 f1=>?_
 have e1:IntKind.wrap .i64 ((a:Int)+1)=((a+1:Nat):Int):=wn (by omega) (by omega)
 have e2:IntKind.wrap .i64 ((b:Int) - 1)=((b - 1:Nat):Int):=wn (by omega) (by omega)
 rw [e1,e2]
 have hr:Go.Sort.partition ltInt d a b pivot=if Go.Sort.scanUp (fun x=>ltInt x (swp d a pivot)[a]!) (swp d a pivot) (b - 1) (a+1) > Go.Sort.scanDown (fun x=>!ltInt x (swp d a pivot)[a]!) (swp d a pivot) (Go.Sort.scanUp (fun x=>ltInt x (swp d a pivot)[a]!) (swp d a pivot) (b - 1) (a+1)) (b - 1) then _ else _:=rfl
 generalize Go.Sort.partition ltInt d a b pivot=r at hk hr
 have hze:=szs d a pivot
 generalize swp d a pivot=e at o1 hr hze
 have f01:=fd.any.then f1
 refine scanUpI (fun x=>ltInt x e[a]!) e (jhi:=((b - 1:Nat):Int)) rfl (by omega) (i0:=a+1) (by omega) (fun q w' J h1 h2 f hJ=>?_) fun w3 f3=>?_
 ·exact rdA (o1.none f) rfl (by omega) (rdA (o1.none f) rfl (by omega) (Z9 hJ))
 have hge:=Go.Sort.scanUp_ge (fun x=>ltInt x e[a]!) e (b - 1) (a+1)
 generalize Go.Sort.scanUp (fun x=>ltInt x e[a]!) e (b - 1) (a+1)=i2 at hr hge ⊢
 refine scanDownI (fun x=>!ltInt x e[a]!) e (ilo:=(i2:Int)) rfl (by omega) (j0:=b - 1) (by omega) (fun q w' J h1 h2 f hJ=>?_) fun w4 f4=>?_
 ·exact rdA ((o1.none f3).none f) rfl (by omega) (rdA ((o1.none f3).none f) rfl (by omega) (Z9 hJ))
 have hle:=Go.Sort.scanDown_le (fun x=>!ltInt x e[a]!) e i2 (b - 1)
 generalize Go.Sort.scanDown (fun x=>!ltInt x e[a]!) e i2 (b - 1)=j2 at hr hle ⊢
 have f14:=f3.then0 f4
 have fd4:Fr None w4 w4.drew:=(Fr.refl _ _).drew
 have o4:=(o1.none f14).none fd4
 have f04:=f01.then (f14.then0 fd4).any
 refine condD (fun hgt=>?_) fun hgt=>?_
 ·have hgt:(i2:Int) > (j2:Int):=hgt
  rw [if_pos (show i2 > j2 by omega)] at hr
  subst hr
  exact swpA o4 rfl rfl (by omega) (by omega) fun w5 o5 f5=>hk w5 o5 (f04.then f5)
 ·have hgt:¬ (i2:Int) > (j2:Int):=hgt
  rw [if_neg (show ¬ i2 > j2 by omega)] at hr
  refine swpA o4 rfl rfl (by omega) (by omega) fun w5 o5 f5=>?_
  have e3:IntKind.wrap .i64 ((i2:Int)+1)=((i2+1:Nat):Int):=wn (by omega) (by omega)
  have e4:IntKind.wrap .i64 ((j2:Int) - 1)=((j2 - 1:Nat):Int):=wn (by omega) (by omega)
  rw [e3,e4]
  generalize hrr:Go.Sort.partLoop ltInt a (i2+1) (j2 - 1) (swp e i2 j2)=rr at hr
  refine loopI (fun (st:Int × Int) w'=>∃ (i j:Nat) (g:Array Int),st=((i:Int),(j:Int))∧a < i∧i≤b∧j < b∧DA S w' s g∧g.size=d.size∧Go.Sort.partLoop ltInt a i j g=rr∧Fr (OwnB s) w w') (fun st _=>(st.2+1 - st.1).toNat)
   ⟨i2+1,j2 - 1,_,rfl,by omega,by omega,by omega,o5,by rw [szs]; exact hze,hrr,f04.then f5⟩ ?_
  rintro st w6 ⟨i,j,g,rfl,hi,hib,hj,o6,hz,he,f6⟩
  have hdef:=Go.Sort.partLoop_eq ltInt a i j g
  refine scanUpI (fun x=>ltInt x g[a]!) g (jhi:=(j:Int)) rfl (by omega) (i0:=i) (by omega) (fun q w' J h1 h2 f hJ=>?_) fun w7 f7=>?_
  ·exact rdA (o6.none f) rfl (by omega) (rdA (o6.none f) rfl (by omega) (Z9 hJ))
  have hge2:=Go.Sort.scanUp_ge (fun x=>ltInt x g[a]!) g j i
  generalize Go.Sort.scanUp (fun x=>ltInt x g[a]!) g j i=i3 at hdef hge2 ⊢
  refine scanDownI (fun x=>!ltInt x g[a]!) g (ilo:=(i3:Int)) rfl (by omega) (j0:=j) (by omega) (fun q w' J h1 h2 f hJ=>?_) fun w8 f8=>?_
  ·exact rdA ((o6.none f7).none f) rfl (by omega) (rdA ((o6.none f7).none f) rfl (by omega) (Z9 hJ))
  have hle2:=Go.Sort.scanDown_le (fun x=>!ltInt x g[a]!) g i3 j
  generalize Go.Sort.scanDown (fun x=>!ltInt x g[a]!) g i3 j=j3 at hdef hle2 ⊢
  have f68:=f7.then0 f8
  have fd8:Fr None w8 w8.drew:=(Fr.refl _ _).drew
  have o8:=(o6.none f68).none fd8
  have f08:=f6.then (f68.then0 fd8).any
  refine condD (fun hgt=>?_) fun hgt=>?_
  ·have hgt:(i3:Int) > (j3:Int):=hgt
   rw [if_pos (show i3 > j3 by omega)] at hdef
   have:rr=(j3,g):=by rw [← he,hdef]
   subst this
   subst hr
   exact swpA o8 rfl rfl (by omega) (by omega) fun w9 o9 f9=>hk w9 o9 (f08.then f9)
  ·have hgt:¬ (i3:Int) > (j3:Int):=hgt
   rw [if_neg (show ¬ i3 > j3 by omega)] at hdef
   refine swpA o8 rfl rfl (by omega) (by omega) fun w9 o9 f9=>?_
   have e5:IntKind.wrap .i64 ((i3:Int)+1)=((i3+1:Nat):Int):=wn (by omega) (by omega)
   have e6:IntKind.wrap .i64 ((j3:Int) - 1)=((j3 - 1:Nat):Int):=wn (by omega) (by omega)
   rw [e5,e6]
   refine ⟨⟨i3+1,j3 - 1,_,rfl,by omega,by omega,by omega,o9,by rw [szs]; exact hz,by rw [← hdef,he],f08.then f9⟩,?_⟩
   show (((j3 - 1:Nat):Int)+1 - ((i3+1:Nat):Int)).toNat < ((j:Int)+1 - (i:Int)).toNat
   omega
theorem Zfh (d:Array Int) (b:Nat):∀ (n i:Nat),b - i≤n→i≤Go.Sort.scanSorted ltInt d b i∧(i≤b→Go.Sort.scanSorted ltInt d b i≤b)
 | 0,i,hn=>by
  rw [Go.Sort.scanSorted,if_neg (by simp; omega)]; exact ⟨Nat.le_refl _,fun h=>h⟩
 | n+1,i,hn=>by
  rw [Go.Sort.scanSorted]
  split
  ·rename_i h
   have hib:i < b:=by simp only [Bool.and_eq_true,decide_eq_true_eq] at h; exact h.1
   obtain ⟨h1,h2⟩:=Zfh d b n (i+1) (by omega)
   exact ⟨by omega,fun _=>h2 (by omega)⟩
  ·exact ⟨Nat.le_refl _,fun h=>h⟩
theorem Zmz (h:DA S w s d) (hm:d.size≤1048576) {a b:Nat} (hab:a < b) (hb:b≤d.size) {K:Res [.sc .bool]→W R}
  (hk:∀ w',DA S w' s (Go.Sort.partialInsertionSort ltInt d a b).1→Fr (OwnB s) w w'→K (Go.Sort.partialInsertionSort ltInt d a b).2 Q w') :
  callW Tryz.prog Zj [.slice s.a s.n s.c,.int .i64 (a:Int),.int .i64 (b:Int)] [.sc .bool] K Q w:=by
 refine Z3t _ _ _ K Q w ?_
 unfold Z1n
 have e1:IntKind.wrap .i64 ((a:Int)+1)=((a+1:Nat):Int):=wn (by omega) (by omega)
 have e2:IntKind.wrap .i64 ((b:Int) - (a:Int))=((b - a:Nat):Int):=wn (by omega) (by omega)
 rw [e1,e2]
 generalize hr:Go.Sort.partialInsertionSort ltInt d a b=r at hk
 refine loopI (fun (st:Int × Int) w'=>∃ (i n:Nat) (e:Array Int),st=((i:Int),5 - (n:Int))∧a < i∧i≤b∧n≤5∧DA S w' s e∧e.size=d.size∧Go.Sort.partialIns ltInt a b n i e=r∧Fr (OwnB s) w w') (fun st _=>(5 - st.2).toNat)
  ⟨a+1,5,d,rfl,by omega,by omega,by omega,h,rfl,by rw [← hr]; rfl,Fr.refl _ _⟩ ?_
 rintro st w1 ⟨i,n,e,rfl,hi,hib,hn,o1,hz,he,f1⟩
 refine condD (fun hlt=>?_) fun hge=>?_
 rotate_left
 ·have hge:¬ (5 - (n:Int)) < 5:=hge
  have:n=0:=by omega
  subst this
  have he:(e,false)=r:=he
  subst he
  exact hk w1 o1 f1
 have hlt:(5 - (n:Int)) < 5:=hlt
 obtain ⟨m,rfl⟩:∃ m,n=m+1:=⟨n - 1,by omega⟩
 have hdef:=Go.Sort.partialIns_succ (lt:=ltInt) a b m i e
 have hsc:=Zfh e b (b - i) i (Nat.le_refl _)
 refine loopI (fun q w'=>∃ q':Nat,q=(q':Int)∧i≤q'∧q'≤b∧Go.Sort.scanSorted ltInt e b q'=Go.Sort.scanSorted ltInt e b i∧Fr None w1 w') (fun q _=>b - q.toNat) ⟨i,rfl,Nat.le_refl _,hib,rfl,Fr.refl _ _⟩ ?_
 rintro q w2 ⟨q',rfl,hq1,hq2,heq,f2⟩
 have f2d:=f2.then0 (Fr.refl None w2).drew
 have hdq:=Go.Sort.scanSorted.eq_def ltInt e b q'
 have e3:IntKind.wrap .i64 ((q':Int) - 1)=((q' - 1:Nat):Int):=wn (by omega) (by omega)
 refine joinI (fun z w'=>Fr None w1 w'∧z=(decide (q' < b) && !ltInt e[q']! e[q' - 1]!)) ?_ ?_
 ·refine condD (fun h1=>?_) fun h1=>⟨f2d,?_⟩
  ·have h1:(q':Int) < (b:Int):=h1
   refine rdA (o1.none f2d) rfl (by omega) (rdA (o1.none f2d) e3 (by omega) (Z9 ⟨f2d,?_⟩))
   rw [decide_eq_true (show q' < b by omega)]; rfl
  ·have h1:¬ (q':Int) < (b:Int):=h1
   rw [decide_eq_false (show ¬ q' < b by omega)]; rfl
 rintro z w3 ⟨f3,hzz⟩
 rw [← hzz] at hdq
 cases z with
 | true =>
  simp only [if_true] at hdq
  have hqb:q' < b:=by
   have:=hzz.symm
   simp only [Bool.and_eq_true,decide_eq_true_eq] at this
   exact this.1
  have e4:IntKind.wrap .i64 ((q':Int)+1)=((q'+1:Nat):Int):=wn (by omega) (by omega)
  exact condT rfl ⟨⟨q'+1,e4,by omega,by omega,by rw [← hdq,heq],f3⟩,by rw [e4]; omega⟩
 | false =>
  simp only [Bool.false_eq_true,if_false] at hdq
  rw [← heq,hdq] at hdef
  refine condF rfl ?_
  have o3:=o1.none f3
  have f03:=f1.then f3.any
  refine condE (fun eqb=>?_) fun neb=>?_
  ·have eqb:q'=b:=by omega
   rw [if_pos eqb] at hdef
   have:r=(e,true):=by rw [← he,hdef]
   subst this
   exact hk w3 o3 f03
  have neb:¬ q'=b:=fun h=>neb (by rw [h])
  rw [if_neg neb] at hdef
  refine condD (fun h50=>?_) fun h50=>?_
  ·have h50:((b - a:Nat):Int) < 50:=h50
   rw [if_pos (show b - a < 50 by omega)] at hdef
   have:r=(e,false):=by rw [← he,hdef]
   subst this
   exact hk w3 o3 f03
  have h50:¬ ((b - a:Nat):Int) < 50:=h50
  rw [if_neg (show ¬ b - a < 50 by omega)] at hdef
  have fd3:Fr None w3 w3.drew:=(Fr.refl _ _).drew
  refine swpA (o3.none fd3) rfl e3 (by omega) (by omega) fun w4 o4 f4=>?_
  have f04:=(f03.then fd3.any).then f4
  have hz4:(swp e q' (q' - 1)).size=d.size:=by rw [szs]; exact hz
  generalize swp e q' (q' - 1)=g4 at hdef o4 hz4
  have e5:IntKind.wrap .i64 ((q':Int) - (a:Int))=((q' - a:Nat):Int):=wn (by omega) (by omega)
  have e6:IntKind.wrap .i64 ((b:Int) - (q':Int))=((b - q':Nat):Int):=wn (by omega) (by omega)
  have e7:IntKind.wrap .i64 ((q':Int)+1)=((q'+1:Nat):Int):=wn (by omega) (by omega)
  rw [e5,e6,e3,e7]
  refine joinI (fun (_:Unit) w'=>DA S w' s (Go.Sort.fixDown ltInt a q' g4)∧(Go.Sort.fixDown ltInt a q' g4).size=d.size∧Fr (OwnB s) w w') ?_ ?_
  ·unfold Go.Sort.fixDown
   refine condD (fun h2=>?_) fun h2=>?_
   ·have h2:((q' - a:Nat):Int) ≥ 2:=h2
    rw [if_pos (show q' - a ≥ 2 by omega)]
    refine joinK ?_
    refine loopI (fun t w'=>∃ (k:Nat) (g:Array Int),t=(k:Int)∧k < b∧DA S w' s g∧g.size=d.size∧Go.Sort.shiftDown ltInt k g=Go.Sort.shiftDown ltInt (q' - 1) g4∧Fr (OwnB s) w w') (fun t _=>t.toNat) ⟨q' - 1,g4,rfl,by omega,o4,hz4,rfl,f04⟩ ?_
    rintro t w5 ⟨k,g,rfl,hkb,o5,hz5,he5,f5⟩
    refine condD (fun hk1=>?_) fun hk1=>?_
    ·have hk1:(k:Int) ≥ 1:=hk1
     obtain ⟨k',rfl⟩:∃ k',k=k'+1:=⟨k - 1,by omega⟩
     have e8:IntKind.wrap .i64 (((k'+1:Nat):Int) - 1)=(k':Int):=wn (by omega) (by omega)
     have fd5:Fr None w5 w5.drew:=(Fr.refl _ _).drew
     have hdf:Go.Sort.shiftDown ltInt (k'+1) g=if (!ltInt g[k'+1]! g[k']!)=true then g else Go.Sort.shiftDown ltInt k' (swp g (k'+1) k'):=rfl
     refine rdA (o5.none fd5) rfl (by omega) (rdA (o5.none fd5) e8 (by omega) (Z9 ?_))
     refine condI (fun hbb=>?_) fun hbb=>?_
     ·rw [if_pos (show (!ltInt g[k'+1]! g[k']!)=true from hbb)] at hdf
      rw [← he5,hdf]
      exact ⟨o5.none fd5,hz5,f5.then fd5.any⟩
     ·rw [if_neg (show ¬ (!ltInt g[k'+1]! g[k']!)=true from fun h=>by rw [show (!ltInt g[k'+1]! g[k']!)=false from hbb] at h; cases h)] at hdf
      have fd6:=fd5.then0 (Fr.refl None w5.drew).drew
      refine swpA (o5.none fd6) rfl e8 (by omega) (by omega) fun w6 o6 f6=>⟨⟨k',_,e8,by omega,o6,by rw [szs]; exact hz5,by rw [← hdf,he5],(f5.then fd6.any).then f6⟩,by rw [e8]; omega⟩
    ·have hk1:¬ (k:Int) ≥ 1:=hk1
     have:k=0:=by omega
     subst this
     have he5:g=_:=he5
     rw [← he5]
     exact ⟨o5,hz5,f5⟩
   ·have h2:¬ ((q' - a:Nat):Int) ≥ 2:=h2
    rw [if_neg (show ¬ q' - a ≥ 2 by omega)]
    exact ⟨o4,hz4,f04⟩
  rintro _ w5 ⟨o5,hz5,f5⟩
  generalize Go.Sort.fixDown ltInt a q' g4=g5 at hdef o5 hz5
  refine joinI (fun (_:Unit) w'=>DA S w' s (Go.Sort.fixUp ltInt b q' g5)∧(Go.Sort.fixUp ltInt b q' g5).size=d.size∧Fr (OwnB s) w w') ?_ ?_
  ·unfold Go.Sort.fixUp
   refine condD (fun h2=>?_) fun h2=>?_
   ·have h2:((b - q':Nat):Int) ≥ 2:=h2
    rw [if_pos (show b - q' ≥ 2 by omega)]
    refine joinK ?_
    refine loopI (fun t w'=>∃ (k:Nat) (g:Array Int),t=(k:Int)∧1≤k∧k≤b∧DA S w' s g∧g.size=d.size∧Go.Sort.shiftUp ltInt b k g=Go.Sort.shiftUp ltInt b (q'+1) g5∧Fr (OwnB s) w w') (fun t _=>b - t.toNat) ⟨q'+1,g5,rfl,by omega,by omega,o5,hz5,rfl,f5⟩ ?_
    rintro t w6 ⟨k,g,rfl,hk1,hkb,o6,hz6,he6,f6⟩
    have hdf:=Go.Sort.shiftUp.eq_def ltInt b k g
    refine condD (fun hlt2=>?_) fun hlt2=>?_
    ·have hlt2:(k:Int) < (b:Int):=hlt2
     rw [if_pos (show k < b by omega)] at hdf
     have e8:IntKind.wrap .i64 ((k:Int) - 1)=((k - 1:Nat):Int):=wn (by omega) (by omega)
     have fd5:Fr None w6 w6.drew:=(Fr.refl _ _).drew
     refine rdA (o6.none fd5) rfl (by omega) (rdA (o6.none fd5) e8 (by omega) (Z9 ?_))
     refine condI (fun hbb=>?_) fun hbb=>?_
     ·rw [if_pos (show (!ltInt g[k]! g[k - 1]!)=true from hbb)] at hdf
      rw [← he6,hdf]
      exact ⟨o6.none fd5,hz6,f6.then fd5.any⟩
     ·rw [if_neg (show ¬ (!ltInt g[k]! g[k - 1]!)=true from fun h=>by rw [show (!ltInt g[k]! g[k - 1]!)=false from hbb] at h; cases h)] at hdf
      have fd6:=fd5.then0 (Fr.refl None w6.drew).drew
      have e9:IntKind.wrap .i64 ((k:Int)+1)=((k+1:Nat):Int):=wn (by omega) (by omega)
      refine swpA (o6.none fd6) rfl e8 (by omega) (by omega) fun w7 o7 f7=>⟨⟨k+1,_,e9,by omega,by omega,o7,by rw [szs]; exact hz6,by rw [← hdf,he6],(f6.then fd6.any).then f7⟩,by rw [e9]; omega⟩
    ·have hlt2:¬ (k:Int) < (b:Int):=hlt2
     rw [if_neg (show ¬ k < b by omega)] at hdf
     rw [← he6,hdf]
     exact ⟨o6,hz6,f6⟩
   ·have h2:¬ ((b - q':Nat):Int) ≥ 2:=h2
    rw [if_neg (show ¬ b - q' ≥ 2 by omega)]
    exact ⟨o5,hz5,f5⟩
  rintro _ w6 ⟨o6,hz6,f6⟩
  have e8:IntKind.wrap .i64 (5 - ((m+1:Nat):Int)+1)=5 - (m:Int):=by rw [w64 (by omega)]; omega
  exact ⟨⟨q',m,_,by rw [e8],by omega,by omega,by omega,o6,hz6,by rw [← hdef,he],f6⟩,by
   show (5 - IntKind.wrap .i64 (5 - ((m+1:Nat):Int)+1)).toNat < (5 - (5 - ((m+1:Nat):Int))).toNat
   rw [e8]; omega⟩
end
end Go.Proofs.YtoiahhpgkoknfaaGreat
namespace Go.Proofs.YtoiahhpgkoknfaaGreat
open Go Go.RowKit Go.Proofs.YtoiahhpgkoknfaaGreat.Den
open Go.Sort (swp ltInt PermIn SortedIn)
variable {R:Type} {Q:R→World→Prop} {w:World}
section
variable {ok:Nat→Prop} {S:Nat→Prop} {s:Sl} {d:Array Int}
theorem rdS (h:SlT ok w bT s d.toList) {ie:Int} {j:Nat} (hi:ie=(j:Int)) (hj:j < d.size) {K:Int→W R} (hk:K d[j]! Q w):idxW s.a s.n 1 ie (fun a=>ld (.sc (.int .u8)) a K) Q w:=by
 refine h.get rfl hi (by simpa using hj) fun x hx=>?_
 rw [Array.getElem?_toList] at hx
 have e:d[j]! = x:=by
  rw [getElem!_pos d j hj]
  exact (Array.getElem?_eq_some_iff.1 hx).2
 rw [e] at hk
 exact hk
structure Cnt (ok:Nat→Prop) (g:Nat) (s:Sl) (d:Array Int) (w:World):Prop where
 sl:SlT ok w bT s d.toList
 ne:∀ k,ok k→k≠g
 blk:∃ n:Int,Blk w g 3 [.int .i64 n]
theorem Cnt.drew {g:Nat} (h:Cnt ok g s d w) {w':World} (f:Fr None w w'):Cnt ok g s d w':=⟨h.sl.fr0 f,h.ne,by obtain ⟨n,B⟩:=h.blk; exact ⟨n,B.fr f fun h=>h⟩⟩
theorem Ze5 {g:Nat} (h:Cnt ok g s d w) {a b:Nat} (ha:a < d.size) (hb:b < d.size) {K:Res [.sc (.int .i64),.sc (.int .i64)]→W R}
  (hk:∀ p q w',(p=a∧q=b)∨(p=b∧q=a)→Cnt ok g s d w'→Fr (fun k=>k=g) w w'→K ((p:Int),(q:Int)) Q w') :
  callW Tryz.prog Zr [.slice s.a s.n s.c,.int .i64 (a:Int),.int .i64 (b:Int),.pointer (some ⟨g,0,none⟩)] [.sc (.int .i64),.sc (.int .i64)] K Q w:=by
 refine Z80 _ _ _ _ K Q w ?_
 unfold Z48
 have fd:Fr None w w.drew:=(Fr.refl _ _).drew
 have hd:=h.drew fd
 refine rdS hd.sl rfl hb (rdS hd.sl rfl ha (Z9 ?_))
 refine condI (fun _=>?_) fun _=>hk a b _ (.inl ⟨rfl,rfl⟩) hd fd.any
 obtain ⟨n,B⟩:=hd.blk
 refine ptrI (fld0 (i:=0) (x:=n) B rfl ?_)
 refine ptrI (stoAll B rfl rfl fun w2 B2 f2 s2=>?_)
 refine hk b a w2 (.inr ⟨rfl,rfl⟩) ⟨hd.sl.fr f2 fun k hk e=>hd.ne k hk e,hd.ne,_,B2⟩ (fd.any.then f2)
theorem Ziw {g:Nat} (h:Cnt ok g s d w) {a b c:Nat} (ha:a < d.size) (hb:b < d.size) (hc:c < d.size) {K:Res [.sc (.int .i64)]→W R}
  (hk:∀ p w',(p=a∨p=b∨p=c)→Cnt ok g s d w'→Fr (fun k=>k=g) w w'→K (p:Int) Q w') :
  callW Tryz.prog Z1g [.slice s.a s.n s.c,.int .i64 (a:Int),.int .i64 (b:Int),.int .i64 (c:Int),.pointer (some ⟨g,0,none⟩)] [.sc (.int .i64)] K Q w:=by
 refine Z7z _ _ _ _ _ K Q w ?_
 unfold Z47
 refine Ze5 h ha hb fun p q w1 h1 c1 f1=>?_
 refine Ze5 c1 (a:=q) (b:=c) (by omega) hc fun p2 q2 w2 h2 c2 f2=>?_
 refine Ze5 c2 (a:=p) (b:=p2) (by omega) (by omega) fun p3 q3 w3 h3 c3 f3=>?_
 exact hk q3 w3 (by omega) c3 ((f1.then f2).then f3)
theorem Za3 {g:Nat} (h:Cnt ok g s d w) (hm:d.size≤1048576) {a:Nat} (ha:1≤a) (hb:a+1 < d.size) {K:Res [.sc (.int .i64)]→W R}
  (hk:∀ p w',(p=a - 1∨p=a∨p=a+1)→Cnt ok g s d w'→Fr (fun k=>k=g) w w'→K (p:Int) Q w') :
  callW Tryz.prog Z7 [.slice s.a s.n s.c,.int .i64 (a:Int),.pointer (some ⟨g,0,none⟩)] [.sc (.int .i64)] K Q w:=by
 refine Z56 _ _ _ K Q w ?_
 unfold Z2h
 rw [show IntKind.wrap .i64 ((a:Int) - 1)=((a - 1:Nat):Int) from wn (by omega) (by omega),show IntKind.wrap .i64 ((a:Int)+1)=((a+1:Nat):Int) from wn (by omega) (by omega)]
 exact Ziw h (by omega) (by omega) (by omega) hk
theorem Zqc (h:DA S w s d) (hm:d.size≤1048576) {a b:Nat} (hab:a < b) (hb:b≤d.size) {K:Res [.sc (.int .i64),.sc (.int .i64)]→W R}
  (hk:∀ (p:Nat) (z:Int) w',a≤p→p < b→Fr None w w'→K ((p:Int),z) Q w') :
  callW Tryz.prog Z1l [.slice s.a s.n s.c,.int .i64 (a:Int),.int .i64 (b:Int)] [.sc (.int .i64),.sc (.int .i64)] K Q w:=by
 refine Z68 _ _ _ K Q w ?_
 unfold Z33
 have e1:IntKind.wrap .i64 ((b:Int) - (a:Int))=((b - a:Nat):Int):=wn (by omega) (by omega)
 have e2:IntKind.wrap .i64 (Int.tdiv ((b - a:Nat):Int) 4)=(((b - a) / 4:Nat):Int):=wn (by rw [Int.tdiv_eq_ediv_of_nonneg (by omega)]; omega) (by omega)
 have e3:∀ n:Nat,n≤3→IntKind.wrap .i64 ((a:Int)+IntKind.wrap .i64 ((((b - a) / 4:Nat):Int) * (n:Int)))=((a+(b - a) / 4 * n:Nat):Int):=fun n hn=>by
  have h1:(b - a) / 4 * n≤(b - a) / 4 * 3:=Nat.mul_le_mul_left _ hn
  rw [wn (x:=(((b - a) / 4:Nat):Int) * (n:Int)) (n:=(b - a) / 4 * n) (by push_cast; rfl) (by omega)]
  exact wn (by push_cast; rfl) (by omega)
 have i1:=e3 1 (by omega)
 have i2:=e3 2 (by omega)
 have i3:=e3 3 (by omega)
 rw [e1,e2]
 rw [show (((1:Nat):Int))=1 from rfl] at i1
 rw [show (((2:Nat):Int))=2 from rfl] at i2
 rw [show (((3:Nat):Int))=3 from rfl] at i3
 rw [i1,i2,i3]
 have j1:a≤a+(b - a) / 4 * 1∧a+(b - a) / 4 * 1 < b:=by omega
 have j2:a≤a+(b - a) / 4 * 2∧a+(b - a) / 4 * 2 < b:=by omega
 have j3:a≤a+(b - a) / 4 * 3∧a+(b - a) / 4 * 3 < b:=by omega
 have k1:50≤b - a→1≤a+(b - a) / 4 * 1∧a+(b - a) / 4 * 1 - 1 ≥ a∧a+(b - a) / 4 * 1+1 < b:=by omega
 have k2:50≤b - a→1≤a+(b - a) / 4 * 2∧a+(b - a) / 4 * 2 - 1 ≥ a∧a+(b - a) / 4 * 2+1 < b:=by omega
 have k3:50≤b - a→1≤a+(b - a) / 4 * 3∧a+(b - a) / 4 * 3 - 1 ≥ a∧a+(b - a) / 4 * 3+1 < b:=by omega
 generalize a+(b - a) / 4 * 1=A1 at j1 k1
 generalize a+(b - a) / 4 * 2=A2 at j2 k2
 generalize a+(b - a) / 4 * 3=A3 at j3 k3
 clear i1 i2 i3 e3
 have hsl:SlT (fun k=>k < w.heap.size) w bT s d.toList:=h.sl.mono fun k hk _=>hk
 refine newI fun w1 B1 f1 s1=>?_
 have hc:Cnt (fun k=>k < w.heap.size) w.heap.size s d w1:=⟨hsl.fr0 f1,fun k hk=>by omega,0,B1⟩
 refine joinI (fun (p:Int) w'=>∃ q:Nat,p=(q:Int)∧a≤q∧q < b∧Cnt (fun k=>k < w.heap.size) w.heap.size s d w'∧Fr (fun k=>k=w.heap.size) w1 w') ?_ ?_
 ·refine condD (fun h8=>?_) fun h8=>⟨A2,rfl,j2.1,j2.2,hc,Fr.refl _ _⟩
  have h8:((b - a:Nat):Int) ≥ 8:=h8
  refine joinI (fun (t:Int × Int × Int) w'=>∃ x y z:Nat,t=((x:Int),(y:Int),(z:Int))∧(a≤x∧x < b)∧(a≤y∧y < b)∧(a≤z∧z < b)∧Cnt (fun k=>k < w.heap.size) w.heap.size s d w'∧Fr (fun k=>k=w.heap.size) w1 w') ?_ ?_
  ·refine condD (fun h50=>?_) fun h50=>⟨A1,A2,A3,rfl,j1,j2,j3,hc,Fr.refl _ _⟩
   have h50:((b - a:Nat):Int) ≥ 50:=h50
   have k1:=k1 (by omega)
   have k2:=k2 (by omega)
   have k3:=k3 (by omega)
   refine Za3 hc hm (by omega) (by omega) fun x w2 h2 c2 f2=>?_
   refine Za3 c2 hm (by omega) (by omega) fun y w3 h3 c3 f3=>?_
   refine Za3 c3 hm (by omega) (by omega) fun z w4 h4 c4 f4=>?_
   exact ⟨x,y,z,rfl,by omega,by omega,by omega,c4,(f2.then f3).then f4⟩
  ·rintro t w2 ⟨x,y,z,rfl,h1,h2,h3,c2,f2⟩
   refine Ziw c2 (a:=x) (b:=y) (c:=z) (by omega) (by omega) (by omega) fun p w3 h4 c3 f3=>⟨p,rfl,by omega,by omega,c3,f2.then f3⟩
 ·rintro p w2 ⟨q,rfl,h1,h2,c2,f2⟩
  obtain ⟨n,B⟩:=c2.blk
  have fin:Fr None w w2:=f1.newer f2 fun k e=>by omega
  refine fld0 (i:=0) (x:=n) B rfl ?_
  exact condI (fun _=>hk q 1 w2 h1 h2 fin) fun _=>condI (fun _=>hk q 2 w2 h1 h2 fin) fun _=>hk q 0 w2 h1 h2 fin
theorem Zqj {x y:Int} (h0:0≤y) (h1:y≤18446744073709551615):0≤bAnd .u64 x y∧bAnd .u64 x y≤y:=by
 unfold bAnd
 have e:((BitVec.ofInt 64 y).toNat:Int)=y:=by
  rw [BitVec.toNat_ofInt]
  have:(2:Int) ^ 64=18446744073709551616:=by decide
  omega
 have h2:(BitVec.ofInt IntKind.u64.bits x &&& BitVec.ofInt IntKind.u64.bits y).toNat≤(BitVec.ofInt 64 y).toNat:=by
  rw [BitVec.toNat_and]; exact Nat.and_le_right
 have h3:(((BitVec.ofInt IntKind.u64.bits x &&& BitVec.ofInt IntKind.u64.bits y).toNat:Nat):Int)≤y:=by omega
 rw [IntKind.wrap_u64]
 omega
theorem Zfq {g:Nat} {T:TypeId} {v:Int} (B:Blk w g T [.int .u64 v]) {K:Res [.sc (.int .u64)]→W R} (hk:∀ x w',Blk w' g T [.int .u64 x]→Fr (fun k=>k=g) w w'→K x Q w') :
  callW Tryz.prog Z2m [.pointer (some ⟨g,0,none⟩)] [.sc (.int .u64)] K Q w:=by
 refine Zbf _ K Q w ?_
 unfold Z6b
 refine ptrI (fld0 (i:=0) (x:=v) B.drew rfl (ptrI (fld0 (i:=0) (x:=v) B.drew rfl (ptrI (stoAll B.drew rfl rfl fun w1 B1 f1 _=>?_)))))
 refine ptrI (fld0 (i:=0) B1.drew rfl (ptrI (fld0 (i:=0) B1.drew rfl (ptrI (stoAll B1.drew rfl rfl fun w2 B2 f2 _=>?_)))))
 refine ptrI (fld0 (i:=0) B2.drew rfl (ptrI (fld0 (i:=0) B2.drew rfl (ptrI (stoAll B2.drew rfl rfl fun w3 B3 f3 _=>?_)))))
 have fd:∀ {v:World},Fr (fun k=>k=g) v v.drew:=fun {v}=>(Fr.refl _ v).drew
 exact ptrI (fld0 (i:=0) B3 rfl (hk _ w3 B3 (((fd.then f1).then (fd.then f2)).then (fd.then f3))))
theorem Zki {n:Nat} (h:0 < n) (hn:n≤1048576):1≤Lib.bitLen n∧Lib.bitLen n≤21∧2 ^ Lib.bitLen n≤2 * n:=by
 obtain ⟨h1,h2,_⟩:=Lib.bitLenAux_bounds 64 n (by omega) (by omega)
 have e:Lib.bitLen n=Lib.bitLenAux 64 n:=rfl
 rw [← e] at h1 h2
 refine ⟨h1,?_,?_⟩
 ·have : 2 ^ (Lib.bitLen n - 1) ≤ 2 ^ 20 := by have : (2 : Nat) ^ 20 = 1048576 := by decide
                                               omega
  have:=(Nat.pow_le_pow_iff_right (by omega:1 < 2)).1 this
  omega
 ·have:2 ^ Lib.bitLen n=2 * 2 ^ (Lib.bitLen n - 1):=by
   rw [← Nat.pow_succ',Nat.succ_eq_add_one,Nat.sub_add_cancel h1]
  omega
theorem Zq9 (h:DA S w s d) (hm:d.size≤1048576) {a b:Nat} (hab:a < b) (hb:b≤d.size) {K:Res []→W R} (hk:∀ d' w',DA S w' s d'→PermIn a b d d'→Fr (OwnB s) w w'→K () Q w') :
  callW Tryz.prog Z1a [.slice s.a s.n s.c,.int .i64 (a:Int),.int .i64 (b:Int)] [] K Q w:=by
 refine Z5g _ _ _ K Q w ?_
 unfold Z2q
 have e1:IntKind.wrap .i64 ((b:Int) - (a:Int))=((b - a:Nat):Int):=wn (by omega) (by omega)
 rw [e1]
 have e2:IntKind.wrap .i64 (Int.tdiv ((b - a:Nat):Int) 4)=(((b - a) / 4:Nat):Int):=wn (by rw [Int.tdiv_eq_ediv_of_nonneg (by omega)]; omega) (by omega)
 have e3:IntKind.wrap .i64 ((((b - a) / 4:Nat):Int) * 2)=(((b - a) / 4 * 2:Nat):Int):=wn (by push_cast; rfl) (by omega)
 have e4:IntKind.wrap .i64 ((a:Int)+(((b - a) / 4 * 2:Nat):Int))=((a+(b - a) / 4 * 2:Nat):Int):=wn (by push_cast; rfl) (by omega)
 have e5:IntKind.wrap .i64 (((a+(b - a) / 4 * 2:Nat):Int)+1)=((a+(b - a) / 4 * 2+1:Nat):Int):=wn (by push_cast; rfl) (by omega)
 rw [e2,e3,e4,e5]
 refine joinI (fun (_:Unit) w'=>∃ d',DA S w' s d'∧PermIn a b d d'∧Fr (OwnB s) w w') ?_ fun _ w' ⟨d',o,p,f⟩=>hk d' w' o p f
 refine condD (fun h8=>?_) fun h8=>⟨d,h,Go.Sort.permIn_refl _ _ _,Fr.refl _ _⟩
 have h8:((b - a:Nat):Int) ≥ 8:=h8
 have e6:IntKind.wrap .i64 (((a+(b - a) / 4 * 2:Nat):Int) - 1)=((a+(b - a) / 4 * 2 - 1:Nat):Int):=wn (by omega) (by omega)
 rw [e6]
 refine newI fun w1 B1 f1 s1=>stoAll B1 rfl rfl fun w2 B2 f2 s2=>?_
 have f02:Fr None w w2:=f1.newer f2 fun k e=>by omega
 refine Z5i _ _ _ w2 ?_
 unfold Z3e
 have e7:IntKind.wrap .u64 ((b - a:Nat):Int)=((b - a:Nat):Int):=by rw [IntKind.wrap_u64]; omega
 rw [e7]
 refine Z7x (by omega) (by omega) (chkI (by omega) ?_)
 rw [Int.toNat_natCast]
 obtain ⟨l1,l2,l3⟩:=Zki (n:=b - a) (by omega) (by omega)
 generalize hL:Lib.bitLen (b - a)=L at l1 l2 l3
 have e8:shL .u64 1 (L:Int)=((2 ^ L:Nat):Int):=by
  unfold shL
  rw [Int.toNat_natCast,show min L IntKind.u64.bits=L from Nat.min_eq_left (by show L≤64; omega),IntKind.wrap_u64]
  have:(1:Int) * 2 ^ L=((2 ^ L:Nat):Int):=by rw [Int.one_mul]; push_cast; rfl
  rw [this]
  generalize 2 ^ L=M at l3
  omega
 rw [e8]
 have hpos:0 < 2 ^ L:=Nat.pow_pos (by omega)
 generalize 2 ^ L=M at l3 hpos
 have e9:IntKind.wrap .u64 ((M:Int) - 1)=(M:Int) - 1:=by rw [IntKind.wrap_u64]; omega
 unfold retW
 dsimp only
 rw [e9]
 have o2:DA (fun k=>S k∧k < w.heap.size) w2 s d:=Den.Own.st h f02 fun k hk e=>⟨fun h=>h,e,hk⟩
 refine loopI (fun i w'=>∃ (n:Nat) (e:Array Int),i=(n:Int)∧a+(b - a) / 4 * 2 - 1≤n∧n≤a+(b - a) / 4 * 2+2∧(∃ v:Int,Blk w' w.heap.size 344 [.int .u64 v])∧DA (fun k=>S k∧k < w.heap.size) w' s e∧PermIn a b d e∧Fr (fun k=>OwnB s k∨k=w.heap.size) w2 w') (fun i _=>a+(b - a) / 4 * 2+2 - i.toNat)
  ⟨_,d,rfl,Nat.le_refl _,by omega,⟨_,B2⟩,o2,Go.Sort.permIn_refl _ _ _,Fr.refl _ _⟩ ?_
 rintro i w3 ⟨n,e,rfl,hn1,hn2,⟨v,B3⟩,o3,hp,f3⟩
 have hz:=hp.1
 refine condD (fun hle=>?_) fun hgt=>?_
 ·have hle:(n:Int)≤((a+(b - a) / 4 * 2+1:Nat):Int):=hle
  refine Zfq B3 fun x w4 B4 f4=>?_
  have o4:DA (fun k=>S k∧k < w.heap.size) w4 s e:=o3.fr f4 fun k hk e=>by omega
  obtain ⟨g1,g2⟩:=Zqj (x:=x) (y:=(M:Int) - 1) (by omega) (by omega)
  generalize bAnd .u64 x ((M:Int) - 1)=y at g1 g2
  have ey:IntKind.wrap .i64 y=y:=w64 (by omega)
  rw [ey]
  refine joinI (fun (z:Int) w'=>w'=w4∧∃ q:Nat,z=(q:Int)∧q < b - a) ?_ ?_
  ·refine condD (fun h1=>⟨rfl,(y - ((b - a:Nat):Int)).toNat,?_,?_⟩) fun h1=>⟨rfl,y.toNat,by omega,?_⟩
   ·have h1:y ≥ ((b - a:Nat):Int):=h1
    rw [w64 (by omega)]; omega
   ·have h1:y ≥ ((b - a:Nat):Int):=h1
    omega
   ·have h1:¬ y ≥ ((b - a:Nat):Int):=h1
    omega
  ·rintro z w5 ⟨rfl,q,rfl,hq⟩
   have fd:Fr None w5 w5.drew:=(Fr.refl _ _).drew
   have e10:IntKind.wrap .i64 ((a:Int)+(q:Int))=((a+q:Nat):Int):=wn (by push_cast; rfl) (by omega)
   refine swpA (o4.none fd) rfl e10 (by omega) (by omega) fun w6 o6 f6=>?_
   have e11:IntKind.wrap .i64 ((n:Int)+1)=((n+1:Nat):Int):=wn (by push_cast; rfl) (by omega)
   refine ⟨⟨n+1,_,e11,by omega,by omega,⟨x,(B4.fr fd fun h=>h).fr f6 fun hk=>?_⟩,o6,Go.Sort.permIn_trans _ _ _ _ _ hp (Go.Sort.swp_permIn _ _ _ _ _ (by omega) (by omega) (by omega) (by omega) (by omega)),?_⟩,by rw [e11]; omega⟩
   ·have:=(o4.own _ hk).2; omega
   ·exact ((f3.then (f4.sub fun k e=>.inr e)).then fd.any).then (f6.sub fun k e=>.inl e)
 ·refine ⟨e,o3.mono fun k _ h=>h.1,hp,?_⟩
  refine f02.trans f3 (fun _ h=>h.elim) fun k hk e=>?_
  rcases e with e | e
  ·exact e
  ·omega
end
end Go.Proofs.YtoiahhpgkoknfaaGreat
namespace Go.Proofs.YtoiahhpgkoknfaaGreat
open Go Go.RowKit Go.Proofs.YtoiahhpgkoknfaaGreat.Den
open Go.Sort (swp ltInt PermIn SortedIn)
set_option maxHeartbeats 1000000 in
theorem Zta (n:Nat):∀ {R:Type} {Q:R→World→Prop} {w:World} {S:Nat→Prop} {s:Sl} {d:Array Int} {a b:Nat} {limit:Int} {K:Res []→W R} (_h:DA S w s d) (_hm:d.size≤1048576) (_hab:a≤b) (_hb:b≤d.size) (_hB:Go.Sort.Below ltInt a b d) (_hn:b - a≤n)
  (_hk:∀ d' w',DA S w' s d'→PermIn a b d d'→SortedIn ltInt a b d'→Fr (OwnB s) w w'→K () Q w'),
  callW Tryz.prog Zm [.slice s.a s.n s.c,.int .i64 (a:Int),.int .i64 (b:Int),.int .i64 limit] [] K Q w:=by
 induction n using Nat.strongRecOn with
 | _ n ih =>
 intro R Q w S s d a b limit K h hm hab hb hB hn hk
 refine Z7r _ _ _ _ K Q w ?_
 unfold Z3y
 refine loopI (fun st w'=>∃ (a' b':Nat) (d':Array Int),st.1=(a':Int)∧st.2.1=(b':Int)∧a≤a'∧a'≤b'∧b'≤b∧DA S w' s d'∧d'.size=d.size∧Go.Sort.Below ltInt a' b' d' ∧
  (∀ X,PermIn a' b' d' X→SortedIn ltInt a' b' X→PermIn a b d X∧SortedIn ltInt a b X)∧Fr (OwnB s) w w') (fun st _=>(st.2.1 - st.1).toNat) ⟨a,b,d,rfl,rfl,Nat.le_refl _,hab,Nat.le_refl _,h,rfl,hB,fun X h1 h2=>⟨h1,h2⟩,Fr.refl _ _⟩ ?_
 rintro ⟨sa,sb,lim,wb,wp⟩ w1 ⟨a',b',d',e1,e2,ha,hab',hb',o1,hz,hB1,cl,f1⟩
 dsimp only at e1 e2 ⊢
 subst e1; subst e2
 have em:IntKind.wrap .i64 ((b':Int) - (a':Int))=((b' - a':Nat):Int):=wn (by omega) (by omega)
 rw [em]
 refine joinK (condD (fun h12=>?_) fun h12=>?_)
 ·refine Zt9 o1 (by omega) hab' (by omega) fun w2 o2 f2=>?_
  obtain ⟨p1,p2⟩:=Go.Sort.insertionSort_holds swo d' a' b' hab' (by omega)
  obtain ⟨q1,q2⟩:=cl _ p1 p2
  exact hk _ w2 o2 q1 q2 (f1.then f2)
 have h12:¬ ((b' - a':Nat):Int)≤12:=h12
 have hlt:a' < b':=by omega
 refine condI (fun _=>?_) fun _=>?_
 ·refine Zrt o1 (by omega) hlt (by omega) fun w2 o2 f2=>?_
  obtain ⟨p1,p2⟩:=Go.Sort.heapSort_holds swo d' a' b' hab' (by omega)
  obtain ⟨q1,q2⟩:=cl _ p1 p2
  exact hk _ w2 o2 q1 q2 (f1.then f2)
 refine joinI (fun (_:Int) w'=>∃ e,DA S w' s e∧PermIn a' b' d' e∧Fr (OwnB s) w w') ?_ ?_
 ·refine condI (fun _=>?_) fun _=>⟨d',o1,Go.Sort.permIn_refl _ _ _,f1⟩
  exact Zq9 o1 (by omega) hlt (by omega) fun e w2 o2 p2 f2=>⟨e,o2,p2,f1.then f2⟩
 rintro lim2 w2 ⟨e,o2,p2,f2⟩
 have hz2:=p2.1
 refine Zqc o2 (by omega) hlt (by omega) fun p z w3 hp1 hp2 f3=>?_
 have f03:=f2.then f3.any
 have o3:=o2.none f3
 refine joinI (fun (t:Int × Int) w'=>∃ (q:Nat) (e:Array Int),t.1=(q:Int)∧a'≤q∧q < b'∧DA S w' s e∧PermIn a' b' d' e∧Fr (OwnB s) w w') ?_ ?_
 ·refine condI (fun _=>?_) fun _=>⟨p,e,rfl,hp1,hp2,o3,p2,f03⟩
  refine Zn7 o3 (by omega) hlt (by omega) fun g w4 o4 p4 f4=>⟨(b' - 1) - (p - a'),g,?_,by omega,by omega,o4,Go.Sort.permIn_trans _ _ _ _ _ p2 p4,f03.then f4⟩
  show IntKind.wrap .i64 (IntKind.wrap .i64 ((b':Int) - 1) - IntKind.wrap .i64 ((p:Int) - (a':Int)))=_
  rw [wn (x:=(b':Int) - 1) (n:=b' - 1) (by omega) (by omega),wn (x:=(p:Int) - (a':Int)) (n:=p - a') (by omega) (by omega)]
  exact wn (by omega) (by omega)
 rintro ⟨t1,t2⟩ w4 ⟨q,g,et,hq1,hq2,o4,p4,f4⟩
 dsimp only at et ⊢
 subst et
 have hz4:=p4.1
 refine joinI (fun (_:Bool) w'=>w'=w4) ?_ ?_
 ·exact condI (fun _=>condI (fun _=>rfl) fun _=>rfl) fun _=>rfl
 rintro z14 w5 rfl
 have hB4:Go.Sort.Below ltInt a' b' g:=hB1.perm (by omega) p4
 refine joinI (fun (_:Unit) w'=>∃ e,DA S w' s e∧PermIn a' b' d' e∧Fr (OwnB s) w w') ?_ ?_
 ·refine condI (fun _=>?_) fun _=>⟨g,o4,p4,f4⟩
  refine Zmz o4 (by omega) hlt (by omega) fun w6 o6 f6=>?_
  obtain ⟨c1,c2⟩:=Go.Sort.partialInsertionSort_holds swo g a' b' hlt (by omega) hB4
  have c3:=Go.Sort.permIn_trans _ _ _ _ _ p4 c1
  refine condI (fun hx=>?_) fun _=>⟨_,o6,c3,f4.then f6⟩
  obtain ⟨q1,q2⟩:=cl _ c3 (c2 hx)
  exact hk _ w6 o6 q1 q2 (f4.then f6)
 rintro _ w6 ⟨u,o6,p6,f6⟩
 have hz6:=p6.1
 have hB6:Go.Sort.Below ltInt a' b' u:=hB1.perm (by omega) p6
 refine joinI (fun z w'=>Fr None w6 w'∧(z=true→0 < a'∧ltInt u[a' - 1]! u[q]! = false)) ?_ ?_
 ·have fd:Fr None w6 w6.drew:=(Fr.refl _ _).drew
  refine condD (fun h0=>?_) fun _=>⟨fd,fun h=>by cases h⟩
  have h0:(a':Int) > 0:=h0
  refine rdA (o6.none fd) (j:=a' - 1) (wn (by omega) (by omega)) (by omega) (rdA (o6.none fd) rfl (by omega) (Z9 ⟨fd,fun h=>⟨by omega,?_⟩⟩))
  show decide (u[a' - 1]! < u[q]!)=false
  simpa using h
 rintro z24 w7 ⟨f7,hz24⟩
 have o7:=o6.none f7
 have f07:=f6.then f7.any
 refine condI (fun hz=>?_) fun _=>?_
 ·obtain ⟨h0,hnl⟩:=hz24 hz
  refine Zoe o7 (by omega) hq1 hq2 (by omega) fun w8 o8 f8=>?_
  obtain ⟨r1,r2,r3,r4,r5⟩:=Go.Sort.round_eq (d4:=(Go.Sort.partitionEqual ltInt u a' b' q).2) (mid:=(Go.Sort.partitionEqual ltInt u a' b' q).1) swo (Go.Sort.partitionEqual_holds ltInt) h0 hq1 hq2 (by omega) hB6 hnl rfl
  generalize (Go.Sort.partitionEqual ltInt u a' b' q).1=mid at r1 r2 r4 r5 ⊢
  generalize (Go.Sort.partitionEqual ltInt u a' b' q).2=v at o8 r3 r4 r5
  refine ⟨⟨mid,b',v,rfl,rfl,by omega,by omega,hb',o8,by omega,r4,fun X x1 x2=>?_,f07.then f8⟩,?_⟩
  ·obtain ⟨y1,y2⟩:=r5 X x1 x2
   exact cl X (Go.Sort.permIn_trans _ _ _ _ _ p6 y1) y2
  ·show ((b':Int) - (mid:Int)).toNat < ((b':Int) - (a':Int)).toNat
   omega
 ·refine Zrv o7 (by omega) hq1 hq2 (by omega) fun w8 o8 f8=>?_
  obtain ⟨r1,r2,r3,r4,r5,r6,r7⟩:=Go.Sort.round_part (d4:=(Go.Sort.partition ltInt u a' b' q).2.2) (ap:=(Go.Sort.partition ltInt u a' b' q).2.1) (mid:=(Go.Sort.partition ltInt u a' b' q).1) swo (Go.Sort.partition_holds ltInt) hq1 hq2 (by omega) hB6 rfl
  generalize (Go.Sort.partition ltInt u a' b' q).1=mid at r1 r2 r4 r5 r6 r7 ⊢
  generalize (Go.Sort.partition ltInt u a' b' q).2.1=ap at ⊢
  generalize (Go.Sort.partition ltInt u a' b' q).2.2=v at o8 r3 r4 r5 r6 r7
  have f08:=f07.then f8
  have e3:IntKind.wrap .i64 ((mid:Int)+1)=((mid+1:Nat):Int):=wn (by omega) (by omega)
  dsimp only
  rw [e3]
  refine joinI (fun (t:Int × Int × Bool) w'=>∃ (a2 b2:Nat) (X:Array Int),t.1=(a2:Int)∧t.2.1=(b2:Int)∧a'≤a2∧a2≤b2∧b2≤b'∧b2 - a2 < b' - a'∧DA S w' s X∧X.size=d.size∧Go.Sort.Below ltInt a2 b2 X ∧
   (∀ Y,PermIn a2 b2 X Y→SortedIn ltInt a2 b2 Y→PermIn a b d Y∧SortedIn ltInt a b Y)∧Fr (OwnB s) w w') ?_ ?_
  ·refine condD (fun _=>?_) fun _=>?_
   ·refine ih (mid - a') (by omega) o8 (by omega) r1 (by omega) r4 (Nat.le_refl _) fun L w9 o9 p9 s9 f9=>?_
    obtain ⟨y1,y2⟩:=r6 L p9 s9
    have:=p9.1
    refine ⟨mid+1,b',L,rfl,rfl,by omega,by omega,by omega,by omega,o9,by omega,y1,fun Y z1 z2=>?_,f08.then f9⟩
    obtain ⟨x1,x2⟩:=y2 Y z1 z2
    exact cl Y (Go.Sort.permIn_trans _ _ _ _ _ p6 x1) x2
   ·refine ih (b' - (mid+1)) (by omega) o8 (by omega) (by omega) (by omega) r5 (Nat.le_refl _) fun L w9 o9 p9 s9 f9=>?_
    obtain ⟨y1,y2⟩:=r7 L p9 s9
    have:=p9.1
    refine ⟨a',mid,L,rfl,rfl,by omega,by omega,by omega,by omega,o9,by omega,y1,fun Y z1 z2=>?_,f08.then f9⟩
    obtain ⟨x1,x2⟩:=y2 Y z1 z2
    exact cl Y (Go.Sort.permIn_trans _ _ _ _ _ p6 x1) x2
  ·rintro ⟨t1,t2,t3⟩ w9 ⟨a2,b2,X,e4,e5,h1,h2,h3,h4,o9,hz9,hB9,cl9,f9⟩
   dsimp only at e4 e5 ⊢
   subst e4; subst e5
   refine ⟨⟨a2,b2,X,rfl,rfl,by omega,h2,by omega,o9,hz9,hB9,cl9,f9⟩,?_⟩
   show ((b2:Int) - (a2:Int)).toNat < ((b':Int) - (a':Int)).toNat
   omega
section
variable {R:Type} {Q:R→World→Prop} {w:World} {S:Nat→Prop} {s:Sl} {l:List Int}
theorem Zrp (h:Den.Own S w 5 bT s l) (hm:l.length≤1048576) {K:Res []→W R} (hk:∀ l' w',Den.Own S w' 5 bT s l'→l'.Perm l→l'.Pairwise (·≤·)→Fr (OwnB s) w w'→K () Q w') :
  callW Tryz.prog Z5x [.slice s.a s.n s.c] [] K Q w:=by
 have hn:s.n=l.length:=h.len
 refine Zej _ K Q w ?_
 unfold Z9b
 have e:IntKind.wrap .u64 (s.n:Int)=(s.n:Int):=by rw [IntKind.wrap_u64]; omega
 rw [e]
 refine Z7x (by omega) (by omega) ?_
 have hd:DA S w s l.toArray:=h
 have es:(s.n:Int)=((l.toArray.size:Nat):Int):=by rw [hn]; simp
 rw [es]
 refine Zta l.toArray.size (a:=0) (b:=l.toArray.size) hd (by simpa using hm) (Nat.zero_le _) (Nat.le_refl _) (.inl rfl) (Nat.le_refl _) fun d' w' o p sr f=>?_
 refine hk d'.toList w' o ?_ ?_ f
 ·have:=p.2.2
  have e2:d'.extract 0 l.toArray.size=d':=by rw [← p.1]; simp
  rw [e2] at this
  simpa using this
 ·rw [List.pairwise_iff_getElem]
  intro i j hi hj hij
  have hz:=p.1
  simp only [Array.length_toList] at hi hj
  have:=sr i j (Nat.zero_le _) hij (by omega)
  rw [getElem!_pos d' j hj,getElem!_pos d' i hi] at this
  simp only [ltInt,decide_eq_false_iff_not] at this
  simp only [Array.getElem_toList]
  exact Int.not_lt.1 this
end
end Go.Proofs.YtoiahhpgkoknfaaGreat
set_option linter.unusedVariables false
namespace Go.Proofs.YtoiahhpgkoknfaaGreat
open Go Go.Proofs.YtoiahhpgkoknfaaGreat.Den
def Z7i (seq0:Value):W (Sl) :=
 callW Tryz.prog Z70 [seq0] [.sc .sl] fun (x_1:Sl) =>
 callW Tryz.prog Z5x [.slice x_1.a x_1.n x_1.c] [] fun (x_2:Unit) =>
 retW x_1
theorem Zct {R:Type} (seq0:Value) (K:Res [.sc .sl]→W R) (Q:R→World→Prop) (w:World) (h:Z7i seq0 (fun r w=>K r Q w) w):callW Tryz.prog Z4z [seq0] [.sc .sl] K Q w:=den_c (K:=K) mix Tryz.func265 {} trivial rfl (by kernel_rfl) h
def Z6r (seq0:Value):W (Sl) :=
 callW Tryz.prog Z5w [.slice none 0 0,seq0] [.sc .sl] fun (x_1:Sl) =>
 retW x_1
theorem Zbk {R:Type} (seq0:Value) (K:Res [.sc .sl]→W R) (Q:R→World→Prop) (w:World) (h:Z6r seq0 (fun r w=>K r Q w) w):callW Tryz.prog Z70 [seq0] [.sc .sl] K Q w:=den_c (K:=K) mix Tryz.func288 {} trivial rfl (by kernel_rfl) h
end Go.Proofs.YtoiahhpgkoknfaaGreat
namespace Go.Proofs.YtoiahhpgkoknfaaGreat.Den
open Go Go.RowKit
variable {R:Type} {Q:R→World→Prop} {w:World} {α β:Type}
structure All2 (p:α→β→Prop) (l:List α) (k:List β):Prop where
 len:l.length=k.length
 at_:∀ (i:Nat) (a:α) (b:β),l[i]?=some a→k[i]?=some b→p a b
theorem All2.nil (p:α→β→Prop):All2 p [] []:=⟨rfl,fun i a b h=>by simp at h⟩
theorem All2.imp {p q:α→β→Prop} {l:List α} {k:List β} (h:All2 p l k) (hi:∀ a b,p a b→q a b):All2 q l k:=⟨h.len,fun i a b h1 h2=>hi a b (h.at_ i a b h1 h2)⟩
theorem All2.snoc {p:α→β→Prop} {l:List α} {k:List β} {a:α} {b:β} (h:All2 p l k) (hp:p a b):All2 p (l ++ [a]) (k ++ [b]):=by
 refine ⟨by simp [h.len],fun i x y h1 h2=>?_⟩
 have hl:=h.len
 by_cases hi:i < l.length
 ·rw [List.getElem?_append_left hi] at h1
  rw [List.getElem?_append_left (by omega)] at h2
  exact h.at_ i x y h1 h2
 ·rw [List.getElem?_append_right (by omega)] at h1 h2
  have hz:i - l.length=0:=by have:=(List.getElem?_eq_some_iff.1 h1).1; simp at this; omega
  rw [hz] at h1
  rw [show i - k.length=0 by omega] at h2
  simp at h1 h2
  subst h1; subst h2
  exact hp
theorem All2.get {p:α→β→Prop} {l:List α} {k:List β} (h:All2 p l k) {i:Nat} {b:β} (hb:k[i]?=some b):∃ a,l[i]?=some a∧p a b:=by
 obtain ⟨hl,_⟩:=List.getElem?_eq_some_iff.1 hb
 have ha:=List.getElem?_eq_getElem (l:=l) (i:=i) (by rw [h.len]; exact hl)
 exact ⟨_,ha,h.at_ i _ b ha hb⟩
theorem All2.getL {p:α→β→Prop} {l:List α} {k:List β} (h:All2 p l k) {i:Nat} {a:α} (ha:l[i]?=some a):∃ b,k[i]?=some b∧p a b:=by
 obtain ⟨hl,_⟩:=List.getElem?_eq_some_iff.1 ha
 have hb:=List.getElem?_eq_getElem (l:=k) (i:=i) (by rw [← h.len]; exact hl)
 exact ⟨_,hb,h.at_ i a _ ha hb⟩
theorem All2.take {p:α→β→Prop} {l:List α} {k:List β} (h:All2 p l k) (n:Nat):All2 p (l.take n) (k.take n):=by
 refine ⟨by simp [h.len],fun i a b h1 h2=>?_⟩
 rw [List.getElem?_take] at h1 h2
 split at h1
 ·rename_i hi; rw [if_pos hi] at h2; exact h.at_ i a b h1 h2
 ·cases h1
theorem All2.drop {p:α→β→Prop} {l:List α} {k:List β} (h:All2 p l k) (n:Nat):All2 p (l.drop n) (k.drop n):=by
 refine ⟨by simp [h.len],fun i a b h1 h2=>?_⟩
 rw [List.getElem?_drop] at h1 h2
 exact h.at_ _ a b h1 h2
abbrev Rel (α β:Type):=(Nat→Prop)→World→α→β→Prop
def Rel.st (ρ:Rel α β):Prop:=∀ a b,St fun F w=>ρ F w a b
structure DR {t:Ty} (ρ:Rel t.T β) (ok:Nat→Prop) (w:World) (s:Sl) (raws:List t.T) (L:List β):Prop where
 sl:SlT ok w t s raws
 all:All2 (fun a b=>ρ ok w a b) raws L
theorem DR.st {t:Ty} {ρ:Rel t.T β} (hρ:ρ.st) {s:Sl} {raws:List t.T} {L:List β}:St fun F w=>DR ρ F w s raws L:=fun {_F _F' _S _w _w'} h f hs =>
 ⟨SlT.st h.sl f hs,h.all.imp fun a b hab=>hρ a b hab f hs⟩
structure DO {t:Ty} (ρ:Rel t.T β) (E:TypeId) (S:Nat→Prop) (w:World) (s:Sl) (raws:List t.T) (L:List β) (lab:Nat→Nat):Prop where
 own:Own (fun k=>S k∧lab k=0) w E t s raws
 len:raws.length=L.length
 at_:∀ (i:Nat) (a:t.T) (b:β),raws[i]?=some a→L[i]?=some b→ρ (fun k=>S k∧lab k=i+1) w a b
section
variable {t:Ty} {ρ:Rel t.T β} {E:TypeId} {S:Nat→Prop} {s:Sl} {raws:List t.T} {L:List β} {lab:Nat→Nat}
theorem DO.nil (S:Nat→Prop) (w:World):DO ρ E S w ⟨none,0,0⟩ [] [] (fun _=>0):=⟨Own.nil _ _ _ _,rfl,fun i a b h=>by simp at h⟩
theorem DO.read (hρ:ρ.st) (h:DO ρ E S w s raws L lab):DR ρ S w s raws L:=⟨SlT.st.mono h.own.sl fun _ _ e=>e.1,h.len,fun i a b h1 h2=>St.mono (A:=fun F w=>ρ F w a b) (hρ a b) (h.at_ i a b h1 h2) fun _ _ e=>e.1⟩
theorem DO.fr (hρ:ρ.st) (h:DO ρ E S w s raws L lab) {S' T:Nat→Prop} {w':World} (f:Fr T w w') (hs:∀ k,k < w.heap.size→S k→¬ T k∧S' k):DO ρ E S' w' s raws L lab :=
 ⟨Own.st h.own f fun k hk e=>⟨(hs k hk e.1).1,(hs k hk e.1).2,e.2⟩,h.len,fun i a b h1 h2=>hρ a b (h.at_ i a b h1 h2) f fun k hk e=>⟨(hs k hk e.1).1,(hs k hk e.1).2,e.2⟩⟩
theorem DO.fr0 (hρ:ρ.st) (h:DO ρ E S w s raws L lab) {w':World} (f:Fr None w w'):DO ρ E S w' s raws L lab:=h.fr hρ f fun _ _ e=>⟨fun h=>h,e⟩
theorem DO.app {P:Program} {T ty:TypeId} {bytes:Nat} (H:SlTy P T E t bytes) (hρ:ρ.st) {w1:World} (h:DO ρ E S w1 s raws L lab) (f:Fr None w1 w) (hS:∀ k,w1.heap.size≤k→S k) {a:t.T} {b:β} (hab:ρ (fun k=>w1.heap.size≤k) w a b)
  {cs:List Value} (hc:cs=t.cells a) (hb:(L.length+1) * bytes≤140737488355328) (hm:L.length+1≤9223372036854775807) {K:Sl→W R}
  (hk:∀ r lab' w',DO ρ E S w' r (raws ++ [a]) (L ++ [b]) lab'→Fr (fun k=>s.v.ownBlock=some k) w w'→K r Q w') :
  newW E cs (fun x=>rawW P (Builtin.append_ #[T,T] ty #[.slice s.a s.n s.c,.slice (some x) 1 1]) [.sc .sl] K) Q w:=by
 have hfs:=f.size
 have hl:=h.len
 have o1:Own (fun k=>(S k∧lab k=0∧k < w1.heap.size)∨w.heap.size≤k) w E t s raws:=Own.st h.own f fun k hk e=>⟨fun h=>h,.inl ⟨e.1,e.2,hk⟩⟩
 have own0:∀ k,s.v.ownBlock=some k→lab k=0∧k < w1.heap.size:=fun k e=>⟨(h.own.own k e).2,h.own.lt e⟩
 refine appP H hc o1 (fun k e=>.inr e) (by rw [hl]; exact hb) (by rw [hl]; exact hm) fun r w' o' f'=>?_
 have hfs':=f'.size
 refine hk r (fun k=>if k < w1.heap.size then lab k else if k < w.heap.size then L.length+1 else 0) w' ⟨?_,by simp [hl],fun i x y h1 h2=>?_⟩ f'
 ·refine o'.mono fun k _ e=>?_
  rcases e with e | e
  ·exact ⟨e.1,by simp only [if_pos e.2.2]; exact e.2.1⟩
  ·exact ⟨hS k (by omega),by simp only [if_neg (show ¬ k < w1.heap.size by omega),if_neg (show ¬ k < w.heap.size by omega)]⟩
 ·by_cases hi:i < raws.length
  ·rw [List.getElem?_append_left hi] at h1
   rw [List.getElem?_append_left (by omega)] at h2
   have h3:=h.at_ i x y h1 h2
   refine hρ x y h3 (f.any.then f') fun k hk e=>⟨fun e2=>?_,e.1,?_⟩
   ·have:=(own0 k e2).1; omega
   ·simp only [if_pos hk]; exact e.2
  ·rw [List.getElem?_append_right (by omega)] at h1 h2
   have hz:i - raws.length=0:=by have:=(List.getElem?_eq_some_iff.1 h1).1; simp at this; omega
   rw [hz] at h1
   rw [show i - L.length=0 by omega] at h2
   simp at h1 h2
   subst h1; subst h2
   refine hρ a b hab f' fun k hk e=>⟨fun e2=>?_,hS k e,?_⟩
   ·have:=(own0 k e2).2; omega
   ·have e:w1.heap.size≤k:=e
    simp only [if_neg (show ¬ k < w1.heap.size by omega),if_pos hk]
    omega
end
end Go.Proofs.YtoiahhpgkoknfaaGreat.Den
namespace Go.Proofs.YtoiahhpgkoknfaaGreat
open Go Go.RowKit Go.Proofs.YtoiahhpgkoknfaaGreat.Den
variable {R:Type} {Q:R→World→Prop} {w:World}
abbrev Rk:Value→Option (DataW Unit × List MemPlace):=fun _=>some (.lit (.bool true),[])
theorem Den.MapB.keysD {b:Nat} {f:Int→Option Value} (h:MapB Tryz.prog 5 (Value.int .u8) w b f) (hf:∀ i v,f i=some v→0≤i∧i < 64) :
  ∃ D0:DataW Unit,w.ownsMap Tryz.prog 5 Rk b 64 D0∧(∀ x,Go.Maps.has D0 (.int .u8 x)=true↔(f x).isSome=true)∧Go.Maps.size D0≤64:=by
 obtain ⟨es,clock,hb,hst,hks,hki,hpw,hff⟩:=h
 have hlen:es.toList.length≤64:=by
  have h1:(es.toList.map (·.key)).length≤((List.range 64).map fun (n:Nat)=>Value.int .u8 (n:Int)).length:=List.Nodup.length_le_of_subset hst.2.2 fun k hk=>by
   obtain ⟨x,hx,rfl⟩:=List.mem_map.1 hk
   obtain ⟨i,hi⟩:=hki x hx
   obtain ⟨h0,h1⟩:=hf i x.val ((hff i _).2 ⟨x,hx,hi,rfl⟩)
   exact List.mem_map.2 ⟨i.toNat,by simp; omega,by rw [hi]; congr 1; omega⟩
  simpa using h1
 have hrd:∀ x∈es.toList,∃ i:Int,x.key=.int .u8 i∧Go.WideElems.rg Tryz.prog 5 Rk x=(.int .u8 i,.lit (.bool true)):=fun x hx=>by
  obtain ⟨l,hl⟩:=hks x hx
  obtain ⟨i,hi,rfl,_⟩:=Seq.Maps.keyOf_u8 Zjf hl
  refine ⟨i,hi,Go.WideElems.rg_of ?_⟩
  simp [Go.WideElems.rd,hl,Rk]
 refine ⟨.map ((es.toList.map (Go.WideElems.rg Tryz.prog 5 Rk)).foldr DataW.insert []),⟨es,clock,hb,⟨?_,hst,fun x hx=>?_⟩,?_,rfl⟩,fun x=>?_,?_⟩
 ·rw [Zn]; simp at hlen; omega
 ·obtain ⟨l,hl⟩:=hks x hx
  exact ⟨_,by simp [Go.WideElems.rd,hl,Rk]; rfl⟩
 ·simpa using hlen
 ·rw [Go.Maps.has_eq,List.any_eq_true]
  constructor
  ·rintro ⟨p,hp,hs⟩
   obtain ⟨e,he,rfl⟩:=List.mem_map.1 (mem_sorted.1 hp)
   obtain ⟨i,hi,hr⟩:=hrd e he
   rw [hr] at hs
   have:i=x:=by simpa [Lit.sameKey] using hs
   subst this
   rw [(hff i e.val).2 ⟨e,he,hi,rfl⟩]; rfl
  ·intro hs
   obtain ⟨v,hv⟩:=Option.isSome_iff_exists.1 hs
   obtain ⟨e,he,hk,_⟩:=(hff x v).1 hv
   obtain ⟨i,hi,hr⟩:=hrd e he
   have:i=x:=by rw [hk] at hi; cases hi; rfl
   subst this
   exact ⟨_,mem_sorted.2 (List.mem_map.2 ⟨e,he,rfl⟩),by rw [hr]; simp [Lit.sameKey]⟩
 ·rw [Go.Maps.size_eq,(Go.WideShapes.sorted_perm _).length_eq,List.length_map]; exact hlen
theorem Zsn (l:List Int):l.flatMap bT.cells=l.map Seq.encB:=by
 induction l with
 | nil=>rfl
 | cons x r ih=>rw [List.flatMap_cons,ih]; rfl
theorem Zir {b B:Nat} {f:Int→Option Value} (h:MapB Tryz.prog 5 (Value.int .u8) w b f) (hf:∀ i v,f i=some v→0≤i∧i < 64) {T:TypeId} (hB:Blk w B T [.map (some b)]) {K:Res [.sc .sl]→W R}
  (hk:∀ s l w',Den.Own (Up w.heap.size) w' 5 bT s l→l.Nodup→(∀ x,x∈l↔(f x).isSome=true)→l.length≤64→Fr None w w'→K s Q w') :
  callW Tryz.prog Z5w [.slice none 0 0,.func (.func Z7o) #[] #[.pointer (some ⟨B,0,none⟩)]] [.sc .sl] K Q w:=by
 obtain ⟨D0,hown,hhas,hsz⟩:=h.keysD hf
 have hcell:w.cell? ⟨B,0,none⟩=some (.map (some b)):=hB.rd (s:=.map) (i:=0) (x:=some b) rfl
 have hseq:=Seq.bk_keys_gives (R:=Rk) Fence.wide (3 - 1) trivial rfl (by decide) B b 64 D0 w hB.lt hcell hown
 have:=Seq.bk_appendSeq_in Fence.wide 3 trivial rfl (by decide) Z7o #[.pointer (some ⟨B,0,none⟩)] trivial (enters_of Tryz.func290 (by kernel_rfl) rfl)
  (Seq.KeysB D0) (Go.Maps.size D0) (by rw [Zn]; omega) (by omega) w hseq
 refine (callsIn_wide.1 this).mono fun e w' ⟨v,ss,he,hK,hrow,_,hbl⟩=>?_
 have hfr:Fr None w w':=⟨hbl.os,hbl.tape,hbl.output,hbl.size,fun k hk _=>hbl.block k hk⟩
 have hlen:ss.length≤64:=by
  have h1:ss.length≤((List.range 64).map fun (n:Nat)=>(n:Int)).length:=List.Nodup.length_le_of_subset hK.1 fun k hk=>by
   obtain ⟨v,hv⟩:=Option.isSome_iff_exists.1 ((hhas k).1 ((hK.2 k).1 hk))
   obtain ⟨h0,h1⟩:=hf k v hv
   exact List.mem_map.2 ⟨k.toNat,by simp; omega,by omega⟩
  simpa using h1
 obtain ⟨s,rfl,hs⟩:∃ s:Sl,v=s.v∧Den.Own (Up w.heap.size) w' 5 bT s ss:=by
  rcases hrow.2 with ⟨rfl,h0⟩ | ⟨g,cap,cur,rfl,hg,h3,h4,h5,h6,h7⟩
  ·have:ss=[]:=List.eq_nil_of_length_eq_zero h0
   subst this
   exact ⟨⟨none,0,0⟩,rfl,Den.Own.nil _ _ _ _⟩
  ·exact ⟨⟨some ⟨g,0,none⟩,ss.length,cap⟩,rfl,Den.Own.mk' hg h3 h4 h5 h6 (by rw [Zsn]; exact h7)⟩
 exact ⟨s,he,hk s ss w' hs hK.1 (fun x=>(hK.2 x).trans (hhas x)) hlen hfr⟩
theorem Zit {b:Nat} {f:Int→Option Value} (h:MapB Tryz.prog 5 (Value.int .u8) w b f) (hf:∀ i v,f i=some v→0≤i∧i < 64) {K:Res [.sc .sl]→W R}
  (hk:∀ s l w',Den.Own (Up w.heap.size) w' 5 bT s l→l.Nodup→(∀ x,x∈l↔(f x).isSome=true)→l.length≤64→l.Pairwise (·≤·)→Fr None w w'→K s Q w') :
  callW Tryz.prog Z6g [.map (some b)] [.sc .raw] (fun v=>callW Tryz.prog Z4z [v] [.sc .sl] K) Q w:=by
 refine Zfu _ _ _ _ ?_
 unfold Za6
 refine newI fun w1 B1 f1 s1=>?_
 refine Zct _ _ _ _ ?_
 unfold Z7i
 refine Zbk _ _ _ _ ?_
 unfold Z6r
 refine Zir (h.fr f1 fun h=>h) hf B1 fun s l w2 o2 hn hm hl f2=>?_
 have hs1:=f1.size
 refine Zrp o2 (by omega) fun l' w3 o3 hp hpw f3=>?_
 refine hk s l' w3 (o3.up hs1) (hp.nodup_iff.2 hn) (fun x=>(hp.mem_iff).trans (hm x)) (by rw [hp.length_eq]; exact hl) hpw ?_
 exact (f1.then0 f2).newer f3 fun k e=>by have:w1.heap.size≤k:=o2.own k e; omega
abbrev grpT:Ty:=.agg [.int .u8,.sl]
theorem Zu6:SlTy Tryz.prog 318 321 grpT 32:=slTy (by kernel_rfl)
def grpO:Rel (Int × Sl) (Int × List Int):=fun F w r g=>r.1=g.1∧Den.Own F w 34 idT r.2 g.2
theorem Zr0:grpO.st:=fun _ _=>fun ⟨h1,h2⟩ f hs=>⟨h1,Den.Own.st h2 f hs⟩
def grpL (T:Nat→List Ent) (l:List Int):List (Int × List Int):=(l.filter fun m=>decide (T m.toNat≠[])).map fun m=>(m,(T m.toNat).map (·.1))
def groupsM (T:Nat→List Ent):List (Int × List Int):=grpL T ((List.range 64).map fun (n:Nat)=>(n:Int))
theorem Zqz (T:Nat→List Ent) (l:List Int) (m:Int):grpL T (l ++ [m])=if T m.toNat≠[] then grpL T l ++ [(m,(T m.toNat).map (·.1))] else grpL T l:=by
 unfold grpL
 rw [List.filter_append]
 by_cases h:T m.toNat≠[]
 ·rw [if_pos h,List.filter_cons_of_pos (by simpa using h)]; simp
 ·rw [if_neg h,List.filter_cons_of_neg (by simpa using h)]; simp
theorem Zow (T:Nat→List Ent) (l:List Int):(grpL T l).length≤l.length:=by
 unfold grpL; rw [List.length_map]; exact List.length_filter_le _ _
theorem Zsr {T:Nat→List Ent} {l:List Int} (hn:l.Nodup) (hs:l.Pairwise (·≤·)) (hm:∀ x:Int,(0≤x∧x < 64∧T x.toNat≠[])→x∈l) (hb:∀ x∈l,0≤x∧x < 64):grpL T l=groupsM T:=by
 unfold groupsM grpL
 congr 1
 refine List.Perm.eq_of_pairwise (le:=fun a b=>a≤b) (fun a b _ _ h1 h2=>Int.le_antisymm h1 h2) (hs.filter _) (List.Pairwise.filter _ ?_) ?_
 ·rw [List.pairwise_map]
  exact (List.pairwise_lt_range).imp fun h=>by omega
 ·refine (List.perm_ext_iff_of_nodup (List.Pairwise.filter _ hn) (List.Pairwise.filter _ ?_)).2 fun x=>?_
  ·rw [List.pairwise_map]
   exact (List.pairwise_lt_range).imp fun h=>by omega
  ·rw [List.mem_filter,List.mem_filter]
   constructor
   ·rintro ⟨h1,h2⟩
    obtain ⟨h3,h4⟩:=hb x h1
    exact ⟨List.mem_map.2 ⟨x.toNat,by simp; omega,by omega⟩,h2⟩
   ·rintro ⟨h1,h2⟩
    obtain ⟨n,hn,rfl⟩:=List.mem_map.1 h1
    simp at hn
    exact ⟨hm _ ⟨by omega,by omega,by simpa using h2⟩,h2⟩
theorem Zgg {F:Nat→Prop} {b:Nat} {x:StM} (h:Store b x F w) {K:Res [.sc .sl]→W R}
  (hk:∀ r raws lab w',DO grpO (t:=grpT) 321 (Up w.heap.size) w' r raws (groupsM x.tab) lab→Fr None w w'→K r Q w') :
  callW Tryz.prog Z7q [.pointer (some ⟨b,0,none⟩)] [.sc .sl] K Q w:=by
 obtain ⟨ok,lab,sb,tb,hb,tp,D,hF,hR⟩:=h
 refine Zcv _ K Q w ?_
 unfold Z7k
 refine condF rfl (ptrI (fldI hR.blk.2 (x:=some tb) rfl ?_))
 have htf:∀ i v,tabsF tp D i=some v→0≤i∧i < 64:=fun i v hv=>by
  unfold tabsF at hv
  split at hv
  ·rename_i h; exact ⟨h.1,h.2.1⟩
  ·cases hv
 have hti:∀ i,(tabsF tp D i).isSome=true↔0≤i∧i < 64∧D i.toNat=true:=fun i=>by
  unfold tabsF
  split
  ·rename_i h; simpa using h
  ·rename_i h; simpa using h
 refine Zit hR.tabs.2 htf fun s l w1 o1 hn hm hl hs f1=>?_
 have hs1:=f1.size
 refine rangeI (t:=bT) (ok:=Up w.heap.size) (l:=l) (fun s:Sl × Int=>s.2) (fun j st w'=>st.2=(j:Int)∧Fr None w1 w'∧∃ raws lab',DO grpO (t:=grpT) 321 (Up w1.heap.size) w' st.1 raws (grpL x.tab (l.take j)) lab') rfl ⟨rfl,Fr.refl _ _,[],_,DO.nil _ _⟩ (fun j st w' h=>h.1) (fun j st w' hp=>o1.sl.fr0 hp.2.1) ?_ ?_
 ·rintro j y ⟨out,_⟩ w2 K' hy ⟨rfl,f2,raws,lab',hD⟩ - hK
  have hjl:=(List.getElem?_eq_some_iff.1 hy).1
  have hs2:=f2.size
  have R2:=hR.fr0 (f1.then0 f2)
  obtain ⟨h0,h64,hDm⟩:=(hti y).1 ((hm y).1 (List.mem_of_getElem? hy))
  obtain ⟨m,rfl⟩:∃ m:Nat,y=(m:Int):=⟨y.toNat,(Int.toNat_of_nonneg h0).symm⟩
  rw [Int.toNat_natCast] at hDm
  have hm64:m < 64:=by omega
  refine ptrI (fldI R2.blk.2 (x:=some tb) rfl (R2.lookTab hm64 ?_))
  rw [if_pos hDm]
  obtain ⟨lt,hlt,htab⟩:=R2.tab m hm64 hDm
  have hsn:=Zqz x.tab (l.take j) (m:Int)
  rw [Int.toNat_natCast,← Z1q hy] at hsn
  have hgl:=Zow x.tab (l.take j)
  rw [List.length_take] at hgl
  refine Zh2 htab ?_
  refine joinI (fun (z:Sl) w'=>Fr None w1 w'∧∃ raws lab',DO grpO (t:=grpT) 321 (Up w1.heap.size) w' z raws (grpL x.tab (l.take (j+1))) lab') ?_ ?_
  ·refine condD (fun hp=>?_) fun hp=>?_
   ·have hp:((x.tab m).length:Int) > 0:=hp
    have hne:x.tab m≠[]:=fun e=>by rw [e] at hp; simp at hp
    rw [if_pos hne] at hsn
    rw [hsn]
    refine Znb htab fun r w3 o3 f3=>?_
    refine hD.app (a:=((m:Int),r)) (b:=((m:Int),(x.tab m).map (·.1))) Zu6 Zr0 f3 (fun k e=>Nat.le_trans hs2 e) ⟨rfl,o3⟩ rfl (by omega) (by omega) fun r' lab2 w4 hD4 f4=>?_
    exact ⟨(f2.then0 f3).newer f4 fun k e=>(hD.own.own k e).1,_,lab2,hD4⟩
   ·have hp:¬ ((x.tab m).length:Int) > 0:=hp
    have he:x.tab m=[]:=List.eq_nil_of_length_eq_zero (by omega)
    rw [if_neg (fun h=>h he)] at hsn
    rw [hsn]
    exact ⟨f2,raws,lab',hD⟩
  ·rintro z w3 ⟨f3,raws',lab2,hD3⟩
   exact hK _ _ ⟨wsucc hjl (by omega),f3,raws',lab2,hD3⟩
 ·rintro ⟨out,_⟩ w2 ⟨-,f2,raws,lab',hD⟩
  rw [List.take_length] at hD
  have e:grpL x.tab l=groupsM x.tab:=Zsr hn hs (fun y ⟨h1,h2,h3⟩=>(hm y).2 ((hti y).2 ⟨h1,h2,by
   cases hDy:D y.toNat with
   | true=>rfl
   | false=>exact absurd (hR.no y.toNat (by omega) hDy) h3⟩)) fun y hy=>by
    have:=(hti y).1 ((hm y).1 hy)
    exact ⟨this.1,this.2.1⟩
  rw [e] at hD
  exact hk out raws lab' w2 (hD.fr Zr0 (Fr.refl None w2) fun k _ e=>⟨fun h=>h,Nat.le_trans hs1 e⟩) (f1.then0 f2)
end Go.Proofs.YtoiahhpgkoknfaaGreat
namespace Go.Proofs.YtoiahhpgkoknfaaGreat
open Go Go.RowKit Go.Proofs.YtoiahhpgkoknfaaGreat.Den
theorem SM.mem_ids {s:SM} (hs:s.used.length=s.n) {id:Int}:∀ {j:Nat},j≤s.n→(id∈s.ids j↔∃ (i:Nat) (g:Int),i < j∧id=idOf i g∧s.used[i]?=some true∧s.gen[i]?=some g)
 | 0,_=>by simp [SM.ids]
 | j+1,h=>by
  have hj:j < s.used.length:=by omega
  have hg:j < s.gen.length:=h
  rw [SM.ids,List.mem_append,SM.mem_ids hs (by omega),List.getElem?_eq_getElem hj,List.getElem?_eq_getElem hg]
  constructor
  ·rintro (⟨i,g,h1,h2⟩ | h1)
   ·exact ⟨i,g,by omega,h2⟩
   ·cases hu:s.used[j] with
    | true =>
     rw [hu] at h1
     simp only [List.mem_singleton] at h1
     exact ⟨j,s.gen[j],by omega,h1,by rw [List.getElem?_eq_getElem hj,hu],List.getElem?_eq_getElem hg⟩
    | false=>rw [hu] at h1; cases h1
  ·rintro ⟨i,g,h1,h2,h3,h4⟩
   by_cases hij:i=j
   ·subst hij
    rw [List.getElem?_eq_getElem hj] at h3
    rw [List.getElem?_eq_getElem hg] at h4
    simp only [Option.some.injEq] at h3 h4
    right
    rw [h3,h4]
    simpa using h2
   ·exact .inl ⟨i,g,by omega,h2,h3,h4⟩
theorem SM.ids_slots {s:SM} (hs:s.used.length=s.n) (hn:s.n≤1024):∀ {j:Nat},j≤s.n→(s.ids j).Pairwise fun a b=>slotOf a < slotOf b
 | 0,_=>List.Pairwise.nil
 | j+1,h=>by
  rw [SM.ids,List.pairwise_append]
  refine ⟨SM.ids_slots hs hn (by omega),?_,fun a ha b hb=>?_⟩
  ·split
   ·exact List.pairwise_singleton _ _
   ·exact List.Pairwise.nil
  ·obtain ⟨i,g,h1,rfl,_,_⟩:=(SM.mem_ids hs (by omega)).1 ha
   split at hb
   ·simp only [List.mem_singleton] at hb
    subst hb
    rw [Ze3 (by omega),Ze3 (by omega)]
    omega
   ·cases hb
theorem SMOk.mem_list {s:SM} (h:SMOk s) {id:Int}:id∈s.list↔s.live id=true:=by
 unfold SM.list
 rw [SM.mem_ids h.len (Nat.le_refl _),Zb3]
 constructor
 ·rintro ⟨i,g,h1,h2,h3,h4⟩
  exact ⟨i,g,h2,by have:=h.le; omega,h3,h4⟩
 ·rintro ⟨i,g,h2,_,h3,h4⟩
  exact ⟨i,g,(List.getElem?_eq_some_iff.1 h4).1,h2,h3,h4⟩
theorem SMOk.list_slots {s:SM} (h:SMOk s):s.list.Pairwise fun a b=>slotOf a < slotOf b:=SM.ids_slots h.len h.le (Nat.le_refl _)
theorem SMOk.list_nodup {s:SM} (h:SMOk s):s.list.Nodup:=h.list_slots.imp fun hab e=>by subst e; omega
def fitB (m all non:Int):Bool:=bAnd .u8 m all == all && bAnd .u8 m non == 0
def fitE (x:StM) (all non:Int) (id:Int):Bool:=match homeT x.tab id with
 | some m=>fitB (m:Int) all non
 | none=>false
def withL (x:StM) (all non:Int):List Int:=x.s.list.filter (fitE x all non)
def grpIds (_T:Nat→List Ent) (all non:Int) (l:List (Int × List Int)):List Int:=l.flatMap fun g=>if fitB g.1 all non then g.2 else []
theorem Zpx {x:StM} (h:StOk x) (all non id:Int):id∈grpIds x.tab all non (groupsM x.tab)↔x.s.live id=true∧fitE x all non id=true:=by
 unfold grpIds groupsM grpL
 simp only [List.mem_flatMap,List.mem_map,List.mem_filter,List.mem_range]
 constructor
 ·rintro ⟨g,⟨m,⟨⟨k,hk,rfl⟩,h2⟩,rfl⟩,h3⟩
  rw [Int.toNat_natCast] at h3
  dsimp only at h3
  split at h3
  ·rename_i hf
   obtain ⟨e,he,rfl⟩:=List.mem_map.1 h3
   have hi:inT x.tab k e.1:=Z9w.2 ⟨e,he,rfl⟩
   refine ⟨(h.live _).1 ⟨k,hk,hi⟩,?_⟩
   unfold fitE
   rw [h.home_at hk hi]
   exact hf
  ·cases h3
 ·rintro ⟨h1,h2⟩
  obtain ⟨m,hm,hi⟩:=(h.live id).2 h1
  unfold fitE at h2
  rw [h.home_at hm hi] at h2
  obtain ⟨e,he,rfl⟩:=Z9w.1 hi
  refine ⟨_,⟨(m:Int),⟨⟨m,hm,rfl⟩,?_⟩,rfl⟩,?_⟩
  ·rw [Int.toNat_natCast]
   exact decide_eq_true fun e2=>by rw [e2] at he; cases he
  ·dsimp only at h2 ⊢
   rw [if_pos h2,Int.toNat_natCast]
   exact List.mem_map.2 ⟨e,he,rfl⟩
theorem Zme {x:StM} (h:StOk x) (all non:Int):(grpIds x.tab all non (groupsM x.tab)).Nodup:=by
 unfold grpIds groupsM grpL
 rw [List.flatMap]
 refine List.pairwise_flatten.2 ⟨?_,?_⟩
 ·intro l hl
  simp only [List.mem_map,List.mem_filter,List.mem_range] at hl
  obtain ⟨g,⟨m,⟨⟨k,hk,rfl⟩,h2⟩,rfl⟩,rfl⟩:=hl
  dsimp only
  split
  ·rw [Int.toNat_natCast]; exact (h.tab k hk).nodup
  ·exact List.nodup_nil
 ·rw [List.map_map,List.pairwise_map]
  refine List.Pairwise.filter _ ?_
  rw [List.pairwise_map]
  refine (List.pairwise_lt_range (n:=64)).imp_of_mem fun {a b} ha hb hab=>?_
  rw [List.mem_range] at ha hb
  intro y hy1 z hz1 e
  subst e
  simp only [Function.comp_apply,Int.toNat_natCast] at hy1 hz1
  split at hy1
  ·split at hz1
   ·obtain ⟨e1,he1,rfl⟩:=List.mem_map.1 hy1
    obtain ⟨e2,he2,h3⟩:=List.mem_map.1 hz1
    have:=h.uniq a b e1.1 ha hb (Z9w.2 ⟨e1,he1,rfl⟩) (Z9w.2 ⟨e2,he2,h3⟩)
    omega
   ·cases hz1
  ·cases hy1
theorem Zi7 {x:StM} (h:StOk x) (all non:Int):(grpIds x.tab all non (groupsM x.tab)).Perm (withL x all non):=by
 refine (List.perm_ext_iff_of_nodup (Zme h all non) (List.Pairwise.filter _ h.s.list_nodup)).2 fun id=>?_
 rw [Zpx h,List.mem_filter,h.s.mem_list]
theorem Zjg {x:StM} (h:StOk x) (all non:Int):(withL x all non).Pairwise fun a b=>slotOf a < slotOf b:=List.Pairwise.filter _ h.s.list_slots
theorem Zch {x:StM} (h:StOk x) {all non id:Int} (hi:id∈withL x all non):x.s.live id=true:=h.s.mem_list.1 (List.mem_filter.1 hi).1
theorem Zlx {x:StM} (h:StOk x) {all non id:Int} (hi:id∈withL x all non):IdOk id:=(h.s.live_id (Zch h hi)).1
theorem Zfs {x:StM} (h:StOk x) (all non:Int):(withL x all non).length≤1024:=by
 have h1:(withL x all non).length≤x.s.list.length:=List.length_filter_le _ _
 have h2:=Zpd h.s h.s.list_nodup fun id hi=>h.s.mem_list.1 hi
 have:=h.s.le
 omega
theorem Zng {x:StM} (h:StOk x) {all non:Int} {l:List Int} (hp:l.Perm (withL x all non)) (hs:l.Pairwise fun a b=>slotOf a≤slotOf b):l=withL x all non:=by
 refine List.Perm.eq_of_pairwise (le:=fun a b=>slotOf a≤slotOf b) (fun a b ha hb h1 h2=>?_) hs ((Zjg h all non).imp fun h=>Int.le_of_lt h) hp
 have ha':a∈withL x all non:=hp.mem_iff.1 ha
 obtain ⟨i,hi⟩:=List.mem_iff_getElem?.1 ha'
 obtain ⟨j,hj⟩:=List.mem_iff_getElem?.1 hb
 obtain ⟨hil,hie⟩:=List.getElem?_eq_some_iff.1 hi
 obtain ⟨hjl,hje⟩:=List.getElem?_eq_some_iff.1 hj
 have hw:=List.pairwise_iff_getElem.1 (Zjg h all non)
 rcases Nat.lt_trichotomy i j with hlt | rfl | hlt
 ·have:=hw i j hil hjl hlt; rw [hie,hje] at this; omega
 ·rw [hi] at hj; cases hj; rfl
 ·have:=hw j i hjl hil hlt; rw [hie,hje] at this; omega
end Go.Proofs.YtoiahhpgkoknfaaGreat
namespace Go.Proofs.YtoiahhpgkoknfaaGreat
open Go Go.RowKit Go.Proofs.YtoiahhpgkoknfaaGreat.Den
variable {R:Type} {Q:R→World→Prop} {w:World}
abbrev Ordr:=Int × Int × Int × List Comp
abbrev OrdRaw:=Int × Int × Int × Sl
abbrev ordT:Ty:=.agg [.int .u8,.int .u32,.int .u8,.sl]
abbrev ordC (r:OrdRaw):List Value:=[.int .u8 r.1,.int .u32 r.2.1,.int .u8 r.2.2.1,.slice r.2.2.2.a r.2.2.2.n r.2.2.2.c]
abbrev resT:Ty:=.agg [.int .i64,.int .u32]
theorem Zo6:SlTy Tryz.prog 30 37 ordT 40:=slTy (by kernel_rfl)
theorem Zue:SlTy Tryz.prog 39 71 resT 16:=slTy (by kernel_rfl)
instance decIL:DecidableEq (Int × List Comp):=instDecidableEqProd
instance decIIL:DecidableEq (Int × Int × List Comp):=instDecidableEqProd
instance decIIIL:DecidableEq (Int × Int × Int × List Comp):=instDecidableEqProd
def ordR:Rel OrdRaw Ordr:=fun F w r o=>r.1=o.1∧r.2.1=o.2.1∧r.2.2.1=o.2.2.1∧SlT F w compT r.2.2.2 o.2.2.2
def ordO:Rel OrdRaw Ordr:=fun F w r o=>r.1=o.1∧r.2.1=o.2.1∧r.2.2.1=o.2.2.1∧Den.Own F w 52 compT r.2.2.2 o.2.2.2
theorem Za2:ordR.st:=fun _ _=>fun ⟨h1,h2,h3,h4⟩ f hs=>⟨h1,h2,h3,SlT.st h4 f hs⟩
theorem Zgd:ordO.st:=fun _ _=>fun ⟨h1,h2,h3,h4⟩ f hs=>⟨h1,h2,h3,Den.Own.st h4 f hs⟩
theorem ordO.r {F:Nat→Prop} {r:OrdRaw} {o:Ordr} (h:ordO F w r o):ordR F w r o:=⟨h.1,h.2.1,h.2.2.1,h.2.2.2.sl⟩
structure OrdOk (o:Ordr):Prop where
 do_:0≤o.1∧o.1≤255
 id:IdOk o.2.1
 kind:0≤o.2.2.1∧o.2.2.1≤255
 comps:∀ c∈o.2.2.2,CompOk c
def chk1 (l:List Comp):Int:=match l with
 | [c]=>checkM c
 | _=>4
def chk0 (l:List Comp):Int:=match l with
 | []=>0
 | _=>4
def ochk (o:Ordr):Int:=if o.1=1 then listE o.2.2.2 else if o.1=2 then chk0 o.2.2.2 else if o.1=3∨o.1=4 then chk1 o.2.2.2 else if o.1=5∧o.2.2.1 < 6 then chk0 o.2.2.2 else 1
theorem Zii (a b c:Int) (l:List Comp):ochk (a,b,c,l)=if a=1 then listE l else if a=2 then chk0 l else if a=3∨a=4 then chk1 l else if a=5∧c < 6 then chk0 l else 1:=rfl
section
variable {ok:Nat→Prop} {r:OrdRaw} {o:Ordr}
theorem Zba {s:Sl} {l:List Comp} (hS:SlT ok w compT s l) {K:Res [.sc (.int .i64)]→W R} (hk:K (chk0 l) Q w):callW Tryz.prog Z7u [.slice s.a s.n s.c] [.sc (.int .i64)] K Q w:=by
 refine Zkt _ K Q w ?_
 unfold Zex
 have:=hS.len
 cases l with
 | nil=>exact condF (decide_eq_false (by simp at this; omega)) hk
 | cons c r=>exact condT (decide_eq_true (by simp at this; omega)) hk
theorem Ziz {s:Sl} {l:List Comp} (hS:SlT ok w compT s l) {K:Res [.sc (.int .i64)]→W R} (hk:∀ w',Fr None w w'→K (chk1 l) Q w'):callW Tryz.prog Zc1 [.slice s.a s.n s.c] [.sc (.int .i64)] K Q w:=by
 refine Zm3 _ K Q w ?_
 unfold Zgo
 have hlen:=hS.len
 have hk':=hk w (Fr.refl _ _)
 refine condN (fun h=>?_) fun h=>?_
 ·have e:chk1 l=4:=by
   rcases l with _ | ⟨c,_ | ⟨c2,r⟩⟩
   ·rfl
   ·simp at hlen; omega
   ·rfl
  rw [e] at hk'
  exact hk'
 ·rcases l with _ | ⟨c,_ | ⟨c2,r⟩⟩
  ·simp at hlen; omega
  ·refine hS.get (j:=0) rfl rfl (by simp) fun x hx=>?_
   simp at hx
   subst hx
   exact Z3a (c:=c) hk
  ·simp at hlen; omega
theorem Zaq (h:ordR ok w r o) (hsm:Small o.2.2.2) {K:Res [.sc (.int .i64)]→W R} (hk:∀ w',Fr None w w'→K (ochk o) Q w'):callW Tryz.prog Z6m [.agg ⟨ordC r⟩] [.sc (.int .i64)] K Q w:=by
 obtain ⟨a,b,c,l⟩:=o
 obtain ⟨a',b',c',s⟩:=r
 obtain ⟨h1,h2,h3,hS⟩:=h
 dsimp only at h1 h2 h3 hS hsm hk ⊢
 subst h1; subst h2; subst h3
 refine Zji _ K Q w ?_
 unfold Zd0
 refine newI fun w1 B1 f1 s1=>fldI B1 (x:=a') rfl ?_
 have hS1:=hS.fr0 f1
 refine condE (fun e=>?_) fun n1=>?_
 ·refine fldI B1 (x:=s) rfl (Z77 hS1 hsm fun w2 f2=>?_)
  have:=hk w2 (f1.then0 f2)
  rw [Zii,if_pos e] at this
  exact this
 refine condE (fun e=>?_) fun n2=>?_
 ·refine fldI B1 (x:=s) rfl (Zba hS1 ?_)
  have:=hk w1 f1
  rw [Zii,if_neg n1,if_pos e] at this
  exact this
 refine joinI (fun z w'=>z=decide (a'=3∨a'=4)∧w'=w1) ?_ ?_
 ·refine condE (fun e=>⟨by simp [e],rfl⟩) fun n3=>⟨?_,rfl⟩
  by_cases e:a'=4 <;> simp [n3,e]
 rintro z w' ⟨rfl,rfl⟩
 refine condD (fun e=>?_) fun n3=>?_
 ·refine fldI B1 (x:=s) rfl (Ziz hS1 fun w2 f2=>?_)
  have:=hk w2 (f1.then0 f2)
  rw [Zii,if_neg n1,if_neg n2,if_pos e] at this
  exact this
 have key:¬ (a'=5∧c' < 6)→K 1 Q w':=fun h=>by
  have:=hk w' f1
  rw [Zii,if_neg n1,if_neg n2,if_neg n3,if_neg h] at this
  exact this
 refine joinI (fun _ w2=>w2=w'∧¬ (a'=5∧c' < 6)) ?_ fun _ w2 ⟨e,h⟩=>by subst e; exact key h
 refine condE (fun e=>?_) fun n5=>⟨rfl,fun h=>n5 h.1⟩
 refine fldI B1 (x:=c') rfl (condD (fun e6=>?_) fun n6=>⟨rfl,fun h=>n6 h.2⟩)
 refine fldI B1 (x:=s) rfl (Zba hS1 ?_)
 have:=hk w' f1
 rw [Zii,if_neg n1,if_neg n2,if_neg n3,if_pos ⟨e,e6⟩] at this
 exact this
end
theorem Zu9 {a b:Operand} {x y:Int × Int} {K:Bool→W R} (hk:K (!decide (x=y)) Q w):rawQ Tryz.prog (do Go.eqGuard .neq 71 a b (.agg ⟨[.int .i64 x.1,.int .u32 x.2]⟩) (.agg ⟨[.int .i64 y.1,.int .u32 y.2]⟩); Go.binOp .neq 71 (.agg ⟨[.int .i64 x.1,.int .u32 x.2]⟩) (.agg ⟨[.int .i64 y.1,.int .u32 y.2]⟩)) [.sc .bool] K Q w:=by
 have e:((x.1 == y.1) && ((x.2 == y.2) && true))=decide (x=y):=by
  obtain ⟨a,b⟩:=x; obtain ⟨c,d⟩:=y
  rw [Bool.eq_iff_iff]
  simp
 refine neqI (r:=((x.1 == y.1) && ((x.2 == y.2) && true))) (by kernel_rfl) (by kernel_rfl) ?_
 rw [e]
 exact hk
theorem Zhd {ok ok2:Nat→Prop} {s s2:Sl} {l l2:List (Int × Int)} (hS:SlT ok w resT s l) (hS2:SlT ok2 w resT s2 l2) (hsm:Small l) {K:Res [.sc .bool]→W R} (hk:∀ w',Fr None w w'→K (decide (l=l2)) Q w') :
  callW Tryz.prog Z2v [.slice s.a s.n s.c,.slice s2.a s2.n s2.c] [.sc .bool] K Q w:=by
 refine Z8w _ _ K Q w ?_
 unfold Z4n
 have h1:=hS.len
 have h2:=hS2.len
 refine condN (fun hne=>?_) fun heq=>?_
 ·have e:=hk w (Fr.refl _ _)
  rw [decide_eq_false (fun e=>hne (by rw [h1,h2,e]))] at e
  exact e
 refine forI (N:=s.n) (fun s:Int=>s) (fun j s w'=>s=j∧Fr None w w'∧l.take j=l2.take j) ⟨rfl,Fr.refl _ _,rfl⟩ (fun j s w' h=>h.1) ?_ ?_
 ·rintro j i w1 K' hj ⟨rfl,f1,ht⟩ - hK
  refine (hS.fr0 f1.drew).get rfl rfl (by omega) fun x hx=>?_
  refine (hS2.fr0 f1.drew).get rfl rfl (by omega) fun y hy=>Zu9 ?_
  refine condI (fun hb=>?_) fun hb=>?_
  ·have e:=hk _ f1.drew
   rw [decide_eq_false (fun e=>by subst e; rw [hx] at hy; cases hy; simp at hb)] at e
   exact e
  ·have hb:x=y:=by simpa using hb
   subst hb
   exact hK _ _ ⟨wsucc hj (by omega),f1.drew,by rw [Z1q hx,Z1q hy,ht]⟩
 ·rintro i w1 ⟨rfl,f1,ht⟩
  have e:=hk _ f1
  rw [h1,List.take_length,List.take_of_length_le (by omega)] at ht
  rw [decide_eq_true ht] at e
  exact e
def fewO (L:List Ordr) (n:Nat):List Ordr:=(L.take n).map fun o=>(o.1,o.2.1,o.2.2.1,o.2.2.2.take 20)
theorem Zn2 {ok:Nat→Prop} {s:Sl} {raws:List OrdRaw} {L:List Ordr} (h:DR ordR (t:=ordT) ok w s raws L) (hcap:s.c≤9223372036854775807) {n:Nat} (hn:n≤1000) (hcs:∀ r∈raws,r.2.2.2.c≤9223372036854775807) {K:Res [.sc .sl]→W R}
  (hk:∀ r raws' w',Den.Own (Up w.heap.size) w' 37 ordT r raws'→All2 (fun a b=>ordR ok w' a b) raws' (fewO L n)→Fr None w w'→K r Q w'):callW Tryz.prog Z41 [.slice s.a s.n s.c,.int .i64 (n:Int)] [.sc .sl] K Q w:=by
 refine Zeh _ _ K Q w ?_
 unfold Z99
 have hl:=h.all.len
 have hsl:=h.sl.len
 have hsc:=h.sl.cap
 let few1:Ordr→Ordr:=fun o=>(o.1,o.2.1,o.2.2.1,o.2.2.2.take 20)
 refine rangeC (t:=ordT) (fun s:Sl × Int=>s.2) (fun j st w'=>st.2=(j:Int)∧Fr None w w'∧∃ raws',Den.Own (Up w.heap.size) w' 37 ordT st.1 raws'∧All2 (fun a b=>ordR ok w a b) raws' ((L.take (min j n)).map few1)) rfl rfl rfl ⟨rfl,Fr.refl _ _,[],Den.Own.nil _ _ _ _,by simp; exact All2.nil _⟩ (fun j st w' h=>h.1) (fun j st w' hp=>h.sl.fr0 hp.2.1) ?_ ?_
 ·rintro j x ⟨o,_⟩ w1 w2 K' hx ⟨rfl,f1,raws',ho,hall⟩ - B2 f2 s2 hK
  obtain ⟨b,hb,h1,h2,h3,hS⟩:=h.all.getL hx
  have hjl:=(List.getElem?_eq_some_iff.1 hb).1
  have f02:=f1.then0 f2
  have hlr:=hall.len
  rw [List.length_map,List.length_take] at hlr
  refine joinI (fun o' w'=>Fr None w w'∧∃ raws',Den.Own (Up w.heap.size) w' 37 ordT o' raws'∧All2 (fun a b=>ordR ok w a b) raws' ((L.take (min (j+1) n)).map few1)) ?_ ?_
  ·refine condD (fun hlt=>?_) fun hge=>?_
   ·have hjn:j < n:=by have:(j:Int) < (n:Int):=hlt; omega
    refine fldI B2 (x:=x.2.2.2) rfl (fldI B2 (x:=x.2.2.2) rfl ?_)
    have hxl:=hS.len
    have hxc:=hS.cap
    have hxm:=hcs x (List.mem_of_getElem? hx)
    refine (hS.fr0 f02).cutI (n:=min b.2.2.2.length 20) (by split <;> omega) (by omega) fun sl _ hsl=>?_
    refine setA (i:=3) B2 (show 3 < 4 by omega) rfl fun w4 B4 f4 s4=>aggI B4 (x:=(x.1,x.2.1,x.2.2.1,sl)) rfl ?_
    have f14:Fr None w1 w4:=f2.newer f4 fun k e=>by omega
    have o4:=ho.none f14
    have hs1:=f1.size
    have hs14:=f14.size
    refine appP (x:=((x.1,x.2.1,x.2.2.1,sl):OrdRaw)) Zo6 rfl o4 (fun k e=>by show w.heap.size≤k; omega) (by omega) (by omega) fun r w5 o5 f5=>⟨(f1.then0 f14).newer f5 fun k e=>o4.own k e,raws' ++ [((x.1,x.2.1,x.2.2.1,sl):OrdRaw)],o5,?_⟩
    have e1:(L.take (min (j+1) n)).map few1=(L.take (min j n)).map few1 ++ [few1 b]:=by
     rw [Nat.min_eq_left (by omega),Nat.min_eq_left (by omega),Z1q hb,List.map_append]; rfl
    rw [e1]
    refine hall.snoc ⟨h1,h2,h3,?_⟩
    show SlT ok w compT sl (b.2.2.2.take 20)
    have:=hsl ok w hS
    rwa [Nat.min_comm,← List.take_take,List.take_length] at this
   ·have hjn:¬ j < n:=by have:¬ (j:Int) < (n:Int):=hge; omega
    refine ⟨f02,raws',ho.none f2,?_⟩
    rw [Nat.min_eq_right (by omega)]
    rw [Nat.min_eq_right (by omega)] at hall
    exact hall
  ·rintro o' w5 ⟨f5,raws',o5,hall⟩
   exact hK _ _ ⟨wsucc (N:=L.length) hjl (by omega),f5,raws',o5,hall⟩
 ·rintro ⟨o,_⟩ w1 ⟨_,f1,raws',ho,hall⟩
  rw [hl,Nat.min_comm,← List.take_take,List.take_length] at hall
  refine hk o raws' w1 ho (hall.imp fun a b hab=>Za2 a b hab f1 fun _ _ e=>⟨fun h=>h,e⟩ |> fun h=>h) f1
end Go.Proofs.YtoiahhpgkoknfaaGreat
namespace Go.Proofs.YtoiahhpgkoknfaaGreat
open Go Go.RowKit Go.Proofs.YtoiahhpgkoknfaaGreat.Den
variable {R:Type} {Q:R→World→Prop} {w:World}
abbrev entT:Ty:=.agg [.int .u32,.sl]
abbrev entC (r:Int × Sl):List Value:=[.int .u32 r.1,.slice r.2.a r.2.n r.2.c]
theorem Zl5:SlTy Tryz.prog 46 49 entT 32:=slTy (by kernel_rfl)
structure EntsR (ok:Nat→Prop) (w:World) (raws:List (Int × Sl)) (L:List Ent):Prop where
 len:raws.length=L.length
 at_:∀ (i:Nat) (r:Int × Sl) (e:Ent),raws[i]?=some r→L[i]?=some e→r.1=e.1∧SlT ok w compT r.2 e.2
theorem EntsR.fr {ok S:Nat→Prop} {w':World} {raws:List (Int × Sl)} {L:List Ent} (h:EntsR ok w raws L) (f:Fr S w w') (hn:∀ k,ok k→¬ S k):EntsR ok w' raws L :=
 ⟨h.len,fun i r e h1 h2=>⟨(h.at_ i r e h1 h2).1,(h.at_ i r e h1 h2).2.fr f hn⟩⟩
theorem EntsR.mono {ok ok':Nat→Prop} {raws:List (Int × Sl)} {L:List Ent} (h:EntsR ok w raws L) (hn:∀ k,k < w.heap.size→ok k→ok' k):EntsR ok' w raws L :=
 ⟨h.len,fun i r e h1 h2=>⟨(h.at_ i r e h1 h2).1,(h.at_ i r e h1 h2).2.mono hn⟩⟩
theorem EntsR.get {ok:Nat→Prop} {raws:List (Int × Sl)} {L:List Ent} (h:EntsR ok w raws L) {i:Nat} {e:Ent} (he:L[i]?=some e):∃ r,raws[i]?=some r∧r.1=e.1∧SlT ok w compT r.2 e.2:=by
 obtain ⟨hl,_⟩:=List.getElem?_eq_some_iff.1 he
 have hr:=List.getElem?_eq_getElem (l:=raws) (i:=i) (by rw [h.len]; exact hl)
 exact ⟨_,hr,h.at_ i _ e hr he⟩
theorem EntsR.nil (ok:Nat→Prop) (w:World):EntsR ok w [] []:=⟨rfl,fun i r e h=>by simp at h⟩
structure RefR (lab:Nat→Nat) (w:World) (b m:Nat) (s:Sl) (raws:List (Int × Sl)) (L:List Ent):Prop where
 blk:Blk w b 146 [.int .u8 (m:Int),.slice s.a s.n s.c]
 lb:lab b=1
 own:Den.Own (fun k=>lab k=2) w 49 entT s raws
 ents:EntsR (fun k=>lab k=3) w raws L
 lt:∀ k,lab k≠0→k < w.heap.size
section
variable {lab:Nat→Nat} {b m:Nat} {s:Sl} {raws:List (Int × Sl)} {L:List Ent}
theorem RefR.fr (h:RefR lab w b m s raws L) {S:Nat→Prop} {w':World} (f:Fr S w w') (hn:∀ k,lab k≠0→¬ S k):RefR lab w' b m s raws L :=
 ⟨h.blk.fr f (hn b (by rw [h.lb]; omega)),h.lb,h.own.fr f fun k e=>hn k (by omega),h.ents.fr f fun k e=>hn k (by omega),fun k e=>Nat.lt_of_lt_of_le (h.lt k e) f.size⟩
theorem RefR.fr0 (h:RefR lab w b m s raws L) {w':World} (f:Fr None w w'):RefR lab w' b m s raws L:=h.fr f fun _ _ h=>h
theorem EntsR.relab (h:EntsR (fun k=>lab k=3) w raws L) (n' c:Nat):EntsR (fun k=>relab lab w.heap.size n' c k=3) w raws L:=h.mono fun k hk e=>by rw [Z4 hk]; exact e
theorem RefR.grow (h:RefR lab w b m s raws L) {w':World} (f:Fr None w w') (c:Nat):RefR (relab lab w.heap.size w'.heap.size c) w' b m s raws L :=
 ⟨h.blk.fr f (fun h=>h),by rw [Z4 h.blk.lt]; exact h.lb,(h.own.relab _ _).none f,(h.ents.relab _ _).fr f (fun _ _ h=>h),fun k e=>by
  rcases Z2a e with ⟨_,h⟩ | ⟨_,h⟩
  ·exact Nat.lt_of_lt_of_le h f.size
  ·exact h⟩
theorem RefR.app (h:RefR lab w b m s raws L) (hroom:L.length < 1048576) {id:Int} {tw:Sl} {l:List Comp} (ht:SlT (fun k=>lab k=3) w compT tw l) {ty:TypeId} {K:W R}
  (hk:∀ lab' s' w',RefR lab' w' b m s' (raws ++ [(id,tw)]) (L ++ [(id,l)])→(∀ k,lab' k≠0→lab k≠0∨w.heap.size≤k)→Fr (fun k=>lab k≠0) w w'→K Q w') :
  newW 49 (entC (id,tw)) (fun x_9=>rawW Tryz.prog (Builtin.append_ #[46,46] ty #[.slice s.a s.n s.c,.slice (some x_9) 1 1]) [.sc .sl] fun (x_10:Sl) =>
   ptrW (some ⟨b,0,none⟩) fun x_11=>stoL (Addr.add x_11 1) [.slice x_10.a x_10.n x_10.c] 0 K) Q w:=by
 refine newI fun w5 B5 f5 s5=>?_
 have ho5:=h.own.none f5
 have hrl:raws.length=L.length:=h.ents.len
 refine app1 (x:=(id,tw)) (S':=fun k=>lab k=2∨w.heap.size≤k) Zl5 ho5 B5 rfl (by omega) (by rw [Zn]; omega) (fun _ h=>.inl h) (.inr (by omega)) fun r w6 o6 f6 s6=>?_
 have f6':Fr (fun k=>lab k=2) w5 w6:=f6.mono fun k _ e=>ho5.own k e
 refine ptrI ?_
 rw [Z3]
 have hbl:=h.blk.lt
 have hB6:=(h.blk.fr f5 (fun h=>h)).fr f6' (fun e=>by have:=h.lb; omega)
 refine setI (i:=0+1) hB6 (by simp) rfl fun w7 B7 f7 s7=>?_
 have f17:Fr (fun k=>k=b∨lab k=2) w w7:=(f5.trans f6' (U:=fun k=>k=b∨lab k=2) (fun _ h=>h.elim) (fun _ _ h=>.inr h)).trans f7 (fun _ h=>h) (fun x _ e=>.inl e)
 refine hk (relab lab w.heap.size w7.heap.size 2) r w7 ⟨B7,by rw [Z4 hbl]; exact h.lb,?_,⟨by simp [hrl],?_⟩,fun k e=>?_⟩ (fun k e=>?_) (f17.mono fun k _ e=>by rcases e with rfl | e; (rw [h.lb]; omega); omega)
 ·refine (o6.fr f7 fun q hq e=>?_).mono fun q hq e=>?_
  ·rw [e] at hq
   rcases hq with hq | hq
   ·rw [h.lb] at hq; omega
   ·omega
  ·rcases e with e | e
   ·rw [Z4 (h.lt q (by omega))]; exact e
   ·exact Z4c e hq
 ·intro i r' e' h1 h2
  have keep:∀ {sl:Sl} {ll:List Comp},SlT (fun k=>lab k=3) w compT sl ll→SlT (fun k=>relab lab w.heap.size w7.heap.size 2 k=3) w7 compT sl ll:=fun hs =>
   (hs.fr f17 fun k hk e=>by rcases e with rfl | e; (have:=h.lb; omega); omega).mono fun k _ hk=>by rw [Z4 (h.lt k (by omega))]; exact hk
  by_cases hi:i < raws.length
  ·rw [List.getElem?_append_left hi] at h1
   rw [List.getElem?_append_left (by omega)] at h2
   obtain ⟨h3,h4⟩:=h.ents.at_ i r' e' h1 h2
   exact ⟨h3,keep h4⟩
  ·rw [List.getElem?_append_right (by omega)] at h1 h2
   have hz:i - raws.length=0:=by have:=(List.getElem?_eq_some_iff.1 h1).1; simp at this; omega
   rw [hz] at h1
   rw [show i - L.length=0 by omega] at h2
   simp at h1 h2
   subst h1; subst h2
   exact ⟨rfl,keep ht⟩
 ·rcases Z2a e with ⟨_,h⟩ | ⟨_,h⟩
  ·exact Nat.lt_of_lt_of_le h f17.size
  ·exact h
 ·rcases Z2a e with ⟨h,_⟩ | ⟨h,_⟩
  ·exact .inl h
  ·exact .inr h
end
structure Ref (lab:Nat→Nat) (w:World) (b m:Nat) (L:List Ent):Prop where
 ok:TabOk m L
 rep:∃ s raws,RefR lab w b m s raws L
theorem Ref.fr {lab:Nat→Nat} {b m:Nat} {L:List Ent} (h:Ref lab w b m L) {S:Nat→Prop} {w':World} (f:Fr S w w') (hn:∀ k,lab k≠0→¬ S k):Ref lab w' b m L:=by
 obtain ⟨s,raws,r⟩:=h.rep
 exact ⟨h.ok,s,raws,r.fr f hn⟩
theorem Ref.fr0 {lab:Nat→Nat} {b m:Nat} {L:List Ent} (h:Ref lab w b m L) {w':World} (f:Fr None w w'):Ref lab w' b m L:=h.fr f fun _ _ h=>h
theorem Ref.lt {lab:Nat→Nat} {b m:Nat} {L:List Ent} (h:Ref lab w b m L) {k:Nat} (e:lab k≠0):k < w.heap.size:=by
 obtain ⟨s,raws,r⟩:=h.rep
 exact r.lt k e
section
variable {lab:Nat→Nat} {b m:Nat} {L:List Ent}
def rowI (L:List Ent) (id:Int):Int:=match rowM L id with
 | some i=>(i:Int)
 | none=>-1
theorem Zi4 {m:Nat} {l:List Comp} (h:Valid m l) (k:Int):(findM l k < 0∧k ∉ kindsOf m)∨(∃ q:Nat,findM l k=(q:Int)∧l[q]?=some (k,fieldsOf l k)∧k∈kindsOf m):=by
 unfold findM
 cases hf:l.findIdx? (fun c=>c.1 == k) with
 | none =>
  left
  refine ⟨by simp,fun hk=>?_⟩
  rw [List.findIdx?_eq_none_iff] at hf
  rw [← h.kinds] at hk
  obtain ⟨c,hc,rfl⟩:=List.mem_map.1 hk
  have:=hf c hc
  simp at this
 | some q =>
  right
  rw [List.findIdx?_eq_some_iff_getElem] at hf
  obtain ⟨hq,h1,_⟩:=hf
  have h1:(l[q]).1=k:=by simpa using h1
  refine ⟨q,rfl,?_,?_⟩
  ·rw [List.getElem?_eq_getElem hq,← h1,Z9n h.rising (List.getElem_mem hq)]
  ·rw [← h.kinds,← h1]; exact List.mem_map_of_mem (List.getElem_mem hq)
theorem Zsq (m:Nat) (L:List Ent) (id k:Int):(getM m L id k).2=match rowM L id with
  | none=>7
  | some _=>if k∈kindsOf m then 0 else 10:=by
 unfold getM
 cases rowM L id with
 | none=>rfl
 | some i=>simp only []; split <;> rfl
theorem EntsR.drop {ok:Nat→Prop} {raws:List (Int × Sl)} {L:List Ent} (h:EntsR ok w raws L) (i:Nat):EntsR ok w (dropI raws i) (dropI L i):=by
 refine ⟨by rw [Z8j,Z8j,h.len],fun q r e h1 h2=>?_⟩
 by_cases h0:L=[]
 ·subst h0; simp [dropI] at h2
 ·have hp:0 < L.length:=List.length_pos_iff.2 h0
  have hl:=h.len
  obtain ⟨z,hz⟩:∃ z,raws[raws.length - 1]?=some z:=⟨_,List.getElem?_eq_getElem (by omega)⟩
  obtain ⟨y,hy⟩:∃ y,L[L.length - 1]?=some y:=⟨_,List.getElem?_eq_getElem (by omega)⟩
  rw [Z6w hz] at h1
  rw [Z6w hy] at h2
  rw [hl] at h1
  by_cases hq:q < L.length - 1
  ·rw [if_pos hq] at h1 h2
   by_cases hqi:q=i
   ·rw [if_pos hqi] at h1 h2
    cases h1; cases h2
    rw [hl] at hz
    exact h.at_ _ _ _ hz hy
   ·rw [if_neg hqi] at h1 h2
    exact h.at_ q r e h1 h2
  ·rw [if_neg hq] at h1; cases h1
end
end Go.Proofs.YtoiahhpgkoknfaaGreat
namespace Go.Proofs.YtoiahhpgkoknfaaGreat
open Go Go.RowKit Go.ChangeShapes Go.WideShapes Go.ChangeAt Go.Proofs.YtoiahhpgkoknfaaGreat.Den
variable {R:Type} {Q:R→World→Prop} {w:World} {H:Type} {enc:TypeId × Value→H}
theorem Den.deep_of {α β:Type} {p:α→β→Prop} {l:List α} (h:∀ a∈l,∃ b,p a b):∃ k,All2 p l k:=by
 induction l with
 | nil=>exact ⟨[],All2.nil _⟩
 | cons a r ih =>
  obtain ⟨b,hb⟩:=h a List.mem_cons_self
  obtain ⟨k,hk⟩:=ih fun x hx=>h x (List.mem_cons_of_mem _ hx)
  refine ⟨b :: k,by simp [hk.len],fun i x y h1 h2=>?_⟩
  rcases i with _ | i
  ·simp at h1 h2; subst h1; subst h2; exact hb
  ·simp at h1 h2; exact hk.at_ i x y h1 h2
abbrev Old (W:World):Nat→Prop:=fun k=>k < W.heap.size
theorem Zpn {s:Sl} (h:LeafOk enc Tryz.prog w 35 (.slice s.a s.n s.c)):∃ l,SlT (Old w) w compT s l∧(∀ c∈l,CompOk c)∧s.c≤maxLen:=by
 obtain ⟨s',l,e,h2,h3,h4⟩:=h.slice Zqp
 have e':s=s':=by
  have e:Value.slice s.a s.n s.c=Value.slice s'.a s'.n s'.c:=e
  simp only [Value.slice.injEq] at e
  obtain ⟨e1,e2,e3⟩:=e
  cases s; cases s'; simp_all
 subst e'
 exact ⟨l,h2,fun c hc=>Zu1 (h4 c hc),h3⟩
end Go.Proofs.YtoiahhpgkoknfaaGreat
namespace Go.Proofs.YtoiahhpgkoknfaaGreat
open Go Go.RowKit Go.ChangeShapes Go.WideShapes Go.ChangeAt Go.Proofs.YtoiahhpgkoknfaaGreat.Den
variable {R:Type} {Q:R→World→Prop} {w:World} {H:Type} {enc:TypeId × Value→H}
theorem Zuk:Tryz.prog.underlying 28=some (.int .u32):=by kernel_rfl
structure EntIn (W:World) (r:Int × Sl) (e:Ent):Prop where
 id:r.1=e.1
 sl:SlT (Old W) W compT r.2 e.2
 ok:IdOk e.1
 comps:∀ c∈e.2,CompOk c
 cap:r.2.c≤maxLen
theorem EntIn.ents {raws:List (Int × Sl)} {L:List Ent} (h:All2 (EntIn w) raws L):EntsR (Old w) w raws L:=⟨h.len,fun i r e h1 h2=>⟨(h.at_ i r e h1 h2).id,(h.at_ i r e h1 h2).sl⟩⟩
end Go.Proofs.YtoiahhpgkoknfaaGreat
namespace Go.Proofs.YtoiahhpgkoknfaaGreat
open Go Go.RowKit Go.ChangeShapes Go.WideShapes Go.ChangeAt Go.Deep Go.Proofs.YtoiahhpgkoknfaaGreat.Den
variable {w:World} {H:Type} {enc:TypeId × Value→H}
end Go.Proofs.YtoiahhpgkoknfaaGreat
namespace Go.Proofs.YtoiahhpgkoknfaaGreat
open Go Go.RowKit Go.ChangeShapes Go.WideShapes Go.ChangeAt Go.Proofs.YtoiahhpgkoknfaaGreat.Den
variable {R:Type} {Q:R→World→Prop} {w:World} {H:Type} {enc:TypeId × Value→H}
theorem Zq0:SlArg Tryz.prog 30 37 ordT [5,34,5,35] :=
 ⟨by kernel_rfl,by kernel_rfl,by decide,by kernel_rfl,⟨[.int .u8,.int .u32,.int .u8,.sl],by kernel_rfl,.inl rfl⟩⟩
def OrdIn (W:World) (r:OrdRaw) (o:Ordr):Prop:=ordR (Old W) W r o∧OrdOk o∧r.2.2.2.c≤maxLen
theorem Zsy {r:OrdRaw} (h:AllLeaf enc Tryz.prog w [5,34,5,35] (ordT.cells r)):∃ o,OrdIn w r o:=by
 obtain ⟨_,h⟩:=h
 obtain ⟨_,e,h0⟩:=(h 0 _ _ rfl rfl).int Zjf
 cases e
 obtain ⟨_,e,h1⟩:=(h 1 _ _ rfl rfl).int Zoy
 cases e
 obtain ⟨_,e,h2⟩:=(h 2 _ _ rfl rfl).int Zjf
 cases e
 obtain ⟨l,h3,h4,h5⟩:=Zpn (s:=r.2.2.2) (h 3 _ _ rfl rfl)
 exact ⟨(r.1,r.2.1,r.2.2.1,l),⟨rfl,rfl,rfl,h3⟩,⟨wf_u8 h0,Ztw h1,wf_u8 h2,h4⟩,h5⟩
theorem Zre {raws:List OrdRaw} (h:∀ r∈raws,AllLeaf enc Tryz.prog w [5,34,5,35] (ordT.cells r)):∃ L,All2 (OrdIn w) raws L:=deep_of fun r hr=>Zsy (h r hr)
end Go.Proofs.YtoiahhpgkoknfaaGreat
namespace Go.Proofs.YtoiahhpgkoknfaaGreat
open Go Go.RowKit Go.ChangeShapes Go.WideShapes Go.ChangeAt Go.Proofs.YtoiahhpgkoknfaaGreat.Den
variable {R:Type} {Q:R→World→Prop} {w:World} {H:Type} {enc:TypeId × Value→H}
theorem Den.SlT.read {ok:Nat→Prop} {t:Ty} {s:Sl} {l:List t.T} (h:SlT ok w t s l) {sz:Nat} (hsz:sz=t.size) {i:Int} {j:Nat} (hi:i=j) {x:t.T} (hj:l[j]?=some x) {K:Addr→W R} (hk:∀ a,Rd w a t x→K a Q w) :
  (idxW s.a s.n sz i K) Q w:=by
 subst hi; subst hsz
 have hjl:=(List.getElem?_eq_some_iff.1 hj).1
 have hn:=h.len
 rcases h.at_ with e | ⟨b,o,ha,_,_,hrd⟩
 ·rw [e] at hjl; simp at hjl
 ·rw [ha]
  refine ⟨_,rfl,by omega,by omega,hk _ ?_⟩
  rw [Z3,Int.toNat_natCast]
  exact hrd j x hj
theorem Zra {α:Type} {L:List α} {i:Nat} {a e:α} (hi:L[i]?=some a) (he:e∈L) (hne:e≠a):e∈dropI L i:=by
 have hil:=(List.getElem?_eq_some_iff.1 hi).1
 obtain ⟨j,hj⟩:=List.mem_iff_getElem?.1 he
 have hjl:=(List.getElem?_eq_some_iff.1 hj).1
 have hji:j≠i:=fun h=>by subst h; rw [hi] at hj; exact hne (Option.some.inj hj).symm
 have hz:=List.getElem?_eq_getElem (l:=L) (i:=L.length - 1) (by omega)
 unfold dropI
 rw [hz]
 by_cases hlast:j=L.length - 1
 ·subst hlast
  rw [hz] at hj
  have hez:=Option.some.inj hj
  refine List.mem_of_getElem? (i:=i) ?_
  rw [List.getElem?_take,if_pos (by omega),List.getElem?_set_self hil,hez]
 ·refine List.mem_of_getElem? (i:=j) ?_
  rw [List.getElem?_take,if_pos (by omega),List.getElem?_set_ne (Ne.symm hji)]
  exact hj
theorem StOk.at_of2 {x:StM} (h:StOk x) {m i:Nat} {e:Ent} (hm:m < 64) (he:(x.tab m)[i]?=some e):x.at e.1=some (m,i,e):=by
 have hr:=Ze2 (h.tab m hm).nodup he
 have hh:=h.home_at hm (show inT x.tab m e.1 from by unfold inT; rw [hr]; rfl)
 unfold StM.at
 rw [hh]
 simp only [hr,he]
def Has (x:StM) (e:Ent):Prop:=∃ m,m < 64∧e∈x.tab m
theorem StOk.has_of {x:StM} (h:StOk x) {id:Int} (hl:x.s.live id=true):∃ e,Has x e∧e.1=id∧x.ent id=(e,0):=by
 have:=h.at_live id
 rw [hl] at this
 obtain ⟨⟨m,i,e⟩,ha⟩:=Option.isSome_iff_exists.1 this
 obtain ⟨_,h1,_,h2,h3,_⟩:=h.at_some ha
 exact ⟨e,⟨m,h1,List.mem_of_getElem? h2⟩,h3,by unfold StM.ent; rw [ha]⟩
theorem Zss {T:Nat→List Ent} {m i:Nat} {a e:Ent} (hi:(T m)[i]?=some a) (hne:e.1≠a.1) {k:Nat} (he:e∈T k):e∈upd T m (dropI (T m) i) k:=by
 by_cases hk:k=m
 ·subst hk; rw [Z4l]; exact Zra hi he fun h=>hne (by rw [h])
 ·rw [Z1w hk]; exact he
theorem Zu7 {T:Nat→List Ent} {id:Int} {l:List Comp} {e:Ent} {k:Nat} (he:e∈T k):e∈putT T id l k:=by
 unfold putT
 by_cases hk:k=maskN l
 ·subst hk; rw [Z4l]; exact List.mem_append_left _ he
 ·rw [Z1w hk]; exact he
theorem Zkz {x:StM} (h:StOk x) {id:Int} {e:Ent} (hne:e.1≠id) (he:Has x e):Has (x.despawn id).2 e:=by
 obtain ⟨k,hk,hi⟩:=he
 unfold StM.despawn
 cases ha:x.at id with
 | none=>exact ⟨k,hk,hi⟩
 | some p =>
  obtain ⟨m,i,a⟩:=p
  obtain ⟨_,_,_,h2,h3,_⟩:=h.at_some ha
  exact ⟨k,hk,Zss h2 (by rw [h3]; exact hne) hi⟩
theorem Zbv {x:StM} (h:StOk x) {id:Int} {c:Comp} {e:Ent} (hne:e.1≠id) (he:Has x e):Has (x.set id c).2 e:=by
 obtain ⟨k,hk,hi⟩:=he
 unfold StM.set
 split
 ·exact ⟨k,hk,hi⟩
 ·cases ha:x.at id with
  | none=>exact ⟨k,hk,hi⟩
  | some p =>
   obtain ⟨m,i,a⟩:=p
   obtain ⟨_,_,_,h2,h3,_⟩:=h.at_some ha
   simp only
   split
   ·refine ⟨k,hk,?_⟩
    show e∈upd _ _ _ k
    by_cases hkm:k=m
    ·subst hkm
     rw [Z4l]
     obtain ⟨j,hj⟩:=List.mem_iff_getElem?.1 hi
     refine List.mem_of_getElem? (i:=j) ?_
     unfold setL
     rw [List.getElem?_modify,hj]
     have:i≠j:=fun e2=>by subst e2; rw [h2] at hj; cases hj; exact hne h3
     simp [this]
    ·rw [Z1w hkm]; exact hi
   ·exact ⟨k,hk,hi⟩
end Go.Proofs.YtoiahhpgkoknfaaGreat
namespace Go.Proofs.YtoiahhpgkoknfaaGreat
open Go Go.RowKit Go.Proofs.YtoiahhpgkoknfaaGreat.Den
abbrev SysP:=StM × List Int
structure SysStep (step:SysP→Ent→SysP):Prop where
 ok:∀ p e,StOk p.1→Has p.1 e→StOk (step p e).1
 keep:∀ p e e',StOk p.1→Has p.1 e→e'.1≠e.1→Has p.1 e'→Has (step p e).1 e'
 len:∀ p e,(step p e).2.length≤p.2.length+1
def sysF (g:Int→Ent) (step:SysP→Ent→SysP) (p:SysP) (l:List Int):SysP:=l.foldl (fun p id=>step p (g id)) p
section
variable {g:Int→Ent} {step:SysP→Ent→SysP}
theorem Zry (p:SysP) (l:List Int) (id:Int):sysF g step p (l ++ [id])=step (sysF g step p l) (g id):=by simp [sysF]
theorem Zph (S:SysStep step):∀ (l:List Int) (p:SysP),StOk p.1→l.Nodup→(∀ i∈l,Has p.1 (g i)∧(g i).1=i)→StOk (sysF g step p l).1∧(∀ e,e.1 ∉ l→Has p.1 e→Has (sysF g step p l).1 e)∧(sysF g step p l).2.length≤p.2.length+l.length
 | [],p,h,_,_=>⟨h,fun e _ he=>he,by simp [sysF]⟩
 | a :: r,p,h,hn,hh=>by
  rw [List.nodup_cons] at hn
  obtain ⟨h1,h2⟩:=hh a List.mem_cons_self
  have hl:=S.len p (g a)
  obtain ⟨k1,k2,k3⟩:=Zph S r (step p (g a)) (S.ok p _ h h1) hn.2 fun i hi=>by
   obtain ⟨h3,h4⟩:=hh i (List.mem_cons_of_mem _ hi)
   exact ⟨S.keep p _ _ h h1 (by rw [h4,h2]; exact fun e=>hn.1 (e ▸ hi)) h3,h4⟩
  refine ⟨k1,fun e he he2=>k2 e (fun hm=>he (List.mem_cons_of_mem _ hm)) (S.keep p _ _ h h1 (by rw [h2]; exact fun e2=>he (e2 ▸ List.mem_cons_self)) he2),?_⟩
  show (sysF g step (step p (g a)) r).2.length≤_
  simp only [List.length_cons]
  omega
end
theorem Zts {step:SysP→Ent→SysP} (S:SysStep step) {x:StM} (h:StOk x) {l:List Int} (hn:l.Nodup) (hl:∀ i∈l,x.s.live i=true) {j:Nat} {id:Int} (hj:l[j]?=some id) (out:List Int) :
  StOk (sysF (fun i=>(x.ent i).1) step (x,out) (l.take j)).1∧Has (sysF (fun i=>(x.ent i).1) step (x,out) (l.take j)).1 (x.ent id).1∧(x.ent id).1.1=id∧(sysF (fun i=>(x.ent i).1) step (x,out) (l.take j)).2.length≤out.length+j ∧
   sysF (fun i=>(x.ent i).1) step (x,out) (l.take (j+1))=step (sysF (fun i=>(x.ent i).1) step (x,out) (l.take j)) (x.ent id).1:=by
 have hlive:∀ i,x.s.live i=true→Has x (x.ent i).1∧(x.ent i).1.1=i:=fun i hi=>by
  obtain ⟨e,h1,h2,h3⟩:=h.has_of hi
  rw [h3]; exact ⟨h1,h2⟩
 obtain ⟨k1,k2,k3⟩:=Zph (g:=fun i=>(x.ent i).1) S (l.take j) (x,out) h (hn.sublist (List.take_sublist _ _)) fun i hi=>hlive i (hl i (List.mem_of_mem_take hi))
 obtain ⟨h1,h2⟩:=hlive id (hl id (List.mem_of_getElem? hj))
 have hno:id ∉ l.take j:=fun hm=>by
  obtain ⟨q,hq⟩:=List.mem_iff_getElem?.1 hm
  rw [List.getElem?_take] at hq
  split at hq
  ·rename_i hqj
   obtain ⟨a1,a2⟩:=List.getElem?_eq_some_iff.1 hq
   obtain ⟨b1,b2⟩:=List.getElem?_eq_some_iff.1 hj
   have:=(List.nodup_iff_pairwise_ne.1 hn)
   have:=(List.pairwise_iff_getElem.1 this) q j a1 b1 hqj
   rw [a2,b2] at this
   exact this rfl
  ·cases hq
 refine ⟨k1,k2 _ (by rw [h2]; exact hno) h1,h2,?_,?_⟩
 ·rw [List.length_take] at k3; simp only at k3; omega
 ·rw [Z1q hj,Zry]
def skipE (fit:Ent→Bool) (step:SysP→Ent→SysP) (p:SysP) (e:Ent):SysP:=if fit e then step p e else p
theorem SysStep.skip {step:SysP→Ent→SysP} (S:SysStep step) (fit:Ent→Bool):SysStep (skipE fit step) :=
 ⟨fun p e h1 h2=>by unfold skipE; split; exact S.ok p e h1 h2; exact h1,fun p e e' h1 h2 h3 h4=>by unfold skipE; split; exact S.keep p e e' h1 h2 h3 h4; exact h4,fun p e=>by unfold skipE; split; exact S.len p e; omega⟩
theorem Has.at {x:StM} (h:StOk x) {e:Ent} (he:Has x e):∃ m i,x.at e.1=some (m,i,e)∧m < 64∧Valid m e.2∧homeT x.tab e.1=some m∧x.s.live e.1=true:=by
 obtain ⟨m,hm,hi⟩:=he
 obtain ⟨i,hi⟩:=List.mem_iff_getElem?.1 hi
 have ha:=h.at_of2 hm hi
 obtain ⟨h1,_,_,_,_,h2,h3⟩:=h.at_some ha
 exact ⟨m,i,ha,hm,h2,h1,h3⟩
def hasK (e:Ent) (k:Int):Bool:=decide (k∈kindsOf (maskN e.2))
theorem Has.get {x:StM} (h:StOk x) {e:Ent} (he:Has x e) {k:Int} (hk:hasK e k=true):x.get e.1 k=((k,fieldsOf e.2 k),0):=by
 obtain ⟨m,i,ha,hm,hv,_,_⟩:=Has.at h he
 have hk:k∈kindsOf m:=by rw [← hv.mask]; simpa [hasK] using hk
 unfold StM.get
 rw [ha]
 exact if_pos hk
theorem Has.field {x:StM} (h:StOk x) {e:Ent} (he:Has x e) {k:Int} (hk:hasK e k=true):checkM (k,fieldsOf e.2 k)=0:=by
 obtain ⟨m,i,ha,hm,hv,_,_⟩:=Has.at h he
 have hk:k∈kindsOf m:=by rw [← hv.mask]; simpa [hasK] using hk
 have he:=hv.eq
 have:(k,fieldsOf e.2 k)∈e.2:=by rw [he]; exact List.mem_map.2 ⟨k,hk,by rw [← he]⟩
 exact (Z3x.1 hv.list).1 _ this
theorem Zi0 {x:StM} {l:List Comp} {e:Ent} (he:Has x e):Has (x.spawn l).2.2 e:=by
 unfold StM.spawn
 split
 ·exact he
 ·split
  ·exact he
  ·obtain ⟨k,hk,hi⟩:=he
   exact ⟨k,hk,Zu7 hi⟩
theorem fit2 {x:StM} (h:StOk x) {all:Int} {ks:List Int} (hks:∀ m:Nat,m < 64→fitB (m:Int) all 0=ks.all fun k=>decide (k∈kindsOf m)) {id:Int} (hl:x.s.live id=true):fitE x all 0 id=ks.all fun k=>hasK (x.ent id).1 k:=by
 obtain ⟨e,he,h2,h3⟩:=h.has_of hl
 obtain ⟨m,i,ha,hm,hv,hh,_⟩:=Has.at h he
 rw [h2] at hh
 unfold fitE
 rw [hh,h3]
 simp only [hasK,hv.mask]
 exact hks m hm
theorem Zl7 {all:Int} {ks:List Int} (h:((List.range 64).all fun m=>fitB (m:Int) all 0 == ks.all fun k=>decide (k∈kindsOf m))=true):∀ m:Nat,m < 64→fitB (m:Int) all 0=ks.all fun k=>decide (k∈kindsOf m):=fun m hm=>by
 have:=List.all_eq_true.1 h m (List.mem_range.2 hm)
 simpa using this
theorem Zqx:∀ m:Nat,m < 64→fitB (m:Int) 3 0=[0,1].all fun k=>decide (k∈kindsOf m):=Zl7 (by decide +kernel)
theorem Zuv:∀ m:Nat,m < 64→fitB (m:Int) 4 0=[2].all fun k=>decide (k∈kindsOf m):=Zl7 (by decide +kernel)
theorem Zu5:∀ m:Nat,m < 64→fitB (m:Int) 33 0=[0,5].all fun k=>decide (k∈kindsOf m):=Zl7 (by decide +kernel)
def turnM (a b:Int):Int × Int:=if -524288≤a+b∧a+b≤524287 then (a+b,b) else (if a+b < 0 then -524288 else 524287,if b=-32768 then 32767 else -b)
def moveE (p:SysP) (e:Ent):SysP :=
 let a:=fieldsOf e.2 0
 let v:=fieldsOf e.2 1
 let X:=turnM a.1 v.1
 let Y:=turnM a.2.1 v.2.1
 (((p.1.set e.1 (0,X.1,Y.1,0)).2.set e.1 (1,X.2,Y.2,0)).2,if X.1=a.1∧Y.1=a.2.1 then p.2 else p.2 ++ [e.1])
def ageE (p:SysP) (e:Ent):SysP :=
 let n:=(fieldsOf e.2 2).1
 if n=0 then ((p.1.despawn e.1).2,p.2 ++ [e.1]) else ((p.1.set e.1 (2,n - 1,0,0)).2,p.2)
def childM (shape:Int) (c:Comp) (odd:Bool):List Comp :=
 [c,(1,if odd then -(64 * (shape+1)) else 64 * (shape+1),32 * (shape+1),0),(2,30+10 * shape,0,0),(3,shape,100,1+shape)]
def oddM (id:Int):Bool:=decide (slotOf id % 2=1)
def breedE (p:SysP) (e:Ent):SysP :=
 let s:=fieldsOf e.2 5
 if 0 < s.2.1 then ((p.1.set e.1 (5,s.1,s.2.1 - 1,s.2.2)).2,p.2)
 else
  let q:=p.1.spawn (childM s.2.2 (0,fieldsOf e.2 0) (oddM e.1))
  if q.2.1=0 then ((q.2.2.set e.1 (5,s.1,s.1 - 1,s.2.2)).2,p.2 ++ [q.1]) else (q.2.2,p.2)
theorem moveS:SysStep moveE :=
 ⟨fun p e h he=>(h.setM e.1 _).setM e.1 _,fun p e e' h he hne he'=>Zbv (h.setM e.1 _) hne (Zbv h hne he'),fun p e=>by unfold moveE; dsimp only; split <;> simp⟩
theorem ageS:SysStep ageE :=
 ⟨fun p e h he=>by unfold ageE; dsimp only; split; exact h.despawn e.1; exact h.setM e.1 _,fun p e e' h he hne he'=>by
  unfold ageE; dsimp only; split
  ·exact Zkz h hne he'
  ·exact Zbv h hne he',fun p e=>by unfold ageE; dsimp only; split <;> simp⟩
theorem breedS:SysStep breedE :=
 ⟨fun p e h he=>by
  unfold breedE; dsimp only; split
  ·exact h.setM e.1 _
  ·split
   ·exact (h.spawn _).setM e.1 _
   ·exact h.spawn _,fun p e e' h he hne he'=>by
  unfold breedE; dsimp only; split
  ·exact Zbv h hne he'
  ·split
   ·exact Zbv (h.spawn _) hne (Zi0 he')
   ·exact Zi0 he',fun p e=>by
  unfold breedE; dsimp only; split
  ·simp
  ·split <;> simp⟩
def entF (x:StM) (i:Int):Ent:=(x.ent i).1
def moveM (x:StM):SysP:=sysF (entF x) moveE (x,[]) (withL x 3 0)
def ageM (x:StM):SysP:=sysF (entF x) ageE (x,[]) (withL x 4 0)
def breedM (x:StM):SysP:=sysF (entF x) breedE (x,[]) (withL x 33 0)
theorem Zoz {k a b c:Int} (h:checkM (k,a,b,c)=0):(∀ p,(fieldsM k)[0]?=some p→p.2.1≤a∧a≤p.2.2)∧(∀ p,(fieldsM k)[1]?=some p→p.2.1≤b∧b≤p.2.2)∧(∀ p,(fieldsM k)[2]?=some p→p.2.1≤c∧c≤p.2.2) ∧
  ((fieldsM k)[1]?=none→b=0)∧((fieldsM k)[2]?=none→c=0):=by
 have hall:(List.range 3).all (inR (k,a,b,c))=true:=by
  unfold checkM at h
  split at h
  ·cases h
  ·split at h
   ·cases h
   ·split at h
    ·assumption
    ·cases h
 have key:∀ i,i < 3→inR (k,a,b,c) i=true:=fun i hi=>List.all_eq_true.1 hall i (List.mem_range.2 hi)
 have h0:=key 0 (by omega)
 have h1:=key 1 (by omega)
 have h2:=key 2 (by omega)
 unfold inR at h0 h1 h2
 simp only [fl] at h0 h1 h2
 refine ⟨fun p hp=>?_,fun p hp=>?_,fun p hp=>?_,fun hp=>?_,fun hp=>?_⟩
 ·rw [hp] at h0; simpa using h0
 ·rw [hp] at h1; simpa using h1
 ·rw [hp] at h2; simpa using h2
 ·rw [hp] at h1; simpa using h1
 ·rw [hp] at h2; simpa using h2
theorem Zv1 {f:F3} (h:checkM (0,f)=0):(-524288≤f.1∧f.1≤524287)∧(-524288≤f.2.1∧f.2.1≤524287)∧f.2.2=0:=by
 obtain ⟨a,b,c⟩:=f
 obtain ⟨h0,h1,_,_,h2⟩:=Zoz h
 exact ⟨h0 _ rfl,h1 _ rfl,h2 rfl⟩
theorem Zv8 {f:F3} (h:checkM (1,f)=0):(-32768≤f.1∧f.1≤32767)∧(-32768≤f.2.1∧f.2.1≤32767)∧f.2.2=0:=by
 obtain ⟨a,b,c⟩:=f
 obtain ⟨h0,h1,_,_,h2⟩:=Zoz h
 exact ⟨h0 _ rfl,h1 _ rfl,h2 rfl⟩
theorem Zu8 {f:F3} (h:checkM (2,f)=0):(0≤f.1∧f.1≤4095)∧f.2.1=0∧f.2.2=0:=by
 obtain ⟨a,b,c⟩:=f
 obtain ⟨h0,_,_,h1,h2⟩:=Zoz h
 exact ⟨h0 _ rfl,h1 rfl,h2 rfl⟩
theorem Zt8 {f:F3} (h:checkM (5,f)=0):(1≤f.1∧f.1≤255)∧(0≤f.2.1∧f.2.1≤254)∧(0≤f.2.2∧f.2.2≤15):=by
 obtain ⟨a,b,c⟩:=f
 obtain ⟨h0,h1,h2,_,_⟩:=Zoz h
 exact ⟨h0 _ rfl,h1 _ rfl,h2 _ rfl⟩
theorem Zi2 {k a b c:Int} (hn:cntM k≠0) (h:(List.range 3).all (inR (k,a,b,c))=true):checkM (k,a,b,c)=0:=by
 have ho:over (k,a,b,c)=false:=by
  unfold over
  rw [List.any_eq_false]
  intro i hi
  rw [List.all_eq_true.1 h i hi]
  simp
 unfold checkM
 rw [if_neg hn,ho,h]
 rfl
theorem Zse {shape:Int} (hs:0≤shape∧shape≤15) {f:F3} (hf:checkM (0,f)=0) (odd:Bool):listE (childM shape (0,f) odd)=0:=by
 refine Z3x.2 ⟨fun c hc=>?_,by simp [childM]⟩
 simp only [childM,List.mem_cons,List.not_mem_nil,or_false] at hc
 rcases hc with rfl | rfl | rfl | rfl
 ·exact hf
 ·refine Zi2 (by decide) ?_
  cases odd <;> simp [List.range_succ,inR,fieldsM,fl] <;> omega
 ·refine Zi2 (by decide) ?_
  simp [List.range_succ,inR,fieldsM,fl]; omega
 ·refine Zi2 (by decide) ?_
  simp [List.range_succ,inR,fieldsM,fl]; omega
end Go.Proofs.YtoiahhpgkoknfaaGreat
namespace Go.Proofs.YtoiahhpgkoknfaaGreat
open Go Go.RowKit Go.Proofs.YtoiahhpgkoknfaaGreat.Den
variable {R:Type} {Q:R→World→Prop} {w:World}
theorem fldA {b o:Nat} {T:TypeId} {cs:List Value} {s:Sc} {i:Nat} {K:s.T→W R} (B:Blk w b T cs) {x:s.T} (hx:cs[o+i]?=some (s.e x)) (hk:K x Q w):ld (.sc s) (Addr.add ⟨b,o,none⟩ i) K Q w :=
 ⟨x,by rw [Z3]; exact (B.cell (o+i)).trans hx,hk⟩
structure RfR (lab:Nat→Nat) (w:World) (b ofs:Nat) (T:TypeId) (cs:List Value) (m:Nat) (s:Sl) (raws:List (Int × Sl)) (L:List Ent):Prop where
 blk:Blk w b T cs
 c0:cs[ofs]?=some (.int .u8 (m:Int))
 c1:cs[ofs+1]?=some (.slice s.a s.n s.c)
 lb:lab b=1
 own:Den.Own (fun k=>lab k=2) w 49 entT s raws
 ents:EntsR (fun k=>lab k=3) w raws L
 lt:∀ k,lab k≠0→k < w.heap.size
section
variable {lab:Nat→Nat} {b ofs:Nat} {T:TypeId} {cs:List Value} {m:Nat} {s:Sl} {raws:List (Int × Sl)} {L:List Ent}
theorem RfR.fr (h:RfR lab w b ofs T cs m s raws L) {S:Nat→Prop} {w':World} (f:Fr S w w') (hn:∀ k,lab k≠0→¬ S k):RfR lab w' b ofs T cs m s raws L :=
 ⟨h.blk.fr f (hn b (by rw [h.lb]; omega)),h.c0,h.c1,h.lb,h.own.fr f fun k e=>hn k (by omega),h.ents.fr f fun k e=>hn k (by omega),fun k e=>Nat.lt_of_lt_of_le (h.lt k e) f.size⟩
theorem RfR.fr0 (h:RfR lab w b ofs T cs m s raws L) {w':World} (f:Fr None w w'):RfR lab w' b ofs T cs m s raws L:=h.fr f fun _ _ h=>h
theorem RfR.grow (h:RfR lab w b ofs T cs m s raws L) {w':World} (f:Fr None w w') (c:Nat):RfR (relab lab w.heap.size w'.heap.size c) w' b ofs T cs m s raws L :=
 ⟨h.blk.fr f (fun h=>h),h.c0,h.c1,by rw [Z4 h.blk.lt]; exact h.lb,(h.own.relab _ _).none f,(h.ents.relab _ _).fr f (fun _ _ h=>h),fun k e=>by
  rcases Z2a e with ⟨_,h⟩ | ⟨_,h⟩
  ·exact Nat.lt_of_lt_of_le h f.size
  ·exact h⟩
theorem RfR.app (h:RfR lab w b ofs T cs m s raws L) (hroom:L.length < 1048576) {id:Int} {tw:Sl} {l:List Comp} (ht:SlT (fun k=>lab k=3) w compT tw l) {ty:TypeId} {K:W R}
  (hk:∀ lab' s' w',RfR lab' w' b ofs T (cs.set (ofs+1) (.slice s'.a s'.n s'.c)) m s' (raws ++ [(id,tw)]) (L ++ [(id,l)])→(∀ k,k < w.heap.size→lab' k=lab k)→Fr (fun k=>lab k=1∨lab k=2) w w'→K Q w') :
  newW 49 (entC (id,tw)) (fun x_9=>rawW Tryz.prog (Builtin.append_ #[46,46] ty #[.slice s.a s.n s.c,.slice (some x_9) 1 1]) [.sc .sl] fun (x_10:Sl) =>
   ptrW (some ⟨b,ofs,none⟩) fun x_11=>stoL (Addr.add x_11 1) [.slice x_10.a x_10.n x_10.c] 0 K) Q w:=by
 refine newI fun w5 B5 f5 s5=>?_
 have ho5:=h.own.none f5
 have hrl:raws.length=L.length:=h.ents.len
 refine app1 (x:=(id,tw)) (S':=fun k=>lab k=2∨w.heap.size≤k) Zl5 ho5 B5 rfl (by omega) (by rw [Zn]; omega) (fun _ h=>.inl h) (.inr (by omega)) fun r w6 o6 f6 s6=>?_
 have f6':Fr (fun k=>lab k=2) w5 w6:=f6.mono fun k _ e=>ho5.own k e
 refine ptrI ?_
 rw [Z3]
 have hbl:=h.blk.lt
 have hB6:=(h.blk.fr f5 (fun h=>h)).fr f6' (fun e=>by have:=h.lb; omega)
 refine setI (i:=ofs+1) hB6 (List.getElem?_eq_some_iff.1 h.c1).1 rfl fun w7 B7 f7 s7=>?_
 have f17:Fr (fun k=>k=b∨lab k=2) w w7:=(f5.trans f6' (U:=fun k=>k=b∨lab k=2) (fun _ h=>h.elim) (fun _ _ h=>.inr h)).trans f7 (fun _ h=>h) (fun x _ e=>.inl e)
 refine hk (relab lab w.heap.size w7.heap.size 2) r w7 ⟨B7,by rw [List.getElem?_set_ne (by omega)]; exact h.c0,by rw [List.getElem?_set_self (List.getElem?_eq_some_iff.1 h.c1).1],by rw [Z4 hbl]; exact h.lb,?_,⟨by simp [hrl],?_⟩,fun k e=>?_⟩ (fun k e=>Z4 e) (f17.mono fun k _ e=>by rcases e with rfl | e; (exact .inl h.lb); exact .inr e)
 ·refine (o6.fr f7 fun q hq e=>?_).mono fun q hq e=>?_
  ·rw [e] at hq
   rcases hq with hq | hq
   ·rw [h.lb] at hq; omega
   ·omega
  ·rcases e with e | e
   ·rw [Z4 (h.lt q (by omega))]; exact e
   ·exact Z4c e hq
 ·intro i r' e' h1 h2
  have keep:∀ {sl:Sl} {ll:List Comp},SlT (fun k=>lab k=3) w compT sl ll→SlT (fun k=>relab lab w.heap.size w7.heap.size 2 k=3) w7 compT sl ll:=fun hs =>
   (hs.fr f17 fun k hk e=>by rcases e with rfl | e; (have:=h.lb; omega); omega).mono fun k _ hk=>by rw [Z4 (h.lt k (by omega))]; exact hk
  by_cases hi:i < raws.length
  ·rw [List.getElem?_append_left hi] at h1
   rw [List.getElem?_append_left (by omega)] at h2
   obtain ⟨h3,h4⟩:=h.ents.at_ i r' e' h1 h2
   exact ⟨h3,keep h4⟩
  ·rw [List.getElem?_append_right (by omega)] at h1 h2
   have hz:i - raws.length=0:=by have:=(List.getElem?_eq_some_iff.1 h1).1; simp at this; omega
   rw [hz] at h1
   rw [show i - L.length=0 by omega] at h2
   simp at h1 h2
   subst h1; subst h2
   exact ⟨rfl,keep ht⟩
 ·rcases Z2a e with ⟨_,h⟩ | ⟨_,h⟩
  ·exact Nat.lt_of_lt_of_le h f17.size
  ·exact h
end
structure Rf (lab:Nat→Nat) (w:World) (b ofs:Nat) (T:TypeId) (cs:List Value) (m:Nat) (L:List Ent):Prop where
 ok:TabOk m L
 rep:∃ s raws,RfR lab w b ofs T cs m s raws L
theorem Rf.fr {lab:Nat→Nat} {b ofs:Nat} {T:TypeId} {cs:List Value} {m:Nat} {L:List Ent} (h:Rf lab w b ofs T cs m L) {S:Nat→Prop} {w':World} (f:Fr S w w') (hn:∀ k,lab k≠0→¬ S k):Rf lab w' b ofs T cs m L:=by
 obtain ⟨s,raws,r⟩:=h.rep
 exact ⟨h.ok,s,raws,r.fr f hn⟩
theorem Rf.fr0 {lab:Nat→Nat} {b ofs:Nat} {T:TypeId} {cs:List Value} {m:Nat} {L:List Ent} (h:Rf lab w b ofs T cs m L) {w':World} (f:Fr None w w'):Rf lab w' b ofs T cs m L:=h.fr f fun _ _ h=>h
theorem Rf.lt {lab:Nat→Nat} {b ofs:Nat} {T:TypeId} {cs:List Value} {m:Nat} {L:List Ent} (h:Rf lab w b ofs T cs m L) {k:Nat} (e:lab k≠0):k < w.heap.size:=by
 obtain ⟨s,raws,r⟩:=h.rep
 exact r.lt k e
section
variable {lab:Nat→Nat} {b ofs:Nat} {T:TypeId} {cs:List Value} {m:Nat} {L:List Ent}
theorem Z8u (h:Rf lab w b ofs T cs m L) {id:Int} {K:Res [.sc (.int .i64)]→W R} (hk:∀ w',Fr None w w'→K (rowI L id) Q w'):callW Tryz.prog Zk [.pointer (some ⟨b,ofs,none⟩),.int .u32 id] [.sc (.int .i64)] K Q w:=by
 obtain ⟨s,raws,hB,_,hc1,_,ho,hE,_⟩:=h.rep
 have hsm:=h.ok.small
 have hnd:=h.ok.nodup
 refine Zeb _ _ K Q w ?_
 unfold Z93
 refine joinI (fun _ w'=>Fr None w w'∧rowM L id=none) ?_ ?_
 ·refine condT rfl (ptrI ?_)
  refine fldA hB (i:=1) (x:=s) hc1 ?_
  have hn:s.n=L.length:=by rw [ho.len,hE.len]
  refine forI (N:=s.n) (fun s:Int=>s) (fun j i w'=>i=j∧Fr None w w'∧∀ q e,q < j→L[q]?=some e→e.1≠id) ⟨rfl,Fr.refl _ _,by omega⟩ (fun j s w' h=>h.1) ?_ ?_
  ·rintro j i w1 K' hj ⟨rfl,f1,hno⟩ - hK
   obtain ⟨e,he⟩:∃ e,L[j]?=some e:=⟨_,List.getElem?_eq_getElem (by omega)⟩
   obtain ⟨r0,hr0,hr1,_⟩:=hE.get he
   refine (ho.none f1).sl.get rfl rfl (by have:=ho.len; omega) fun r hr=>?_
   rw [hr0] at hr
   cases hr
   refine locI rfl rfl fun w2 B2 f2 s2=>?_
   refine fldI B2 (x:=r0.1) rfl ?_
   refine condE (fun h=>?_) fun h=>?_
   ·have:rowI L id=(j:Int):=by
     have:rowM L id=some j:=by
      rw [← h,hr1]
      exact Ze2 hnd he
     rw [rowI,this]
    have e2:=hk w2 (f1.then0 f2)
    rw [this] at e2
    exact e2
   ·refine hK _ _ ⟨wsucc hj (by omega),f1.then0 f2,fun q e' hq he'=>?_⟩
    rcases Nat.lt_succ_iff_lt_or_eq.1 hq with h1 | h1
    ·exact hno q e' h1 he'
    ·subst h1; rw [he] at he'; cases he'; rw [← hr1]; exact h
  ·rintro i w1 ⟨rfl,f1,hno⟩
   refine ⟨f1,Zio.2 fun e he=>?_⟩
   obtain ⟨q,hq⟩:=List.mem_iff_getElem?.1 he
   exact hno q e (by rw [hn]; exact (List.getElem?_eq_some_iff.1 hq).1) hq
 ·rintro _ w1 ⟨f1,hr⟩
  have e2:=hk w1 f1
  rw [rowI,hr] at e2
  exact e2
theorem Zoh (h:Rf lab w b ofs T cs m L) {id:Int} (hid:IdOk id) {ok:Nat→Prop} {s:Sl} {l:List Comp} (hS:SlT ok w compT s l) (hm:Small l) (hl:∀ c∈l,CompOk c) (hroom:L.length < 1048576) {K:Res [.sc (.int .i64)]→W R}
  (hk:∀ lab' cs' w',Rf lab' w' b ofs T cs' m (addT m L id l)→(∀ i,i≠ofs+1→cs'[i]?=cs[i]?)→(∀ k,k < w.heap.size→lab' k=lab k)→Fr (fun k=>lab k=1∨lab k=2) w w'→K (addM m L id l) Q w') :
  callW Tryz.prog Z5p [.pointer (some ⟨b,ofs,none⟩),.int .u32 id,.slice s.a s.n s.c] [.sc (.int .i64)] K Q w:=by
 refine Ze9 _ _ _ K Q w ?_
 unfold Z91
 refine condF rfl ?_
 have fin:∀ {z:Int} {w':World},Fr None w w'→z≠0→addM m L id l=z→K z Q w':=by
  intro z w' f hz hs
  have e:=hk lab cs w' (by rw [addT,hs,if_neg hz]; exact h.fr0 f) (fun _ _=>rfl) (fun k e=>rfl) (f.mono fun _ _ h=>h.elim)
  rw [hs] at e
  exact e
 refine Zh0 hS hm hl fun w1 f1=>?_
 refine condN (fun hc=>fin f1 hc (by rw [addM,if_pos hc])) fun hc=>?_
 have fd:Fr None w w1.drew:=f1.drew
 obtain ⟨sl,raws,r1⟩:=(h.fr0 fd).rep
 refine ptrI ?_
 refine fldA r1.blk (i:=0) (x:=(m:Int)) r1.c0 ?_
 refine Zh1 (hS.fr0 fd) hm fun w2 f2=>?_
 have f02:=fd.then0 f2
 refine ⟨by rw [Z3]; exact ((r1.blk.fr f2 (fun h=>h)).cell (ofs+0)).trans r1.c0,?_⟩
 refine condN (fun hmask=>fin (z:=4) f02 (by omega) (by rw [addM,if_neg (by simpa using hc),if_pos (by omega)])) fun hmask=>?_
 refine Z8u (h.fr0 f02) fun w3 f3=>?_
 have f03:=f02.then0 f3
 unfold rowI
 cases hrow:rowM L id with
 | some i =>
  refine condD (fun _=>fin (z:=9) f03 (by omega) (by rw [addM,if_neg (by simpa using hc),if_neg (by omega),if_pos (by rw [hrow]; rfl)])) fun hge=>absurd (show (i:Int) ≥ 0 by omega) hge
 | none =>
  refine condD (fun hge=>absurd (show (-1:Int) ≥ 0 from hge) (by omega)) fun _=>?_
  have hadd:addM m L id l=0:=by rw [addM,if_neg (by simpa using hc),if_neg (by omega),if_neg (by simp [hrow])]
  have fd3:Fr None w w3.drew:=f03.drew
  clear r1 raws sl
  obtain ⟨sl,raws,r3⟩:=(h.fr0 fd3).rep
  refine ptrI ?_
  refine fldA r3.blk (i:=1) (x:=sl) r3.c1 ?_
  refine Zn4 (hS.fr0 fd3) hm fun tw w4 o4 f4=>?_
  have r4:=r3.grow f4 3
  refine ⟨by rw [Z3]; exact (r4.blk.cell (ofs+1)).trans r4.c1,?_⟩
  have ht:SlT (fun k=>relab lab w3.drew.heap.size w4.heap.size 3 k=3) w4 compT tw l:=o4.sl.mono fun k hk h=>Z4c h hk
  refine r4.app hroom ht fun lab' s' w5 r5 hn5 f5=>?_
  have hsz:=fd3.size
  have hsz4:=f4.size
  have e:=hk lab' _ w5 (by rw [addT,hadd,if_pos rfl]; exact ⟨h.ok.add hid hadd hroom,s',_,r5⟩) (fun i hi=>List.getElem?_set_ne (Ne.symm hi)) (fun k hk2=>by rw [hn5 k (by omega),Z4 (by omega)]) ((fd3.then0 f4).trans f5 (fun _ h=>h.elim) fun k hk2 h=>by
   rw [Z4 (by omega)] at h; exact h)
  rw [hadd] at e
  exact e
theorem Zoi (h:Rf lab w b ofs T cs m L) {id k:Int} {K:Res [.agg [.int .u8,.int .i32,.int .i32,.int .i32],.sc (.int .i64)]→W R} (hk:∀ w',Fr None w w'→K (getM m L id k) Q w') :
  callW Tryz.prog Z5q [.pointer (some ⟨b,ofs,none⟩),.int .u32 id,.int .u8 k] [.agg [.int .u8,.int .i32,.int .i32,.int .i32],.sc (.int .i64)] K Q w:=by
 refine Zea _ _ _ K Q w ?_
 unfold Z92
 refine newI fun w1 B1 f1 s1=>condF rfl ?_
 have h1:=h.fr0 f1
 refine Z8u h1 fun w2 f2=>?_
 have h2:=h1.fr0 f2
 have B2:=B1.fr f2 fun h=>h
 have f02:=f1.then0 f2
 unfold rowI
 cases hr:rowM L id with
 | none =>
  refine condD (fun _=>?_) fun hge=>absurd (show (-1:Int) < 0 by omega) hge
  refine stoAll B2 rfl rfl fun w3 B3 f3 s3=>?_
  refine aggI B3 (x:=(0,0,0,0)) rfl ?_
  have e:=hk w3 (f02.newer f3 fun x e=>by omega)
  rw [getM,hr] at e
  exact e
 | some i =>
  refine condD (fun hlt=>absurd (show (i:Int) < 0 from hlt) (by omega)) fun _=>?_
  obtain ⟨hil,e,he,_⟩:=Z4d hr
  obtain ⟨s,raws,r⟩:=h2.rep
  obtain ⟨r0,hr0,hr1,hr2⟩:=r.ents.get he
  have hv:=h.ok.valid e (List.mem_of_getElem? he)
  have hsm:=hv.small
  have hrl:raws.length=L.length:=r.ents.len
  refine ptrI ?_
  refine fldA r.blk (i:=1) (x:=s) r.c1 ?_
  refine r.own.sl.idx rfl (show (0:Int)≤(i:Int) by omega) (show (i:Int) < _ by omega) fun a x hx hrd=>?_
  have hx:raws[i]?=some x:=by simpa using hx
  rw [hr0] at hx
  cases hx
  refine hrd.fld (i:=1) (y:=r0.2) rfl ?_
  refine Zca hr2 (by omega) fun w3 f3=>?_
  have B3:=B2.fr f3 fun h=>h
  have f03:=f02.then0 f3
  rcases Zi4 hv k with ⟨hneg,hnk⟩ | ⟨q,hq,hlq,hkk⟩
  ·refine condD (fun _=>?_) fun hge=>absurd hneg hge
   refine stoAll B3 rfl rfl fun w4 B4 f4 s4=>?_
   refine aggI B4 (x:=(0,0,0,0)) rfl ?_
   have e2:=hk w4 (f03.newer f4 fun x e=>by omega)
   rw [getM,hr] at e2
   simp only [if_neg hnk] at e2
   exact e2
  ·refine condD (fun hlt=>absurd hlt (by omega)) fun _=>?_
   have r3:=r.fr0 f3
   refine ptrI ?_
   refine fldA r3.blk (i:=1) (x:=s) r3.c1 ?_
   refine r3.own.sl.idx rfl (show (0:Int)≤(i:Int) by omega) (show (i:Int) < _ by omega) fun a x hx hrd=>?_
   have hx:raws[i]?=some x:=by simpa using hx
   rw [hr0] at hx
   cases hx
   refine hrd.fld (i:=1) (y:=r0.2) rfl ?_
   refine (hr2.fr0 f3).get rfl hq (List.getElem?_eq_some_iff.1 hlq).1 fun c hc=>?_
   rw [hlq] at hc
   cases hc
   refine stoAll B3 rfl rfl fun w4 B4 f4 s4=>?_
   refine aggI B4 (x:=(k,fieldsOf e.2 k)) rfl ?_
   have e2:=hk w4 (f03.newer f4 fun x e=>by omega)
   rw [getM,hr] at e2
   simp only [if_pos hkk] at e2
   rw [Zos he] at e2
   exact e2
theorem Zoj (h:Rf lab w b ofs T cs m L) {id:Int} {c:Comp} (hc0:0≤c.1) {K:Res [.sc (.int .i64)]→W R}
  (hk:∀ lab' w',Rf lab' w' b ofs T cs m (setT m L id c)→(∀ k,k < w.heap.size→lab' k=lab k)→Fr (fun k=>lab k=1∨lab k=2) w w'→K (setM m L id c) Q w') :
  callW Tryz.prog Z3z [.pointer (some ⟨b,ofs,none⟩),.int .u32 id,.agg ⟨compC c⟩] [.sc (.int .i64)] K Q w:=by
 refine Zec _ _ _ K Q w ?_
 unfold Z94
 refine newI fun w1 B1 f1 s1=>condF rfl ?_
 refine aggI B1 (x:=c) rfl ?_
 refine Zb4 (c:=c) hc0 fun w2 f2=>?_
 have B2:=B1.fr f2 fun h=>h
 have f12:=f1.then0 f2
 have fin:∀ {z:Int} {w':World},Fr None w w'→z≠0→setM m L id c=z→K z Q w':=by
  intro z w' f hz hs
  have e:=hk lab w' (by rw [setT,hs,if_neg hz]; exact h.fr0 f) (fun k e=>rfl) (f.mono fun _ _ h=>h.elim)
  rw [hs] at e
  exact e
 refine condN (fun hc=>fin f12 hc (by rw [setM,if_pos hc])) fun hc=>?_
 refine fldI B2 (x:=c.1) rfl ?_
 refine Zoi (h.fr0 f12) fun w3 f3=>?_
 refine locI rfl rfl fun w4 B4 f4 s4=>?_
 have f04:=(f12.then0 f3).then0 f4
 have B14:=(B2.fr f3 fun h=>h).fr f4 fun h=>h
 have hge:=Zsq m L id c.1
 have h4:=h.fr0 f04
 cases hr:rowM L id with
 | none =>
  rw [hr] at hge
  have hs:setM m L id c=7:=by rw [setM,if_neg (by simpa using hc),hr]
  rw [hge]
  exact condT rfl (fin (z:=7) f04 (by omega) hs)
 | some i =>
  rw [hr] at hge
  have hs:setM m L id c=if c.1∈kindsOf m then 0 else 10:=by rw [setM,if_neg (by simpa using hc),hr]
  by_cases hm:c.1∈kindsOf m
  ·rw [if_pos hm] at hs
   simp only [if_pos hm] at hge
   rw [hge]
   refine condF rfl ?_
   refine Z8u h4 fun w5 f5=>?_
   unfold rowI
   rw [hr]
   have fd:Fr None w4 w5.drew:=f5.drew
   have h5:=h4.fr0 fd
   obtain ⟨hil,e,he,_⟩:=Z4d hr
   obtain ⟨s,raws,r⟩:=h5.rep
   obtain ⟨r0,hr0,hr1,hr2⟩:=r.ents.get he
   have hv:=h.ok.valid e (List.mem_of_getElem? he)
   have hsm:=hv.small
   have hrl:raws.length=L.length:=r.ents.len
   have hil':i < raws.length:=by omega
   refine ptrI ?_
   refine fldA r.blk (i:=1) (x:=s) r.c1 ?_
   refine ptrI ?_
   refine fldA r.blk (i:=1) (x:=s) r.c1 ?_
   refine r.own.sl.idx rfl (show (0:Int)≤(i:Int) by omega) (show (i:Int) < _ by omega) fun a x hx hrd=>?_
   have hx:raws[i]?=some x:=by simpa using hx
   rw [hr0] at hx
   cases hx
   refine hrd.fld (i:=1) (y:=r0.2) rfl ?_
   have B15:=B14.fr fd fun h=>h
   refine aggI B15 (x:=c) rfl ?_
   refine Zn5 hr2 (by omega) fun wl w6 o6 f6=>?_
   have r6:=r.grow f6 3
   refine ⟨by rw [Z3]; exact (r6.blk.cell (ofs+1)).trans r6.c1,?_⟩
   have ht:SlT (fun k=>relab lab w5.drew.heap.size w6.heap.size 3 k=3) w6 compT wl (withM e.2 c):=o6.sl.mono fun k hk h=>Z4c h hk
   have hl6:∀ k,k < w.heap.size→relab lab w5.drew.heap.size w6.heap.size 3 k=lab k:=fun k hk2=>by
    have:=f04.size; have:=fd.size
    exact Z4 (by omega)
   generalize relab lab w5.drew.heap.size w6.heap.size 3=lab6 at r6 ht hl6
   have hget:=List.getElem?_eq_getElem hil'
   refine r6.own.idx rfl (show (0:Int)≤(i:Int) by omega) (show (i:Int) < _ by omega) fun g x hg hx _=>?_
   rw [Int.toNat_natCast] at hx ⊢
   rw [hr0] at hx
   cases hx
   rw [Z3]
   refine r6.own.setFld (j:=1) (x':=(r0.1,wl)) hr0 hg (show 1 < 2 by omega) rfl rfl fun w7 o7 f7 s7=>?_
   have f7':Fr (fun k=>lab6 k=2) w6 w7:=f7.mono fun k _ e=>r6.own.own k e
   have hset:setT m L id c=L.set i (e.1,withM e.2 c):=by rw [setT,hs,if_pos rfl,hr]; exact Zgf he
   have e2:=hk lab6 w7 (by
    rw [hset]
    refine ⟨by rw [← Zgf he]; exact h.ok.set he (by simpa using hc) hm,s,raws.set i (r0.1,wl),⟨r6.blk.fr f7' (fun e=>by have:=r6.lb; omega),r6.c0,r6.c1,r6.lb,o7,⟨by simp [hrl],fun q r' e' h1 h2=>?_⟩,fun k hk2=>by rw [s7]; exact r6.lt k hk2⟩⟩
    rw [List.getElem?_set] at h1 h2
    by_cases hq:i=q
    ·subst hq
     rw [if_pos rfl,if_pos hil'] at h1
     rw [if_pos rfl,if_pos hil] at h2
     cases h1; cases h2
     exact ⟨hr1,ht.fr f7' fun k h e=>by omega⟩
    ·rw [if_neg hq] at h1 h2
     obtain ⟨h3,h4⟩:=r6.ents.at_ q r' e' h1 h2
     exact ⟨h3,h4.fr f7' fun k h e=>by omega⟩) hl6 ((f04.then0 (fd.then0 f6)).trans f7' (fun _ h=>h.elim) fun k hk2 e=>.inr (by rw [← hl6 k hk2]; exact e))
   rw [hs] at e2
   exact e2
  ·rw [if_neg hm] at hs
   simp only [if_neg hm] at hge
   rw [hge]
   exact condT rfl (fin (z:=10) f04 (by omega) hs)
theorem Zjx (h:Rf lab w b ofs T cs m L) {id:Int} {K:Res [.sc .sl,.sc (.int .i64)]→W R}
  (h0:rowM L id=none→∀ w',Fr None w w'→K (⟨none,0,0⟩,7) Q w')
  (hk:∀ (i:Nat) e (s:Sl) lab' cs' w',rowM L id=some i→L[i]?=some e→Rf lab' w' b ofs T cs' m (dropI L i)→(∀ i,i≠ofs+1→cs'[i]?=cs[i]?)→(∀ k,k < w.heap.size→lab' k=lab k)→SlT (fun k=>lab k=3) w' compT s e.2→Fr (fun k=>lab k=1∨lab k=2) w w'→K (s,0) Q w') :
  callW Tryz.prog Z2x [.pointer (some ⟨b,ofs,none⟩),.int .u32 id] [.sc .sl,.sc (.int .i64)] K Q w:=by
 refine Zbj _ _ K Q w ?_
 unfold Z6q
 refine condF rfl ?_
 refine Z8u h fun w1 f1=>?_
 unfold rowI
 cases hr:rowM L id with
 | none=>exact condT rfl (h0 hr w1 f1)
 | some i =>
  refine condD (fun hlt=>absurd (show (i:Int) < 0 from hlt) (by omega)) fun _=>?_
  obtain ⟨hil,e,he,heid⟩:=Z4d hr
  obtain ⟨s,raws,r⟩:=(h.fr0 f1).rep
  obtain ⟨r0,hr0,hr1,hr2⟩:=r.ents.get he
  have hsm:=h.ok.small
  have hrl:raws.length=L.length:=r.ents.len
  have hsn:s.n=L.length:=by rw [r.own.len,hrl]
  refine ptrI ?_
  refine fldA r.blk (i:=1) (x:=s) r.c1 ?_
  refine r.own.sl.idx rfl (show (0:Int)≤(i:Int) by omega) (show (i:Int) < _ by omega) fun a x hx hrd=>?_
  have hx:raws[i]?=some x:=by simpa using hx
  rw [hr0] at hx
  cases hx
  refine hrd.fld (i:=1) (y:=r0.2) rfl ?_
  refine ptrI ?_
  refine fldA r.blk (i:=1) (x:=s) r.c1 ?_
  refine ptrI ?_
  refine fldA r.blk (i:=1) (x:=s) r.c1 ?_
  have hlast:IntKind.wrap .i64 ((s.n:Int) - 1)=((L.length - 1:Nat):Int):=by rw [w64 (by omega)]; omega
  simp only [hlast]
  refine r.own.sl.slc0 (n:=L.length - 1) rfl (by omega) fun pre hpre=>?_
  have hpn:pre.n=L.length - 1:=by rw [hpre.len,List.length_take]; omega
  obtain ⟨z,hz⟩:∃ z,raws[raws.length - 1]?=some z:=⟨_,List.getElem?_eq_getElem (by omega)⟩
  have hbl:=r.blk.lt
  refine forI (N:=pre.n) (fun s:Sl × Int=>s.2) (fun j st w'=>∃ o:Sl,st=(o,(j:Int))∧Den.Own (Up w1.heap.size) w' 49 entT o ((dropI raws i).take j)∧Fr (Up w1.heap.size) w1 w')
   ⟨⟨none,0,0⟩,rfl,Den.Own.nil _ _ _ _,Fr.refl _ _⟩ (fun j s w' h=>by obtain ⟨o,h,_⟩:=h; rw [h]) ?_ ?_
  ·rintro j st w2 K' hj ⟨o,rfl,ho,f2⟩ - hK
   have hj':j < raws.length - 1:=by omega
   have hsz:=f2.size
   have r2:=r.fr f2 (fun k hk hu=>by have:=r.lt k hk; have hu:w1.heap.size≤k:=hu; omega)
   obtain ⟨y,hy⟩:∃ y,raws[j]?=some y:=⟨_,List.getElem?_eq_getElem (by omega)⟩
   refine (hpre.frUp f2 (Nat.le_refl _)).get rfl rfl (by rw [List.length_take]; omega) fun x hx=>?_
   have hxy:x=y:=by
    rw [List.getElem?_take] at hx
    split at hx
    ·rw [hy] at hx; exact (Option.some.inj hx).symm
    ·cases hx
   subst hxy
   refine locI rfl rfl fun w3 B3 f3 s3=>?_
   have hdr:(dropI raws i)[j]?=some (if j=i then z else x):=by
    rw [Z6w hz,if_pos hj',hy]
    split <;> rfl
   refine joinI (fun _ w'=>Blk w' w2.heap.size 49 (entC (if j=i then z else x))∧Fr (fun k=>k=w2.heap.size) w3 w'∧w'.heap.size=w3.heap.size) ?_ ?_
   ·refine condE (fun hji=>?_) fun hji=>?_
    ·have hji:j=i:=by have:(j:Int)=(i:Int):=hji; omega
     have r3:=r2.fr0 f3
     refine ptrI ?_
     refine fldA r3.blk (i:=1) (x:=s) r3.c1 ?_
     refine r3.own.sl.get (j:=raws.length - 1) rfl (by rw [hrl]) (by omega) fun z' hz'=>?_
     rw [hz] at hz'
     cases hz'
     refine stoAll B3 rfl rfl fun w4 B4 f4 s4=>?_
     rw [if_pos hji]
     exact ⟨B4,f4,s4⟩
    ·have hji:¬ j=i:=fun h=>hji (show (j:Int)=(i:Int) by omega)
     rw [if_neg hji]
     exact ⟨B3,Fr.refl _ _,rfl⟩
   ·rintro _ w4 ⟨B4,f4,s4⟩
    refine aggI B4 (x:=if j=i then z else x) rfl ?_
    have ho4:Den.Own (Up w1.heap.size) w4 49 entT o ((dropI raws i).take j):=by
     have h1:Den.Own (fun k=>w1.heap.size≤k∧k < w2.heap.size) w2 49 entT o ((dropI raws i).take j):=ho.mono fun k hk h=>⟨h,hk⟩
     exact ((h1.none f3).fr f4 fun k hk e=>by omega).mono fun k _ h=>h.1
    have f24:Fr None w2 w4:=f3.newer f4 fun k e=>by omega
    have hlt:((dropI raws i).take j).length≤1048576:=by rw [List.length_take,Z8j]; omega
    refine appF Zl5 (x:=if j=i then z else x) rfl ho4 (by have:=f24.size; omega) (by omega) (by omega) fun r5 w5 o5 f5 _=>?_
    refine hK _ _ ⟨r5,by rw [wsucc hj (by omega)],?_,(f2.then0 f24).thenOwn ho4 f5⟩
    rw [Z1q hdr]
    exact o5
  ·rintro st w2 ⟨o,rfl,ho,f2⟩
   have hsz:=f2.size
   have r2:=r.fr f2 (fun k hk hu=>by have:=r.lt k hk; have hu:w1.heap.size≤k:=hu; omega)
   rw [hpn,List.take_of_length_le (by rw [Z8j]; omega)] at ho
   refine ptrI ?_
   rw [Z3]
   refine setI (i:=ofs+1) r2.blk (List.getElem?_eq_some_iff.1 r.c1).1 rfl fun w3 B3 f3 s3=>?_
   have hnone:Fr None w1 w2:=f2.ofUp (Nat.le_refl _)
   have f13:Fr (fun k=>k=b) w1 w3:=hnone.trans f3 (fun _ h=>h.elim) fun _ _ h=>h
   have hw1:=f1.size
   have hgone:SlT (fun k=>lab k=3) w3 compT r0.2 e.2:=hr2.fr f13 fun k hk e=>by have:=r.lb; rw [e] at hk; omega
   refine hk i e r0.2 (relab lab w1.heap.size w3.heap.size 2) _ w3 hr he ⟨h.ok.drop hil,o,dropI raws i,⟨B3,by rw [List.getElem?_set_ne (by omega)]; exact r.c0,by rw [List.getElem?_set_self (List.getElem?_eq_some_iff.1 r.c1).1],by rw [Z4 hbl]; exact r.lb,?_,?_,fun k hk2=>?_⟩⟩ (fun i hi=>List.getElem?_set_ne (Ne.symm hi)) (fun k hk2=>Z4 (by omega)) hgone ((f1.trans f13 (fun _ h=>h.elim) fun k _ e=>.inl (by rw [e,r.lb])))
   ·refine (ho.fr f3 fun k hk2 e=>?_).mono fun k hk2 h=>Z4c h hk2
    have hk2:w1.heap.size≤k:=hk2
    omega
   ·exact ((r.ents.drop i).fr f13 fun k hk2 e=>by have:=r.lb; rw [e] at hk2; omega).mono fun k _ hk2=>by rw [Z4 (r.lt k (by omega))]; exact hk2
   ·rcases Z2a hk2 with ⟨_,h⟩ | ⟨_,h⟩
    ·omega
    ·exact h
end
end Go.Proofs.YtoiahhpgkoknfaaGreat
