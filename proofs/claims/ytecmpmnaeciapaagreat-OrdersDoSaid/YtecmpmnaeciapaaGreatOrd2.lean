/-
  What the functions of the program's package orders compute (buffers; orders done).
-/
import Derived.Test.YtecmpmnaeciapaaGreatOrd
namespace Go.Proofs.YtecmpmnaeciapaaGreat
open Go Go.RowKit Go.Proofs.YtecmpmnaeciapaaGreat.Den
variable {R : Type} {Q : R → World → Prop} {w : World}

theorem spec_Clone_Comp {ok : Nat → Prop} {s : Sl} {l : List Comp} (hS : SlT ok w compT s l) (hm : l.length * 16 ≤ 140737488355328) {K : Res [.sc .sl] → W R} (hk : ∀ r w', Own (Up w.heap.size) w' 60 compT r l → Fr None w w' → K r Q w') :
    callW Tryz.prog k_slices_Clone_Comp [.slice s.a s.n s.c] [.sc .sl] K Q w := by
  refine C_slices_Clone_Comp _ K Q w ?_
  unfold F_slices_Clone_Comp
  rcases hS.at_ with rfl | ⟨b, o, ha, _⟩
  · cases hsa : s.a with
    | none => exact condT rfl (hk _ w (Own.nil _ _ _ _) (Fr.refl _ _))
    | some a =>
      refine condF rfl ?_
      rw [← hsa]
      refine newI fun w1 B1 f1 s1 => ?_
      have own := Own.mk' (S := Up w.heap.size) (w := w1) (E := 60) (t := compT) (l := []) (g := w.heap.size) (c := 0) (cur := ⟨[]⟩) (Nat.le_refl _) B1 (Nat.le_refl _) (Nat.zero_le _) (by simp) (by simp)
      refine appI (s := ⟨some ⟨w.heap.size, 0, none⟩, 0, 0⟩) (s2 := s) (S' := Up w.heap.size) comps_ty own (hS.fr0 f1) (by simp) (by simp) (fun _ h => h) (by show _ ≤ _; omega) fun r w2 o2 f2 s2 => hk r w2 (by simpa using o2) (f1.newer f2 (fun x e => own.own x e))
  · rw [ha]
    refine condF rfl ?_
    rw [← ha]
    exact cloneI comps_ty hS hm (by omega) hk

/-! ### a buffer -/
def Buf (b : Nat) (L : List Ordr) : OB := fun F w => ∃ s raws lab, F b ∧ Blk w b 141 [.slice s.a s.n s.c] ∧ DO ordO (t := ordT) 40 (fun k => F k ∧ k ≠ b) w s raws L lab
theorem Buf.st {b : Nat} {L : List Ordr} : St (Buf b L) := fun ⟨s, raws, lab, h1, h2, h3⟩ f hs =>
  ⟨s, raws, lab, (hs b h2.lt h1).2, h2.fr f (hs b h2.lt h1).1, h3.fr ordO_st f fun k hk e => ⟨(hs k hk e.1).1, (hs k hk e.1).2, e.2⟩⟩
theorem spec_orders_New {K : Res [.sc .ptr] → W R} (hk : ∀ b w', Buf b [] (Up w.heap.size) w' → Fr None w w' → K (some ⟨b, 0, none⟩) Q w') : callW Tryz.prog k_orders_New [] [.sc .ptr] K Q w := by
  refine C_orders_New K Q w ?_
  unfold F_orders_New
  exact newI fun w1 B1 f1 s1 => hk _ w1 ⟨⟨none, 0, 0⟩, [], fun _ => 0, Nat.le_refl _, B1, DO.nil _ _⟩ f1
def pushE (L : List Ordr) (o : Ordr) : Int := if ochk o ≠ 0 then ochk o else if 256 ≤ L.length then 8 else 0
def pushL (L : List Ordr) (o : Ordr) : List Ordr := if pushE L o = 0 then L ++ [o] else L
theorem pushL_le {L : List Ordr} {o : Ordr} (h : L.length ≤ 256) : (pushL L o).length ≤ 256 := by
  unfold pushL pushE
  by_cases h1 : ochk o ≠ 0
  · simp only [if_pos h1, if_neg h1]; exact h
  · by_cases h2 : 256 ≤ L.length
    · simp only [if_neg h1, if_pos h2]; simpa using h
    · simp only [if_neg h1, if_neg h2, if_true, List.length_append, List.length_singleton]; omega
theorem spec_Push0 {r : OrdRaw} {K : Res [.sc (.int .i64)] → W R} (hk : ∀ w', Fr None w w' → K 10 Q w') : callW Tryz.prog k_orders_Buffer_Push [.pointer none, .agg ⟨ordC r⟩] [.sc (.int .i64)] K Q w := by
  refine C_orders_Buffer_Push _ _ K Q w ?_
  unfold F_orders_Buffer_Push
  exact newI fun w1 B1 f1 s1 => condT rfl (hk w1 f1)
theorem spec_Push {F : Nat → Prop} {b : Nat} {L : List Ordr} (h : Buf b L F w) (hL : L.length ≤ 256) {ok : Nat → Prop} {r : OrdRaw} {o : Ordr} (hr : ordR ok w r o) (hsm : Small o.2.2.2) {K : Res [.sc (.int .i64)] → W R}
    (hk : ∀ w', Buf b (pushL L o) (Ex F w) w' → Fr F w w' → K (pushE L o) Q w') : callW Tryz.prog k_orders_Buffer_Push [.pointer (some ⟨b, 0, none⟩), .agg ⟨ordC r⟩] [.sc (.int .i64)] K Q w := by
  refine C_orders_Buffer_Push _ r K Q w ?_
  unfold F_orders_Buffer_Push
  have ex : ∀ {w' : World}, Fr None w w' → Buf b L (Ex F w) w' := fun f => Buf.st h f fun k _ e => ⟨fun h => h, .inl e⟩
  have hb : b < w.heap.size := by obtain ⟨_, _, _, _, h2, _⟩ := h; exact h2.lt
  refine newI fun w1 B1 f1 s1 => condF rfl (aggI B1 (x := r) rfl ?_)
  refine spec_orders_Check (ordR_st r o hr f1 fun _ _ e => ⟨fun h => h, e⟩) hsm fun w2 f2 => ?_
  have f02 := f1.then0 f2
  refine condN (fun hc => ?_) fun hc => ?_
  · have e1 : pushE L o = ochk o := by rw [pushE, if_pos hc]
    have e2 : pushL L o = L := by rw [pushL, e1, if_neg hc]
    rw [e1, e2] at hk
    exact hk w2 (ex f02) f02.any
  have hc0 : ochk o = 0 := by simpa using hc
  have h2 : Buf b L (Ex F w) w2 := ex f02
  obtain ⟨s, raws, lab, hFb, Bb, hD⟩ := h2
  have hsn : s.n = L.length := by rw [hD.own.len, hD.len]
  refine ptrI (fldI Bb (x := s) rfl ?_)
  refine condD (fun hge => ?_) fun hlt => ?_
  · have e1 : pushE L o = 8 := by rw [pushE, if_neg (fun h => h hc), if_pos (by omega)]
    have e2 : pushL L o = L := by rw [pushL, e1]; rfl
    rw [e1, e2] at hk
    exact hk w2 (ex f02) f02.any
  have hlt : L.length < 256 := by have : ¬ (s.n : Int) ≥ 256 := hlt; omega
  have e1 : pushE L o = 0 := by rw [pushE, if_neg (fun h => h hc), if_neg (by omega)]
  have e2 : pushL L o = L ++ [o] := by rw [pushL, e1]; rfl
  rw [e1, e2] at hk
  have B2 := B1.fr f2 fun h => h
  obtain ⟨h1, h2', h3, hS⟩ := hr
  have hsm' : o.2.2.2.length ≤ 1048576 := hsm
  refine fldI B2 (x := r.2.2.2) rfl (spec_Clone_Comp (hS.fr0 f02) (by omega) fun tw w3 o3 f3 => ?_)
  have B3 := B2.fr f3 fun h => h
  refine setA (i := 3) B3 (show 3 < 4 by omega) rfl fun w4 B4 f4 s4 => ?_
  have hs1 : w1.heap.size = w.heap.size + 1 := s1
  have hs2 := f2.size
  have hs3 := f3.size
  have f24 : Fr (fun k => k = w.heap.size) w2 w4 := f3.any.then f4
  have f04 : Fr None w w4.drew := (f02.newer f24 fun k e => by omega).drew
  have hbn : b ≠ w.heap.size := by omega
  have Bb4 := (Bb.fr f24 fun e => hbn e).drew
  have o4 : Own (fun k => w2.heap.size ≤ k) w4.drew 60 compT tw o.2.2.2 := (o3.fr f4 fun k h e => by omega).none (Fr.refl None w4).drew
  obtain ⟨s', raws', lab', hFb', Bb', hD0⟩ := h
  have hD1 : DO ordO (t := ordT) 40 (fun k => Ex F w k ∧ k ≠ b) w s' raws' L lab' := hD0.fr ordO_st (Fr.refl None w) fun k _ e => ⟨fun h => h, .inl e.1, e.2⟩
  have Bb5 := Bb'.fr f04 fun h => h
  refine ptrI (fldI Bb5 (x := s') rfl (aggI B4.drew (x := (r.1, r.2.1, r.2.2.1, tw)) rfl ?_))
  refine hD1.app (a := ((r.1, r.2.1, r.2.2.1, tw) : OrdRaw)) (b := o) ords_ty ordO_st f04 (fun k e => ⟨.inr e, by omega⟩) ⟨h1, h2', h3, o4.mono fun k _ e => by show w.heap.size ≤ k; omega⟩ rfl (by omega) (by omega) fun r2 lab2 w5 hD5 f5 => ?_
  have Bb6 := Bb5.fr f5 fun e => (hD1.own.own b e).1.2 rfl
  refine ptrI (setA Bb6 (by simp) rfl fun w6 B6 f6 s6 => ?_)
  refine hk w6 ⟨r2, _, lab2, .inl hFb', B6, hD5.fr ordO_st f6 fun k _ e => ⟨fun e2 => e.2 e2, e⟩⟩ ?_
  have f05 : Fr F w w5 := f04.any.then (f5.mono fun k hk e => ?_)
  · exact f05.then (f6.mono fun k _ e => by rw [e]; exact hFb')
  · have h5 := hD1.own.own k e
    rcases h5.1.1 with h5 | h5
    · exact h5
    · have := hD1.own.lt e; omega

/-! ### orders done -/
def workM (x : StM) (o : Ordr) : Int × Int × StM :=
  if o.1 = 1 then x.spawn o.2.2.2
  else if o.1 = 2 then (o.2.1, x.despawn o.2.1)
  else if o.1 = 3 then (o.2.1, x.set o.2.1 (o.2.2.2.headD (0, 0, 0, 0)))
  else if o.1 = 4 then (o.2.1, x.add o.2.1 (o.2.2.2.headD (0, 0, 0, 0)))
  else (o.2.1, x.remove o.2.1 o.2.2.1)
def doM (x : StM) (o : Ordr) : (Int × Int) × StM := if ochk o ≠ 0 then ((ochk o, 0), x) else if (workM x o).2.1 ≠ 0 then (((workM x o).2.1, 0), (workM x o).2.2) else ((0, (workM x o).1), (workM x o).2.2)
def doN (o : Ordr) : Int × Int := if ochk o ≠ 0 then (ochk o, 0) else (10, 0)
def allM (x : StM) : List Ordr → List (Int × Int) × StM
  | [] => ([], x)
  | o :: r => ((doM x o).1 :: (allM (doM x o).2 r).1, (allM (doM x o).2 r).2)
theorem allM_snoc (o : Ordr) : ∀ (l : List Ordr) (x : StM), allM x (l ++ [o]) = ((allM x l).1 ++ [(doM (allM x l).2 o).1], (doM (allM x l).2 o).2)
  | [], x => rfl
  | p :: r, x => by simp only [List.cons_append, allM, allM_snoc o r]
theorem allM_app : ∀ (l k : List Ordr) (x : StM), allM x (l ++ k) = ((allM x l).1 ++ (allM (allM x l).2 k).1, (allM (allM x l).2 k).2)
  | [], _, _ => by simp [allM]
  | p :: r, k, x => by simp only [List.cons_append, allM, allM_app r k]
theorem allM_len : ∀ (l : List Ordr) (x : StM), (allM x l).1.length = l.length
  | [], _ => rfl
  | p :: r, x => by simp only [allM, List.length_cons, allM_len r]
theorem ochk_one {o : Ordr} (h : ochk o = 0) (h34 : o.1 = 3 ∨ o.1 = 4) : ∃ c, o.2.2.2 = [c] := by
  rw [ochk, if_neg (by omega), if_neg (by omega), if_pos h34] at h
  unfold chk1 at h
  split at h
  · exact ⟨_, by assumption⟩
  · cases h

section
variable {F ok : Nat → Prop} {b : Nat} {x : StM} {r : OrdRaw} {o : Ordr}
theorem spec_orders_work (h : Store b x F w) (hr : ordR ok w r o) (hd : ∀ k, k < w.heap.size → ok k → ¬ F k) (ho : OrdOk o) (hsm : Small o.2.2.2) (hc : ochk o = 0) {K : Res [.sc (.int .u32), .sc (.int .i64)] → W R}
    (hk : ∀ w', Store b (workM x o).2.2 (Ex F w) w' → Fr F w w' → K ((workM x o).1, (workM x o).2.1) Q w') : callW Tryz.prog k_orders_work [.pointer (some ⟨b, 0, none⟩), .agg ⟨ordC r⟩] [.sc (.int .u32), .sc (.int .i64)] K Q w := by
  obtain ⟨h1, h2, h3, hS⟩ := hr
  have hF : ∀ {y : StM} {w1 w' : World}, w.heap.size ≤ w1.heap.size → Store b y (Ex (fun k => F k ∧ k < w.heap.size) w1) w' → Store b y (Ex F w) w' := fun hs h => Store.st.mono h fun k _ e => by rcases e with e | e; exact .inl e.1; exact .inr (by omega)
  have hst := h.shut
  refine C_orders_work _ r K Q w ?_
  unfold F_orders_work
  refine newI fun w1 B1 f1 s1 => fldI B1 (x := r.1) rfl ?_
  rw [h1]
  have hs1 : w1.heap.size = w.heap.size + 1 := s1
  have hst1 := Store.st.fr0 hst f1
  have hS1 : SlT (fun k => ok k ∧ k < w.heap.size) w1 compT r.2.2.2 o.2.2.2 := (hS.mono fun k hk h => ⟨h, hk⟩).fr0 f1
  have hd1 : ∀ k, k < w1.heap.size → (ok k ∧ k < w.heap.size) → ¬ (F k ∧ k < w.heap.size) := fun k _ e e2 => hd k e.2 e.1 e2.1
  have fin : ∀ {w' : World}, Fr (fun k => F k ∧ k < w.heap.size) w1 w' → Fr F w w' := fun f => f1.any.then (f.sub fun _ e => e.1)
  have keep : ∀ {w' : World}, Fr (fun k => F k ∧ k < w.heap.size) w1 w' → Blk w' w.heap.size 40 (ordC r) := fun f => B1.fr f fun e => by omega
  refine condE (fun e => ?_) fun n1 => ?_
  · have ew : workM x o = x.spawn o.2.2.2 := by rw [workM, if_pos e]
    rw [ew] at hk
    refine fldI B1 (x := r.2.2.2) rfl (spec_store_Spawn hst1 hS1 hd1 hsm ho.comps fun w2 st2 f2 => ?_)
    exact hk w2 (hF (by omega) st2) (fin f2)
  refine condE (fun e => ?_) fun n2 => ?_
  · have ew : workM x o = (o.2.1, x.despawn o.2.1) := by rw [workM, if_neg n1, if_pos e]
    rw [ew] at hk
    refine fldI B1.drew (x := r.2.1) rfl (fldI B1.drew (x := r.2.1) rfl ?_)
    rw [h2]
    refine spec_store_Despawn (Store.st.fr0 hst1 (Fr.refl None w1).drew) ho.id fun w2 st2 f2 => ?_
    have f2' : Fr (fun k => F k ∧ k < w.heap.size) w1 w2 := (Fr.refl None w1).drew.any.then f2
    refine andI ((keep f2').rd (s := .int .u32) (i := 1) (x := o.2.1) (by rw [← h2]; rfl)) ?_
    exact hk w2 (hF (show w.heap.size ≤ w1.heap.size by omega) st2) (fin f2')
  refine condE (fun e => ?_) fun n3 => ?_
  · obtain ⟨c, hcs⟩ := ochk_one hc (.inl e)
    have ew : workM x o = (o.2.1, x.set o.2.1 c) := by rw [workM, if_neg n1, if_neg n2, if_pos e, hcs]; rfl
    rw [ew] at hk
    refine fldI B1.drew (x := r.2.1) rfl (fldI B1.drew (x := r.2.1) rfl (fldI B1.drew (x := r.2.2.2) rfl ?_))
    rw [h2]
    refine (hS1.fr0 (Fr.refl None w1).drew).get (j := 0) rfl rfl (by rw [hcs]; simp) fun c' hc' => ?_
    rw [hcs] at hc'
    simp at hc'
    subst hc'
    refine spec_store_Set (c := c) (Store.st.fr0 hst1 (Fr.refl None w1).drew) ho.id fun w2 st2 f2 => ?_
    have f2' : Fr (fun k => F k ∧ k < w.heap.size) w1 w2 := (Fr.refl None w1).drew.any.then f2
    refine andI ((keep f2').rd (s := .int .u32) (i := 1) (x := o.2.1) (by rw [← h2]; rfl)) ?_
    exact hk w2 (hF (Nat.le_refl _) (Store.st.mono st2 fun _ _ e => .inl e)) (fin f2')
  refine condE (fun e => ?_) fun n4 => ?_
  · obtain ⟨c, hcs⟩ := ochk_one hc (.inr e)
    have ew : workM x o = (o.2.1, x.add o.2.1 c) := by rw [workM, if_neg n1, if_neg n2, if_neg n3, if_pos e, hcs]; rfl
    rw [ew] at hk
    refine fldI B1.drew (x := r.2.1) rfl (fldI B1.drew (x := r.2.1) rfl (fldI B1.drew (x := r.2.2.2) rfl ?_))
    rw [h2]
    refine (hS1.fr0 (Fr.refl None w1).drew).get (j := 0) rfl rfl (by rw [hcs]; simp) fun c' hc' => ?_
    rw [hcs] at hc'
    simp at hc'
    subst hc'
    refine spec_store_Add (c := c) (Store.st.fr0 hst1 (Fr.refl None w1).drew) ho.id fun w2 st2 f2 => ?_
    have f2' : Fr (fun k => F k ∧ k < w.heap.size) w1 w2 := (Fr.refl None w1).drew.any.then f2
    refine andI ((keep f2').rd (s := .int .u32) (i := 1) (x := o.2.1) (by rw [← h2]; rfl)) ?_
    exact hk w2 (hF (show w.heap.size ≤ w1.heap.size by omega) st2) (fin f2')
  · have ew : workM x o = (o.2.1, x.remove o.2.1 o.2.2.1) := by rw [workM, if_neg n1, if_neg n2, if_neg n3, if_neg n4]
    rw [ew] at hk
    refine fldI B1.drew (x := r.2.1) rfl (fldI B1.drew (x := r.2.1) rfl (fldI B1.drew (x := r.2.2.1) rfl ?_))
    rw [h2, h3]
    refine spec_store_Remove (Store.st.fr0 hst1 (Fr.refl None w1).drew) ho.id ho.kind.1 fun w2 st2 f2 => ?_
    have f2' : Fr (fun k => F k ∧ k < w.heap.size) w1 w2 := (Fr.refl None w1).drew.any.then f2
    refine andI ((keep f2').rd (s := .int .u32) (i := 1) (x := o.2.1) (by rw [← h2]; rfl)) ?_
    exact hk w2 (hF (show w.heap.size ≤ w1.heap.size by omega) st2) (fin f2')

theorem spec_orders_work0 (hr : ordR ok w r o) (hc : ochk o = 0) {K : Res [.sc (.int .u32), .sc (.int .i64)] → W R} (hk : ∀ i w', Fr None w w' → K (i, 10) Q w') : callW Tryz.prog k_orders_work [.pointer none, .agg ⟨ordC r⟩] [.sc (.int .u32), .sc (.int .i64)] K Q w := by
  obtain ⟨h1, h2, h3, hS⟩ := hr
  refine C_orders_work _ r K Q w ?_
  unfold F_orders_work
  refine newI fun w1 B1 f1 s1 => fldI B1 (x := r.1) rfl ?_
  rw [h1]
  have hS1 := hS.fr0 f1
  refine condE (fun e => fldI B1 (x := r.2.2.2) rfl (spec_store_Spawn0 (hk _ w1 f1))) fun n1 => ?_
  refine condE (fun e => fldI B1.drew (x := r.2.1) rfl (fldI B1.drew (x := r.2.1) rfl (spec_store_Despawn0 (andI (B1.drew.rd (s := .int .u32) (i := 1) (x := r.2.1) rfl) (hk _ _ f1.drew))))) fun n2 => ?_
  refine condE (fun e => ?_) fun n3 => ?_
  · obtain ⟨c, hcs⟩ := ochk_one hc (.inl e)
    refine fldI B1.drew (x := r.2.1) rfl (fldI B1.drew (x := r.2.1) rfl (fldI B1.drew (x := r.2.2.2) rfl ?_))
    refine (hS1.fr0 (Fr.refl None w1).drew).get (j := 0) rfl rfl (by rw [hcs]; simp) fun c' hc' => ?_
    refine spec_store_Set0 (c := c') fun w2 f2 => andI ((B1.drew.fr f2 fun h => h).rd (s := .int .u32) (i := 1) (x := r.2.1) rfl) (hk _ _ (f1.drew.then0 f2))
  refine condE (fun e => ?_) fun n4 => ?_
  · obtain ⟨c, hcs⟩ := ochk_one hc (.inr e)
    refine fldI B1.drew (x := r.2.1) rfl (fldI B1.drew (x := r.2.1) rfl (fldI B1.drew (x := r.2.2.2) rfl ?_))
    refine (hS1.fr0 (Fr.refl None w1).drew).get (j := 0) rfl rfl (by rw [hcs]; simp) fun c' hc' => ?_
    refine spec_store_Add0 (c := c') fun w2 f2 => andI ((B1.drew.fr f2 fun h => h).rd (s := .int .u32) (i := 1) (x := r.2.1) rfl) (hk _ _ (f1.drew.then0 f2))
  · refine fldI B1.drew (x := r.2.1) rfl (fldI B1.drew (x := r.2.1) rfl (fldI B1.drew (x := r.2.2.1) rfl ?_))
    refine spec_store_Remove0 fun w2 f2 => andI ((B1.drew.fr f2 fun h => h).rd (s := .int .u32) (i := 1) (x := r.2.1) rfl) (hk _ _ (f1.drew.then0 f2))

theorem spec_orders_Do (h : Store b x F w) (hr : ordR ok w r o) (hd : ∀ k, k < w.heap.size → ok k → ¬ F k) (ho : OrdOk o) (hsm : Small o.2.2.2) {K : Res [.agg [.int .i64, .int .u32]] → W R}
    (hk : ∀ w', Store b (doM x o).2 (Ex F w) w' → Fr F w w' → K (doM x o).1 Q w') : callW Tryz.prog k_orders_Do [.pointer (some ⟨b, 0, none⟩), .agg ⟨ordC r⟩] [.agg [.int .i64, .int .u32]] K Q w := by
  refine C_orders_Do _ r K Q w ?_
  unfold F_orders_Do
  have hst := h.shut
  refine newI fun w1 B1 f1 s1 => newI fun w2 B2 f2 s2 => ?_
  have f02 := f1.then0 f2
  have B1' := B1.fr f2 fun h => h
  have hs1 : w1.heap.size = w.heap.size + 1 := s1
  have hs2 : w2.heap.size = w1.heap.size + 1 := s2
  have hr2 : ordR (fun k => ok k ∧ k < w.heap.size) w2 r o := ordR_st r o hr f02 fun k hk e => ⟨fun h => h, e, hk⟩
  refine aggI B1' (x := r) rfl (spec_orders_Check hr2 hsm fun w3 f3 => ?_)
  have f03 := f02.then0 f3
  have B23 := B2.fr f3 fun h => h
  refine condN (fun hc => ?_) fun hc => ?_
  · have e1 : doM x o = ((ochk o, 0), x) := by rw [doM, if_pos hc]
    rw [e1] at hk
    refine stoAll B23 rfl rfl fun w4 B4 f4 s4 => aggI B4 (x := (ochk o, 0)) rfl ?_
    have f04 : Fr None w w4 := f03.newer f4 fun k e => by omega
    exact hk w4 (Store.st h f04 fun k _ e => ⟨fun h => h, .inl e⟩) f04.any
  have hc0 : ochk o = 0 := by simpa using hc
  have hs3 := f3.size
  refine aggI (B1'.fr f3 fun h => h) (x := r) rfl ?_
  refine spec_orders_work (Store.st.fr0 hst f03) (ordR_st r o hr2 f3 fun _ _ e => ⟨fun h => h, e⟩) (fun k _ e e2 => hd k e.2 e.1 e2.1) ho hsm hc0 fun w4 st4 f4 => ?_
  have B24 := B23.fr f4 fun e => by omega
  have f04 : Fr F w w4 := f03.any.then (f4.sub fun _ e => e.1)
  have fin : ∀ {w5 : World}, Fr (fun k => k = w1.heap.size) w4 w5 → Store b (workM x o).2.2 (Ex F w) w5 ∧ Fr F w w5 := fun f => by
    refine ⟨Store.st (F := fun k => (F k ∧ k < w.heap.size) ∨ (w3.heap.size ≤ k)) st4 f fun k _ e => ⟨fun e2 => ?_, ?_⟩, f04.thenNew f fun k e => by omega⟩
    · rcases e with e | e <;> omega
    · rcases e with e | e
      · exact .inl e.1
      · exact .inr (by omega)
  refine condN (fun he => ?_) fun he => ?_
  · have e1 : doM x o = (((workM x o).2.1, 0), (workM x o).2.2) := by rw [doM, if_neg (fun h => h hc), if_pos he]
    rw [e1] at hk
    refine stoAll B24 rfl rfl fun w5 B5 f5 s5 => aggI B5 (x := ((workM x o).2.1, 0)) rfl ?_
    exact hk w5 (fin f5).1 (fin f5).2
  · have e1 : doM x o = ((0, (workM x o).1), (workM x o).2.2) := by rw [doM, if_neg (fun h => h hc), if_neg (by simpa using he)]
    rw [e1] at hk
    refine stoAll B24 rfl rfl fun w5 B5 f5 s5 => aggI B5 (x := (0, (workM x o).1)) rfl ?_
    exact hk w5 (fin f5).1 (fin f5).2
theorem spec_orders_Do0 (hr : ordR ok w r o) (hsm : Small o.2.2.2) {K : Res [.agg [.int .i64, .int .u32]] → W R} (hk : ∀ w', Fr None w w' → K (doN o) Q w') : callW Tryz.prog k_orders_Do [.pointer none, .agg ⟨ordC r⟩] [.agg [.int .i64, .int .u32]] K Q w := by
  refine C_orders_Do _ r K Q w ?_
  unfold F_orders_Do
  refine newI fun w1 B1 f1 s1 => newI fun w2 B2 f2 s2 => ?_
  have f02 := f1.then0 f2
  have hs2 : w2.heap.size = w1.heap.size + 1 := s2
  have B1' := B1.fr f2 fun h => h
  have hr2 : ordR ok w2 r o := ordR_st r o hr f02 fun k hk e => ⟨fun h => h, e⟩
  refine aggI B1' (x := r) rfl (spec_orders_Check hr2 hsm fun w3 f3 => ?_)
  have f03 := f02.then0 f3
  have B23 := B2.fr f3 fun h => h
  have hs1 := f1.size
  refine condN (fun hc => ?_) fun hc => ?_
  · have e1 : doN o = (ochk o, 0) := by rw [doN, if_pos hc]
    rw [e1] at hk
    refine stoAll B23 rfl rfl fun w4 B4 f4 s4 => aggI B4 (x := (ochk o, 0)) rfl ?_
    exact hk w4 (f03.newer f4 fun k e => by omega)
  have hc0 : ochk o = 0 := by simpa using hc
  refine aggI (B1'.fr f3 fun h => h) (x := r) rfl ?_
  refine spec_orders_work0 (ordR_st r o hr2 f3 fun _ _ e => ⟨fun h => h, e⟩) hc0 fun i w4 f4 => ?_
  refine condN (fun he => ?_) fun he => absurd he (show ¬ ((10 : Int) = 0) by decide)
  have e1 : doN o = (10, 0) := by rw [doN, if_neg (fun h => h hc)]
  rw [e1] at hk
  refine stoAll (B23.fr f4 fun h => h) rfl rfl fun w5 B5 f5 s5 => aggI B5 (x := (10, 0)) rfl ?_
  exact hk w5 ((f03.then0 f4).newer f5 fun k e => by omega)

theorem spec_orders_All (h : Store b x F w) {s : Sl} {raws : List OrdRaw} {L : List Ordr} (hR : DR ordR (t := ordT) ok w s raws L) (hd : ∀ k, k < w.heap.size → ok k → ¬ F k) (ho : ∀ o ∈ L, OrdOk o ∧ Small o.2.2.2) (hm : Small L) {K : Res [.sc .sl] → W R}
    (hk : ∀ r w' G, Store b (allM x L).2 G w' → (∀ k, G k → (F k ∨ w.heap.size ≤ k) ∧ k < w'.heap.size) → Own (fun k => w.heap.size ≤ k ∧ ¬ G k) w' 72 resT r (allM x L).1 → Fr F w w' → K r Q w') : callW Tryz.prog k_orders_All [.pointer (some ⟨b, 0, none⟩), .slice s.a s.n s.c] [.sc .sl] K Q w := by
  refine C_orders_All _ _ K Q w ?_
  unfold F_orders_All
  have hl := hR.all.len
  have hR0 : DR ordR (t := ordT) (fun k => ok k ∧ k < w.heap.size ∧ ¬ F k) w s raws L := DR.st ordR_st hR (Fr.refl None w) fun k hk e => ⟨fun h => h, e, hk, hd k hk e⟩
  have keepR : ∀ {w' : World}, Fr F w w' → DR ordR (t := ordT) (fun k => ok k ∧ k < w.heap.size ∧ ¬ F k) w' s raws L := fun f => DR.st ordR_st hR0 f fun k _ e => ⟨e.2.2, e⟩
  refine rangeC (t := ordT) (fun s : Sl × Int => s.2) (fun j st w' => st.2 = (j : Int) ∧ Fr F w w' ∧ ∃ G, Store b (allM x (L.take j)).2 G w' ∧ (∀ k, G k → (F k ∨ w.heap.size ≤ k) ∧ k < w'.heap.size) ∧ Own (fun k => w.heap.size ≤ k ∧ ¬ G k) w' 72 resT st.1 (allM x (L.take j)).1) rfl rfl rfl
    ⟨rfl, Fr.refl _ _, fun k => F k ∧ k < w.heap.size, by simpa [allM] using h.shut, fun k e => ⟨.inl e.1, e.2⟩, by simpa [allM] using Own.nil _ _ _ _⟩ (fun j st w' h => h.1) (fun j st w' hp => (keepR hp.2.1).sl) ?_ ?_
  · rintro j a ⟨out, _⟩ w1 w2 K' hx ⟨rfl, f1, G, hst, hG, hout⟩ - B2 f2 s2 hK
    obtain ⟨o, hb, hab⟩ := (keepR f1).all.getL hx
    have hjl := (List.getElem?_eq_some_iff.1 hb).1
    obtain ⟨ho1, ho2⟩ := ho o (List.mem_of_getElem? hb)
    have hs2 : w2.heap.size = w1.heap.size + 1 := s2
    have hfs := f1.size
    refine aggI B2 (x := a) rfl ?_
    refine spec_orders_Do (Store.st.fr0 hst f2) (ordR_st a o hab f2 fun _ _ e => ⟨fun h => h, e⟩) (fun k hk e e2 => ?_) ho1 ho2 fun w3 st3 f3 => ?_
    · rcases (hG k e2).1 with h | h
      · exact e.2.2 h
      · omega
    have hs3 := f3.size
    have f23 : Fr G w1 w3 := f2.any.then f3
    let G' : Nat → Prop := fun k => Ex G w2 k ∧ k < w3.heap.size
    have hout3 : Own (fun k => w.heap.size ≤ k ∧ ¬ G' k) w3 72 resT out (allM x (L.take j)).1 := Own.st hout f23 fun k hk e => ⟨e.2, e.1, fun e2 => by
      rcases e2.1 with h | h
      · exact e.2 h
      · omega⟩
    have hlen := allM_len (L.take j) x
    rw [List.length_take] at hlen
    refine appP (x := (doM (allM x (L.take j)).2 o).1) ress_ty rfl hout3 (fun k e => ⟨by omega, fun e2 => by have := e2.2; omega⟩) (by omega) (by omega) fun r w4 o4 f4 => ?_
    have hs4 := f4.size
    have e1 : allM x (L.take (j + 1)) = ((allM x (L.take j)).1 ++ [(doM (allM x (L.take j)).2 o).1], (doM (allM x (L.take j)).2 o).2) := by rw [take_at hb, allM_snoc]
    refine hK _ _ ⟨wsucc (N := L.length) hjl (by omega), ?_, G', ?_, fun k e => ⟨?_, ?_⟩, ?_⟩
    · have f3' : Fr F w w3 := (f1.then0 f2).exS f3 fun k e => (hG k e).1
      exact f3'.thenNew f4 fun k e => (hout3.own k e).1
    · rw [e1]
      have st3' : Store b (doM (allM x (L.take j)).2 o).2 G' w3 := Store.shut st3
      exact Store.st.fr st3' f4 fun k e e2 => (hout3.own k e2).2 e
    · rcases e.1 with h | h
      · exact (hG k h).1
      · exact .inr (by omega)
    · have := e.2; omega
    · rw [e1]; exact o4
  · rintro ⟨out, _⟩ w1 ⟨_, f1, G, hst, hG, hout⟩
    rw [hl, List.take_length] at hst hout
    exact hk out w1 G hst hG hout f1
end

end Go.Proofs.YtecmpmnaeciapaaGreat
