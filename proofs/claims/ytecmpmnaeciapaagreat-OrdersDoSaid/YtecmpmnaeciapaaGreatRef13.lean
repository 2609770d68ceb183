/-
  The document's layer 13: orders done on the document's store.
-/
import Derived.Test.YtecmpmnaeciapaaGreatRef11d
import Derived.Test.YtecmpmnaeciapaaGreatOrd2
namespace Go.Proofs.YtecmpmnaeciapaaGreat
open Go Go.RowKit Go.Proofs.YtecmpmnaeciapaaGreat.Den
variable {R : Type} {Q : R → World → Prop} {w : World}
section
variable {F ok : Nat → Prop} {b : Nat} {x : StM} {r : OrdRaw} {o : Ordr}
theorem spec_r13_Do (h : R11 b x F w) (hr : ordR ok w r o) (hd : ∀ k, k < w.heap.size → ok k → ¬ F k) (ho : OrdOk o) (hsm : Small o.2.2.2) {K : Res [.agg [.int .i64, .int .u32]] → W R}
    (hk : ∀ w', R11 b (doM x o).2 (Ex F w) w' → Fr F w w' → K (doM x o).1 Q w') : callW Tryz.prog k_pinnaceref13_Do [.pointer (some ⟨b, 0, none⟩), .agg ⟨ordC r⟩] [.agg [.int .i64, .int .u32]] K Q w := by
  refine C_pinnaceref13_Do _ r K Q w ?_
  unfold F_pinnaceref13_Do
  have hst := h.shut
  refine newI fun w1 B1 f1 s1 => newI fun w2 B2 f2 s2 => ?_
  have f02 := f1.then0 f2
  have B1' := B1.fr f2 fun h => h
  have hs1 : w1.heap.size = w.heap.size + 1 := s1
  have hs2 : w2.heap.size = w1.heap.size + 1 := s2
  have hr2 : ordR (fun k => ok k ∧ k < w.heap.size) w2 r o := ordR_st r o hr f02 fun k hk e => ⟨fun h => h, e, hk⟩
  refine aggI B1' (x := r) rfl (spec_r13_Check hr2 ho hsm fun w3 f3 => ?_)
  have f03 := f02.then0 f3
  have hs3 := f3.size
  have B13 := B1'.fr f3 fun h => h
  have B23 := B2.fr f3 fun h => h
  obtain ⟨h1, h2, h3, hS⟩ := ordR_st r o hr2 f3 (F' := fun k => ok k ∧ k < w.heap.size) fun _ _ e => ⟨fun h => h, e⟩
  refine fldI B13 (x := r.2.1) rfl ?_
  rw [h2]
  have hst3 := R11.st.fr0 hst f03
  have hd3 : ∀ k, k < w3.heap.size → (ok k ∧ k < w.heap.size) → ¬ (F k ∧ k < w.heap.size) := fun k _ e e2 => hd k e.2 e.1 e2.1
  -- what is answered: an error, or an ID; the store
  have up : ∀ {y : StM} {w' : World}, R11 b y (Ex (fun k => F k ∧ k < w.heap.size) w3) w' → R11 b y (fun k => (F k ∧ k < w.heap.size) ∨ w3.heap.size ≤ k) w' := fun a => a
  refine joinI (fun (z : Int × Int) w' => Fr (fun k => F k ∧ k < w.heap.size) w3 w' ∧ R11 b (doM x o).2 (fun k => (F k ∧ k < w.heap.size) ∨ w3.heap.size ≤ k) w' ∧ (doM x o).1 = if z.1 ≠ 0 then (z.1, 0) else (0, z.2)) ?_ ?_
  · refine condE (fun hc => ?_) fun hc => ⟨Fr.refl _ _, ?_, ?_⟩
    · have hdo : doM x o = if (workM x o).2.1 ≠ 0 then (((workM x o).2.1, 0), (workM x o).2.2) else ((0, (workM x o).1), (workM x o).2.2) := by rw [doM, if_neg (fun h => h hc)]
      have hd2 : (doM x o).2 = (workM x o).2.2 := by rw [hdo]; split <;> rfl
      have hd1 : (doM x o).1 = if (workM x o).2.1 ≠ 0 then ((workM x o).2.1, 0) else (0, (workM x o).1) := by rw [hdo]; split <;> rfl
      rw [hd2, hd1]
      have fin : ∀ {i e : Int} {y : StM} {w' : World}, workM x o = (i, e, y) → R11 b y (fun k => (F k ∧ k < w.heap.size) ∨ w3.heap.size ≤ k) w' → Fr (fun k => F k ∧ k < w.heap.size) w3 w' →
          Fr (fun k => F k ∧ k < w.heap.size) w3 w' ∧ R11 b (workM x o).2.2 (fun k => (F k ∧ k < w.heap.size) ∨ w3.heap.size ≤ k) w' ∧ (if (workM x o).2.1 ≠ 0 then ((workM x o).2.1, 0) else (0, (workM x o).1)) = if e ≠ 0 then (e, 0) else (0, i) := fun hw a f => by
        rw [hw]; exact ⟨f, a, rfl⟩
      refine fldI B13 (x := r.1) rfl ?_
      rw [h1]
      refine joinK (condE (fun e => ?_) fun n1 => ?_)
      · have ew : workM x o = x.spawn o.2.2.2 := by rw [workM, if_pos e]
        refine fldI B13 (x := r.2.2.2) rfl (spec_r11_Spawn hst3 hS hd3 hsm ho.comps fun w4 a f => ?_)
        exact fin (i := (x.spawn o.2.2.2).1) (e := (x.spawn o.2.2.2).2.1) (y := (x.spawn o.2.2.2).2.2) ew a f
      refine joinK (condE (fun e => ?_) fun n2 => ?_)
      · have ew : workM x o = (o.2.1, x.despawn o.2.1) := by rw [workM, if_neg n1, if_pos e]
        refine fldI B13 (x := r.2.1) rfl ?_
        rw [h2]
        exact spec_r11_Despawn hst3 ho.id fun w4 a f => fin (i := o.2.1) ew a f
      refine joinK (condE (fun e => ?_) fun n3 => ?_)
      · obtain ⟨c, hcs⟩ := ochk_one hc (.inl e)
        have ew : workM x o = (o.2.1, x.set o.2.1 c) := by rw [workM, if_neg n1, if_neg n2, if_pos e, hcs]; rfl
        refine fldI B13.drew (x := r.2.1) rfl (fldI B13.drew (x := r.2.2.2) rfl ?_)
        rw [h2]
        refine (hS.fr0 (Fr.refl None w3).drew).get (j := 0) rfl rfl (by rw [hcs]; simp) fun c' hc' => ?_
        rw [hcs] at hc'
        simp at hc'
        subst hc'
        refine spec_r11_Set (c := c) (R11.st.fr0 hst3 (Fr.refl None w3).drew) (ho.comps c (by rw [hcs]; simp)).1.1 fun w4 a f => fin (i := o.2.1) ew a ((Fr.refl None w3).drew.any.then f)
      refine joinK (condE (fun e => ?_) fun n4 => ?_)
      · obtain ⟨c, hcs⟩ := ochk_one hc (.inr e)
        have ew : workM x o = (o.2.1, x.add o.2.1 c) := by rw [workM, if_neg n1, if_neg n2, if_neg n3, if_pos e, hcs]; rfl
        refine fldI B13.drew (x := r.2.1) rfl (fldI B13.drew (x := r.2.2.2) rfl ?_)
        rw [h2]
        refine (hS.fr0 (Fr.refl None w3).drew).get (j := 0) rfl rfl (by rw [hcs]; simp) fun c' hc' => ?_
        rw [hcs] at hc'
        simp at hc'
        subst hc'
        refine spec_r11_Add (c := c) (R11.st.fr0 hst3 (Fr.refl None w3).drew) ho.id (ho.comps c (by rw [hcs]; simp)).1.1 fun w4 a f => fin (i := o.2.1) ew a ((Fr.refl None w3).drew.any.then f)
      have ew : workM x o = (o.2.1, x.remove o.2.1 o.2.2.1) := by rw [workM, if_neg n1, if_neg n2, if_neg n3, if_neg n4]
      have e5 : o.1 = 5 := by
        unfold ochk at hc
        rw [if_neg n1, if_neg n2, if_neg (by omega)] at hc
        split at hc
        · rename_i h; exact h.1
        · exact absurd hc (by decide)
      refine joinK (condE (fun _ => ?_) fun n5 => absurd e5 n5)
      refine fldI B13 (x := r.2.1) rfl (fldI B13 (x := r.2.2.1) rfl ?_)
      rw [h2, h3]
      exact spec_r11_Remove hst3 ho.id fun w4 a f => fin (i := o.2.1) ew a f
    · have e1 : doM x o = ((ochk o, 0), x) := by rw [doM, if_pos hc]
      rw [e1]
      exact R11.st.mono hst3 fun k _ e => .inl e
    · have e1 : doM x o = ((ochk o, 0), x) := by rw [doM, if_pos hc]
      rw [e1]
      exact (if_pos hc).symm
  · rintro ⟨z1, z2⟩ w4 ⟨f4, a, hz⟩
    dsimp only at hz ⊢
    have B24 := B23.fr f4 fun e => by omega
    have f04 : Fr F w w4 := f03.any.then (f4.sub fun _ e => e.1)
    have fin : ∀ {w5 : World}, Fr (fun k => k = w1.heap.size) w4 w5 → R11 b (doM x o).2 (Ex F w) w5 ∧ Fr F w w5 := fun f => by
      refine ⟨R11.st (F := fun k => (F k ∧ k < w.heap.size) ∨ (w3.heap.size ≤ k)) a f fun k _ e => ⟨fun e2 => ?_, ?_⟩, f04.thenNew f fun k e => by omega⟩
      · rcases e with e | e <;> omega
      · rcases e with e | e
        · exact .inl e.1
        · exact .inr (by omega)
    refine condN (fun hne => ?_) fun heq => ?_
    · rw [if_pos hne] at hz
      rw [hz] at hk
      exact stoAll B24 rfl rfl fun w5 B5 f5 s5 => aggI B5 (x := (z1, 0)) rfl (hk w5 (fin f5).1 (fin f5).2)
    · rw [if_neg (fun h => h heq)] at hz
      rw [hz] at hk
      exact stoAll B24 rfl rfl fun w5 B5 f5 s5 => aggI B5 (x := (0, z2)) rfl (hk w5 (fin f5).1 (fin f5).2)

theorem spec_r13_All (h : R11 b x F w) {s : Sl} {raws : List OrdRaw} {L : List Ordr} (hR : DR ordR (t := ordT) ok w s raws L) (hd : ∀ k, k < w.heap.size → ok k → ¬ F k) (ho : ∀ o ∈ L, OrdOk o ∧ Small o.2.2.2) (hm : Small L) {K : Res [.sc .sl] → W R}
    (hk : ∀ r w' G, R11 b (allM x L).2 G w' → (∀ k, G k → (F k ∨ w.heap.size ≤ k) ∧ k < w'.heap.size) → Own (fun k => w.heap.size ≤ k ∧ ¬ G k) w' 72 resT r (allM x L).1 → Fr F w w' → K r Q w') : callW Tryz.prog k_pinnaceref13_All [.pointer (some ⟨b, 0, none⟩), .slice s.a s.n s.c] [.sc .sl] K Q w := by
  refine C_pinnaceref13_All _ _ K Q w ?_
  unfold F_pinnaceref13_All
  have hl := hR.all.len
  have hR0 : DR ordR (t := ordT) (fun k => ok k ∧ k < w.heap.size ∧ ¬ F k) w s raws L := DR.st ordR_st hR (Fr.refl None w) fun k hk e => ⟨fun h => h, e, hk, hd k hk e⟩
  have keepR : ∀ {w' : World}, Fr F w w' → DR ordR (t := ordT) (fun k => ok k ∧ k < w.heap.size ∧ ¬ F k) w' s raws L := fun f => DR.st ordR_st hR0 f fun k _ e => ⟨e.2.2, e⟩
  refine rangeC (t := ordT) (fun s : Sl × Int => s.2) (fun j st w' => st.2 = (j : Int) ∧ Fr F w w' ∧ ∃ G, R11 b (allM x (L.take j)).2 G w' ∧ (∀ k, G k → (F k ∨ w.heap.size ≤ k) ∧ k < w'.heap.size) ∧ Own (fun k => w.heap.size ≤ k ∧ ¬ G k) w' 72 resT st.1 (allM x (L.take j)).1) rfl rfl rfl
    ⟨rfl, Fr.refl _ _, fun k => F k ∧ k < w.heap.size, by simpa [allM] using h.shut, fun k e => ⟨.inl e.1, e.2⟩, by simpa [allM] using Own.nil _ _ _ _⟩ (fun j st w' h => h.1) (fun j st w' hp => (keepR hp.2.1).sl) ?_ ?_
  · rintro j a ⟨out, _⟩ w1 w2 K' hx ⟨rfl, f1, G, hst, hG, hout⟩ - B2 f2 s2 hK
    obtain ⟨o, hb, hab⟩ := (keepR f1).all.getL hx
    have hjl := (List.getElem?_eq_some_iff.1 hb).1
    obtain ⟨ho1, ho2⟩ := ho o (List.mem_of_getElem? hb)
    have hs2 : w2.heap.size = w1.heap.size + 1 := s2
    have hfs := f1.size
    refine aggI B2 (x := a) rfl ?_
    refine spec_r13_Do (R11.st.fr0 hst f2) (ordR_st a o hab f2 fun _ _ e => ⟨fun h => h, e⟩) (fun k hk e e2 => ?_) ho1 ho2 fun w3 st3 f3 => ?_
    · rcases (hG k e2).1 with h | h
      · exact e.2.2 h
      · omega
    have hs3 := f3.size
    refine newI fun w4 B4 f4 s4 => stoAll B4 rfl rfl fun w5 B5 f5 s5 => aggI B5 (x := (doM (allM x (L.take j)).2 o).1) rfl ?_
    have f35 : Fr None w3 w5 := f4.newer f5 fun k e => by omega
    have hs35 := f35.size
    have f25 : Fr G w1 w5 := (f2.any.then f3).then f35.any
    let G' : Nat → Prop := fun k => Ex G w2 k ∧ k < w3.heap.size
    have hout3 : Own (fun k => w.heap.size ≤ k ∧ ¬ G' k) w5 72 resT out (allM x (L.take j)).1 := Own.st hout f25 fun k hk e => ⟨e.2, e.1, fun e2 => by
      rcases e2.1 with h | h
      · exact e.2 h
      · omega⟩
    have hlen := allM_len (L.take j) x
    rw [List.length_take] at hlen
    refine appP (x := (doM (allM x (L.take j)).2 o).1) ress_ty rfl hout3 (fun k e => ⟨by omega, fun e2 => by have := e2.2; omega⟩) (by omega) (by omega) fun r w6 o6 f6 => ?_
    have hs6 := f6.size
    have e1 : allM x (L.take (j + 1)) = ((allM x (L.take j)).1 ++ [(doM (allM x (L.take j)).2 o).1], (doM (allM x (L.take j)).2 o).2) := by rw [take_at hb, allM_snoc]
    refine hK _ _ ⟨wsucc (N := L.length) hjl (by omega), ?_, G', ?_, fun k e => ⟨?_, ?_⟩, ?_⟩
    · have f3' : Fr F w w3 := (f1.then0 f2).exS f3 fun k e => (hG k e).1
      exact (f3'.then0 f35).thenNew f6 fun k e => (hout3.own k e).1
    · rw [e1]
      have st3' : R11 b (doM (allM x (L.take j)).2 o).2 G' w3 := R11.shut st3
      exact R11.st.fr (R11.st.fr0 st3' f35) f6 fun k e e2 => (hout3.own k e2).2 e
    · rcases e.1 with h | h
      · exact (hG k h).1
      · exact .inr (by omega)
    · have := e.2; omega
    · rw [e1]; exact o6
  · rintro ⟨out, _⟩ w1 ⟨_, f1, G, hst, hG, hout⟩
    rw [hl, List.take_length] at hst hout
    exact hk out w1 G hst hG hout f1
end

end Go.Proofs.YtecmpmnaeciapaaGreat
