/-
  The document's layer 11: what each function answers, second part.
-/
import Derived.Test.YtecmpmnaeciapaaGreatRef11b
namespace Go.Proofs.YtecmpmnaeciapaaGreat
open Go Go.RowKit Go.Proofs.YtecmpmnaeciapaaGreat.Den
variable {R : Type} {Q : R → World → Prop} {w : World}
section
variable {lab : Nat → Nat} {b bs : Nat} {cs : List Value} {s : SM} {T : Nat → List Ent}
theorem r11_drop (h : R11R lab w b bs cs s T) {m i : Nat} (hm : m < 64) {id : Int} (hr : rowM (T m) id = some i) {K : Res [.sc .sl, .sc (.int .i64)] → W R}
    (hk : ∀ lab' cs' sl w', R11R lab' w' b bs cs' s (upd T m (dropI (T m) i)) → (∀ k, lab' k ≠ 0 → lab k ≠ 0 ∨ w.heap.size ≤ k) → Fr (fun k => lab k ≠ 0) w w' → K (sl, 0) Q w') :
    callW Tryz.prog k_pinnaceref10_Remove [.pointer (some ⟨b, 1 + m * 2, none⟩), .int .u32 id] [.sc .sl, .sc (.int .i64)] K Q w := by
  obtain ⟨t1, sl, t2, t3⟩ := h.tab _ hm
  obtain ⟨lab', hrf, hF⟩ := t3.rf h.blk t1 t2 (by rw [h.lb]; omega)
  refine spec_rA_Remove hrf (fun h0 => by rw [hr] at h0; cases h0) fun i' e gone lab2 cs' w2 hr2 _ hrf2 hcs hex _ f2 => ?_
  rw [hr] at hr2
  cases hr2
  obtain ⟨B2, _, sl2, c1, A2⟩ := ArrO.of (F' := Ex (fun k => lab k = 3 + m) w) hrf2 fun k e => by
    rcases hex k e with e | e
    · rcases hF k e with e | e
      · exact .inl (.inl e)
      · exact .inr e
    · exact .inl (.inr e)
  have f2' : Fr (fun k => lab k = 3 + m ∨ k = b) w w2 := f2.sub hF
  refine hk _ cs' gone w2 (h.setTab hm B2 hcs c1 A2 f2') (fun k e => ?_) (f2'.sub fun k e => ?_)
  · rcases relab_ne e with ⟨e, _⟩ | ⟨e, _⟩
    · exact .inl e
    · exact .inr e
  · rcases e with e | e
    · omega
    · rw [e, h.lb]; decide
theorem r11_setAt (h : R11R lab w b bs cs s T) {m i : Nat} (hm : m < 64) {id : Int} (hr : rowM (T m) id = some i) {c : Comp} (hc0 : 0 ≤ c.1) (hc : checkM c = 0) (hk0 : c.1 ∈ kindsOf m) {K : Res [.sc (.int .i64)] → W R}
    (hk : ∀ lab' w', R11R lab' w' b bs cs s (upd T m (setL (T m) i c)) → (∀ k, lab' k ≠ 0 → lab k ≠ 0 ∨ w.heap.size ≤ k) → Fr (fun k => lab k ≠ 0) w w' → K 0 Q w') :
    callW Tryz.prog k_pinnaceref10_Set [.pointer (some ⟨b, 1 + m * 2, none⟩), .int .u32 id, .agg ⟨compC c⟩] [.sc (.int .i64)] K Q w := by
  obtain ⟨t1, sl, t2, t3⟩ := h.tab _ hm
  obtain ⟨lab', hrf, hF⟩ := t3.rf h.blk t1 t2 (by rw [h.lb]; omega)
  have hs : setM m (T m) id c = 0 := by rw [setM, if_neg (fun h => h hc), hr]; simp [hk0]
  have hset : setT m (T m) id c = setL (T m) i c := by rw [setT, hs, if_pos rfl, hr]; rfl
  refine spec_rA_Set hrf hc0 fun lab2 w2 hrf2 hex f2 => ?_
  rw [hs]
  rw [hset] at hrf2
  obtain ⟨B2, _, sl2, c1, A2⟩ := ArrO.of (F' := Ex (fun k => lab k = 3 + m) w) hrf2 fun k e => by
    rcases hex k e with e | e
    · rcases hF k e with e | e
      · exact .inl (.inl e)
      · exact .inr e
    · exact .inl (.inr e)
  have f2' : Fr (fun k => lab k = 3 + m ∨ k = b) w w2 := f2.sub hF
  refine hk _ w2 (h.setTab hm B2 (fun _ _ => rfl) c1 A2 f2') (fun k e => ?_) (f2'.sub fun k e => ?_)
  · rcases relab_ne e with ⟨e, _⟩ | ⟨e, _⟩
    · exact .inl e
    · exact .inr e
  · rcases e with e | e
    · omega
    · rw [e, h.lb]; decide
end

section
variable {F : Nat → Prop} {b : Nat} {x : StM}
theorem StM.ent_none {x : StM} {id : Int} (h : x.at id = none) : x.ent id = ((0, []), 7) := by unfold StM.ent; rw [h]
theorem StM.ent_some {x : StM} {id : Int} {m i : Nat} {e : Ent} (h : x.at id = some (m, i, e)) : x.ent id = (e, 0) := by unfold StM.ent; rw [h]
theorem Rd11.none {x : StM} {id : Int} (h : x.at id = none) : (x.ent id).2 = 7 := by rw [StM.ent_none h]

theorem spec_r11_Despawn (h : R11 b x F w) {id : Int} (hid : IdOk id) {K : Res [.sc (.int .i64)] → W R} (hk : ∀ w', R11 b (x.despawn id).2 (Ex F w) w' → Fr F w w' → K (x.despawn id).1 Q w') :
    callW Tryz.prog k_pinnaceref11_Despawn [.pointer (some ⟨b, 0, none⟩), .int .u32 id] [.sc (.int .i64)] K Q w := by
  have hst := h.shut
  refine C_pinnaceref11_Despawn _ _ K Q w ?_
  unfold F_pinnaceref11_Despawn
  refine spec_r11_Ent h fun sl w1 _ f1 => ?_
  refine newI fun w2 B2 f2 s2 => stoAll B2 rfl rfl fun w3 B3 f3 s3 => ?_
  have f03 : Fr None w w3 := f1.then0 (f2.newer f3 fun k e => by omega)
  cases ha : x.at id with
  | none =>
    rw [StM.ent_none ha]
    have e : x.despawn id = (7, x) := by unfold StM.despawn; rw [ha]
    rw [e] at hk
    exact condT rfl (hk w3 (R11.st h f03 fun k _ e => ⟨fun h => h, .inl e⟩) f03.any)
  | some p =>
    obtain ⟨m, i, e⟩ := p
    rw [StM.ent_some ha]
    have ed : x.despawn id = (0, ⟨x.s.freed id, upd x.tab m (dropI (x.tab m) i)⟩) := by unfold StM.despawn; rw [ha]
    obtain ⟨ok, lab, bs, cs, hF, hR⟩ := R11.st.fr0 hst f03
    obtain ⟨hh, hm, hr, he, _, _, hl⟩ := ok.at_some ha
    have hokd := ok.despawn id
    rw [ed] at hk hokd
    refine condF rfl (r11_find hR fun w4 f4 => ?_)
    rw [hh]
    refine r11_drop (hR.fr0 f4) hm hr fun lab5 cs5 g w5 h5 hex5 f5 => ?_
    have hs4 := f4.size
    have hs3 := f03.size
    refine ptrI (fldI h5.blk (i := 0) (x := some ⟨bs, 0, none⟩) h5.c0 ?_)
    refine s7_Free h5.slots hid hl fun w6 hS6 f6 => ?_
    have h6 := h5.setSlots hS6 f6
    have fa : Fr F w w5 := (f03.then0 f4).any.then (f5.sub fun k e => (hF k e).1)
    have hx : ∀ k, lab5 k ≠ 0 → F k ∨ w.heap.size ≤ k := fun k e => by
      rcases hex5 k e with e | e
      · exact .inl (hF k e).1
      · exact .inr (by omega)
    exact hk w6 ⟨hokd, lab5, bs, cs5, hx, h6⟩ (fa.exS f6 fun k e => hx k (by omega))

theorem spec_r11_Get (h : R11 b x F w) {id k : Int} {K : Res [.agg [.int .u8, .int .i32, .int .i32, .int .i32], .sc (.int .i64)] → W R} (hk : ∀ w', Fr None w w' → K (x.get id k) Q w') :
    callW Tryz.prog k_pinnaceref11_Get [.pointer (some ⟨b, 0, none⟩), .int .u32 id, .int .u8 k] [.agg [.int .u8, .int .i32, .int .i32, .int .i32], .sc (.int .i64)] K Q w := by
  refine C_pinnaceref11_Get _ _ _ K Q w ?_
  unfold F_pinnaceref11_Get
  have ok := h.1
  refine newI fun w0 B0 f0 s0 => spec_r11_Ent (R11.st.fr0 h f0) fun sl w1 hsl f1 => ?_
  have B1 := B0.fr f1 fun h => h
  refine newI fun w2 B2 f2 s2 => stoAll B2 rfl rfl fun w3 B3 f3 s3 => ?_
  have f13 : Fr None w1 w3 := f2.newer f3 fun k e => by omega
  have f03 := (f0.then0 f1).then0 f13
  have B13 := B1.fr f13 fun h => h
  have zero : ∀ {z : Int} {w' : World}, Blk w' w.heap.size 60 [.int .u8 0, .int .i32 0, .int .i32 0, .int .i32 0] → Fr None w w' → x.get id k = ((0, 0, 0, 0), z) →
      (stoL ⟨w.heap.size, 0, none⟩ [.int .u8 0, .int .i32 0, .int .i32 0, .int .i32 0] 0 <| ld (.agg [.int .u8, .int .i32, .int .i32, .int .i32]) ⟨w.heap.size, 0, none⟩ fun (y : Int × Int × Int × Int) => retW (y, z) : W ((Int × Int × Int × Int) × Int)) (fun r w => K r Q w) w' := fun B f hz =>
    stoAll B rfl rfl fun w4 B4 f4 s4 => aggI B4 (x := (0, 0, 0, 0)) rfl (by have := hk w4 (f.newer f4 fun k e => by omega); rw [hz] at this; exact this)
  cases ha : x.at id with
  | none =>
    rw [StM.ent_none ha] at B3 ⊢
    exact condT rfl (zero B13 f03 (by unfold StM.get; rw [ha]))
  | some p =>
    obtain ⟨m, i, e⟩ := p
    rw [StM.ent_some ha] at B3 hsl ⊢
    obtain ⟨_, hm, _, _, _, hv, _⟩ := ok.at_some ha
    have hsm : Small e.2 := by have := hv.small; show _ ≤ 1048576; omega
    have hsl3 := hsl.fr0 f13
    refine condF rfl (fldI B3 (x := sl) rfl (spec_r5_Find hsl3 hsm fun w4 f4 => ?_))
    rcases findM_valid hv k with ⟨hneg, hno⟩ | ⟨q, hq, hlq, hin⟩
    · exact condT (decide_eq_true hneg) (zero (B13.fr f4 fun h => h) (f03.then0 f4) (by unfold StM.get; rw [ha]; simp only [if_neg hno]))
    · refine condF (decide_eq_false (by dsimp only; omega)) (fldI (B3.fr f4 fun h => h) (x := sl) rfl ?_)
      refine (hsl3.fr0 f4).get rfl hq (List.getElem?_eq_some_iff.1 hlq).1 fun c hc => ?_
      rw [hlq] at hc
      cases hc
      refine stoAll (B13.fr f4 fun h => h) rfl rfl fun w5 B5 f5 s5 => aggI B5 (x := (k, fieldsOf e.2 k)) rfl ?_
      have := hk w5 ((f03.then0 f4).newer f5 fun k e => by omega)
      rw [show x.get id k = ((k, fieldsOf e.2 k), 0) by unfold StM.get; rw [ha]; simp only [if_pos hin]] at this
      exact this

theorem spec_r11_Set (h : R11 b x F w) {id : Int} {c : Comp} (hc0 : 0 ≤ c.1) {K : Res [.sc (.int .i64)] → W R} (hk : ∀ w', R11 b (x.set id c).2 (Ex F w) w' → Fr F w w' → K (x.set id c).1 Q w') :
    callW Tryz.prog k_pinnaceref11_Set [.pointer (some ⟨b, 0, none⟩), .int .u32 id, .agg ⟨compC c⟩] [.sc (.int .i64)] K Q w := by
  have hst := h.shut
  refine C_pinnaceref11_Set _ _ _ K Q w ?_
  unfold F_pinnaceref11_Set
  refine newI fun w1 B1 f1 s1 => condF rfl (aggI B1 (x := c) rfl (spec_r5_Check (c := c) hc0 fun w2 f2 => ?_))
  have f02 := f1.then0 f2
  have same : ∀ {z : Int} {w' : World}, Fr None w w' → x.set id c = (z, x) → K z Q w' := fun f hz => by
    have := hk _ (by rw [hz]; exact R11.st h f fun k _ e => ⟨fun h => h, .inl e⟩) f.any
    rw [hz] at this
    exact this
  refine condN (fun hc => same f02 (by unfold StM.set; rw [if_pos hc])) fun hc => ?_
  have hc : checkM c = 0 := by simpa using hc
  have B2 := B1.fr f2 fun h => h
  refine fldI B2 (x := c.1) rfl (spec_r11_Get (R11.st.fr0 h f02) fun w3 f3 => ?_)
  refine newI fun w4 B4 f4 s4 => stoAll B4 rfl rfl fun w5 B5 f5 s5 => ?_
  have f35 : Fr None w3 w5 := f4.newer f5 fun k e => by omega
  have f05 := (f02.then0 f3).then0 f35
  have B15 := (B2.fr f3 fun h => h).fr f35 fun h => h
  cases ha : x.at id with
  | none =>
    rw [show (x.get id c.1).2 = 7 by unfold StM.get; rw [ha]]
    exact condT rfl (same f05 (by unfold StM.set; rw [if_neg (fun h => h hc), ha]))
  | some p =>
    obtain ⟨m, i, e⟩ := p
    by_cases hin : c.1 ∈ kindsOf m
    · rw [show (x.get id c.1).2 = 0 by unfold StM.get; rw [ha]; simp only [if_pos hin]]
      have es : x.set id c = (0, ⟨x.s, upd x.tab m (setL (x.tab m) i c)⟩) := by unfold StM.set; rw [if_neg (fun h => h hc), ha]; simp only [if_pos hin]
      obtain ⟨ok, lab, bs, cs, hF, hR⟩ := R11.st.fr0 hst f05
      obtain ⟨hh, hm, hr, he, _, _, _⟩ := ok.at_some ha
      have hoks := ok.setM id c
      rw [es] at hk hoks
      have fd : Fr None w5 w5.drew := (Fr.refl _ _).drew
      refine condF rfl (aggI B15.drew (x := c) rfl (r11_find (hR.fr0 fd) fun w6 f6 => ?_))
      rw [hh]
      have B16 := (B15.fr fd fun h => h).fr f6 fun h => h
      refine andI (by have := B16.cells 0 _ (fun j u h => by rw [Nat.zero_add]; exact h); exact Rd.cells.2 this) ?_
      refine r11_setAt ((hR.fr0 fd).fr0 f6) hm hr hc0 hc hin fun lab7 w7 h7 hex f7 => ?_
      have f06 := (f05.then0 fd).then0 f6
      have hs6 := f06.size
      have hx : ∀ k, lab7 k ≠ 0 → F k ∨ w.heap.size ≤ k := fun k e => by
        rcases hex k e with e | e
        · exact .inl (hF k e).1
        · exact .inr (by omega)
      exact hk w7 ⟨hoks, lab7, bs, cs, hx, h7⟩ (f06.any.then (f7.sub fun k e => (hF k e).1))
    · rw [show (x.get id c.1).2 = 10 by unfold StM.get; rw [ha]; simp only [if_neg hin]]
      exact condT rfl (same f05 (by unfold StM.set; rw [if_neg (fun h => h hc), ha]; simp only [if_neg hin]))
end

end Go.Proofs.YtecmpmnaeciapaaGreat
