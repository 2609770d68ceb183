/-
  The document's layer 11: what each function answers, third part.
-/
import Derived.Test.YtecmpmnaeciapaaGreatRef11c
import Derived.Test.YtecmpmnaeciapaaGreatDeep
namespace Go.Proofs.YtecmpmnaeciapaaGreat
open Go Go.RowKit Go.Proofs.YtecmpmnaeciapaaGreat.Den
variable {R : Type} {Q : R → World → Prop} {w : World}
section
variable {F : Nat → Prop} {b : Nat} {x : StM}
theorem EntsR.snoc {ok : Nat → Prop} {raws : List (Int × Sl)} {L : List Ent} (h : EntsR ok w raws L) {r : Int × Sl} {e : Ent} (h1 : r.1 = e.1) (h2 : SlT ok w compT r.2 e.2) : EntsR ok w (raws ++ [r]) (L ++ [e]) := by
  have := (show All2 (fun (r : Int × Sl) (e : Ent) => r.1 = e.1 ∧ SlT ok w compT r.2 e.2) raws L from ⟨h.len, h.at_⟩).snoc (a := r) (b := e) ⟨h1, h2⟩
  exact ⟨this.len, this.at_⟩
theorem listE_small' {l : List Comp} (h : listE l = 0) : l.length ≤ 6 := (Valid.mk h rfl : Valid (maskN l) l).small
theorem spec_r11_turn (h : R11 b x F w) {id : Int} (hid : IdOk id) {m i : Nat} {e : Ent} (ha : x.at id = some (m, i, e)) {ok : Nat → Prop} {r : Sl} {l : List Comp} (hS : SlT ok w compT r l) (hd : ∀ k, k < w.heap.size → ok k → ¬ F k) (hsm : Small l) (hv : listE l = 0) {K : Res [] → W R}
    (hk : ∀ w', R11 b (x.turn id m i l) (Ex F w) w' → Fr F w w' → K () Q w') : callW Tryz.prog k_pinnaceref11_turn [.pointer (some ⟨b, 0, none⟩), .int .u32 id, .slice r.a r.n r.c] [] K Q w := by
  refine C_pinnaceref11_turn _ _ _ K Q w ?_
  unfold F_pinnaceref11_turn
  obtain ⟨okx, lab, bs, cs, hF, hR⟩ := h.shut
  obtain ⟨hh, hm, hr, he, heid, _, _⟩ := okx.at_some ha
  subst heid
  refine r11_find hR fun w1 f1 => ?_
  rw [hh]
  refine r11_drop (hR.fr0 f1) hm hr fun lab2 cs2 g w2 h2 hex2 f2 => ?_
  have f02 : Fr (fun k => lab k ≠ 0) w w2 := f1.any.then f2
  have hs1 := f1.size
  have hdrop := okx.drop hm he
  have hno : rowM (upd x.tab m (dropI (x.tab m) i) (maskN l)) e.1 = none := by
    have : homeT (upd x.tab m (dropI (x.tab m) i)) e.1 = none := by rw [home_drop okx hm he, if_pos rfl]
    have := home_none.1 this _ (maskN_lt l)
    unfold inT at this
    simpa using this
  have hroom : (upd x.tab m (dropI (x.tab m) i) (maskN l)).length < 1048576 := Nat.lt_of_le_of_lt (hdrop.tab_le (maskN_lt l)) (by decide)
  have hS2 : SlT (fun k => ok k ∧ k < w.heap.size) w2 compT r l := SlT.st (F := fun k => ok k ∧ k < w.heap.size) (hS.mono fun k hk e => ⟨e, hk⟩) f02 fun k hk e => ⟨fun e2 => hd k hk e.1 (hF k e2).1, e⟩
  refine r11_put h2 hid hS2 hsm (fun c hc => checkM_ok ((listE_0.1 hv).1 c hc)) hv hno hroom fun lab3 cs3 w3 h3 hex3 f3 => ?_
  have hs2 := f02.size
  have hx2 : ∀ k, lab2 k ≠ 0 → F k ∨ w.heap.size ≤ k := fun k e => by
    rcases hex2 k e with e | e
    · exact .inl (hF k e).1
    · exact .inr (by omega)
  refine hk w3 ⟨okx.turn hm he hv, lab3, bs, cs3, fun k e => ?_, h3⟩ ((f02.sub fun k e => (hF k e).1).exS f3 hx2)
  rcases hex3 k e with e | e
  · exact hx2 k e
  · exact .inr (by omega)

theorem spec_r11_Add (h : R11 b x F w) {id : Int} (hid : IdOk id) {c : Comp} (hc0 : 0 ≤ c.1) {K : Res [.sc (.int .i64)] → W R} (hk : ∀ w', R11 b (x.add id c).2 (Ex F w) w' → Fr F w w' → K (x.add id c).1 Q w') :
    callW Tryz.prog k_pinnaceref11_Add [.pointer (some ⟨b, 0, none⟩), .int .u32 id, .agg ⟨compC c⟩] [.sc (.int .i64)] K Q w := by
  have hst := h.shut
  have ok := h.1
  refine C_pinnaceref11_Add _ _ _ K Q w ?_
  unfold F_pinnaceref11_Add
  refine newI fun w1 B1 f1 s1 => condF rfl (aggI B1 (x := c) rfl (spec_r5_Check (c := c) hc0 fun w2 f2 => ?_))
  have f02 := f1.then0 f2
  have same : ∀ {z : Int} {w' : World}, Fr None w w' → x.add id c = (z, x) → K z Q w' := fun f hz => by
    have := hk _ (by rw [hz]; exact R11.st h f fun k _ e => ⟨fun h => h, .inl e⟩) f.any
    rw [hz] at this
    exact this
  refine condN (fun hc => same f02 (by unfold StM.add; rw [if_pos hc])) fun hc => ?_
  have hc : checkM c = 0 := by simpa using hc
  have B2 := B1.fr f2 fun h => h
  refine spec_r11_Ent (R11.st.fr0 hst f02) fun sl w3 hsl f3 => ?_
  refine newI fun w4 B4 f4 s4 => stoAll B4 rfl rfl fun w5 B5 f5 s5 => ?_
  have f35 : Fr None w3 w5 := f4.newer f5 fun k e => by omega
  have f05 := (f02.then0 f3).then0 f35
  have B15 := (B2.fr f3 fun h => h).fr f35 fun h => h
  cases ha : x.at id with
  | none =>
    rw [StM.ent_none ha]
    exact condT rfl (same f05 (by unfold StM.add; rw [if_neg (fun h => h hc), ha]))
  | some p =>
    obtain ⟨m, i, e⟩ := p
    rw [StM.ent_some ha] at B5 hsl ⊢
    obtain ⟨_, hm, _, _, _, hv, _⟩ := ok.at_some ha
    have hsm : Small e.2 := by have := hv.small; show _ ≤ 1048576; omega
    have hsl5 := hsl.fr0 f35
    refine condF rfl (fldI B5 (x := sl) rfl (fldI B15 (x := c.1) rfl (spec_r5_Find hsl5 hsm fun w6 f6 => ?_)))
    rcases findM_valid hv c.1 with ⟨hneg, hno⟩ | ⟨q, hq, hlq, hin⟩
    · refine condF (decide_eq_false (by dsimp only; omega)) (fldI (B5.fr f6 fun h => h) (x := sl) rfl (aggI (B15.fr f6 fun h => h) (x := c) rfl ?_))
      have hnk : ∀ y ∈ e.2, y.1 ≠ c.1 := fun y hy e2 => hno (by rw [← hv.kinds, ← e2]; exact List.mem_map.2 ⟨y, hy, rfl⟩)
      refine spec_r5_With (hsl5.fr0 f6) hsm fun wl w7 o7 f7 => ?_
      dsimp only at o7
      rw [withM_new hnk] at o7
      have f07 := (f05.then0 f6).then0 f7
      have hsz := (f05.then0 f6).size
      have ea : x.add id c = (0, x.turn id m i (insC e.2 c)) := by unfold StM.add; rw [if_neg (fun h => h hc), ha]; simp only [if_neg hno]
      rw [ea] at hk
      have hvi := hv.ins hc hno
      refine spec_r11_turn (R11.st.fr0 hst f07) hid ha o7.sl (fun k _ e1 e2 => by have e1 : w6.heap.size ≤ k := e1; omega) (Nat.le_trans (listE_small' hvi) (by decide)) hvi fun w8 h8 f8 => ?_
      have hs7 := f07.size
      exact hk w8 (R11.st.mono h8 fun k _ e => by rcases e with e | e; exact .inl e.1; exact .inr (by omega)) (f07.any.then (f8.sub fun k e => e.1))
    · exact condT (decide_eq_true (by dsimp only; omega)) (same (f05.then0 f6) (by unfold StM.add; rw [if_neg (fun h => h hc), ha]; simp only [if_pos hin]))

theorem spec_r11_Remove (h : R11 b x F w) {id : Int} (hid : IdOk id) {k : Int} {K : Res [.sc (.int .i64)] → W R} (hk : ∀ w', R11 b (x.remove id k).2 (Ex F w) w' → Fr F w w' → K (x.remove id k).1 Q w') :
    callW Tryz.prog k_pinnaceref11_Remove [.pointer (some ⟨b, 0, none⟩), .int .u32 id, .int .u8 k] [.sc (.int .i64)] K Q w := by
  have hst := h.shut
  have ok := h.1
  refine C_pinnaceref11_Remove _ _ _ K Q w ?_
  unfold F_pinnaceref11_Remove
  have same : ∀ {z : Int} {w' : World}, Fr None w w' → x.remove id k = (z, x) → K z Q w' := fun f hz => by
    have := hk _ (by rw [hz]; exact R11.st h f fun k _ e => ⟨fun h => h, .inl e⟩) f.any
    rw [hz] at this
    exact this
  refine spec_r11_Ent hst fun sl w3 hsl f3 => ?_
  refine newI fun w4 B4 f4 s4 => stoAll B4 rfl rfl fun w5 B5 f5 s5 => ?_
  have f35 : Fr None w3 w5 := f4.newer f5 fun k e => by omega
  have f05 := f3.then0 f35
  cases ha : x.at id with
  | none =>
    rw [StM.ent_none ha]
    exact condT rfl (same f05 (by unfold StM.remove; rw [ha]))
  | some p =>
    obtain ⟨m, i, e⟩ := p
    rw [StM.ent_some ha] at B5 hsl ⊢
    obtain ⟨_, hm, _, _, _, hv, _⟩ := ok.at_some ha
    have hsm : Small e.2 := by have := hv.small; show _ ≤ 1048576; omega
    have hsl5 := hsl.fr0 f35
    refine condF rfl (fldI B5 (x := sl) rfl (spec_r5_Find hsl5 hsm fun w6 f6 => ?_))
    rcases findM_valid hv k with ⟨hneg, hno⟩ | ⟨q, hq, hlq, hin⟩
    · exact condT (decide_eq_true (by dsimp only; omega)) (same (f05.then0 f6) (by unfold StM.remove; rw [ha]; simp only [if_neg hno]))
    · refine condF (decide_eq_false (by dsimp only; omega)) (fldI (B5.fr f6 fun h => h) (x := sl) rfl ?_)
      refine spec_r5_Without (hsl5.fr0 f6) hsm fun wl w7 o7 f7 => ?_
      have f07 := (f05.then0 f6).then0 f7
      have hsz := (f05.then0 f6).size
      have ea : x.remove id k = (0, x.turn id m i (e.2.filter fun c => !(c.1 == k))) := by unfold StM.remove; rw [ha]; simp only [if_pos hin]
      rw [ea] at hk
      have hvi := hv.filter fun c => !(c.1 == k)
      refine spec_r11_turn (R11.st.fr0 hst f07) hid ha o7.sl (fun k _ e1 e2 => by have e1 : w6.heap.size ≤ k := e1; omega) (Nat.le_trans (listE_small' hvi) (by decide)) hvi fun w8 h8 f8 => ?_
      have hs7 := f07.size
      exact hk w8 (R11.st.mono h8 fun k _ e => by rcases e with e | e; exact .inl e.1; exact .inr (by omega)) (f07.any.then (f8.sub fun k e => e.1))

/-- all, by rising slots. -/
def entsM (x : StM) : List Ent := x.s.list.map fun id => (x.ent id).1
theorem spec_r11_List (h : R11 b x F w) {K : Res [.sc .sl] → W R} (hk : ∀ r raws w', Own (Up w.heap.size) w' 97 entT r raws → EntsR F w' raws (entsM x) → Fr None w w' → K r Q w') :
    callW Tryz.prog k_pinnaceref11_List [.pointer (some ⟨b, 0, none⟩)] [.sc .sl] K Q w := by
  refine C_pinnaceref11_List _ K Q w ?_
  unfold F_pinnaceref11_List
  have ok := h.1
  have hst := h.shut
  obtain ⟨_, lab, bs, cs, hF, hR⟩ := hst
  have hst := h.shut
  refine condF rfl (ptrI (fldI hR.blk (i := 0) (x := some ⟨bs, 0, none⟩) hR.c0 ?_))
  refine s7_List hR.slots fun rl room w1 o1 f1 => ?_
  have hle := ok.s.list_le
  have hs1 := f1.size
  refine rangeI (t := idT) (ok := Up w.heap.size) (l := x.s.list) (fun s : Sl × Int => s.2) (fun j st w' => st.2 = (j : Int) ∧ Fr None w1 w' ∧ ∃ raws, Own (Up w1.heap.size) w' 97 entT st.1 raws ∧ EntsR (fun k => F k ∧ k < w.heap.size) w' raws ((x.s.list.take j).map fun id => (x.ent id).1)) rfl ⟨rfl, Fr.refl _ _, [], Own.nil _ _ _ _, EntsR.nil _ _⟩ (fun j s w' h => h.1) (fun j st w' hp => o1.sl.fr0 hp.2.1) ?_ ?_
  · rintro j y ⟨out, _⟩ w2 K' hy ⟨rfl, f2, raws, ow, hE⟩ - hK
    have hjl := (List.getElem?_eq_some_iff.1 hy).1
    refine spec_r11_Ent (R11.st.fr0 hst (f1.then0 f2)) fun sl w3 hsl f3 => ?_
    refine newI fun w4 B4 f4 s4 => stoAll B4 rfl rfl fun w5 B5 f5 s5 => aggI B5 (x := ((x.ent y).1.1, sl)) rfl ?_
    have f35 : Fr None w3 w5 := f4.newer f5 fun k e => by omega
    have f25 := f3.then0 f35
    have o5 := ow.none f25
    have hs2 := f2.size
    have hs25 := f25.size
    have hl := hE.len
    rw [List.length_map, List.length_take] at hl
    have hl2 : raws.length ≤ 1024 := by omega
    refine appF ents_ty (x := ((x.ent y).1.1, sl)) rfl o5 (by omega) (Nat.le_trans (Nat.mul_le_mul_right 32 (Nat.succ_le_succ hl2)) (by decide)) (Nat.le_trans (Nat.succ_le_succ hl2) (by decide)) fun r w6 o6 f6 _ => ?_
    have f26 : Fr (fun k => out.v.ownBlock = some k) w2 w6 := f25.any.then f6
    have dis : ∀ k, (F k ∧ k < w.heap.size) → ¬ (out.v.ownBlock = some k) := fun k e e2 => by have : w1.heap.size ≤ k := o5.own k e2; omega
    refine hK _ _ ⟨wsucc hjl (by omega), (f2.then0 f25).newer f6 fun k e => o5.own k e, _, o6, ?_⟩
    rw [take_at hy, List.map_append]
    exact (hE.fr f26 dis).snoc rfl ((hsl.fr0 f35).fr f6 dis)
  · rintro ⟨out, _⟩ w2 ⟨-, f2, raws, ow, hE⟩
    rw [List.take_length] at hE
    exact hk out raws w2 (ow.up hs1) (hE.mono fun k _ e => e.1) (f1.then0 f2)
end

end Go.Proofs.YtecmpmnaeciapaaGreat
