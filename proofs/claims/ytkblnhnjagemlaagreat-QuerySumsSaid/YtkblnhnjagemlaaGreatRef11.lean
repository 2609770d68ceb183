/-
  What the functions of the document's layer 11 (store) compute, against the model of the program's store.
-/
import Derived.Test.YtkblnhnjagemlaaGreatRefA
import Derived.Test.YtkblnhnjagemlaaGreatRef7
import Derived.Test.YtkblnhnjagemlaaGreatSto4
import Derived.Test.YtkblnhnjagemlaaGreatDeep
namespace Go.Proofs.YtkblnhnjagemlaaGreat
open Go Go.RowKit Go.Proofs.YtkblnhnjagemlaaGreat.Den
variable {R : Type} {Q : R → World → Prop} {w : World}

/-! ### a table within the store -/
/-- C: blocks that hold lists of components; these are never written again. -/
def ArrO (C : Nat → Prop) (m : Nat) (s : Sl) (L : List Ent) : OB := fun F w => TabOk m L ∧ ∃ (raws : List (Int × Sl)) (lab : Nat → Nat), (∀ k, lab k ≠ 0 → F k ∧ k < w.heap.size) ∧ ((∀ k, lab k = 1 → ¬ C k) ∧ ∀ k, lab k = 2 → C k) ∧ Own (fun k => lab k = 1) w 34 entT s raws ∧ EntsR (fun k => lab k = 2) w raws L
theorem ArrO.st {C : Nat → Prop} {m : Nat} {s : Sl} {L : List Ent} : St (ArrO C m s L) := fun {F F' S w w'} ⟨h0, raws, lab, h1, hC, h2, h3⟩ f hs =>
  ⟨h0, raws, lab, fun k e => ⟨(hs k (h1 k e).2 (h1 k e).1).2, Nat.lt_of_lt_of_le (h1 k e).2 f.size⟩, hC, h2.fr f fun k e => (hs k (h1 k (by omega)).2 (h1 k (by omega)).1).1, h3.fr f fun k e => (hs k (h1 k (by omega)).2 (h1 k (by omega)).1).1⟩
/-- two colours are one on what there is. -/
abbrev Ag (C C' : Nat → Prop) (n : Nat) : Prop := ∀ k, k < n → (C' k ↔ C k)
theorem ArrO.recol {C C' : Nat → Prop} {m : Nat} {s : Sl} {L : List Ent} {F : Nat → Prop} (A : ArrO C m s L F w) (h : Ag C C' w.heap.size) : ArrO C' m s L F w := by
  obtain ⟨h0, raws, lab, h1, hC, h2, h3⟩ := A
  exact ⟨h0, raws, lab, h1, ⟨fun k e e2 => hC.1 k e ((h k (h1 k (by omega)).2).1 e2), fun k e => (h k (h1 k (by omega)).2).2 (hC.2 k e)⟩, h2, h3⟩
section
variable {C : Nat → Prop} {F : Nat → Prop} {b ofs m : Nat} {T : TypeId} {cs : List Value} {s : Sl} {L : List Ent}
theorem ArrO.rf (A : ArrO C m s L F w) (B : Blk w b T cs) (c0 : cs[ofs]? = some (.int .u8 (m : Int))) (c1 : cs[ofs + 1]? = some (.slice s.a s.n s.c)) (hb : ¬ F b) : ∃ lab, Rf lab w b ofs T cs m L ∧ (∀ k, lab k ≠ 0 → F k ∨ k = b) ∧ (∀ k, lab k = 1 → k = b) ∧ (∀ k, lab k = 2 → F k ∧ ¬ C k) ∧ ∀ k, lab k = 3 → C k := by
  obtain ⟨h0, raws, lab, h1, hC, h2, h3⟩ := A
  have hb0 : lab b = 0 := by
    by_cases h : lab b = 0
    · exact h
    · exact absurd (h1 b h).1 hb
  refine ⟨fun k => if k = b then 1 else if lab k = 1 then 2 else if lab k = 2 then 3 else 0, ⟨h0, s, raws, B, c0, c1, if_pos rfl, h2.mono fun k _ e => ?_, h3.mono fun k _ e => ?_, fun k e => ?_⟩, fun k e => ?_, fun k e => ?_, fun k e => ?_, fun k e => ?_⟩
  · show (if _ then _ else _) = _
    rw [if_neg (fun e2 => by subst e2; omega), if_pos e]
  · show (if _ then _ else _) = _
    rw [if_neg (fun e2 => by subst e2; omega), if_neg (by omega), if_pos e]
  · by_cases e2 : k = b
    · subst e2; exact B.lt
    · simp only [if_neg e2] at e
      refine (h1 k fun e3 => ?_).2
      rw [e3] at e; simp at e
  · by_cases e2 : k = b
    · exact .inr e2
    · simp only [if_neg e2] at e
      refine .inl (h1 k fun e3 => ?_).1
      rw [e3] at e; simp at e
  · by_cases e2 : k = b
    · exact e2
    · simp only [if_neg e2] at e
      split at e
      · omega
      · split at e <;> omega
  · by_cases e2 : k = b
    · simp [if_pos e2] at e
    · simp only [if_neg e2] at e
      split at e
      · rename_i e3; exact ⟨(h1 k (by omega)).1, hC.1 k e3⟩
      · split at e <;> omega
  · by_cases e2 : k = b
    · simp [if_pos e2] at e
    · simp only [if_neg e2] at e
      split at e
      · omega
      · split at e
        · rename_i e3; exact hC.2 k e3
        · omega
theorem ArrO.of {lab : Nat → Nat} {F' : Nat → Prop} (h : Rf lab w b ofs T cs m L) (hF : ∀ k, lab k ≠ 0 → F' k ∨ k = b) (hC : (∀ k, lab k = 2 → ¬ C k) ∧ ∀ k, lab k = 3 → C k) : Blk w b T cs ∧ cs[ofs]? = some (.int .u8 (m : Int)) ∧ ∃ s : Sl, cs[ofs + 1]? = some (.slice s.a s.n s.c) ∧ ArrO C m s L F' w := by
  obtain ⟨s, raws, r⟩ := h.rep
  refine ⟨r.blk, r.c0, s, r.c1, h.ok, raws, fun k => if lab k = 2 then 1 else if lab k = 3 then 2 else 0, fun k e => ?_, ⟨fun k e => hC.1 k (by dsimp only at e; split at e; assumption; split at e <;> omega), fun k e => hC.2 k (by dsimp only at e; split at e; omega; split at e; assumption; omega)⟩, r.own.mono fun k _ e => ?_, r.ents.mono fun k _ e => ?_⟩
  · have h0 : lab k ≠ 0 := fun e2 => by simp [e2] at e
    have hkb : k ≠ b := fun e2 => by subst e2; simp [r.lb] at e
    rcases hF k h0 with h1 | h1
    · exact ⟨h1, r.lt k h0⟩
    · exact absurd h1 hkb
  · show (if _ then _ else _) = _; rw [if_pos e]
  · show (if _ then _ else _) = _; rw [if_neg (by omega), if_pos e]
end
/-- new blocks take their colour from their labels. -/
theorem recolour {C : Nat → Prop} {n : Nat} {lab lab2 : Nat → Nat} (h2 : ∀ k, lab k = 2 → ¬ C k) (h3 : ∀ k, lab k = 3 → C k) (he : ∀ k, k < n → lab2 k = lab k) : ∃ C' : Nat → Prop, Ag C C' n ∧ (∀ k, lab2 k = 2 → ¬ C' k) ∧ ∀ k, lab2 k = 3 → C' k :=
  ⟨fun k => if k < n then C k else lab2 k = 3, fun k h => by simp only [if_pos h], fun k e => by
    by_cases h : k < n
    · simp only [if_pos h]; exact h2 k (by rw [← he k h]; exact e)
    · simp only [if_neg h]; omega, fun k e => by
    by_cases h : k < n
    · simp only [if_pos h]; exact h3 k (by rw [← he k h]; exact e)
    · simp only [if_neg h]; exact e⟩

/-! ### the store -/
structure R11R (C : Nat → Prop) (lab : Nat → Nat) (w : World) (b bs : Nat) (cs : List Value) (s : SM) (T : Nat → List Ent) : Prop where
  lb : lab b = 1
  lt : ∀ k, lab k ≠ 0 → k < w.heap.size
  nc : ∀ k, lab k = 1 ∨ lab k = 2 → ¬ C k
  blk : Blk w b 152 cs
  c0 : cs[0]? = some (.pointer (some ⟨bs, 0, none⟩))
  slots : S7O bs s (fun k => lab k = 2) w
  tab : ∀ m, m < 64 → cs[1 + m * 2]? = some (.int .u8 (m : Int)) ∧ ∃ sl : Sl, cs[1 + m * 2 + 1]? = some (.slice sl.a sl.n sl.c) ∧ ArrO C m sl (T m) (fun k => lab k = 3 + m) w
def R11 (C : Nat → Prop) (b : Nat) (x : StM) : OB := fun F w => StOk x ∧ ∃ (lab : Nat → Nat) (bs : Nat) (cs : List Value), (∀ k, lab k ≠ 0 → F k) ∧ R11R C lab w b bs cs x.s x.tab
section
variable {C : Nat → Prop} {lab : Nat → Nat} {b bs : Nat} {cs : List Value} {s : SM} {T : Nat → List Ent}
theorem R11R.cut (h : R11R C lab w b bs cs s T) {S : Nat → Prop} {w' : World} (f : Fr S w w') (hs : ∀ k, k < w.heap.size → lab k ≠ 0 → ¬ S k) : R11R C (Den.cut lab w.heap.size) w' b bs cs s T :=
  ⟨by rw [cut_lt h.blk.lt]; exact h.lb, fun k e => Nat.lt_of_lt_of_le (cut_ne e).2 f.size, fun k e => h.nc k (by have h1 := (cut_ne (lab := lab) (n := w.heap.size) (k := k) (by omega)).2; rw [cut_lt h1] at e; exact e), h.blk.fr f (hs b h.blk.lt (by rw [h.lb]; decide)), h.c0, S7O.st.cut h.slots f (by decide) hs, fun m hm => by
    obtain ⟨h1, sl, h2, h3⟩ := h.tab m hm
    exact ⟨h1, sl, h2, ArrO.st.cut h3 f (by omega) hs⟩⟩
theorem R11R.fr0 (h : R11R C lab w b bs cs s T) {w' : World} (f : Fr None w w') : R11R C lab w' b bs cs s T :=
  ⟨h.lb, fun k e => Nat.lt_of_lt_of_le (h.lt k e) f.size, h.nc, h.blk.fr f fun h => h, h.c0, S7O.st.fr0 h.slots f, fun m hm => by
    obtain ⟨h1, sl, h2, h3⟩ := h.tab m hm
    exact ⟨h1, sl, h2, ArrO.st.fr0 h3 f⟩⟩
theorem R11.st {x : StM} : St (R11 C b x) := fun {_F _F' _S w _w'} ⟨ok, lab, bs, cs, hF, h⟩ fr hs =>
  ⟨ok, Den.cut lab w.heap.size, bs, cs, fun k e => (hs k (cut_ne e).2 (hF k (cut_ne e).1)).2, h.cut fr fun k hk e => (hs k hk (hF k e)).1⟩
/-- table m is another one now. -/
theorem R11R.setTab {C' : Nat → Prop} (hag : Ag C C' w.heap.size) (h : R11R C lab w b bs cs s T) {m : Nat} (hm : m < 64) {L : List Ent} {cs' : List Value} {w' : World} (B : Blk w' b 152 cs') (hc : ∀ i, i ≠ 1 + m * 2 + 1 → cs'[i]? = cs[i]?) {sl : Sl} (c1 : cs'[1 + m * 2 + 1]? = some (.slice sl.a sl.n sl.c))
    (A : ArrO C' m sl L (Ex (fun k => lab k = 3 + m) w) w') (f : Fr (fun k => lab k = 3 + m ∨ k = b) w w') : R11R C' (relab lab w.heap.size w'.heap.size (3 + m)) w' b bs cs' s (upd T m L) := by
  have f' : ∀ {A : OB} {i : Nat}, St A → i ≠ 3 + m → i ≠ 1 → A (fun k => lab k = i) w → A (fun k => relab lab w.heap.size w'.heap.size (3 + m) k = i) w' := fun hA h1 h2 a =>
    hA a f fun k hk e => ⟨fun e2 => by
      rcases e2 with e2 | e2
      · omega
      · rw [e2, h.lb] at e; omega, by show relab _ _ _ _ _ = _; rw [relab_lt hk]; exact e⟩
  refine ⟨by rw [relab_lt h.blk.lt]; exact h.lb, fun k e => ?_, fun k e => ?_, B, by rw [hc 0 (by omega)]; exact h.c0, f' S7O.st (by omega) (by omega) h.slots, fun k hk => ?_⟩
  · rcases relab_ne e with ⟨_, e⟩ | ⟨_, e⟩
    · exact Nat.lt_of_lt_of_le e f.size
    · exact e
  · rcases relab_ne (lab := lab) (n := w.heap.size) (n' := w'.heap.size) (c := 3 + m) (k := k) (by omega) with ⟨_, e2⟩ | ⟨e2, e3⟩
    · rw [relab_lt e2] at e
      exact fun e3 => h.nc k e ((hag k e2).1 e3)
    · rw [relab_new e2 e3] at e; omega
  obtain ⟨h1, sl', h2, h3⟩ := h.tab k hk
  refine ⟨by rw [hc _ (by omega)]; exact h1, ?_⟩
  by_cases e : k = m
  · subst e
    exact ⟨sl, c1, by rw [upd_same]; exact ArrO.st.grown A⟩
  · exact ⟨sl', by rw [hc _ (by omega)]; exact h2, by rw [upd_other e]; exact f' ArrO.st (by omega) (by omega) (ArrO.recol h3 hag)⟩
theorem R11R.setSlots (h : R11R C lab w b bs cs s T) {s' : SM} {w' : World} (A : S7O bs s' (fun k => lab k = 2) w') (f : Fr (fun k => lab k = 2) w w') : R11R C lab w' b bs cs s' T :=
  ⟨h.lb, fun k e => Nat.lt_of_lt_of_le (h.lt k e) f.size, h.nc, h.blk.fr f fun e => by have := h.lb; omega, h.c0, A, fun m hm => by
    obtain ⟨h1, sl, h2, h3⟩ := h.tab m hm
    exact ⟨h1, sl, h2, ArrO.st.fr h3 f fun k e => by omega⟩⟩

theorem r11_row (h : R11R C lab w b bs cs s T) {m : Nat} (hm : m < 64) {id : Int} {K : Res [.sc (.int .i64)] → W R} (hk : ∀ w', Fr None w w' → K (rowI (T m) id) Q w') : callW Tryz.prog k_pinnaceref10_Row [.pointer (some ⟨b, 1 + m * 2, none⟩), .int .u32 id] [.sc (.int .i64)] K Q w := by
  obtain ⟨h1, sl, h2, h3⟩ := h.tab m hm
  obtain ⟨lab', hr, _, _, _, _⟩ := h3.rf h.blk h1 h2 (by rw [h.lb]; omega)
  exact spec_rA_Row hr hk
theorem pt64 {b : Nat} {i : Int} {m : Nat} (hi : i = (m : Int)) (hm : m < 64) {K : Addr → W R} (hk : K ⟨b, 1 + m * 2, none⟩ Q w) : idxW (some (Addr.add ⟨b, 0, none⟩ 1)) 64 2 i K Q w := by
  subst hi
  refine idxA (by omega) (by omega) ?_
  rw [add_lit, add_lit, Int.toNat_natCast, Nat.zero_add]
  exact hk
theorem rowI_nn {L : List Ent} {id : Int} : (rowI L id ≥ 0) ↔ (rowM L id).isSome = true := by
  unfold rowI
  cases rowM L id <;> simp <;> omega
/-- find: the table of an entity. -/
theorem r11_find (h : R11R C lab w b bs cs s T) {id : Int} {K : Res [.sc .ptr] → W R} (hk : ∀ w', Fr None w w' → K ((homeT T id).map fun m => ⟨b, 1 + m * 2, none⟩) Q w') : callW Tryz.prog k_pinnaceref11_find [.pointer (some ⟨b, 0, none⟩), .int .u32 id] [.sc .ptr] K Q w := by
  refine C_pinnaceref11_find _ _ K Q w ?_
  unfold F_pinnaceref11_find
  refine forI (N := 64) (fun s : Int => s) (fun j i w' => i = (j : Int) ∧ Fr None w w' ∧ ∀ k, k < j → ¬ inT T k id) ⟨rfl, Fr.refl _ _, by omega⟩ (fun j s w' h => h.1) ?_ ?_
  · rintro j i w1 K' hj ⟨rfl, f1, hno⟩ - hK
    refine ptrI (pt64 rfl hj (r11_row (h.fr0 f1) hj fun w2 f2 => ?_))
    refine condD (fun hp => ?_) fun hp => ?_
    · have hin : inT T j id := rowI_nn.1 hp
      have hh : homeT T id = some j := by
        unfold homeT
        rw [List.find?_range_eq_some]
        exact ⟨hin, by simpa using hj, fun k hk => by have := hno k hk; unfold inT at this; simpa using this⟩
      have e := hk w2 (f1.then0 f2)
      rw [hh] at e
      exact ptrI (pt64 rfl hj e)
    · refine hK _ _ ⟨wsucc hj (by omega), f1.then0 f2, fun k hk2 => ?_⟩
      rcases Nat.lt_succ_iff_lt_or_eq.1 hk2 with h1 | h1
      · exact hno k h1
      · subst h1; exact fun hi => hp (rowI_nn.2 hi)
  · rintro i w1 ⟨-, f1, hno⟩
    have e := hk w1 f1
    rw [home_none.2 hno] at e
    exact e

/-- put: an entity into the table of its make. -/
theorem r11_put (h : R11R C lab w b bs cs s T) {id : Int} (hid : IdOk id) {ok : Nat → Prop} {r : Sl} {l : List Comp} (hS : SlT ok w compT r l) (hsm : Small l) (hl : ∀ c ∈ l, CompOk c) (hv : listE l = 0) (hno : rowM (T (maskN l)) id = none) (hroom : (T (maskN l)).length < 1048576) {K : Res [] → W R}
    (hk : ∀ C' lab' cs' w', Ag C C' w.heap.size → R11R C' lab' w' b bs cs' s (putT T id l) → (∀ k, lab' k ≠ 0 → lab k ≠ 0 ∨ w.heap.size ≤ k) → Fr (fun k => lab k ≠ 0 ∧ ¬ C k) w w' → K () Q w') :
    callW Tryz.prog k_pinnaceref11_put [.pointer (some ⟨b, 0, none⟩), .int .u32 id, .slice r.a r.n r.c] [] K Q w := by
  refine C_pinnaceref11_put _ _ _ K Q w ?_
  unfold F_pinnaceref11_put
  have fd : Fr None w w.drew := (Fr.refl _ _).drew
  have hm := maskN_lt l
  refine ptrI (spec_r5_Mask (hS.fr0 fd) hsm fun w1 f1 => ?_)
  have f01 := fd.then0 f1
  have h1 := h.fr0 f01
  have hs1 := f01.size
  refine pt64 rfl hm ?_
  obtain ⟨t1, sl, t2, t3⟩ := h1.tab _ hm
  obtain ⟨lab', hr, hF, hb1, hb2, hb3⟩ := t3.rf h1.blk t1 t2 (by rw [h.lb]; omega)
  refine spec_rA_Add hr hid (hS.fr0 f01) hsm hl hroom fun lab2 cs' w2 hr2 hcs heq f2 => ?_
  obtain ⟨C', hag, hC2, hC3⟩ := recolour (fun k e => (hb2 k e).2) hb3 heq
  have hadd : addM (maskN l) (T (maskN l)) id l = 0 := addM_ok ⟨hv, rfl⟩ hno
  rw [addT, if_pos hadd] at hr2
  obtain ⟨B2, _, sl2, c1, A2⟩ := ArrO.of (C := C') (F' := Ex (fun k => lab k = 3 + maskN l) w1) hr2 (fun k e => by
    rcases Nat.lt_or_ge k w1.heap.size with hlt | hge
    · rw [heq k hlt] at e
      rcases hF k e with e | e
      · exact .inl (.inl e)
      · exact .inr e
    · exact .inl (.inr hge)) ⟨hC2, hC3⟩
  have f2' : Fr (fun k => lab k = 3 + maskN l ∨ k = b) w1 w2 := f2.sub fun k e => hF k (by omega)
  have h2 := h1.setTab hag hm B2 hcs c1 A2 f2'
  refine hk C' _ cs' w2 (fun k hk => hag k (by omega)) h2 (fun k e => ?_) (f01.any.then (f2.sub fun k e => ?_))
  · rcases relab_ne e with ⟨e, _⟩ | ⟨e, _⟩
    · exact .inl e
    · exact .inr (by omega)
  · rcases e with e | e
    · rw [hb1 k e]; exact ⟨by rw [h.lb]; decide, h.nc _ (.inl h.lb)⟩
    · have := hb2 k e; exact ⟨by omega, this.2⟩
end

end Go.Proofs.YtkblnhnjagemlaaGreat

namespace Go.Proofs.YtkblnhnjagemlaaGreat
open Go Go.RowKit Go.Proofs.YtkblnhnjagemlaaGreat.Den
variable {R : Type} {Q : R → World → Prop} {w : World}

/-! ### lists of components -/
theorem spec_r5_Without {ok : Nat → Prop} {s : Sl} {l : List Comp} (hS : SlT ok w compT s l) (hm : Small l) {k : Int} {K : Res [.sc .sl] → W R}
    (hk : ∀ r w', Own (Up w.heap.size) w' 53 compT r (l.filter fun c => !(c.1 == k)) → Fr None w w' → K r Q w') : callW Tryz.prog k_pinnaceref05_Without [.slice s.a s.n s.c, .int .u8 k] [.sc .sl] K Q w := by
  refine C_pinnaceref05_Without _ _ K Q w ?_
  unfold F_pinnaceref05_Without
  refine rangeC (t := compT) (l := l) (ok := ok) (fun s : Sl × Int => s.2) (fun j st w' => st.2 = (j : Int) ∧ Fr None w w' ∧ Own (Up w.heap.size) w' 53 compT st.1 ((l.take j).filter fun c => !(c.1 == k))) rfl rfl rfl ⟨rfl, Fr.refl _ _, Own.nil _ _ _ _⟩ (fun j s w' h => h.1) (fun j st w' hp => hS.fr0 hp.2.1) ?_ ?_
  · rintro j x ⟨out, _⟩ w1 w2 K' hx ⟨rfl, f1, ow⟩ - B2 f2 s2 hK
    have hjl := (List.getElem?_eq_some_iff.1 hx).1
    have f02 := f1.then0 f2
    have hs1 := f02.size
    have hfl : ((l.take j).filter fun c => !(c.1 == k)).length ≤ (l.take j).length := List.length_filter_le _ _
    rw [List.length_take] at hfl
    have o2 := ow.none f2
    refine fldI B2 (x := x.1) rfl ?_
    refine joinI (fun (z : Sl) w' => Fr None w w' ∧ Own (Up w.heap.size) w' 53 compT z ((l.take (j + 1)).filter fun c => !(c.1 == k))) ?_ ?_
    · rw [take_at hx, List.filter_append]
      refine condN (fun hne => ?_) fun heq => ?_
      · rw [List.filter_cons_of_pos (by simp [hne])]
        refine aggI B2 (x := x) rfl ?_
        have h9 : ((l.take j).filter fun c => !(c.1 == k)).length ≤ 1048576 := by omega
        exact appF comps_ty (x := x) rfl o2 hs1 (Nat.le_trans (Nat.mul_le_mul_right 16 (Nat.succ_le_succ h9)) (by decide)) (Nat.le_trans (Nat.succ_le_succ h9) (by decide)) fun r w3 o3 f3 _ => ⟨(f02.up.thenOwn o2 f3).ofUp (Nat.le_refl _), o3⟩
      · rw [List.filter_cons_of_neg (by simp [heq])]
        exact ⟨f02, by simpa using o2⟩
    · rintro z w3 ⟨f3, o3⟩
      exact hK _ _ ⟨wsucc (N := l.length) hjl (by omega), f3, o3⟩
  · rintro ⟨out, _⟩ w1 ⟨-, f1, ow⟩
    rw [List.take_length] at ow
    exact hk out w1 ow f1
/-- a component that is new. -/
theorem withG_new {c : Comp} : ∀ {l : List Comp}, (∀ x ∈ l, x.1 ≠ c.1) → withG c false l = insC l c
  | [], _ => rfl
  | x :: r, h => by
    have hx := h x (by simp)
    have hr : ∀ y ∈ r, y.1 ≠ c.1 := fun y hy => h y (by simp [hy])
    rw [withG, if_pos hx, Bool.false_or]
    by_cases hge : x.1 ≥ c.1
    · rw [if_pos (by simp [hge]), decide_eq_true hge, withG_done hr]
      unfold insC
      rw [List.takeWhile_cons_of_neg (by simp; omega), List.dropWhile_cons_of_neg (by simp; omega)]
      rfl
    · rw [if_neg (by simp; omega), decide_eq_false hge, withG_new hr]
      unfold insC
      rw [List.takeWhile_cons_of_pos (by simp; omega), List.dropWhile_cons_of_pos (by simp; omega)]
      rfl
theorem withM_new {l : List Comp} {c : Comp} (h : ∀ x ∈ l, x.1 ≠ c.1) : withM l c = insC l c := withG_new h

/-! ### a new store -/
def reps : Nat → List Value
  | 0 => []
  | k + 1 => .int .u8 0 :: .slice none 0 0 :: reps k
theorem reps_at : ∀ {k m : Nat}, m < k → (reps k)[m * 2]? = some (.int .u8 0) ∧ (reps k)[m * 2 + 1]? = some (.slice none 0 0)
  | 0, _, h => by omega
  | k + 1, 0, _ => ⟨rfl, rfl⟩
  | k + 1, m + 1, h => by
    obtain ⟨h1, h2⟩ := reps_at (k := k) (m := m) (by omega)
    rw [show (m + 1) * 2 = m * 2 + 2 by omega]
    exact ⟨h1, h2⟩
theorem reps_len : ∀ k, (reps k).length = k * 2
  | 0 => rfl
  | k + 1 => by simp [reps, reps_len k]; omega
theorem spec_r11_New {n first : Int} {K : Res [.sc .ptr, .sc (.int .i64)] → W R} (h1 : ¬ (1 ≤ n ∧ n ≤ 1024 ∧ 1 ≤ first ∧ first ≤ 4194303) → K (none, 1) Q w)
    (h2 : ∀ b w', 1 ≤ n ∧ n ≤ 1024 ∧ 1 ≤ first ∧ first ≤ 4194303 → R11 (fun _ => False) b (StM.new n.toNat first) (Up w.heap.size) w' → Fr None w w' → K (some ⟨b, 0, none⟩, 0) Q w') :
    callW Tryz.prog k_pinnaceref11_New [.int .i64 n, .int .i64 first] [.sc .ptr, .sc (.int .i64)] K Q w := by
  refine C_pinnaceref11_New n first K Q w ?_
  unfold F_pinnaceref11_New
  refine spec_r7_New (fun h => condT rfl (h1 h)) fun bs w1 hr hS f1 => condF rfl (newI fun w2 B2 f2 s2 => ?_)
  have hs1 := f1.size
  refine forI (N := 64) (fun s : Int => s) (fun j i w' => i = (j : Int) ∧ Fr (fun k => k = w1.heap.size) w2 w' ∧ ∃ cs, Blk w' w1.heap.size 152 cs ∧ cs.length = 129 ∧ cs[0]? = some (.pointer (some ⟨bs, 0, none⟩)) ∧ ∀ m, m < 64 → cs[1 + m * 2]? = some (.int .u8 (if m < j then (m : Int) else 0)) ∧ cs[1 + m * 2 + 1]? = some (.slice none 0 0))
    ⟨rfl, Fr.refl _ _, .pointer (some ⟨bs, 0, none⟩) :: reps 64, B2, by rw [List.length_cons, reps_len], rfl, fun m hm => ?_⟩ (fun j s w' h => h.1) ?_ ?_
  · obtain ⟨a1, a2⟩ := reps_at (k := 64) hm
    rw [show 1 + m * 2 = m * 2 + 1 by omega]
    exact ⟨a1, a2⟩
  · rintro j i w3 K' hj ⟨rfl, f3, cs, B3, hl, hc0, hc⟩ - hK
    refine pt64 rfl hj ?_
    rw [add_lit]
    have ew : IntKind.wrap .u8 (j : Int) = (j : Int) := wu8 (by omega)
    rw [ew]
    refine setI (i := 1 + j * 2 + 0) B3 (by omega) rfl fun w4 B4 f4 s4 => hK _ _ ⟨wsucc hj (by omega), f3.then f4, _, B4, by rw [List.length_set]; exact hl, by rw [List.getElem?_set_ne (by omega)]; exact hc0, fun m hm => ?_⟩
    obtain ⟨a1, a2⟩ := hc m hm
    refine ⟨?_, by rw [List.getElem?_set_ne (by omega)]; exact a2⟩
    by_cases e : m = j
    · subst e
      rw [if_pos (by omega)]
      rw [show 1 + m * 2 + 0 = 1 + m * 2 by omega, List.getElem?_set_self (by omega)]
    · rw [List.getElem?_set_ne (by omega), a1]
      by_cases h : m < j
      · rw [if_pos h, if_pos (by omega)]
      · rw [if_neg h, if_neg (by omega)]
  · rintro i w3 ⟨-, f3, cs, B3, hl, hc0, hc⟩
    have f13 : Fr None w1 w3 := f2.newer f3 fun k e => by omega
    refine h2 _ w3 hr ⟨stok_new (by omega) (by omega) hr.2.2, fun k => if k = w1.heap.size then 1 else if w.heap.size ≤ k ∧ k < w1.heap.size then 2 else 0, bs, cs, fun k e => ?_, ⟨if_pos rfl, fun k e => ?_, fun k _ h => h, B3, hc0, S7O.st hS f13 fun k hk e => ⟨fun h => h, ?_⟩, fun m hm => ?_⟩⟩ (f1.then0 f13)
    · show w.heap.size ≤ k
      by_cases e1 : k = w1.heap.size
      · omega
      · simp only [if_neg e1] at e
        by_cases e2 : w.heap.size ≤ k ∧ k < w1.heap.size
        · exact e2.1
        · rw [if_neg e2] at e; exact absurd rfl e
    · have := B3.lt
      by_cases e1 : k = w1.heap.size
      · omega
      · simp only [if_neg e1] at e
        by_cases e2 : w.heap.size ≤ k ∧ k < w1.heap.size
        · omega
        · rw [if_neg e2] at e; exact absurd rfl e
    · have e : w.heap.size ≤ k := e
      show (if _ then _ else _) = _
      rw [if_neg (by omega), if_pos ⟨e, hk⟩]
    · obtain ⟨a1, a2⟩ := hc m hm
      rw [if_pos hm] at a1
      exact ⟨a1, ⟨none, 0, 0⟩, a2, TabOk.nil hm, [], fun _ => 0, fun k e => absurd rfl e, ⟨fun k e => (by cases e), fun k e => (by cases e)⟩, Own.nil _ _ _ _, EntsR.nil _ _⟩

section
variable {C : Nat → Prop} {F : Nat → Prop} {b : Nat} {x : StM}
theorem R11.shut (h : R11 C b x F w) : R11 C b x (fun k => F k ∧ k < w.heap.size) w := R11.st.mono h fun _ hk e => ⟨e, hk⟩
theorem spec_r11_Spawn (h : R11 C b x F w) {ok : Nat → Prop} {r : Sl} {l : List Comp} (hS : SlT ok w compT r l) (hd : ∀ k, k < w.heap.size → ok k → ¬ F k) (hsm : Small l) (hl : ∀ c ∈ l, CompOk c) {K : Res [.sc (.int .u32), .sc (.int .i64)] → W R}
    (hk : ∀ C' w', Ag C C' w.heap.size → R11 C' b (x.spawn l).2.2 (Ex F w) w' → Fr (fun k => F k ∧ ¬ C k) w w' → K ((x.spawn l).1, (x.spawn l).2.1) Q w') : callW Tryz.prog k_pinnaceref11_Spawn [.pointer (some ⟨b, 0, none⟩), .slice r.a r.n r.c] [.sc (.int .u32), .sc (.int .i64)] K Q w := by
  have hst := h.shut
  refine C_pinnaceref11_Spawn _ _ K Q w ?_
  unfold F_pinnaceref11_Spawn
  refine condF rfl (spec_r5_List hS hsm hl fun w1 f1 => ?_)
  refine condN (fun hc => ?_) fun hc => ?_
  · have e : x.spawn l = (0, listE l, x) := by rw [StM.spawn, if_pos hc]
    rw [e] at hk
    exact hk C w1 (fun _ _ => Iff.rfl) (R11.st h f1 fun k _ e => ⟨fun h => h, .inl e⟩) f1.any
  have hv : listE l = 0 := by simpa using hc
  obtain ⟨ok1, lab, bs, cs, hF, hR⟩ := R11.st.fr0 hst f1
  have hs1 := f1.size
  refine ptrI (fldI hR.blk (i := 0) (x := some ⟨bs, 0, none⟩) hR.c0 ?_)
  refine s7_Take hR.slots (fun ht w2 f2 => ?_) fun id s' w2 ht hS2 f2 => ?_
  · have e : x.spawn l = (0, 8, x) := by unfold StM.spawn; rw [if_neg (fun h => h hv), ht]
    rw [e] at hk
    refine joinK (condF rfl (hk C w2 (fun _ _ => Iff.rfl) (R11.st h (f1.then0 f2) fun k _ e => ⟨fun h => h, .inl e⟩) (f1.then0 f2).any))
  · obtain ⟨t1, t2, t3, _⟩ := ok1.s.take_live ht
    have hh : homeT x.tab id = none := by
      have := ok1.home_live id
      rw [t1] at this
      simpa using this
    have e : x.spawn l = (id, 0, ⟨s', putT x.tab id l⟩) := by unfold StM.spawn; rw [if_neg (fun h => h hv), ht]
    have hok : StOk (x.spawn l).2.2 := ok1.spawn l
    rw [e] at hk hok
    have hm := maskN_lt l
    have hno : rowM (x.tab (maskN l)) id = none := by
      have := home_none.1 hh _ hm
      unfold inT at this
      simpa using this
    have f02 : Fr (fun k => F k ∧ ¬ C k) w w2 := f1.any.then (f2.sub fun k e => ⟨(hF k (by omega)).1, hR.nc k (.inr e)⟩)
    refine joinI (fun (_ : Unit) w' => ∃ C', Ag C C' w.heap.size ∧ R11 C' b ⟨s', putT x.tab id l⟩ (Ex F w) w' ∧ Fr (fun k => F k ∧ ¬ C k) w w') ?_ fun _ w3 ⟨C', hag, a, f⟩ => hk C' w3 hag a f
    refine condT rfl ?_
    have hS3 : SlT (fun k => ok k ∧ k < w.heap.size) w2 compT r l := SlT.st (F := fun k => ok k ∧ k < w.heap.size) (hS.mono fun k hk e => ⟨e, hk⟩) f02 fun k hk e => ⟨fun e2 => hd k hk e.1 e2.1, e⟩
    refine r11_put (hR.setSlots hS2 f2) t3 hS3 hsm hl hv hno (by have := ok1.tab_le hm; omega) fun C' lab' cs' w3 hag h3 hex f3 => ⟨C', fun k hk => hag k (by have := f02.size; omega), ⟨hok, lab', bs, cs', fun k e => ?_, h3⟩, ?_⟩
    · have := f02.size
      rcases hex k e with h | h
      · exact .inl (hF k h).1
      · exact .inr (by omega)
    · exact f02.exS f3 fun k e => .inl ⟨(hF k e.1).1, e.2⟩

theorem spec_r11_Ent (h : R11 C b x F w) {id : Int} {K : Res [.agg [.int .u32, .sl], .sc (.int .i64)] → W R} (hk : ∀ s w', SlT (fun k => F k ∧ C k) w' compT s (x.ent id).1.2 → Fr None w w' → K (((x.ent id).1.1, s), (x.ent id).2) Q w') :
    callW Tryz.prog k_pinnaceref11_Ent [.pointer (some ⟨b, 0, none⟩), .int .u32 id] [.agg [.int .u32, .sl], .sc (.int .i64)] K Q w := by
  obtain ⟨ok, lab, bs, cs, hF, hR⟩ := h.shut
  refine C_pinnaceref11_Ent _ _ K Q w ?_
  unfold F_pinnaceref11_Ent
  refine newI fun w1 B1 f1 s1 => condF rfl (r11_find (hR.fr0 f1) fun w2 f2 => ?_)
  have f02 := f1.then0 f2
  have B2 := B1.fr f2 fun h => h
  cases hh : homeT x.tab id with
  | none =>
    have e : x.ent id = ((0, []), 7) := by unfold StM.ent; rw [ok.at_none.2 hh]
    rw [e] at hk
    refine condT rfl (stoAll B2 rfl rfl fun w3 B3 f3 s3 => aggI B3 (x := (0, ⟨none, 0, 0⟩)) rfl ?_)
    exact hk ⟨none, 0, 0⟩ w3 (SlT.nil _) (f02.newer f3 fun k e => by omega)
  | some m =>
    obtain ⟨hm, hin⟩ := home_some hh
    obtain ⟨i, hi⟩ := Option.isSome_iff_exists.1 (show (rowM (x.tab m) id).isSome = true from hin)
    obtain ⟨hil, e, he, heid⟩ := rowM_some hi
    have hent : x.ent id = (e, 0) := by
      unfold StM.ent StM.at
      rw [hh]
      simp only [hi, he]
    rw [hent] at hk
    refine condF rfl ?_
    have fd : Fr None w2 w2.drew := (Fr.refl _ _).drew
    have h2 := (hR.fr0 f02).fr0 fd
    obtain ⟨t1, sl, t2, t3⟩ := h2.tab m hm
    refine ptrI (fldA h2.blk (i := 1) (x := sl) t2 (r11_row h2 hm fun w3 f3 => ?_))
    have h3 := h2.fr0 f3
    refine andI (by rw [add_lit]; exact (h3.blk.cell _).trans t2) ?_
    have A3 := ArrO.st.fr0 t3 f3
    obtain ⟨_, raws, lab', hl1, hC, ho, hE⟩ := A3
    obtain ⟨r0, hr0, hr1, hr2⟩ := hE.get he
    have hrl := (List.getElem?_eq_some_iff.1 hr0).1
    refine ho.sl.get (j := i) rfl (by unfold rowI; rw [hi]) hrl fun y hy => ?_
    rw [hr0] at hy
    cases hy
    have B3 := (B2.fr fd fun h => h).fr f3 fun h => h
    refine stoAll B3 rfl rfl fun w4 B4 f4 s4 => aggI B4 (x := (r0.1, r0.2)) rfl ?_
    rw [hr1]
    have f03 := (f02.then0 fd).then0 f3
    have hw1 := f2.size
    refine hk r0.2 w4 ?_ (f03.newer f4 fun k e => by omega)
    refine SlT.st (F := fun k => lab' k = 2) hr2 f4 fun k hk2 e2 => ?_
    have h5 := (hl1 k (by omega)).1
    have h6 := hF k (by omega)
    exact ⟨fun e3 => by omega, h6.1, hC.2 k e2⟩
end

end Go.Proofs.YtkblnhnjagemlaaGreat

namespace Go.Proofs.YtkblnhnjagemlaaGreat
open Go Go.RowKit Go.Proofs.YtkblnhnjagemlaaGreat.Den
variable {R : Type} {Q : R → World → Prop} {w : World}
section
variable {C : Nat → Prop} {lab : Nat → Nat} {b bs : Nat} {cs : List Value} {s : SM} {T : Nat → List Ent}
theorem r11_drop (h : R11R C lab w b bs cs s T) {m i : Nat} (hm : m < 64) {id : Int} (hr : rowM (T m) id = some i) {K : Res [.sc .sl, .sc (.int .i64)] → W R}
    (hk : ∀ C' lab' cs' sl w', Ag C C' w.heap.size → R11R C' lab' w' b bs cs' s (upd T m (dropI (T m) i)) → (∀ k, lab' k ≠ 0 → lab k ≠ 0 ∨ w.heap.size ≤ k) → Fr (fun k => lab k ≠ 0 ∧ ¬ C k) w w' → K (sl, 0) Q w') :
    callW Tryz.prog k_pinnaceref10_Remove [.pointer (some ⟨b, 1 + m * 2, none⟩), .int .u32 id] [.sc .sl, .sc (.int .i64)] K Q w := by
  obtain ⟨t1, sl, t2, t3⟩ := h.tab _ hm
  obtain ⟨lab', hrf, hF, hb1, hb2, hb3⟩ := t3.rf h.blk t1 t2 (by rw [h.lb]; omega)
  refine spec_rA_Remove hrf (fun h0 => by rw [hr] at h0; cases h0) fun i' e gone lab2 cs' w2 hr2 _ hrf2 hcs heq _ f2 => ?_
  rw [hr] at hr2
  cases hr2
  obtain ⟨C', hag, hC2, hC3⟩ := recolour (fun k e => (hb2 k e).2) hb3 heq
  obtain ⟨B2, _, sl2, c1, A2⟩ := ArrO.of (C := C') (F' := Ex (fun k => lab k = 3 + m) w) hrf2 (fun k e => by
    rcases Nat.lt_or_ge k w.heap.size with hlt | hge
    · rw [heq k hlt] at e
      rcases hF k e with e | e
      · exact .inl (.inl e)
      · exact .inr e
    · exact .inl (.inr hge)) ⟨hC2, hC3⟩
  have f2' : Fr (fun k => lab k = 3 + m ∨ k = b) w w2 := f2.sub fun k e => hF k (by omega)
  refine hk C' _ cs' gone w2 hag (h.setTab hag hm B2 hcs c1 A2 f2') (fun k e => ?_) (f2.sub fun k e => ?_)
  · rcases relab_ne e with ⟨e, _⟩ | ⟨e, _⟩
    · exact .inl e
    · exact .inr e
  · rcases e with e | e
    · rw [hb1 k e]; exact ⟨by rw [h.lb]; decide, h.nc _ (.inl h.lb)⟩
    · have := hb2 k e; exact ⟨by omega, this.2⟩
theorem r11_setAt (h : R11R C lab w b bs cs s T) {m i : Nat} (hm : m < 64) {id : Int} (hr : rowM (T m) id = some i) {c : Comp} (hc0 : 0 ≤ c.1) (hc : checkM c = 0) (hk0 : c.1 ∈ kindsOf m) {K : Res [.sc (.int .i64)] → W R}
    (hk : ∀ C' lab' w', Ag C C' w.heap.size → R11R C' lab' w' b bs cs s (upd T m (setL (T m) i c)) → (∀ k, lab' k ≠ 0 → lab k ≠ 0 ∨ w.heap.size ≤ k) → Fr (fun k => lab k ≠ 0 ∧ ¬ C k) w w' → K 0 Q w') :
    callW Tryz.prog k_pinnaceref10_Set [.pointer (some ⟨b, 1 + m * 2, none⟩), .int .u32 id, .agg ⟨compC c⟩] [.sc (.int .i64)] K Q w := by
  obtain ⟨t1, sl, t2, t3⟩ := h.tab _ hm
  obtain ⟨lab', hrf, hF, hb1, hb2, hb3⟩ := t3.rf h.blk t1 t2 (by rw [h.lb]; omega)
  have hs : setM m (T m) id c = 0 := by rw [setM, if_neg (fun h => h hc), hr]; simp [hk0]
  have hset : setT m (T m) id c = setL (T m) i c := by rw [setT, hs, if_pos rfl, hr]; rfl
  refine spec_rA_Set hrf hc0 fun lab2 w2 hrf2 heq f2 => ?_
  obtain ⟨C', hag, hC2, hC3⟩ := recolour (fun k e => (hb2 k e).2) hb3 heq
  rw [hs]
  rw [hset] at hrf2
  obtain ⟨B2, _, sl2, c1, A2⟩ := ArrO.of (C := C') (F' := Ex (fun k => lab k = 3 + m) w) hrf2 (fun k e => by
    rcases Nat.lt_or_ge k w.heap.size with hlt | hge
    · rw [heq k hlt] at e
      rcases hF k e with e | e
      · exact .inl (.inl e)
      · exact .inr e
    · exact .inl (.inr hge)) ⟨hC2, hC3⟩
  have f2' : Fr (fun k => lab k = 3 + m ∨ k = b) w w2 := f2.sub fun k e => hF k (by omega)
  refine hk C' _ w2 hag (h.setTab hag hm B2 (fun _ _ => rfl) c1 A2 f2') (fun k e => ?_) (f2.sub fun k e => ?_)
  · rcases relab_ne e with ⟨e, _⟩ | ⟨e, _⟩
    · exact .inl e
    · exact .inr e
  · rcases e with e | e
    · rw [hb1 k e]; exact ⟨by rw [h.lb]; decide, h.nc _ (.inl h.lb)⟩
    · have := hb2 k e; exact ⟨by omega, this.2⟩
end

section
variable {C : Nat → Prop} {F : Nat → Prop} {b : Nat} {x : StM}
theorem StM.ent_none {x : StM} {id : Int} (h : x.at id = none) : x.ent id = ((0, []), 7) := by unfold StM.ent; rw [h]
theorem StM.ent_some {x : StM} {id : Int} {m i : Nat} {e : Ent} (h : x.at id = some (m, i, e)) : x.ent id = (e, 0) := by unfold StM.ent; rw [h]
theorem Rd11.none {x : StM} {id : Int} (h : x.at id = none) : (x.ent id).2 = 7 := by rw [StM.ent_none h]

theorem spec_r11_Despawn (h : R11 C b x F w) {id : Int} (hid : IdOk id) {K : Res [.sc (.int .i64)] → W R} (hk : ∀ C' w', Ag C C' w.heap.size → R11 C' b (x.despawn id).2 (Ex F w) w' → Fr (fun k => F k ∧ ¬ C k) w w' → K (x.despawn id).1 Q w') :
    callW Tryz.prog k_pinnaceref11_Despawn [.pointer (some ⟨b, 0, none⟩), .int .u32 id] [.sc (.int .i64)] K Q w := by
  have hst := h.shut
  refine C_pinnaceref11_Despawn _ _ K Q w ?_
  unfold F_pinnaceref11_Despawn
  refine spec_r11_Ent h fun sl w1 _ f1 => ?_
  refine newI fun w2 B2 f2 s2 => stoAll B2 rfl rfl fun w3 B3 f3 s3 => ?_
  have f03 : Fr None w w3 := f1.then0 (f2.newer f3 fun k e => by omega)
  cases ha : x.at id with
  | none =>
    rw [StM.ent_none ha]
    have e : x.despawn id = (7, x) := by unfold StM.despawn; rw [ha]
    rw [e] at hk
    exact condT rfl (hk C w3 (fun _ _ => Iff.rfl) (R11.st h f03 fun k _ e => ⟨fun h => h, .inl e⟩) f03.any)
  | some p =>
    obtain ⟨m, i, e⟩ := p
    rw [StM.ent_some ha]
    have ed : x.despawn id = (0, ⟨x.s.freed id, upd x.tab m (dropI (x.tab m) i)⟩) := by unfold StM.despawn; rw [ha]
    obtain ⟨ok, lab, bs, cs, hF, hR⟩ := R11.st.fr0 hst f03
    obtain ⟨hh, hm, hr, he, _, _, hl⟩ := ok.at_some ha
    have hokd := ok.despawn id
    rw [ed] at hk hokd
    refine condF rfl (r11_find hR fun w4 f4 => ?_)
    rw [hh]
    refine r11_drop (hR.fr0 f4) hm hr fun C5 lab5 cs5 g w5 hag5 h5 hex5 f5 => ?_
    have hs4 := f4.size
    have hs3 := f03.size
    refine ptrI (fldI h5.blk (i := 0) (x := some ⟨bs, 0, none⟩) h5.c0 ?_)
    refine s7_Free h5.slots hid hl fun w6 hS6 f6 => ?_
    have h6 := h5.setSlots hS6 f6
    have fa : Fr (fun k => F k ∧ ¬ C k) w w5 := (f03.then0 f4).any.then (f5.sub fun k e => ⟨(hF k e.1).1, e.2⟩)
    have hx : ∀ k, lab5 k ≠ 0 → F k ∨ w.heap.size ≤ k := fun k e => by
      rcases hex5 k e with e | e
      · exact .inl (hF k e).1
      · exact .inr (by omega)
    exact hk C5 w6 (fun k hk => hag5 k (by omega)) ⟨hokd, lab5, bs, cs5, hx, h6⟩ (fa.exS f6 fun k e => by
      rcases Nat.lt_or_ge k w.heap.size with hlt | hge
      · rcases hx k (by omega) with h | h
        · exact .inl ⟨h, fun hc => h5.nc k (.inr e) ((hag5 k (by omega)).2 hc)⟩
        · omega
      · exact .inr hge)

theorem spec_r11_Get (h : R11 C b x F w) {id k : Int} {K : Res [.agg [.int .u8, .int .i32, .int .i32, .int .i32], .sc (.int .i64)] → W R} (hk : ∀ w', Fr None w w' → K (x.get id k) Q w') :
    callW Tryz.prog k_pinnaceref11_Get [.pointer (some ⟨b, 0, none⟩), .int .u32 id, .int .u8 k] [.agg [.int .u8, .int .i32, .int .i32, .int .i32], .sc (.int .i64)] K Q w := by
  refine C_pinnaceref11_Get _ _ _ K Q w ?_
  unfold F_pinnaceref11_Get
  have ok := h.1
  refine newI fun w0 B0 f0 s0 => spec_r11_Ent (R11.st.fr0 h f0) fun sl w1 hsl f1 => ?_
  have B1 := B0.fr f1 fun h => h
  refine newI fun w2 B2 f2 s2 => stoAll B2 rfl rfl fun w3 B3 f3 s3 => ?_
  have f13 : Fr None w1 w3 := f2.newer f3 fun k e => by omega
  have f03 := (f0.then0 f1).then0 f13
  have B13 := B1.fr f13 fun h => h
  have zero : ∀ {z : Int} {w' : World}, Blk w' w.heap.size 53 [.int .u8 0, .int .i32 0, .int .i32 0, .int .i32 0] → Fr None w w' → x.get id k = ((0, 0, 0, 0), z) →
      (stoL ⟨w.heap.size, 0, none⟩ [.int .u8 0, .int .i32 0, .int .i32 0, .int .i32 0] 0 <| ld (.agg [.int .u8, .int .i32, .int .i32, .int .i32]) ⟨w.heap.size, 0, none⟩ fun (y : Int × Int × Int × Int) => retW (y, z) : W ((Int × Int × Int × Int) × Int)) (fun r w => K r Q w) w' := fun B f hz =>
    stoAll B rfl rfl fun w4 B4 f4 s4 => aggI B4 (x := (0, 0, 0, 0)) rfl (by have := hk w4 (f.newer f4 fun k e => by omega); rw [hz] at this; exact this)
  cases ha : x.at id with
  | none =>
    rw [StM.ent_none ha] at B3 ⊢
    exact condT rfl (zero B13 f03 (by unfold StM.get; rw [ha]))
  | some p =>
    obtain ⟨m, i, e⟩ := p
    rw [StM.ent_some ha] at B3 hsl ⊢
    obtain ⟨_, hm, _, _, _, hv, _⟩ := ok.at_some ha
    have hsm : Small e.2 := by have := hv.small; show _ ≤ 1048576; omega
    have hsl3 := hsl.fr0 f13
    refine condF rfl (fldI B3 (x := sl) rfl (spec_r5_Find hsl3 hsm fun w4 f4 => ?_))
    rcases findM_valid hv k with ⟨hneg, hno⟩ | ⟨q, hq, hlq, hin⟩
    · exact condT (decide_eq_true hneg) (zero (B13.fr f4 fun h => h) (f03.then0 f4) (by unfold StM.get; rw [ha]; simp only [if_neg hno]))
    · refine condF (decide_eq_false (by dsimp only; omega)) (fldI (B3.fr f4 fun h => h) (x := sl) rfl ?_)
      refine (hsl3.fr0 f4).get rfl hq (List.getElem?_eq_some_iff.1 hlq).1 fun c hc => ?_
      rw [hlq] at hc
      cases hc
      refine stoAll (B13.fr f4 fun h => h) rfl rfl fun w5 B5 f5 s5 => aggI B5 (x := (k, fieldsOf e.2 k)) rfl ?_
      have := hk w5 ((f03.then0 f4).newer f5 fun k e => by omega)
      rw [show x.get id k = ((k, fieldsOf e.2 k), 0) by unfold StM.get; rw [ha]; simp only [if_pos hin]] at this
      exact this

theorem spec_r11_Set (h : R11 C b x F w) {id : Int} {c : Comp} (hc0 : 0 ≤ c.1) {K : Res [.sc (.int .i64)] → W R} (hk : ∀ C' w', Ag C C' w.heap.size → R11 C' b (x.set id c).2 (Ex F w) w' → Fr (fun k => F k ∧ ¬ C k) w w' → K (x.set id c).1 Q w') :
    callW Tryz.prog k_pinnaceref11_Set [.pointer (some ⟨b, 0, none⟩), .int .u32 id, .agg ⟨compC c⟩] [.sc (.int .i64)] K Q w := by
  have hst := h.shut
  refine C_pinnaceref11_Set _ _ _ K Q w ?_
  unfold F_pinnaceref11_Set
  refine newI fun w1 B1 f1 s1 => condF rfl (aggI B1 (x := c) rfl (spec_r5_Check (c := c) hc0 fun w2 f2 => ?_))
  have f02 := f1.then0 f2
  have same : ∀ {z : Int} {w' : World}, Fr None w w' → x.set id c = (z, x) → K z Q w' := fun f hz => by
    have := hk C _ (fun _ _ => Iff.rfl) (by rw [hz]; exact R11.st h f fun k _ e => ⟨fun h => h, .inl e⟩) f.any
    rw [hz] at this
    exact this
  refine condN (fun hc => same f02 (by unfold StM.set; rw [if_pos hc])) fun hc => ?_
  have hc : checkM c = 0 := by simpa using hc
  have B2 := B1.fr f2 fun h => h
  refine fldI B2 (x := c.1) rfl (spec_r11_Get (R11.st.fr0 h f02) fun w3 f3 => ?_)
  refine newI fun w4 B4 f4 s4 => stoAll B4 rfl rfl fun w5 B5 f5 s5 => ?_
  have f35 : Fr None w3 w5 := f4.newer f5 fun k e => by omega
  have f05 := (f02.then0 f3).then0 f35
  have B15 := (B2.fr f3 fun h => h).fr f35 fun h => h
  cases ha : x.at id with
  | none =>
    rw [show (x.get id c.1).2 = 7 by unfold StM.get; rw [ha]]
    exact condT rfl (same f05 (by unfold StM.set; rw [if_neg (fun h => h hc), ha]))
  | some p =>
    obtain ⟨m, i, e⟩ := p
    by_cases hin : c.1 ∈ kindsOf m
    · rw [show (x.get id c.1).2 = 0 by unfold StM.get; rw [ha]; simp only [if_pos hin]]
      have es : x.set id c = (0, ⟨x.s, upd x.tab m (setL (x.tab m) i c)⟩) := by unfold StM.set; rw [if_neg (fun h => h hc), ha]; simp only [if_pos hin]
      obtain ⟨ok, lab, bs, cs, hF, hR⟩ := R11.st.fr0 hst f05
      obtain ⟨hh, hm, hr, he, _, _, _⟩ := ok.at_some ha
      have hoks := ok.setM id c
      rw [es] at hk hoks
      have fd : Fr None w5 w5.drew := (Fr.refl _ _).drew
      refine condF rfl (aggI B15.drew (x := c) rfl (r11_find (hR.fr0 fd) fun w6 f6 => ?_))
      rw [hh]
      have B16 := (B15.fr fd fun h => h).fr f6 fun h => h
      refine andI (by have := B16.cells 0 _ (fun j u h => by rw [Nat.zero_add]; exact h); exact Rd.cells.2 this) ?_
      refine r11_setAt ((hR.fr0 fd).fr0 f6) hm hr hc0 hc hin fun C7 lab7 w7 hag7 h7 hex f7 => ?_
      have f06 := (f05.then0 fd).then0 f6
      have hs6 := f06.size
      have hx : ∀ k, lab7 k ≠ 0 → F k ∨ w.heap.size ≤ k := fun k e => by
        rcases hex k e with e | e
        · exact .inl (hF k e).1
        · exact .inr (by omega)
      exact hk C7 w7 (fun k hk => hag7 k (by omega)) ⟨hoks, lab7, bs, cs, hx, h7⟩ (f06.any.then (f7.sub fun k e => ⟨(hF k e.1).1, e.2⟩))
    · rw [show (x.get id c.1).2 = 10 by unfold StM.get; rw [ha]; simp only [if_neg hin]]
      exact condT rfl (same f05 (by unfold StM.set; rw [if_neg (fun h => h hc), ha]; simp only [if_neg hin]))
end

end Go.Proofs.YtkblnhnjagemlaaGreat

namespace Go.Proofs.YtkblnhnjagemlaaGreat
open Go Go.RowKit Go.Proofs.YtkblnhnjagemlaaGreat.Den
variable {R : Type} {Q : R → World → Prop} {w : World}
section
variable {C : Nat → Prop} {F : Nat → Prop} {b : Nat} {x : StM}
theorem EntsR.snoc {ok : Nat → Prop} {raws : List (Int × Sl)} {L : List Ent} (h : EntsR ok w raws L) {r : Int × Sl} {e : Ent} (h1 : r.1 = e.1) (h2 : SlT ok w compT r.2 e.2) : EntsR ok w (raws ++ [r]) (L ++ [e]) := by
  have := (show All2 (fun (r : Int × Sl) (e : Ent) => r.1 = e.1 ∧ SlT ok w compT r.2 e.2) raws L from ⟨h.len, h.at_⟩).snoc (a := r) (b := e) ⟨h1, h2⟩
  exact ⟨this.len, this.at_⟩
theorem listE_small' {l : List Comp} (h : listE l = 0) : l.length ≤ 6 := (Valid.mk h rfl : Valid (maskN l) l).small
theorem spec_r11_turn (h : R11 C b x F w) {id : Int} (hid : IdOk id) {m i : Nat} {e : Ent} (ha : x.at id = some (m, i, e)) {ok : Nat → Prop} {r : Sl} {l : List Comp} (hS : SlT ok w compT r l) (hd : ∀ k, k < w.heap.size → ok k → ¬ F k) (hsm : Small l) (hv : listE l = 0) {K : Res [] → W R}
    (hk : ∀ C' w', Ag C C' w.heap.size → R11 C' b (x.turn id m i l) (Ex F w) w' → Fr (fun k => F k ∧ ¬ C k) w w' → K () Q w') : callW Tryz.prog k_pinnaceref11_turn [.pointer (some ⟨b, 0, none⟩), .int .u32 id, .slice r.a r.n r.c] [] K Q w := by
  refine C_pinnaceref11_turn _ _ _ K Q w ?_
  unfold F_pinnaceref11_turn
  obtain ⟨okx, lab, bs, cs, hF, hR⟩ := h.shut
  obtain ⟨hh, hm, hr, he, heid, _, _⟩ := okx.at_some ha
  subst heid
  refine r11_find hR fun w1 f1 => ?_
  rw [hh]
  refine r11_drop (hR.fr0 f1) hm hr fun C2 lab2 cs2 g w2 hag2 h2 hex2 f2 => ?_
  have f02 : Fr (fun k => lab k ≠ 0 ∧ ¬ C k) w w2 := f1.any.then f2
  have hs1 := f1.size
  have hdrop := okx.drop hm he
  have hno : rowM (upd x.tab m (dropI (x.tab m) i) (maskN l)) e.1 = none := by
    have : homeT (upd x.tab m (dropI (x.tab m) i)) e.1 = none := by rw [home_drop okx hm he, if_pos rfl]
    have := home_none.1 this _ (maskN_lt l)
    unfold inT at this
    simpa using this
  have hroom : (upd x.tab m (dropI (x.tab m) i) (maskN l)).length < 1048576 := Nat.lt_of_le_of_lt (hdrop.tab_le (maskN_lt l)) (by decide)
  have hS2 : SlT (fun k => ok k ∧ k < w.heap.size) w2 compT r l := SlT.st (F := fun k => ok k ∧ k < w.heap.size) (hS.mono fun k hk e => ⟨e, hk⟩) f02 fun k hk e => ⟨fun e2 => hd k hk e.1 (hF k e2.1).1, e⟩
  refine r11_put h2 hid hS2 hsm (fun c hc => checkM_ok ((listE_0.1 hv).1 c hc)) hv hno hroom fun C3 lab3 cs3 w3 hag3 h3 hex3 f3 => ?_
  have hs2 := f02.size
  have hx2 : ∀ k, lab2 k ≠ 0 → F k ∨ w.heap.size ≤ k := fun k e => by
    rcases hex2 k e with e | e
    · exact .inl (hF k e).1
    · exact .inr (by omega)
  refine hk C3 w3 (fun k hk => (hag3 k (by omega)).trans (hag2 k (by omega))) ⟨okx.turn hm he hv, lab3, bs, cs3, fun k e => ?_, h3⟩ ((f02.sub fun k e => (⟨(hF k e.1).1, e.2⟩ : F k ∧ ¬ C k)).exS f3 fun k e => by
    rcases Nat.lt_or_ge k w.heap.size with hlt | hge
    · rcases hx2 k e.1 with h | h
      · exact .inl ⟨h, fun hc => e.2 ((hag2 k (by omega)).2 hc)⟩
      · omega
    · exact .inr hge)
  rcases hex3 k e with e | e
  · exact hx2 k e
  · exact .inr (by omega)

theorem spec_r11_Add (h : R11 C b x F w) {id : Int} (hid : IdOk id) {c : Comp} (hc0 : 0 ≤ c.1) {K : Res [.sc (.int .i64)] → W R} (hk : ∀ C' w', Ag C C' w.heap.size → R11 C' b (x.add id c).2 (Ex F w) w' → Fr (fun k => F k ∧ ¬ C k) w w' → K (x.add id c).1 Q w') :
    callW Tryz.prog k_pinnaceref11_Add [.pointer (some ⟨b, 0, none⟩), .int .u32 id, .agg ⟨compC c⟩] [.sc (.int .i64)] K Q w := by
  have hst := h.shut
  have ok := h.1
  refine C_pinnaceref11_Add _ _ _ K Q w ?_
  unfold F_pinnaceref11_Add
  refine newI fun w1 B1 f1 s1 => condF rfl (aggI B1 (x := c) rfl (spec_r5_Check (c := c) hc0 fun w2 f2 => ?_))
  have f02 := f1.then0 f2
  have same : ∀ {z : Int} {w' : World}, Fr None w w' → x.add id c = (z, x) → K z Q w' := fun f hz => by
    have := hk C _ (fun _ _ => Iff.rfl) (by rw [hz]; exact R11.st h f fun k _ e => ⟨fun h => h, .inl e⟩) f.any
    rw [hz] at this
    exact this
  refine condN (fun hc => same f02 (by unfold StM.add; rw [if_pos hc])) fun hc => ?_
  have hc : checkM c = 0 := by simpa using hc
  have B2 := B1.fr f2 fun h => h
  refine spec_r11_Ent (R11.st.fr0 hst f02) fun sl w3 hsl f3 => ?_
  refine newI fun w4 B4 f4 s4 => stoAll B4 rfl rfl fun w5 B5 f5 s5 => ?_
  have f35 : Fr None w3 w5 := f4.newer f5 fun k e => by omega
  have f05 := (f02.then0 f3).then0 f35
  have B15 := (B2.fr f3 fun h => h).fr f35 fun h => h
  cases ha : x.at id with
  | none =>
    rw [StM.ent_none ha]
    exact condT rfl (same f05 (by unfold StM.add; rw [if_neg (fun h => h hc), ha]))
  | some p =>
    obtain ⟨m, i, e⟩ := p
    rw [StM.ent_some ha] at B5 hsl ⊢
    obtain ⟨_, hm, _, _, _, hv, _⟩ := ok.at_some ha
    have hsm : Small e.2 := by have := hv.small; show _ ≤ 1048576; omega
    have hsl5 := hsl.fr0 f35
    refine condF rfl (fldI B5 (x := sl) rfl (fldI B15 (x := c.1) rfl (spec_r5_Find hsl5 hsm fun w6 f6 => ?_)))
    rcases findM_valid hv c.1 with ⟨hneg, hno⟩ | ⟨q, hq, hlq, hin⟩
    · refine condF (decide_eq_false (by dsimp only; omega)) (fldI (B5.fr f6 fun h => h) (x := sl) rfl (aggI (B15.fr f6 fun h => h) (x := c) rfl ?_))
      have hnk : ∀ y ∈ e.2, y.1 ≠ c.1 := fun y hy e2 => hno (by rw [← hv.kinds, ← e2]; exact List.mem_map.2 ⟨y, hy, rfl⟩)
      refine spec_r5_With (hsl5.fr0 f6) hsm fun wl w7 o7 f7 => ?_
      dsimp only at o7
      rw [withM_new hnk] at o7
      have f07 := (f05.then0 f6).then0 f7
      have hsz := (f05.then0 f6).size
      have ea : x.add id c = (0, x.turn id m i (insC e.2 c)) := by unfold StM.add; rw [if_neg (fun h => h hc), ha]; simp only [if_neg hno]
      rw [ea] at hk
      have hvi := hv.ins hc hno
      refine spec_r11_turn (R11.st.fr0 hst f07) hid ha o7.sl (fun k _ e1 e2 => by have e1 : w6.heap.size ≤ k := e1; omega) (Nat.le_trans (listE_small' hvi) (by decide)) hvi fun C8 w8 hag8 h8 f8 => ?_
      have hs7 := f07.size
      exact hk C8 w8 (fun k hk => hag8 k (by omega)) (R11.st.mono h8 fun k _ e => by rcases e with e | e; exact .inl e.1; exact .inr (by omega)) (f07.any.then (f8.sub fun k e => ⟨e.1.1, e.2⟩))
    · exact condT (decide_eq_true (by dsimp only; omega)) (same (f05.then0 f6) (by unfold StM.add; rw [if_neg (fun h => h hc), ha]; simp only [if_pos hin]))

theorem spec_r11_Remove (h : R11 C b x F w) {id : Int} (hid : IdOk id) {k : Int} {K : Res [.sc (.int .i64)] → W R} (hk : ∀ C' w', Ag C C' w.heap.size → R11 C' b (x.remove id k).2 (Ex F w) w' → Fr (fun k => F k ∧ ¬ C k) w w' → K (x.remove id k).1 Q w') :
    callW Tryz.prog k_pinnaceref11_Remove [.pointer (some ⟨b, 0, none⟩), .int .u32 id, .int .u8 k] [.sc (.int .i64)] K Q w := by
  have hst := h.shut
  have ok := h.1
  refine C_pinnaceref11_Remove _ _ _ K Q w ?_
  unfold F_pinnaceref11_Remove
  have same : ∀ {z : Int} {w' : World}, Fr None w w' → x.remove id k = (z, x) → K z Q w' := fun f hz => by
    have := hk C _ (fun _ _ => Iff.rfl) (by rw [hz]; exact R11.st h f fun k _ e => ⟨fun h => h, .inl e⟩) f.any
    rw [hz] at this
    exact this
  refine spec_r11_Ent hst fun sl w3 hsl f3 => ?_
  refine newI fun w4 B4 f4 s4 => stoAll B4 rfl rfl fun w5 B5 f5 s5 => ?_
  have f35 : Fr None w3 w5 := f4.newer f5 fun k e => by omega
  have f05 := f3.then0 f35
  cases ha : x.at id with
  | none =>
    rw [StM.ent_none ha]
    exact condT rfl (same f05 (by unfold StM.remove; rw [ha]))
  | some p =>
    obtain ⟨m, i, e⟩ := p
    rw [StM.ent_some ha] at B5 hsl ⊢
    obtain ⟨_, hm, _, _, _, hv, _⟩ := ok.at_some ha
    have hsm : Small e.2 := by have := hv.small; show _ ≤ 1048576; omega
    have hsl5 := hsl.fr0 f35
    refine condF rfl (fldI B5 (x := sl) rfl (spec_r5_Find hsl5 hsm fun w6 f6 => ?_))
    rcases findM_valid hv k with ⟨hneg, hno⟩ | ⟨q, hq, hlq, hin⟩
    · exact condT (decide_eq_true (by dsimp only; omega)) (same (f05.then0 f6) (by unfold StM.remove; rw [ha]; simp only [if_neg hno]))
    · refine condF (decide_eq_false (by dsimp only; omega)) (fldI (B5.fr f6 fun h => h) (x := sl) rfl ?_)
      refine spec_r5_Without (hsl5.fr0 f6) hsm fun wl w7 o7 f7 => ?_
      have f07 := (f05.then0 f6).then0 f7
      have hsz := (f05.then0 f6).size
      have ea : x.remove id k = (0, x.turn id m i (e.2.filter fun c => !(c.1 == k))) := by unfold StM.remove; rw [ha]; simp only [if_pos hin]
      rw [ea] at hk
      have hvi := hv.filter fun c => !(c.1 == k)
      refine spec_r11_turn (R11.st.fr0 hst f07) hid ha o7.sl (fun k _ e1 e2 => by have e1 : w6.heap.size ≤ k := e1; omega) (Nat.le_trans (listE_small' hvi) (by decide)) hvi fun C8 w8 hag8 h8 f8 => ?_
      have hs7 := f07.size
      exact hk C8 w8 (fun k hk => hag8 k (by omega)) (R11.st.mono h8 fun k _ e => by rcases e with e | e; exact .inl e.1; exact .inr (by omega)) (f07.any.then (f8.sub fun k e => ⟨e.1.1, e.2⟩))

/-- all, by rising slots. -/
def entsM (x : StM) : List Ent := x.s.list.map fun id => (x.ent id).1
theorem spec_r11_List (h : R11 C b x F w) {K : Res [.sc .sl] → W R} (hk : ∀ r raws w', Own (Up w.heap.size) w' 34 entT r raws → EntsR (fun k => F k ∧ C k) w' raws (entsM x) → Fr None w w' → K r Q w') :
    callW Tryz.prog k_pinnaceref11_List [.pointer (some ⟨b, 0, none⟩)] [.sc .sl] K Q w := by
  refine C_pinnaceref11_List _ K Q w ?_
  unfold F_pinnaceref11_List
  have ok := h.1
  have hst := h.shut
  obtain ⟨_, lab, bs, cs, hF, hR⟩ := hst
  have hst := h.shut
  refine condF rfl (ptrI (fldI hR.blk (i := 0) (x := some ⟨bs, 0, none⟩) hR.c0 ?_))
  refine s7_List hR.slots fun rl room w1 o1 f1 => ?_
  have hle := ok.s.list_le
  have hs1 := f1.size
  refine rangeI (t := idT) (ok := Up w.heap.size) (l := x.s.list) (fun s : Sl × Int => s.2) (fun j st w' => st.2 = (j : Int) ∧ Fr None w1 w' ∧ ∃ raws, Own (Up w1.heap.size) w' 34 entT st.1 raws ∧ EntsR (fun k => (F k ∧ k < w.heap.size) ∧ C k) w' raws ((x.s.list.take j).map fun id => (x.ent id).1)) rfl ⟨rfl, Fr.refl _ _, [], Own.nil _ _ _ _, EntsR.nil _ _⟩ (fun j s w' h => h.1) (fun j st w' hp => o1.sl.fr0 hp.2.1) ?_ ?_
  · rintro j y ⟨out, _⟩ w2 K' hy ⟨rfl, f2, raws, ow, hE⟩ - hK
    have hjl := (List.getElem?_eq_some_iff.1 hy).1
    refine spec_r11_Ent (R11.st.fr0 hst (f1.then0 f2)) fun sl w3 hsl f3 => ?_
    refine newI fun w4 B4 f4 s4 => stoAll B4 rfl rfl fun w5 B5 f5 s5 => aggI B5 (x := ((x.ent y).1.1, sl)) rfl ?_
    have f35 : Fr None w3 w5 := f4.newer f5 fun k e => by omega
    have f25 := f3.then0 f35
    have o5 := ow.none f25
    have hs2 := f2.size
    have hs25 := f25.size
    have hl := hE.len
    rw [List.length_map, List.length_take] at hl
    have hl2 : raws.length ≤ 1024 := by omega
    refine appF ents_ty (x := ((x.ent y).1.1, sl)) rfl o5 (by omega) (Nat.le_trans (Nat.mul_le_mul_right 32 (Nat.succ_le_succ hl2)) (by decide)) (Nat.le_trans (Nat.succ_le_succ hl2) (by decide)) fun r w6 o6 f6 _ => ?_
    have f26 : Fr (fun k => out.v.ownBlock = some k) w2 w6 := f25.any.then f6
    have dis : ∀ k, ((F k ∧ k < w.heap.size) ∧ C k) → ¬ (out.v.ownBlock = some k) := fun k e e2 => by have : w1.heap.size ≤ k := o5.own k e2; omega
    refine hK _ _ ⟨wsucc hjl (by omega), (f2.then0 f25).newer f6 fun k e => o5.own k e, _, o6, ?_⟩
    rw [take_at hy, List.map_append]
    exact (hE.fr f26 dis).snoc rfl ((hsl.fr0 f35).fr f6 dis)
  · rintro ⟨out, _⟩ w2 ⟨-, f2, raws, ow, hE⟩
    rw [List.take_length] at hE
    exact hk out raws w2 (ow.up hs1) (hE.mono fun k _ e => ⟨e.1.1, e.2⟩) (f1.then0 f2)
end

end Go.Proofs.YtkblnhnjagemlaaGreat
