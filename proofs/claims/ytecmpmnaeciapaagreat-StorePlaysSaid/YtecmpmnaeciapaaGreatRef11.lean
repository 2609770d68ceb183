/-
  What the functions of the document's layer 11 (store) compute, against the model of the program's store.
-/
import Derived.Test.YtecmpmnaeciapaaGreatRefA
import Derived.Test.YtecmpmnaeciapaaGreatRef7c
import Derived.Test.YtecmpmnaeciapaaGreatSto4
namespace Go.Proofs.YtecmpmnaeciapaaGreat
open Go Go.RowKit Go.Proofs.YtecmpmnaeciapaaGreat.Den
variable {R : Type} {Q : R → World → Prop} {w : World}

/-! ### a table within the store -/
def ArrO (m : Nat) (s : Sl) (L : List Ent) : OB := fun F w => TabOk m L ∧ ∃ (raws : List (Int × Sl)) (lab : Nat → Nat), (∀ k, lab k ≠ 0 → F k ∧ k < w.heap.size) ∧ Own (fun k => lab k = 1) w 97 entT s raws ∧ EntsR (fun k => lab k = 2) w raws L
theorem ArrO.st {m : Nat} {s : Sl} {L : List Ent} : St (ArrO m s L) := fun {F F' S w w'} ⟨h0, raws, lab, h1, h2, h3⟩ f hs =>
  ⟨h0, raws, lab, fun k e => ⟨(hs k (h1 k e).2 (h1 k e).1).2, Nat.lt_of_lt_of_le (h1 k e).2 f.size⟩, h2.fr f fun k e => (hs k (h1 k (by omega)).2 (h1 k (by omega)).1).1, h3.fr f fun k e => (hs k (h1 k (by omega)).2 (h1 k (by omega)).1).1⟩
section
variable {F : Nat → Prop} {b ofs m : Nat} {T : TypeId} {cs : List Value} {s : Sl} {L : List Ent}
theorem ArrO.rf (A : ArrO m s L F w) (B : Blk w b T cs) (c0 : cs[ofs]? = some (.int .u8 (m : Int))) (c1 : cs[ofs + 1]? = some (.slice s.a s.n s.c)) (hb : ¬ F b) : ∃ lab, Rf lab w b ofs T cs m L ∧ ∀ k, lab k ≠ 0 → F k ∨ k = b := by
  obtain ⟨h0, raws, lab, h1, h2, h3⟩ := A
  have hb0 : lab b = 0 := by
    by_cases h : lab b = 0
    · exact h
    · exact absurd (h1 b h).1 hb
  refine ⟨fun k => if k = b then 1 else if lab k = 1 then 2 else if lab k = 2 then 3 else 0, ⟨h0, s, raws, B, c0, c1, if_pos rfl, h2.mono fun k _ e => ?_, h3.mono fun k _ e => ?_, fun k e => ?_⟩, fun k e => ?_⟩
  · show (if _ then _ else _) = _
    rw [if_neg (fun e2 => by subst e2; omega), if_pos e]
  · show (if _ then _ else _) = _
    rw [if_neg (fun e2 => by subst e2; omega), if_neg (by omega), if_pos e]
  · by_cases e2 : k = b
    · subst e2; exact B.lt
    · simp only [if_neg e2] at e
      refine (h1 k fun e3 => ?_).2
      rw [e3] at e; simp at e
  · by_cases e2 : k = b
    · exact .inr e2
    · simp only [if_neg e2] at e
      refine .inl (h1 k fun e3 => ?_).1
      rw [e3] at e; simp at e
theorem ArrO.of {lab : Nat → Nat} {F' : Nat → Prop} (h : Rf lab w b ofs T cs m L) (hF : ∀ k, lab k ≠ 0 → F' k ∨ k = b) : Blk w b T cs ∧ cs[ofs]? = some (.int .u8 (m : Int)) ∧ ∃ s : Sl, cs[ofs + 1]? = some (.slice s.a s.n s.c) ∧ ArrO m s L F' w := by
  obtain ⟨s, raws, r⟩ := h.rep
  refine ⟨r.blk, r.c0, s, r.c1, h.ok, raws, fun k => if lab k = 2 then 1 else if lab k = 3 then 2 else 0, fun k e => ?_, r.own.mono fun k _ e => ?_, r.ents.mono fun k _ e => ?_⟩
  · have h0 : lab k ≠ 0 := fun e2 => by simp [e2] at e
    have hkb : k ≠ b := fun e2 => by subst e2; simp [r.lb] at e
    rcases hF k h0 with h1 | h1
    · exact ⟨h1, r.lt k h0⟩
    · exact absurd h1 hkb
  · show (if _ then _ else _) = _; rw [if_pos e]
  · show (if _ then _ else _) = _; rw [if_neg (by omega), if_pos e]
end

/-! ### the store -/
structure R11R (lab : Nat → Nat) (w : World) (b bs : Nat) (cs : List Value) (s : SM) (T : Nat → List Ent) : Prop where
  lb : lab b = 1
  blk : Blk w b 91 cs
  c0 : cs[0]? = some (.pointer (some ⟨bs, 0, none⟩))
  slots : S7O bs s (fun k => lab k = 2) w
  tab : ∀ m, m < 64 → cs[1 + m * 2]? = some (.int .u8 (m : Int)) ∧ ∃ sl : Sl, cs[1 + m * 2 + 1]? = some (.slice sl.a sl.n sl.c) ∧ ArrO m sl (T m) (fun k => lab k = 3 + m) w
def R11 (b : Nat) (x : StM) : OB := fun F w => StOk x ∧ ∃ (lab : Nat → Nat) (bs : Nat) (cs : List Value), (∀ k, lab k ≠ 0 → F k) ∧ R11R lab w b bs cs x.s x.tab
section
variable {lab : Nat → Nat} {b bs : Nat} {cs : List Value} {s : SM} {T : Nat → List Ent}
theorem R11R.cut (h : R11R lab w b bs cs s T) {S : Nat → Prop} {w' : World} (f : Fr S w w') (hs : ∀ k, k < w.heap.size → lab k ≠ 0 → ¬ S k) : R11R (Den.cut lab w.heap.size) w' b bs cs s T :=
  ⟨by rw [cut_lt h.blk.lt]; exact h.lb, h.blk.fr f (hs b h.blk.lt (by rw [h.lb]; decide)), h.c0, S7O.st.cut h.slots f (by decide) hs, fun m hm => by
    obtain ⟨h1, sl, h2, h3⟩ := h.tab m hm
    exact ⟨h1, sl, h2, ArrO.st.cut h3 f (by omega) hs⟩⟩
theorem R11R.fr0 (h : R11R lab w b bs cs s T) {w' : World} (f : Fr None w w') : R11R lab w' b bs cs s T :=
  ⟨h.lb, h.blk.fr f fun h => h, h.c0, S7O.st.fr0 h.slots f, fun m hm => by
    obtain ⟨h1, sl, h2, h3⟩ := h.tab m hm
    exact ⟨h1, sl, h2, ArrO.st.fr0 h3 f⟩⟩
theorem R11.st {x : StM} : St (R11 b x) := fun {F F' S w w'} ⟨ok, lab, bs, cs, hF, h⟩ fr hs =>
  ⟨ok, Den.cut lab w.heap.size, bs, cs, fun k e => (hs k (cut_ne e).2 (hF k (cut_ne e).1)).2, h.cut fr fun k hk e => (hs k hk (hF k e)).1⟩
/-- table m is another one now. -/
theorem R11R.setTab (h : R11R lab w b bs cs s T) {m : Nat} (hm : m < 64) {L : List Ent} {cs' : List Value} {w' : World} (B : Blk w' b 91 cs') (hc : ∀ i, i ≠ 1 + m * 2 + 1 → cs'[i]? = cs[i]?) {sl : Sl} (c1 : cs'[1 + m * 2 + 1]? = some (.slice sl.a sl.n sl.c))
    (A : ArrO m sl L (Ex (fun k => lab k = 3 + m) w) w') (f : Fr (fun k => lab k = 3 + m ∨ k = b) w w') : R11R (relab lab w.heap.size w'.heap.size (3 + m)) w' b bs cs' s (upd T m L) := by
  have f' : ∀ {A : OB} {i : Nat}, St A → i ≠ 3 + m → i ≠ 1 → A (fun k => lab k = i) w → A (fun k => relab lab w.heap.size w'.heap.size (3 + m) k = i) w' := fun hA h1 h2 a =>
    hA a f fun k hk e => ⟨fun e2 => by
      rcases e2 with e2 | e2
      · omega
      · rw [e2, h.lb] at e; omega, by show relab _ _ _ _ _ = _; rw [relab_lt hk]; exact e⟩
  refine ⟨by rw [relab_lt h.blk.lt]; exact h.lb, B, by rw [hc 0 (by omega)]; exact h.c0, f' S7O.st (by omega) (by omega) h.slots, fun k hk => ?_⟩
  obtain ⟨h1, sl', h2, h3⟩ := h.tab k hk
  refine ⟨by rw [hc _ (by omega)]; exact h1, ?_⟩
  by_cases e : k = m
  · subst e
    exact ⟨sl, c1, by rw [upd_same]; exact ArrO.st.grown A⟩
  · exact ⟨sl', by rw [hc _ (by omega)]; exact h2, by rw [upd_other e]; exact f' ArrO.st (by omega) (by omega) h3⟩
theorem R11R.setSlots (h : R11R lab w b bs cs s T) {s' : SM} {w' : World} (A : S7O bs s' (fun k => lab k = 2) w') (f : Fr (fun k => lab k = 2) w w') : R11R lab w' b bs cs s' T :=
  ⟨h.lb, h.blk.fr f fun e => by have := h.lb; omega, h.c0, A, fun m hm => by
    obtain ⟨h1, sl, h2, h3⟩ := h.tab m hm
    exact ⟨h1, sl, h2, ArrO.st.fr h3 f fun k e => by omega⟩⟩

theorem r11_row (h : R11R lab w b bs cs s T) {m : Nat} (hm : m < 64) {id : Int} {K : Res [.sc (.int .i64)] → W R} (hk : ∀ w', Fr None w w' → K (rowI (T m) id) Q w') : callW Tryz.prog k_pinnaceref10_Row [.pointer (some ⟨b, 1 + m * 2, none⟩), .int .u32 id] [.sc (.int .i64)] K Q w := by
  obtain ⟨h1, sl, h2, h3⟩ := h.tab m hm
  obtain ⟨lab', hr, _⟩ := h3.rf h.blk h1 h2 (by rw [h.lb]; omega)
  exact spec_rA_Row hr hk
theorem pt64 {b : Nat} {i : Int} {m : Nat} (hi : i = (m : Int)) (hm : m < 64) {K : Addr → W R} (hk : K ⟨b, 1 + m * 2, none⟩ Q w) : idxW (some (Addr.add ⟨b, 0, none⟩ 1)) 64 2 i K Q w := by
  subst hi
  refine idxA (by omega) (by omega) ?_
  rw [add_lit, add_lit, Int.toNat_natCast, Nat.zero_add]
  exact hk
theorem rowI_nn {L : List Ent} {id : Int} : (rowI L id ≥ 0) ↔ (rowM L id).isSome = true := by
  unfold rowI
  cases rowM L id <;> simp <;> omega
/-- find: the table of an entity. -/
theorem r11_find (h : R11R lab w b bs cs s T) {id : Int} {K : Res [.sc .ptr] → W R} (hk : ∀ w', Fr None w w' → K ((homeT T id).map fun m => ⟨b, 1 + m * 2, none⟩) Q w') : callW Tryz.prog k_pinnaceref11_find [.pointer (some ⟨b, 0, none⟩), .int .u32 id] [.sc .ptr] K Q w := by
  refine C_pinnaceref11_find _ _ K Q w ?_
  unfold F_pinnaceref11_find
  refine forI (N := 64) (fun s : Int => s) (fun j i w' => i = (j : Int) ∧ Fr None w w' ∧ ∀ k, k < j → ¬ inT T k id) ⟨rfl, Fr.refl _ _, by omega⟩ (fun j s w' h => h.1) ?_ ?_
  · rintro j i w1 K' hj ⟨rfl, f1, hno⟩ - hK
    refine ptrI (pt64 rfl hj (r11_row (h.fr0 f1) hj fun w2 f2 => ?_))
    refine condD (fun hp => ?_) fun hp => ?_
    · have hin : inT T j id := rowI_nn.1 hp
      have hh : homeT T id = some j := by
        unfold homeT
        rw [List.find?_range_eq_some]
        exact ⟨hin, by simpa using hj, fun k hk => by have := hno k hk; unfold inT at this; simpa using this⟩
      have e := hk w2 (f1.then0 f2)
      rw [hh] at e
      exact ptrI (pt64 rfl hj e)
    · refine hK _ _ ⟨wsucc hj (by omega), f1.then0 f2, fun k hk2 => ?_⟩
      rcases Nat.lt_succ_iff_lt_or_eq.1 hk2 with h1 | h1
      · exact hno k h1
      · subst h1; exact fun hi => hp (rowI_nn.2 hi)
  · rintro i w1 ⟨-, f1, hno⟩
    have e := hk w1 f1
    rw [home_none.2 hno] at e
    exact e

/-- put: an entity into the table of its make. -/
theorem r11_put (h : R11R lab w b bs cs s T) {id : Int} (hid : IdOk id) {ok : Nat → Prop} {r : Sl} {l : List Comp} (hS : SlT ok w compT r l) (hsm : Small l) (hl : ∀ c ∈ l, CompOk c) (hv : listE l = 0) (hno : rowM (T (maskN l)) id = none) (hroom : (T (maskN l)).length < 1048576) {K : Res [] → W R}
    (hk : ∀ lab' cs' w', R11R lab' w' b bs cs' s (putT T id l) → (∀ k, lab' k ≠ 0 → lab k ≠ 0 ∨ w.heap.size ≤ k) → Fr (fun k => lab k ≠ 0) w w' → K () Q w') :
    callW Tryz.prog k_pinnaceref11_put [.pointer (some ⟨b, 0, none⟩), .int .u32 id, .slice r.a r.n r.c] [] K Q w := by
  refine C_pinnaceref11_put _ _ _ K Q w ?_
  unfold F_pinnaceref11_put
  have fd : Fr None w w.drew := (Fr.refl _ _).drew
  have hm := maskN_lt l
  refine ptrI (spec_r5_Mask (hS.fr0 fd) hsm fun w1 f1 => ?_)
  have f01 := fd.then0 f1
  have h1 := h.fr0 f01
  have hs1 := f01.size
  refine pt64 rfl hm ?_
  obtain ⟨t1, sl, t2, t3⟩ := h1.tab _ hm
  obtain ⟨lab', hr, hF⟩ := t3.rf h1.blk t1 t2 (by rw [h.lb]; omega)
  refine spec_rA_Add hr hid (hS.fr0 f01) hsm hl hroom fun lab2 cs' w2 hr2 hcs hex f2 => ?_
  have hadd : addM (maskN l) (T (maskN l)) id l = 0 := addM_ok ⟨hv, rfl⟩ hno
  rw [addT, if_pos hadd] at hr2
  obtain ⟨B2, _, sl2, c1, A2⟩ := ArrO.of (F' := Ex (fun k => lab k = 3 + maskN l) w1) hr2 fun k e => by
    rcases hex k e with e | e
    · rcases hF k e with e | e
      · exact .inl (.inl e)
      · exact .inr e
    · exact .inl (.inr e)
  have f2' : Fr (fun k => lab k = 3 + maskN l ∨ k = b) w1 w2 := f2.sub hF
  have h2 := h1.setTab hm B2 hcs c1 A2 f2'
  refine hk _ cs' w2 h2 (fun k e => ?_) (f01.any.then (f2'.sub fun k e => ?_))
  · rcases relab_ne e with ⟨e, _⟩ | ⟨e, _⟩
    · exact .inl e
    · exact .inr (by omega)
  · rcases e with e | e
    · omega
    · rw [e, h.lb]; decide
end

end Go.Proofs.YtecmpmnaeciapaaGreat
