/-
  TablePlays: its Go text answers true, whatever the input.
-/
import Derived.Test.YtmlpeafpchpjeaaL10
import Derived.Test.YtmlpeafpchpjeaaRef10
namespace Go.Proofs.Ytmlpeafpchpjeaa
open Go Go.RowKit Go.ChangeShapes Go.WideShapes Go.ChangeAt Go.Proofs.Ytmlpeafpchpjeaa.Den
variable {R : Type} {Q : R → World → Prop} {w : World}

def firstM (l : List Comp) : Comp := l.headD (0, 0, 0, 0)
theorem spec_l10_first {ok : Nat → Prop} {s : Sl} {l : List Comp} (hS : SlT ok w compT s l) {K : Res [.agg [.int .u8, .int .i32, .int .i32, .int .i32]] → W R} (hk : ∀ w', Fr None w w' → K (firstM l) Q w') :
    callW Try.prog k_pinnacelaw10_first [.slice s.a s.n s.c] [.agg [.int .u8, .int .i32, .int .i32, .int .i32]] K Q w := by
  refine C_pinnacelaw10_first _ K Q w ?_
  unfold F_pinnacelaw10_first
  refine newI fun w1 B1 f1 s1 => ?_
  have hlen := hS.len
  refine condE (fun h => ?_) fun h => ?_
  · have : l = [] := List.eq_nil_of_length_eq_zero (by have : (s.n : Int) = 0 := h; omega)
    subst this
    refine stoAll B1 rfl rfl fun w2 B2 f2 s2 => ?_
    exact aggI B2 (x := (0, 0, 0, 0)) rfl (hk w2 (f1.newer f2 fun x e => by omega))
  · refine (hS.fr0 f1).get (j := 0) rfl rfl (by have : (s.n : Int) ≠ 0 := h; omega) fun x hx => ?_
    refine stoAll B1 rfl rfl fun w2 B2 f2 s2 => ?_
    refine aggI B2 (x := x) rfl ?_
    have e := hk w2 (f1.newer f2 fun x e => by omega)
    have : firstM l = x := by cases l with
      | nil => simp at hx
      | cons y r => simp at hx; exact hx
    rw [this] at e
    exact e

/-- a bit of a component of a list of one's own is turned. -/
theorem flip_step {n : Nat} {s : Sl} {l : List Comp} (ho : Own (Up n) w 40 compT s l) {i : Int} {j : Nat} (hi : i = j) (hj : j < l.length) {K : W R} (hk : ∀ w' l', l'.length = l.length → Own (Up n) w' 40 compT s l' → Fr (fun k => s.v.ownBlock = some k) w w' → K Q w') :
    (idxW s.a s.n 4 i fun x_95 =>
        idxW (some (Addr.add x_95 1)) 3 1 0 fun x_96 =>
        ld (.sc (.int .i32)) x_96 fun (x_97 : Int) =>
        idxW s.a s.n 4 i fun x_98 =>
        idxW (some (Addr.add x_98 1)) 3 1 0 fun x_99 =>
        stoL x_99 [.int .i32 (bXor .i32 x_97 1)] 0 K) Q w := by
  subst hi
  refine ho.idx rfl (by omega) (by omega) fun g c hg hc hrd => ?_
  have hc : l[j]? = some c := by simpa using hc
  refine idxA (by omega) (by omega) ?_
  rw [addA]
  refine hrd.fld (s := .int .i32) (y := c.2.1) rfl ?_
  refine ho.idx rfl (by omega) (by omega) fun g2 c2 hg2 hc2 _ => ?_
  refine idxA (by omega) (by omega) ?_
  rw [addA, add_lit]
  refine ho.setFld (i := j) (j := 1) (x' := (c.1, bXor .i32 c.2.1 1, c.2.2.1, c.2.2.2)) hc hg2 (show 1 < 4 by omega) rfl rfl fun w2 o2 f2 s2 => ?_
  exact hk w2 _ (by rw [List.length_set]) o2 f2

theorem spec_l10_alike {lab1 lab2 : Nat → Nat} {b1 b2 m : Nat} {L : List Ent} (h1 : Tab lab1 w b1 m L) (h2 : Ref lab2 w b2 m L) {K : Res [.sc .bool] → W R} (hk : ∀ w', Fr None w w' → K true Q w') :
    callW Try.prog k_pinnacelaw10_alike [.pointer (some ⟨b1, 0, none⟩), .pointer (some ⟨b2, 0, none⟩)] [.sc .bool] K Q w := by
  refine C_pinnacelaw10_alike _ _ K Q w ?_
  unfold F_pinnacelaw10_alike
  refine condF rfl ?_
  have hsm := h1.ok.small
  refine joinI (fun z w' => z = false ∧ Fr None w w') ?_ ?_
  · have fd : Fr None w w.drew := (Fr.refl _ _).drew
    have h1d := h1.fr0 fd
    have h2d := h2.fr0 fd
    obtain ⟨s, raws, r⟩ := h2d.rep
    have hsn : s.n = L.length := by rw [r.own.len, r.ents.len]
    refine both4 ?_
    refine ptrI ?_
    refine fldI r.blk (x := s) rfl ?_
    refine spec_tab_Len h1d ?_
    refine andI (r.blk.rd (s := .sl) (i := 1) (x := s) rfl) ?_
    refine condN (fun h => absurd (show ((L.length : Nat) : Int) = (s.n : Int) by omega) h) fun _ => ?_
    refine ptrI ?_
    refine fldI r.blk (x := (m : Int)) rfl ?_
    refine spec_tab_Mask h1d ?_
    refine andI (r.blk.rd (s := .int .u8) (i := 0) (x := (m : Int)) rfl) ?_
    refine condN (fun h => absurd rfl h) fun _ => ?_
    refine ptrI ?_
    refine fldI r.blk (x := s) rfl ?_
    refine spec_tab_IDs h1d fun rr w1 o1 f1 => ?_
    have r1 := r.fr0 f1
    refine andI (r1.blk.rd (s := .sl) (i := 1) (x := s) rfl) ?_
    have : rr.n = s.n := by rw [o1.len, List.length_map, hsn]
    exact ⟨by rw [this]; simp, fd.then0 f1⟩
  · rintro z w1 ⟨rfl, f1⟩
    refine condF rfl ?_
    have h11 := h1.fr0 f1
    have h21 := h2.fr0 f1
    obtain ⟨s, raws, r⟩ := h21.rep
    have hsn : s.n = L.length := by rw [r.own.len, r.ents.len]
    refine ptrI ?_
    refine fldI r.blk (x := s) rfl ?_
    refine forI (N := s.n) (fun s : Int => s) (fun j i w' => i = j ∧ Fr None w1 w') ⟨rfl, Fr.refl _ _⟩ (fun j s w' h => h.1) ?_ ?_
    · rintro j i w2 K' hj ⟨rfl, f2⟩ - hK
      have h12 := h11.fr0 f2
      have r2 := r.fr0 f2
      obtain ⟨e, he⟩ : ∃ e, L[j]? = some e := ⟨_, List.getElem?_eq_getElem (by omega)⟩
      have hv := h1.ok.valid e (List.mem_of_getElem? he)
      have hvs := hv.small
      have hide := h1.ok.ids e (List.mem_of_getElem? he)
      obtain ⟨r0, hr0, hr1, hr2⟩ := r2.ents.get he
      refine r2.own.sl.get rfl rfl (by rw [r2.ents.len]; omega) fun x hx => ?_
      rw [hr0] at hx
      cases hx
      refine locI rfl rfl fun w3 B3 f3 s3 => ?_
      refine fldI B3 (x := r0.1) rfl ?_
      rw [hr1]
      have h13 := h12.fr0 f3
      refine spec_tab_Row h13 hide ?_
      rw [rowM_at h1.ok.nodup he]
      refine spec_tab_At h13 (fun h => by omega) fun j' e' sl w4 hj' he' o4 f4 => ?_
      have : j' = j := by omega
      subst this
      rw [he] at he'
      cases he'
      refine locI rfl rfl fun w5 B5 f5 s5 => ?_
      have B35 := (B3.fr f4 fun h => h).fr f5 fun h => h
      have f35 := f4.then0 f5
      have h15 := h13.fr0 f35
      have o5 := o4.none f5
      have hr5 := hr2.fr0 (f3.then0 f35)
      refine joinI (fun z w' => z = false ∧ Fr None w5 w') ?_ ?_
      · have fd : Fr None w5 w5.drew := (Fr.refl _ _).drew
        refine condF rfl ?_
        refine condN (fun h => absurd rfl h) fun _ => condF rfl ?_
        refine aggI B5.drew (x := (e.1, sl)) rfl ?_
        refine aggI B35.drew (x := r0) rfl ?_
        refine spec_r10_SameEnt (id := e.1) (id2 := r0.1) (s := sl) (s2 := r0.2) (o5.sl.fr0 fd) (hr5.fr0 fd) (by omega) fun w6 f6 => ?_
        rw [decide_eq_true ⟨hr1.symm, rfl⟩]
        refine condF rfl ?_
        have f56 := fd.then0 f6
        refine fldI (B35.fr f56 fun h => h) (x := r0.1) rfl ?_
        refine spec_tab_IDs (h15.fr0 f56) fun rr w7 o7 f7 => ?_
        have f57 := f56.then0 f7
        refine andI ((B35.fr f57 fun h => h).rd (s := .int .u32) (i := 0) (x := r0.1) rfl) ?_
        refine o7.sl.get rfl rfl (by rw [List.length_map]; omega) fun y hy => ?_
        have : y = e.1 := by rw [List.getElem?_map, he] at hy; exact (Option.some.inj hy).symm
        subst this
        exact ⟨by rw [hr1]; simp, f57⟩
      · rintro z w6 ⟨rfl, f6⟩
        refine condF rfl ?_
        have B6 := B5.fr f6 fun h => h
        refine fldI B6 (x := sl) rfl ?_
        have o6 := o5.none f6
        have hsln : sl.n = e.2.length := o6.len
        have hne : ∀ {l' : List Comp} {w' : World}, Own (Up w3.heap.size) w' 40 compT sl l' → ∀ k, sl.v.ownBlock = some k → k < w4.heap.size := fun _ k hk => o4.lt hk
        refine forI (N := sl.n) (fun s : Int => s) (fun q i w' => i = q ∧ ∃ l' : List Comp, l'.length = e.2.length ∧ Own (Up w3.heap.size) w' 40 compT sl l' ∧ Fr (Up w3.heap.size) w6 w' ∧ Blk w' w4.heap.size 50 (entC (e.1, sl)))
          ⟨rfl, e.2, rfl, o6, Fr.refl _ _, B6⟩ (fun j s w' h => h.1) ?_ ?_
        · rintro q i w7 K2 hq ⟨rfl, l', hl', o7, f7, B7⟩ - hK2
          have fd : Fr None w7 w7.drew := (Fr.refl _ _).drew
          refine fldI B7.drew (x := sl) rfl ?_
          refine flip_step (o7.none fd) rfl (by omega) fun w8 l2 hl2 o8 f8 => ?_
          refine hK2 _ _ ⟨wsucc hq (by omega), l2, by omega, o8, (f7.then fd.up).thenOwn o7 f8, B7.drew.fr f8 fun hk => ?_⟩
          have := o4.lt hk
          omega
        · rintro i w7 ⟨rfl, l', _, _, f7, _⟩
          have hz : w2.heap.size ≤ w3.heap.size := f3.size
          exact hK _ _ ⟨wsucc hj (by omega), (f2.then0 ((f3.then0 f35).then0 f6)).thenUp f7 (by have := f2.size; omega)⟩
    · rintro i w2 ⟨rfl, f2⟩
      have h12 := h11.fr0 f2
      have r2 := r.fr0 f2
      refine ptrI ?_
      refine fldI r2.blk (x := s) rfl ?_
      refine spec_tab_At h12 (fun _ w3 f3 => ?_) fun j e sl w3 hj he _ _ => absurd (List.getElem?_eq_some_iff.1 he).1 (by omega)
      refine locI rfl rfl fun w4 B4 f4 s4 => ?_
      have f24 := f3.then0 f4
      refine spec_tab_At (h12.fr0 f24) (fun _ w5 f5 => ?_) fun j e sl w5 hj _ _ _ => absurd hj (by omega)
      refine locI rfl rfl fun w6 B6 f6 s6 => ?_
      refine joinK (condT rfl ?_)
      exact hk w6 ((((f1.then0 f2).then0 f24).then0 f5).then0 f6)

abbrev opT : Ty := .agg [.int .u8, .int .u32, .sl]
/-- the program's table and the document's, alike; hole: blocks of neither. -/
def St10 (base : Nat) (hole : Nat → Prop) (w : World) (t x : Option Addr) (n : Nat) : Prop := (t = none ∧ x = none) ∨
  ∃ lab1 lab2 b1 b2 m L, t = some ⟨b1, 0, none⟩ ∧ x = some ⟨b2, 0, none⟩ ∧ Tab lab1 w b1 m L ∧ Ref lab2 w b2 m L ∧ (∀ k, lab1 k ≠ 0 → lab2 k = 0) ∧ (∀ k, lab1 k ≠ 0 → base ≤ k ∧ ¬ hole k) ∧ (∀ k, lab2 k ≠ 0 → base ≤ k ∧ ¬ hole k) ∧ L.length ≤ n
abbrev Frame10 (base : Nat) (hole : Nat → Prop) : Nat → Prop := fun k => base ≤ k ∧ ¬ hole k
theorem St10.fr {base : Nat} {hole S : Nat → Prop} {w' : World} {t x : Option Addr} {n : Nat} (h : St10 base hole w t x n) (f : Fr S w w') (hn : ∀ k, k < w.heap.size → ¬ hole k → base ≤ k → ¬ S k) : St10 base hole w' t x n := by
  rcases h with h | ⟨lab1, lab2, b1, b2, m, L, h1, h2, h3, h4, h5, h6, h7, h8⟩
  · exact .inl h
  · exact .inr ⟨lab1, lab2, b1, b2, m, L, h1, h2, h3.fr f fun k e => hn k (h3.lt e) (h6 k e).2 (h6 k e).1, h4.fr f fun k e => hn k (h4.lt e) (h7 k e).2 (h7 k e).1, h5, h6, h7, h8⟩
theorem St10.fr0 {base : Nat} {hole : Nat → Prop} {w' : World} {t x : Option Addr} {n : Nat} (h : St10 base hole w t x n) (f : Fr None w w') : St10 base hole w' t x n := h.fr f fun _ _ _ _ h => h
theorem St10.hole {base : Nat} {hole hole' : Nat → Prop} {t x : Option Addr} {n : Nat} (h : St10 base hole w t x n) (hh : ∀ k, k < w.heap.size → hole' k → hole k) : St10 base hole' w t x n := by
  rcases h with h | ⟨lab1, lab2, b1, b2, m, L, h1, h2, h3, h4, h5, h6, h7, h8⟩
  · exact .inl h
  · exact .inr ⟨lab1, lab2, b1, b2, m, L, h1, h2, h3, h4, h5, fun k e => ⟨(h6 k e).1, fun hk => (h6 k e).2 (hh k (h3.lt e) hk)⟩, fun k e => ⟨(h7 k e).1, fun hk => (h7 k e).2 (hh k (h4.lt e) hk)⟩, h8⟩
theorem St10.more {base : Nat} {hole : Nat → Prop} {t x : Option Addr} {n n' : Nat} (h : St10 base hole w t x n) (hn : n ≤ n') : St10 base hole w t x n' := by
  rcases h with h | ⟨lab1, lab2, b1, b2, m, L, h1, h2, h3, h4, h5, h6, h7, h8⟩
  · exact .inl h
  · exact .inr ⟨lab1, lab2, b1, b2, m, L, h1, h2, h3, h4, h5, h6, h7, by omega⟩
theorem addT_len (m : Nat) (L : List Ent) (id : Int) (l : List Comp) : (addT m L id l).length ≤ L.length + 1 := by
  unfold addT
  split <;> simp
theorem setT_len (m : Nat) (L : List Ent) (id : Int) (c : Comp) : (setT m L id c).length = L.length := by
  unfold setT
  split
  · exact setL_len
  · rfl

section
variable {base n : Nat} {hole : Nat → Prop} {t x : Option Addr}

/-- both are told one thing. A frame keeps what isn't theirs. -/
theorem st_add (st : St10 base hole w t x n) (hb : base ≤ w.heap.size) (hw : ∀ k, hole k → k < w.heap.size) (hn : n < 1048576) {id : Int} (hid : IdOk id) {sm so : Sl} {l : List Comp} (h1 : SlT hole w compT sm l) (h2 : SlT (fun k => k < base) w compT so l) (hm : Small l) (hl : ∀ c ∈ l, CompOk c)
    {K1 : Int → W R → W R} {K : Int → Int → W R} (hK : ∀ a w' (X : W R), Fr (Frame10 base hole) w w' → X Q w' → K1 a X Q w')
    (hk : ∀ a w', St10 base hole w' t x (n + 1) → Fr (Frame10 base hole) w w' → K a a Q w') :
    callW Try.prog k_table_Table_Add [.pointer t, .int .u32 id, .slice sm.a sm.n sm.c] [.sc (.int .i64)] (fun a => K1 a (callW Try.prog k_pinnaceref10_Add [.pointer x, .int .u32 id, .slice so.a so.n so.c] [.sc (.int .i64)] (K a))) Q w := by
  rcases st with ⟨rfl, rfl⟩ | ⟨lab1, lab2, b1, b2, m, L, rfl, rfl, h3, h4, h5, h6, h7, h8⟩
  · refine spec_tab_Add0 ?_
    refine hK _ _ _ (Fr.refl _ _) (spec_r10_Add0 ?_)
    exact hk _ _ (.inl ⟨rfl, rfl⟩) (Fr.refl _ _)
  · refine spec_tab_Add h3 hid h1 (fun k hk2 => by
      by_cases h : lab1 k = 0
      · exact h
      · exact absurd hk2 (h6 k h).2) hm hl (by omega) fun lab1' w1 h3' hn1 f1 => ?_
    have f1' : Fr (Frame10 base hole) w w1 := f1.mono fun k _ e => h6 k e
    refine hK _ _ _ f1' ?_
    have h4' := h4.fr f1 fun k e1 e2 => by have := h5 k e2; omega
    refine spec_r10_Add h4' hid (h2.fr f1' fun k hk2 e => by have := e.1; omega) hm hl (by omega) fun lab2' w2 h4'' hn2 f2 => ?_
    have f2' : Fr (Frame10 base hole) w1 w2 := f2.mono fun k _ e => h7 k e
    have hs1 := f1.size
    refine hk _ w2 (.inr ⟨lab1', lab2', b1, b2, m, addT m L id l, rfl, rfl, h3'.fr f2 fun k e1 e2 => ?_, h4'', fun k e => ?_, fun k e => ?_, fun k e => ?_, by have := addT_len m L id l; omega⟩) (f1'.then f2')
    · rcases hn1 k e1 with h | h
      · have := h5 k h; omega
      · have := h4.lt e2; omega
    · by_cases h0 : lab2' k = 0
      · exact h0
      · have hk1 := h3'.lt e
        rcases hn2 k h0 with h | h
        · have hk2 := h4.lt h
          rcases hn1 k e with h' | h'
          · have := h5 k h'; omega
          · omega
        · omega
    · rcases hn1 k e with h | h
      · exact h6 k h
      · exact ⟨by omega, fun hh => by have := hw k hh; omega⟩
    · rcases hn2 k e with h | h
      · exact h7 k h
      · exact ⟨by omega, fun hh => by have := hw k hh; omega⟩

theorem st_set (st : St10 base hole w t x n) (hb : base ≤ w.heap.size) (hw : ∀ k, hole k → k < w.heap.size) {id : Int} (hid : IdOk id) {c : Comp} (hc : 0 ≤ c.1) {K1 : Int → W R}
    (hk1 : ∀ (a : Int) w1, Fr (Frame10 base hole) w w1 → (∀ {K2 : Int → W R} {w2 : World}, Fr None w1 w2 → (∀ w', St10 base hole w' t x (n + 1) → Fr (Frame10 base hole) w w' → K2 a Q w') →
      callW Try.prog k_pinnaceref10_Set [.pointer x, .int .u32 id, .agg ⟨compC c⟩] [.sc (.int .i64)] K2 Q w2) → K1 a Q w1) :
    callW Try.prog k_table_Table_Set [.pointer t, .int .u32 id, .agg ⟨compC c⟩] [.sc (.int .i64)] K1 Q w := by
  rcases st with ⟨rfl, rfl⟩ | ⟨lab1, lab2, b1, b2, m, L, rfl, rfl, h3, h4, h5, h6, h7, h8⟩
  · refine spec_tab_Set0 fun w1 f1 => ?_
    refine hk1 _ _ (f1.mono fun _ _ h => h.elim) fun f2 hk => spec_r10_Set0 fun w3 f3 => ?_
    exact hk _ (.inl ⟨rfl, rfl⟩) (((f1.then0 f2).then0 f3).mono fun _ _ h => h.elim)
  · refine spec_tab_Set h3 hid fun w1 h3' f1 => ?_
    have f1' : Fr (Frame10 base hole) w w1 := f1.mono fun k _ e => h6 k e
    refine hk1 _ _ f1' fun {K2 w2} f2 hk => ?_
    have h4' := (h4.fr f1 fun k e1 e2 => by have := h5 k e2; omega).fr0 f2
    have f02 := f1'.then0 f2
    refine spec_r10_Set h4' hc fun lab2' w3 h4'' hn2 f3 => ?_
    have f3' : Fr (Frame10 base hole) w2 w3 := f3.mono fun k _ e => h7 k e
    have hs := f02.size
    refine hk w3 (.inr ⟨lab1, lab2', b1, b2, m, setT m L id c, rfl, rfl, (h3'.fr0 f2).fr f3 fun k e1 e2 => ?_, h4'', fun k e => ?_, h6, fun k e => ?_, by rw [setT_len]; omega⟩) (f02.then f3')
    · have := h5 k e1; omega
    · by_cases h0 : lab2' k = 0
      · exact h0
      · have hk1 := h3.lt e
        rcases hn2 k h0 with h | h
        · have := h5 k e; omega
        · omega
    · rcases hn2 k e with h | h
      · exact h7 k h
      · exact ⟨by omega, fun hh => by have := hw k hh; omega⟩

theorem st_remove (st : St10 base hole w t x n) (hb : base ≤ w.heap.size) (hw : ∀ k, hole k → k < w.heap.size) {id : Int} (hid : IdOk id) {K1 : Sl × Int → W R}
    (hk1 : ∀ (a : Sl × Int) w1, Fr (Frame10 base hole) w w1 → (∀ {K2 : Sl × Int → W R}, (∀ (s2 : Sl) (l : List Comp) (ok1 ok2 : Nat → Prop) w', SlT ok1 w' compT a.1 l → SlT ok2 w' compT s2 l → l.length ≤ 6 → St10 base hole w' t x (n + 1) → Fr (Frame10 base hole) w w' → K2 (s2, a.2) Q w') →
      callW Try.prog k_pinnaceref10_Remove [.pointer x, .int .u32 id] [.sc .sl, .sc (.int .i64)] K2 Q w1) → K1 a Q w1) :
    callW Try.prog k_table_Table_Remove [.pointer t, .int .u32 id] [.sc .sl, .sc (.int .i64)] K1 Q w := by
  rcases st with ⟨rfl, rfl⟩ | ⟨lab1, lab2, b1, b2, m, L, rfl, rfl, h3, h4, h5, h6, h7, h8⟩
  · refine spec_tab_Remove0 ?_
    refine hk1 _ _ (Fr.refl _ _) fun hk => spec_r10_Remove0 ?_
    exact hk _ [] (fun _ => False) (fun _ => False) _ (SlT.nil _) (SlT.nil _) (by simp) (.inl ⟨rfl, rfl⟩) (Fr.refl _ _)
  · refine spec_tab_Remove h3 hid (fun hr => ?_) fun i e s1 w1 hr he h3' o1 f1 => ?_
    · refine hk1 _ _ (Fr.refl _ _) fun hk => ?_
      refine spec_r10_Remove h4 (fun _ w2 f2 => ?_) fun i e s lab' w' hr' => by rw [hr] at hr'; cases hr'
      exact hk _ [] (fun _ => False) (fun _ => False) _ (SlT.nil _) (SlT.nil _) (by simp) (.inr ⟨lab1, lab2, b1, b2, m, L, rfl, rfl, h3.fr0 f2, h4.fr0 f2, h5, h6, h7, by omega⟩) (f2.mono fun _ _ h => h.elim)
    · have f1' : Fr (Frame10 base hole) w w1 := f1.mono fun k _ e => h6 k e
      refine hk1 _ _ f1' fun hk => ?_
      have h4' := h4.fr f1 fun k e1 e2 => by have := h5 k e2; omega
      refine spec_r10_Remove h4' (fun hr' => by rw [hr] at hr'; cases hr') fun i' e' s2 lab2' w2 hr' he' h4'' hn2 hs2 f2 => ?_
      rw [hr] at hr'
      cases hr'
      rw [he] at he'
      cases he'
      have f2' : Fr (Frame10 base hole) w1 w2 := f2.mono fun k _ e => h7 k e
      have hs := f1.size
      have hv := (h3.ok.valid e (List.mem_of_getElem? he)).small
      refine hk s2 e.2 _ _ w2 (o1.sl.fr f2 fun k hk2 e => by have := h4.lt e; omega) hs2 hv (.inr ⟨lab1, lab2', b1, b2, m, dropI L i, rfl, rfl, h3'.fr f2 fun k e1 e2 => ?_, h4'', fun k e => ?_, h6, fun k e => ?_, by rw [dropI_len]; omega⟩) (f1'.then f2')
      · have := h5 k e1; omega
      · by_cases h0 : lab2' k = 0
        · exact h0
        · have hk1 := h3.lt e
          rcases hn2 k h0 with h | h
          · have := h5 k e; omega
          · omega
      · rcases hn2 k e with h | h
        · exact h7 k h
        · exact ⟨by omega, fun hh => by have := hw k hh; omega⟩

theorem st_get (st : St10 base hole w t x n) {id : Int} (hid : IdOk id) (k : Int) : ∃ g : Comp × Int,
    (∀ {R : Type} {Q : R → World → Prop} {K : Res [.agg [.int .u8, .int .i32, .int .i32, .int .i32], .sc (.int .i64)] → W R} {w' : World}, Fr None w w' → (∀ w2, Fr None w' w2 → K g Q w2) →
      callW Try.prog k_table_Table_Get [.pointer t, .int .u32 id, .int .u8 k] [.agg [.int .u8, .int .i32, .int .i32, .int .i32], .sc (.int .i64)] K Q w') ∧
    (∀ {R : Type} {Q : R → World → Prop} {K : Res [.agg [.int .u8, .int .i32, .int .i32, .int .i32], .sc (.int .i64)] → W R} {w' : World}, Fr None w w' → (∀ w2, Fr None w' w2 → K g Q w2) →
      callW Try.prog k_pinnaceref10_Get [.pointer x, .int .u32 id, .int .u8 k] [.agg [.int .u8, .int .i32, .int .i32, .int .i32], .sc (.int .i64)] K Q w') := by
  rcases st with ⟨rfl, rfl⟩ | ⟨lab1, lab2, b1, b2, m, L, rfl, rfl, h3, h4, h5, h6, h7, h8⟩
  · exact ⟨((0, 0, 0, 0), 10), fun _ h => spec_tab_Get0 h, fun _ h => spec_r10_Get0 h⟩
  · exact ⟨getM m L id k, fun f h => spec_tab_Get (h3.fr0 f) hid h, fun f h => spec_r10_Get (h4.fr0 f) h⟩

theorem st_alike (st : St10 base hole w t x n) {K : Res [.sc .bool] → W R} (hk : ∀ w', Fr None w w' → K true Q w') : callW Try.prog k_pinnacelaw10_alike [.pointer t, .pointer x] [.sc .bool] K Q w := by
  rcases st with ⟨rfl, rfl⟩ | ⟨lab1, lab2, b1, b2, m, L, rfl, rfl, h3, h4, h5, h6, h7, h8⟩
  · refine C_pinnacelaw10_alike _ _ K Q w ?_
    unfold F_pinnacelaw10_alike
    refine condT rfl ?_
    refine spec_tab_At0 fun w1 f1 => ?_
    refine locI rfl rfl fun w2 B2 f2 s2 => ?_
    refine joinK ?_
    refine spec_tab_Len0 (condT rfl (spec_tab_IDs0 (condT rfl (spec_tab_Mask0 (condT rfl ?_)))))
    exact hk w2 (f1.then0 f2)
  · exact spec_l10_alike h3 h4 hk

end

theorem st_new {base : Nat} (hb : base ≤ w.heap.size) {mask : Int} (hm : 0 ≤ mask ∧ mask ≤ 255) {K : Option Addr × Int → Option Addr × Int → W R}
    (hk : ∀ t x z w', t.isNone = x.isNone → St10 base (fun _ => False) w' t x 0 → Fr None w w' → K (t, z) (x, z) Q w') :
    callW Try.prog k_table_New [.int .u8 mask] [.sc .ptr, .sc (.int .i64)] (fun a => callW Try.prog k_pinnaceref10_New [.int .u8 mask] [.sc .ptr, .sc (.int .i64)] (K a)) Q w := by
  refine spec_tab_New hm (fun h64 => ?_) fun lab1 b1 w1 h64 h1 hn1 f1 => ?_
  · refine spec_r10_New hm (fun _ => ?_) fun lab b w' h => by omega
    exact hk none none 1 w rfl (.inl ⟨rfl, rfl⟩) (Fr.refl _ _)
  · refine spec_r10_New hm (fun h => by omega) fun lab2 b2 w2 _ h2 hn2 f2 => ?_
    have hs := f1.size
    exact hk _ _ 0 w2 rfl (.inr ⟨lab1, lab2, b1, b2, mask.toNat, [], rfl, rfl, h1.fr0 f2, h2, fun k e => by
      by_cases h0 : lab2 k = 0
      · exact h0
      · have := hn2 k h0; have := h1.lt e; omega, fun k e => ⟨by have := hn1 k e; omega, fun h => h⟩, fun k e => ⟨by have := hn2 k e; omega, fun h => h⟩, Nat.zero_le _⟩) (f1.then0 f2)

theorem firstM_ok {l : List Comp} (hl : ∀ c ∈ l, CompOk c) : 0 ≤ (firstM l).1 := by
  cases l with
  | nil => exact Int.le_refl _
  | cons c r => exact (hl c List.mem_cons_self).1.1

structure OpOk (W : World) (o : Int × Int × Sl) : Prop where
  id : IdOk o.2.1
  comps : ∃ l, SlT (fun k => k < W.heap.size) W compT o.2.2 l ∧ (∀ c ∈ l, CompOk c) ∧ o.2.2.c ≤ maxLen

set_option maxHeartbeats 1000000 in
theorem law_TablePlays {W : World} {mask : Int} {s : Sl} {ops : List (Int × Int × Sl)} (hm : 0 ≤ mask ∧ mask ≤ 255) (hS : SlT (fun k => k < W.heap.size) W opT s ops) (hops : ∀ o ∈ ops, OpOk W o) (hc : s.c ≤ maxLen) :
    Calls Try.prog 6 #[.int .u8 mask, s.v] W (fun e w' => e = .returned (.bool true) ∧ Fr None W w') := by
  have hcap : s.n ≤ 9223372036854775807 := by have := hS.cap; rw [maxLen_eq] at hc; omega
  refine calls_of (C_pinnacelaw10_TablePlays mask s _ _ W ?_)
  unfold F_pinnacelaw10_TablePlays
  refine spec_l10_awake fun w1 f1 => condF rfl ?_
  refine st_new (base := W.heap.size) f1.size hm fun t x z w2 htx st f2 => ?_
  have f02 := f1.then0 f2
  refine joinI (fun b w' => b = false ∧ w' = w2) ?_ ?_
  · refine condN (fun h => absurd rfl h) fun _ => ?_
    exact ⟨by show (!(t.isNone == x.isNone)) = false; rw [htx]; simp, rfl⟩
  rintro b w3 ⟨rfl, rfl⟩
  refine condF rfl ?_
  refine joinI (fun _ w' => Fr None W w') ?_ fun _ w' f => ⟨rfl, f⟩
  have hlen := hS.len
  refine forI (N := s.n) (fun s : Int => s) (fun j i w' => i = (j : Int) ∧ St10 W.heap.size (fun _ => False) w' t x j ∧ Fr None W w') ⟨rfl, st, f02⟩ (fun j s w' h => h.1) ?_ (fun i w' h => h.2.2)
  clear st
  rintro j i w2 K' hj ⟨rfl, st, f2⟩ - hK
  refine (hS.fr0 f2).get rfl rfl (by omega) fun o ho => ?_
  obtain ⟨hid, l, hl1, hl2, hl3⟩ := hops o (List.mem_of_getElem? ho)
  refine locI rfl rfl fun w4 B4 f4 s4 => ?_
  refine condD (fun _ => f2.then0 f4) fun h60 => ?_
  have hj60 : j < 60 := by have : ¬ (j : Int) ≥ 60 := h60; omega
  have f04 := f2.then0 f4
  refine fldI B4 (x := o.2.2) rfl ?_
  refine fldI B4 (x := o.2.2) rfl ?_
  rw [maxLen_eq] at hl3
  have hl1c := hl1.cap
  have hl1l := hl1.len
  refine (hl1.fr0 f04).slc0 (n := min l.length 20) (by split <;> omega) (by omega) fun sl hsl => ?_
  generalize hl20 : l.take (min l.length 20) = l20 at hsl
  have hok : ∀ c ∈ l20, CompOk c := fun c hc => hl2 c (by subst hl20; exact List.mem_of_mem_take hc)
  have hsm : Small l20 := by subst hl20; simp [Small]; omega
  refine setA (i := 2) B4 (by simp) rfl fun w5 B5 f5 s5 => ?_
  have B5 : Blk w5 w2.heap.size 62 [.int .u8 o.1, .int .u32 o.2.1, .slice sl.a sl.n sl.c] := B5
  have f25 : Fr None w2 w5 := f4.newer f5 fun k e => by omega
  have f05 := f2.then0 f25
  have hw2 := f2.size
  refine fldI B5 (x := sl) rfl ?_
  have hsl5 : SlT (fun k => k < W.heap.size) w5 compT sl l20 := hsl.fr f5 fun k hk e => by omega
  refine spec_r5_Twin hsl5 hsm fun tw w6 o6 f6 => ?_
  have B6 := B5.fr f6 fun h => h
  have f26 := f25.then0 f6
  have f06 := f2.then0 f26
  have hsl6 := hsl5.fr0 f6
  have st6 : St10 W.heap.size (fun k => w2.heap.size ≤ k ∧ k < w6.heap.size) w6 t x j := (st.hole (hole' := fun k => w2.heap.size ≤ k ∧ k < w6.heap.size) fun k hk h => by omega).fr0 f26
  have hb6 : W.heap.size ≤ w6.heap.size := f06.size
  have own6 : SlT (fun k => w2.heap.size ≤ k ∧ k < w6.heap.size) w6 compT tw l20 := o6.sl.mono fun k hk h => ⟨by have := f25.size; have h : w5.heap.size ≤ k := h; omega, hk⟩
  have hbx : w2.heap.size ≤ w2.heap.size ∧ w2.heap.size < w6.heap.size := ⟨Nat.le_refl _, B6.lt⟩
  have hbase : ∀ k, Frame10 W.heap.size (fun k => w2.heap.size ≤ k ∧ k < w6.heap.size) k → W.heap.size ≤ k := fun k h => h.1
  generalize hH : (fun k => w2.heap.size ≤ k ∧ k < w6.heap.size) = hole at st6 own6 hbase
  have hholeW : ∀ k, hole k → k < w6.heap.size := by subst hH; exact fun k h => h.2
  have hbx : hole w2.heap.size := by subst hH; exact hbx
  have keepB : ∀ {w' : World}, Fr (Frame10 W.heap.size hole) w6 w' → Blk w' w2.heap.size 62 [.int .u8 o.1, .int .u32 o.2.1, .slice sl.a sl.n sl.c] := fun f => B6.fr f fun h => h.2 hbx
  refine fldI B6 (x := o.1) rfl ?_
  refine joinI (fun z w' => z = (decide (o.1 = 0) || decide (o.1 = 1)) ∧ w' = w6) ?_ ?_
  · refine condE (fun h => ⟨by simp [h], rfl⟩) fun h => ⟨?_, rfl⟩
    have : decide (o.1 = 0) = false := decide_eq_false h
    rw [this, Bool.false_or]
    rfl
  rintro z w7 ⟨rfl, rfl⟩
  refine joinI (fun z w' => z = true ∧ St10 W.heap.size hole w' t x (j + 1) ∧ Fr (Frame10 W.heap.size hole) w7 w') ?_ ?_
  · refine condI (fun _ => ?_) fun _ => ?_
    · -- Add
      have fd : Fr None w7 w7.drew := (Fr.refl _ _).drew
      refine fldI B6.drew (x := o.2.1) rfl ?_
      refine fldI B6.drew (x := o.2.1) rfl ?_
      refine fldI B6.drew (x := sl) rfl ?_
      refine st_add (base := W.heap.size) (st6.fr0 fd) hb6 hholeW (by omega) hid (own6.fr0 fd) (hsl6.fr0 fd) hsm hok (K1 := fun a X => andW (fun w => Rd w (Addr.add ⟨w2.heap.size, 0, none⟩ 2) (.sc .sl) sl) (andW (fun w => Rd w (Addr.add ⟨w2.heap.size, 0, none⟩ 1) (.sc (.int .u32)) o.2.1) X)) (fun a w' X f hX => ?_) fun a w' st' f => ?_
      · have f' : Fr (Frame10 W.heap.size hole) w7 w' := fd.trans f (fun _ h => h.elim) fun _ _ h => h
        exact andI ((keepB f').rd (s := .sl) (i := 2) (x := sl) rfl) (andI ((keepB f').rd (s := .int .u32) (i := 1) (x := o.2.1) rfl) hX)
      · exact ⟨by simp, st', fd.trans f (fun _ h => h.elim) fun _ _ h => h⟩
    · refine joinK ?_
      refine condE (fun _ => ?_) fun _ => ?_
      · -- Remove
        refine fldI B6 (x := o.2.1) rfl ?_
        refine st_remove st6 hb6 hholeW hid fun a w8 f8 hrem => ?_
        refine fldI (keepB f8) (x := o.2.1) rfl ?_
        refine hrem fun s2 lq ok1 ok2 w9 hs1 hs2 hl6 st9 f9 => ?_
        refine joinK ?_
        refine spec_r5_Same hs1 hs2 (by omega) fun w10 f10 => ?_
        rw [decide_eq_true rfl]
        exact condT rfl ⟨by simp, st9.fr0 f10, f9.then0 f10⟩
      · refine joinK ?_
        refine condE (fun _ => ?_) fun _ => ?_
        · -- Set
          have fd : Fr None w7 w7.drew := (Fr.refl _ _).drew
          refine fldI B6.drew (x := o.2.1) rfl ?_
          refine fldI B6.drew (x := sl) rfl ?_
          refine fldI B6.drew (x := o.2.1) rfl ?_
          refine fldI B6.drew (x := sl) rfl ?_
          refine spec_l10_first (hsl6.fr0 fd) fun w8 f8 => ?_
          have f78 := fd.then0 f8
          have B8 := B6.fr f78 fun h => h
          refine andI (B8.rd (s := .sl) (i := 2) (x := sl) rfl) (andI (B8.rd (s := .int .u32) (i := 1) (x := o.2.1) rfl) (andI (B8.rd (s := .int .u32) (i := 1) (x := o.2.1) rfl) ?_))
          refine st_set (st6.fr0 f78) (by have := f78.size; omega) (fun k h => by have := hholeW k h; have := f78.size; omega) hid (c := firstM l20) (firstM_ok hok) fun a w9 f9 hset => ?_
          have f79 : Fr (Frame10 W.heap.size hole) w7 w9 := f78.trans f9 (fun _ h => h.elim) fun _ _ h => h
          have B9 := keepB f79
          refine andI (B9.rd (s := .sl) (i := 2) (x := sl) rfl) (andI (B9.rd (s := .int .u32) (i := 1) (x := o.2.1) rfl) ?_)
          have hsl9 : SlT (fun k => k < W.heap.size) w9 compT sl l20 := hsl6.fr f79 fun k hk e => by have := hbase k e; omega
          refine spec_l10_first hsl9 fun w10 f10 => ?_
          refine andI ((B9.fr f10 fun h => h).rd (s := .int .u32) (i := 1) (x := o.2.1) rfl) ?_
          refine hset f10 fun w11 st11 f11 => ?_
          exact ⟨by simp, st11, f78.trans f11 (fun _ h => h.elim) fun _ _ h => h⟩
        · refine joinK ?_
          refine condE (fun _ => ?_) fun _ => ?_
          · -- Get
            obtain ⟨g, hg1, hg2⟩ := st_get st6 hid (firstM l20).1
            refine joinI (fun z w' => ∃ bx, z = (some ⟨bx, 0, none⟩, g.2) ∧ Blk w' bx 40 (compC g.1) ∧ Fr None w7 w') ?_ ?_
            · have fd : Fr None w7 w7.drew := (Fr.refl _ _).drew
              refine bothI ?_ (bothI ?_ ?_)
              · refine fldI B6.drew (x := o.2.1) rfl ?_
                refine fldI B6.drew (x := sl) rfl ?_
                refine spec_l10_first (hsl6.fr0 fd) fun w8 f8 => ?_
                have f78 := fd.then0 f8
                refine andI ((B6.fr f78 fun h => h).rd (s := .int .u32) (i := 1) (x := o.2.1) rfl) ?_
                refine hg1 f78 fun w9 f9 => ?_
                refine locI rfl rfl fun w10 B10 f10 s10 => ?_
                exact ⟨_, rfl, B10, (f78.then0 f9).then0 f10⟩
              · refine fldI B6.drew (x := o.2.1) rfl ?_
                refine fldI B6.drew (x := sl) rfl ?_
                refine spec_l10_first (hsl6.fr0 fd) fun w8 f8 => ?_
                have f78 := fd.then0 f8
                refine andI ((B6.fr f78 fun h => h).rd (s := .int .u32) (i := 1) (x := o.2.1) rfl) ?_
                refine newI fun w9 B9 f9 s9 => ?_
                refine hg1 (f78.then0 f9) fun w10 f10 => ?_
                refine stoAll (B9.fr f10 fun h => h) rfl rfl fun w11 B11 f11 s11 => ?_
                exact ⟨_, rfl, B11, (f78.then0 (f9.then0 f10)).newer f11 fun k e => by have := f78.size; omega⟩
              · refine fldI B6.drew (x := o.2.1) rfl ?_
                refine fldI B6.drew (x := sl) rfl ?_
                refine newI fun w9 B9 f9 s9 => ?_
                have f79 := fd.then0 f9
                refine spec_l10_first (hsl6.fr0 f79) fun w8 f8 => ?_
                have f78 := f79.then0 f8
                refine andI ((B6.fr f78 fun h => h).rd (s := .int .u32) (i := 1) (x := o.2.1) rfl) ?_
                refine hg1 f78 fun w10 f10 => ?_
                refine stoAll (B9.fr (f8.then0 f10) fun h => h) rfl rfl fun w11 B11 f11 s11 => ?_
                exact ⟨_, rfl, B11, (f78.then0 f10).newer f11 fun k e => by have := fd.size; omega⟩
            · rintro z w8 ⟨bx, rfl, Bx, f8⟩
              refine joinI (fun z w' => ∃ by_, z = (some ⟨by_, 0, none⟩, g.2) ∧ Blk w' by_ 40 (compC g.1) ∧ Fr None w8 w') ?_ ?_
              · have fd : Fr None w8 w8.drew := (Fr.refl _ _).drew
                have fd7 := f8.then0 fd
                have B8 := B6.fr fd7 fun h => h
                refine bothI ?_ (bothI ?_ ?_)
                · refine fldI B8 (x := o.2.1) rfl ?_
                  refine fldI B8 (x := sl) rfl ?_
                  refine spec_l10_first (hsl6.fr0 fd7) fun w9 f9 => ?_
                  refine andI ((B8.fr f9 fun h => h).rd (s := .int .u32) (i := 1) (x := o.2.1) rfl) ?_
                  refine hg2 (fd7.then0 f9) fun w10 f10 => ?_
                  refine locI rfl rfl fun w11 B11 f11 s11 => ?_
                  exact ⟨_, rfl, B11, ((fd.then0 f9).then0 f10).then0 f11⟩
                · refine fldI B8 (x := o.2.1) rfl ?_
                  refine fldI B8 (x := sl) rfl ?_
                  refine spec_l10_first (hsl6.fr0 fd7) fun w9 f9 => ?_
                  refine andI ((B8.fr f9 fun h => h).rd (s := .int .u32) (i := 1) (x := o.2.1) rfl) ?_
                  refine newI fun w10 B10 f10 s10 => ?_
                  refine hg2 ((fd7.then0 f9).then0 f10) fun w11 f11 => ?_
                  refine stoAll (B10.fr f11 fun h => h) rfl rfl fun w12 B12 f12 s12 => ?_
                  exact ⟨_, rfl, B12, ((fd.then0 f9).then0 (f10.then0 f11)).newer f12 fun k e => by have := fd.size; have := f9.size; omega⟩
                · refine fldI B8 (x := o.2.1) rfl ?_
                  refine fldI B8 (x := sl) rfl ?_
                  refine newI fun w10 B10 f10 s10 => ?_
                  refine spec_l10_first (hsl6.fr0 (fd7.then0 f10)) fun w9 f9 => ?_
                  refine andI ((B8.fr (f10.then0 f9) fun h => h).rd (s := .int .u32) (i := 1) (x := o.2.1) rfl) ?_
                  refine hg2 ((fd7.then0 f10).then0 f9) fun w11 f11 => ?_
                  refine stoAll (B10.fr (f9.then0 f11) fun h => h) rfl rfl fun w12 B12 f12 s12 => ?_
                  exact ⟨_, rfl, B12, ((fd.then0 f10).then0 (f9.then0 f11)).newer f12 fun k e => by have := fd.size; omega⟩
              · rintro z w9 ⟨by_, rfl, By, f9⟩
                refine joinK ?_
                refine ptrI ?_
                refine aggI (Bx.fr f9 fun h => h) (x := g.1) rfl ?_
                refine ptrI ?_
                refine aggI By (x := g.1) rfl ?_
                refine eqlI eqG_comp (eqV_comp g.1 g.1) ?_
                rw [decide_eq_true rfl]
                refine condT rfl ⟨by simp, (st6.fr0 (f8.then0 f9)).more (by omega), (f8.then0 f9).mono fun _ _ h => h.elim⟩
          · exact ⟨rfl, st6.more (by omega), Fr.refl _ _⟩
  · rintro z w8 ⟨rfl, st8, f8⟩
    have B8 := keepB f8
    have hsl8 : SlT (fun k => k < W.heap.size) w8 compT sl l20 := hsl6.fr f8 fun k hk e => by have := hbase k e; omega
    have o8 : Own (Up w5.heap.size) w8 40 compT tw l20 := by
      have h1 : Own (fun k => w5.heap.size ≤ k ∧ hole k) w7 40 compT tw l20 := o6.mono fun k hk h => by
        subst hH
        have h : w5.heap.size ≤ k := h
        exact ⟨h, by have := f25.size; omega, hk⟩
      exact (h1.fr f8 fun k hk e => e.2 hk.2).mono fun k _ h => h.1
    have f08 : Fr None W w8 := f06.newer f8 fun k e => hbase k e
    refine joinI (fun z w' => z = false ∧ Fr None w8 w') ?_ ?_
    · refine condF rfl ?_
      refine fldI B8 (x := sl) rfl ?_
      refine spec_r5_Same o8.sl hsl8 hsm fun w9 f9 => ?_
      exact ⟨by simp, f9⟩
    · rintro z w9 ⟨rfl, f9⟩
      refine condF rfl ?_
      have o9 := o8.none f9
      have htn : tw.n = l20.length := o9.len
      have st9 := st8.fr0 f9
      have hH2 : ∀ k, w5.heap.size ≤ k → k < w7.heap.size → hole k := fun k h1 h2 => by subst hH; exact ⟨by have := f25.size; omega, h2⟩
      have hlt : ∀ k, tw.v.ownBlock = some k → k < w7.heap.size := fun k hk => o6.lt hk
      refine forI (N := tw.n) (fun s : Int => s) (fun q i w' => i = (q : Int) ∧ ∃ l' : List Comp, l'.length = l20.length ∧ Own (Up w5.heap.size) w' 40 compT tw l' ∧ Fr (Up w5.heap.size) w9 w' ∧ St10 W.heap.size hole w' t x (j + 1))
        ⟨rfl, l20, rfl, o9, Fr.refl _ _, st9⟩ (fun j s w' h => h.1) ?_ ?_
      · rintro q i w10 K2 hq ⟨rfl, l', hl', o10, f10, st10⟩ - hK2
        have fd : Fr None w10 w10.drew := (Fr.refl _ _).drew
        refine flip_step (o10.none fd) rfl (by omega) fun w11 l2 hl2 o11 f11 => ?_
        exact hK2 _ _ ⟨wsucc hq (by omega), l2, by omega, o11, (f10.then fd.up).thenOwn o10 f11, (st10.fr0 fd).fr f11 fun k hk hnh hbk e => hnh (hH2 k (o10.own k e) (hlt k e))⟩
      · rintro i w10 ⟨rfl, l', _, _, f10, st10⟩
        refine st_alike st10 fun w11 f11 => condF rfl ?_
        exact hK _ _ ⟨wsucc hj hcap, (st10.fr0 f11).hole fun k hk h => h.elim, ((f08.then0 f9).thenUp f10 (by have := f05.size; omega)).then0 f11⟩

theorem ops10_arg : SlArg Try.prog 57 62 opT [5, 23, 24] :=
  ⟨by kernel_rfl, by kernel_rfl, by decide, by kernel_rfl, ⟨[.int .u8, .int .u32, .sl], by kernel_rfl, .inl rfl⟩⟩
theorem op10_ok {H : Type} {enc : TypeId × Value → H} {o : Int × Int × Sl} (h : AllLeaf enc Try.prog w [5, 23, 24] (opT.cells o)) : OpOk w o := by
  obtain ⟨_, h⟩ := h
  obtain ⟨_, e, h1⟩ := (h 1 _ _ rfl rfl).int id_und
  cases e
  obtain ⟨s, l, e, h2, h3, h4⟩ := (h 2 _ _ rfl rfl).slice comps_arg
  have e' : o.2.2 = s := by
    have e : Value.slice o.2.2.a o.2.2.n o.2.2.c = Value.slice s.a s.n s.c := e
    simp only [Value.slice.injEq] at e
    obtain ⟨e1, e2, e3⟩ := e
    cases o with
    | mk a o => cases o with
      | mk b o => cases o; cases s; simp_all
  refine ⟨wf_u32 h1, l, by rw [e']; exact h2, fun c hc => comp_ok (h4 c hc), by rw [e']; exact h3⟩

/-! ### the row -/
set_option maxRecDepth 100000 in
theorem tablePlays_lifted (os : Os) (started : os.Started) (H : Type) (enc : TypeId × Value → H) :
    ReturnsInHanded {} Try.checked os 6 .any (Rows.tablePlaysSpec.pre6 enc Try.prog Try.f6 Rows.tablePlaysRow.domain false) (Rows.tablePlaysSpec.post enc Try.prog Try.f6 false true false false) := by
  refine returnsInHanded_of_change (C := Try.checked) own_knob started (by kernel_rfl) Try.func6
    (ChangeSpec.witness6 (enc := enc) (C := Try.checked) false ⟨#[], #[.int .u8 0, .slice none 0 0], []⟩ 8 (by kernel_rfl) (by kernel_rfl) (by kernel_rfl) (by kernel_rfl)) ?_
  intro W base args ds gs before hval0 hW hcnd _
  have hval : ∀ (j : Nat) t v, Try.f6.params[j]? = some t → args[j]? = some v → Value.okWide Try.prog W .any base t v := hval0
  have hW' := hW
  obtain ⟨p, q, hA0, hV, rfl, hfz, hnd⟩ := hW
  have hA : DataW.TrodAll enc Try.prog W 0 (fun _ => true) true Try.f6.params.toList args.toList ds p := hA0
  rw [Try.params6] at hA hval
  obtain ⟨v0, v1, d0, d1, p0, p1, rfl, rfl, rfl, h0, h1⟩ := trodAll_two hA
  obtain ⟨a0, rfl, w0⟩ := arg_int u8_und (hval 0 _ v0 rfl rfl) h0
  obtain ⟨s1, l1, rfl, S1, c1, e1⟩ := arg_slice ops10_arg (hval 1 _ v1 rfl rfl) h1
  refine (law_TablePlays (wf_u8 w0) S1 (fun c hc => op10_ok (e1 c hc)) c1).mono fun e W' ⟨he, hf⟩ => ?_
  subst he
  exact ⟨_, rfl, law_post laid_out bool_und (by kernel_rfl) (by rw [Try.params6]; decide +kernel) rfl ⟨rfl, rfl, rfl⟩ hW' hf⟩

theorem tablePlays_holds : Rows.TablePlaysSaid :=
  OpenClaim.holds_of_wide 6 Try.f6 rfl rfl rfl rfl rfl rfl rfl ⟨rfl, rfl, rfl, rfl, rfl⟩ rfl rfl rfl rfl rfl (by kernel_rfl) Try.func6 (by kernel_rfl)
    (of_decide_eq_true (by kernel_rfl)) (by unfold Func.isWrapper; first | (rw [if_pos (by decide +kernel)]; kernel_rfl) | (rw [if_neg (by decide +kernel)]; exact ⟨rfl, rfl⟩))
    (fun os started H enc _ => tablePlays_lifted os started H enc)

end Go.Proofs.Ytmlpeafpchpjeaa
