/-
  What the functions of the document's layer 10 (a table as a list) compute.
-/
import Derived.Test.YtkblnhnjagemlaaGreatTabG
namespace Go.Proofs.YtkblnhnjagemlaaGreat
open Go Go.RowKit Go.Proofs.YtkblnhnjagemlaaGreat.Den
variable {R : Type} {Q : R → World → Prop} {w : World}

abbrev entT : Ty := .agg [.int .u32, .sl]
abbrev entC (r : Int × Sl) : List Value := [.int .u32 r.1, .slice r.2.a r.2.n r.2.c]
theorem ents_ty : SlTy Tryz.prog 39 34 entT 32 := slTy (by kernel_rfl)

/-- entities as they lie in memory: their lists lie in blocks of ok. -/
structure EntsR (ok : Nat → Prop) (w : World) (raws : List (Int × Sl)) (L : List Ent) : Prop where
  len : raws.length = L.length
  at_ : ∀ (i : Nat) (r : Int × Sl) (e : Ent), raws[i]? = some r → L[i]? = some e → r.1 = e.1 ∧ SlT ok w compT r.2 e.2
theorem EntsR.fr {ok S : Nat → Prop} {w' : World} {raws : List (Int × Sl)} {L : List Ent} (h : EntsR ok w raws L) (f : Fr S w w') (hn : ∀ k, ok k → ¬ S k) : EntsR ok w' raws L :=
  ⟨h.len, fun i r e h1 h2 => ⟨(h.at_ i r e h1 h2).1, (h.at_ i r e h1 h2).2.fr f hn⟩⟩
theorem EntsR.mono {ok ok' : Nat → Prop} {raws : List (Int × Sl)} {L : List Ent} (h : EntsR ok w raws L) (hn : ∀ k, k < w.heap.size → ok k → ok' k) : EntsR ok' w raws L :=
  ⟨h.len, fun i r e h1 h2 => ⟨(h.at_ i r e h1 h2).1, (h.at_ i r e h1 h2).2.mono hn⟩⟩
theorem EntsR.get {ok : Nat → Prop} {raws : List (Int × Sl)} {L : List Ent} (h : EntsR ok w raws L) {i : Nat} {e : Ent} (he : L[i]? = some e) : ∃ r, raws[i]? = some r ∧ r.1 = e.1 ∧ SlT ok w compT r.2 e.2 := by
  obtain ⟨hl, _⟩ := List.getElem?_eq_some_iff.1 he
  have hr := List.getElem?_eq_getElem (l := raws) (i := i) (by rw [h.len]; exact hl)
  exact ⟨_, hr, h.at_ i _ e hr he⟩
theorem EntsR.nil (ok : Nat → Prop) (w : World) : EntsR ok w [] [] := ⟨rfl, fun i r e h => by simp at h⟩

structure RefR (lab : Nat → Nat) (w : World) (b m : Nat) (s : Sl) (raws : List (Int × Sl)) (L : List Ent) : Prop where
  blk : Blk w b 149 [.int .u8 (m : Int), .slice s.a s.n s.c]
  lb : lab b = 1
  own : Own (fun k => lab k = 2) w 34 entT s raws
  ents : EntsR (fun k => lab k = 3) w raws L
  lt : ∀ k, lab k ≠ 0 → k < w.heap.size
section
variable {lab : Nat → Nat} {b m : Nat} {s : Sl} {raws : List (Int × Sl)} {L : List Ent}
theorem RefR.fr (h : RefR lab w b m s raws L) {S : Nat → Prop} {w' : World} (f : Fr S w w') (hn : ∀ k, lab k ≠ 0 → ¬ S k) : RefR lab w' b m s raws L :=
  ⟨h.blk.fr f (hn b (by rw [h.lb]; omega)), h.lb, h.own.fr f fun k e => hn k (by omega), h.ents.fr f fun k e => hn k (by omega), fun k e => Nat.lt_of_lt_of_le (h.lt k e) f.size⟩
theorem RefR.fr0 (h : RefR lab w b m s raws L) {w' : World} (f : Fr None w w') : RefR lab w' b m s raws L := h.fr f fun _ _ h => h
theorem EntsR.relab (h : EntsR (fun k => lab k = 3) w raws L) (n' c : Nat) : EntsR (fun k => relab lab w.heap.size n' c k = 3) w raws L := h.mono fun k hk e => by rw [relab_lt hk]; exact e
/-- new blocks get a label. -/
theorem RefR.grow (h : RefR lab w b m s raws L) {w' : World} (f : Fr None w w') (c : Nat) : RefR (relab lab w.heap.size w'.heap.size c) w' b m s raws L :=
  ⟨h.blk.fr f (fun h => h), by rw [relab_lt h.blk.lt]; exact h.lb, (h.own.relab _ _).none f, (h.ents.relab _ _).fr f (fun _ _ h => h), fun k e => by
    rcases relab_ne e with ⟨_, h⟩ | ⟨_, h⟩
    · exact Nat.lt_of_lt_of_le h f.size
    · exact h⟩
/-- one more entity. -/
theorem RefR.app (h : RefR lab w b m s raws L) (hroom : L.length < 1048576) {id : Int} {tw : Sl} {l : List Comp} (ht : SlT (fun k => lab k = 3) w compT tw l) {ty : TypeId} {K : W R}
    (hk : ∀ lab' s' w', RefR lab' w' b m s' (raws ++ [(id, tw)]) (L ++ [(id, l)]) → (∀ k, lab' k ≠ 0 → lab k ≠ 0 ∨ w.heap.size ≤ k) → Fr (fun k => lab k ≠ 0) w w' → K Q w') :
    newW 34 (entC (id, tw)) (fun x_9 => rawW Tryz.prog (Builtin.append_ #[39, 39] ty #[.slice s.a s.n s.c, .slice (some x_9) 1 1]) [.sc .sl] fun (x_10 : Sl) =>
      ptrW (some ⟨b, 0, none⟩) fun x_11 => stoL (Addr.add x_11 1) [.slice x_10.a x_10.n x_10.c] 0 K) Q w := by
  refine newI fun w5 B5 f5 s5 => ?_
  have ho5 := h.own.none f5
  have hrl : raws.length = L.length := h.ents.len
  refine app1 (x := (id, tw)) (S' := fun k => lab k = 2 ∨ w.heap.size ≤ k) ents_ty ho5 B5 rfl (by omega) (by rw [maxLen_eq]; omega) (fun _ h => .inl h) (.inr (by omega)) fun r w6 o6 f6 s6 => ?_
  have f6' : Fr (fun k => lab k = 2) w5 w6 := f6.mono fun k _ e => ho5.own k e
  refine ptrI ?_
  rw [add_lit]
  have hbl := h.blk.lt
  have hB6 := (h.blk.fr f5 (fun h => h)).fr f6' (fun e => by have := h.lb; omega)
  refine setI (i := 0 + 1) hB6 (by simp) rfl fun w7 B7 f7 s7 => ?_
  have f17 : Fr (fun k => k = b ∨ lab k = 2) w w7 := (f5.trans f6' (U := fun k => k = b ∨ lab k = 2) (fun _ h => h.elim) (fun _ _ h => .inr h)).trans f7 (fun _ h => h) (fun x _ e => .inl e)
  refine hk (relab lab w.heap.size w7.heap.size 2) r w7 ⟨B7, by rw [relab_lt hbl]; exact h.lb, ?_, ⟨by simp [hrl], ?_⟩, fun k e => ?_⟩ (fun k e => ?_) (f17.mono fun k _ e => by rcases e with rfl | e; (rw [h.lb]; omega); omega)
  · refine (o6.fr f7 fun q hq e => ?_).mono fun q hq e => ?_
    · rw [e] at hq
      rcases hq with hq | hq
      · rw [h.lb] at hq; omega
      · omega
    · rcases e with e | e
      · rw [relab_lt (h.lt q (by omega))]; exact e
      · exact relab_new e hq
  · intro i r' e' h1 h2
    have keep : ∀ {sl : Sl} {ll : List Comp}, SlT (fun k => lab k = 3) w compT sl ll → SlT (fun k => relab lab w.heap.size w7.heap.size 2 k = 3) w7 compT sl ll := fun hs =>
      (hs.fr f17 fun k hk e => by rcases e with rfl | e; (have := h.lb; omega); omega).mono fun k _ hk => by rw [relab_lt (h.lt k (by omega))]; exact hk
    by_cases hi : i < raws.length
    · rw [List.getElem?_append_left hi] at h1
      rw [List.getElem?_append_left (by omega)] at h2
      obtain ⟨h3, h4⟩ := h.ents.at_ i r' e' h1 h2
      exact ⟨h3, keep h4⟩
    · rw [List.getElem?_append_right (by omega)] at h1 h2
      have hz : i - raws.length = 0 := by have := (List.getElem?_eq_some_iff.1 h1).1; simp at this; omega
      rw [hz] at h1
      rw [show i - L.length = 0 by omega] at h2
      simp at h1 h2
      subst h1; subst h2
      exact ⟨rfl, keep ht⟩
  · rcases relab_ne e with ⟨_, h⟩ | ⟨_, h⟩
    · exact Nat.lt_of_lt_of_le h f17.size
    · exact h
  · rcases relab_ne e with ⟨h, _⟩ | ⟨h, _⟩
    · exact .inl h
    · exact .inr h
end

structure Ref (lab : Nat → Nat) (w : World) (b m : Nat) (L : List Ent) : Prop where
  ok : TabOk m L
  rep : ∃ s raws, RefR lab w b m s raws L
theorem Ref.fr {lab : Nat → Nat} {b m : Nat} {L : List Ent} (h : Ref lab w b m L) {S : Nat → Prop} {w' : World} (f : Fr S w w') (hn : ∀ k, lab k ≠ 0 → ¬ S k) : Ref lab w' b m L := by
  obtain ⟨s, raws, r⟩ := h.rep
  exact ⟨h.ok, s, raws, r.fr f hn⟩
theorem Ref.fr0 {lab : Nat → Nat} {b m : Nat} {L : List Ent} (h : Ref lab w b m L) {w' : World} (f : Fr None w w') : Ref lab w' b m L := h.fr f fun _ _ h => h
theorem Ref.lt {lab : Nat → Nat} {b m : Nat} {L : List Ent} (h : Ref lab w b m L) {k : Nat} (e : lab k ≠ 0) : k < w.heap.size := by
  obtain ⟨s, raws, r⟩ := h.rep
  exact r.lt k e

section
variable {lab : Nat → Nat} {b m : Nat} {L : List Ent}

def rowI (L : List Ent) (id : Int) : Int := match rowM L id with
  | some i => (i : Int)
  | none => -1
theorem spec_r10_Row (h : Ref lab w b m L) {id : Int} {K : Res [.sc (.int .i64)] → W R} (hk : ∀ w', Fr None w w' → K (rowI L id) Q w') : callW Tryz.prog k_pinnaceref10_Row [.pointer (some ⟨b, 0, none⟩), .int .u32 id] [.sc (.int .i64)] K Q w := by
  obtain ⟨s, raws, hB, _, ho, hE, _⟩ := h.rep
  have hsm := h.ok.small
  have hnd := h.ok.nodup
  refine C_pinnaceref10_Row _ _ K Q w ?_
  unfold F_pinnaceref10_Row
  refine joinI (fun _ w' => Fr None w w' ∧ rowM L id = none) ?_ ?_
  · refine condT rfl (ptrI ?_)
    refine fldI hB (x := s) rfl ?_
    have hn : s.n = L.length := by rw [ho.len, hE.len]
    refine forI (N := s.n) (fun s : Int => s) (fun j i w' => i = j ∧ Fr None w w' ∧ ∀ q e, q < j → L[q]? = some e → e.1 ≠ id) ⟨rfl, Fr.refl _ _, by omega⟩ (fun j s w' h => h.1) ?_ ?_
    · rintro j i w1 K' hj ⟨rfl, f1, hno⟩ - hK
      obtain ⟨e, he⟩ : ∃ e, L[j]? = some e := ⟨_, List.getElem?_eq_getElem (by omega)⟩
      obtain ⟨r0, hr0, hr1, _⟩ := hE.get he
      refine (ho.none f1).sl.get rfl rfl (by have := ho.len; omega) fun r hr => ?_
      rw [hr0] at hr
      cases hr
      refine locI rfl rfl fun w2 B2 f2 s2 => ?_
      refine fldI B2 (x := r0.1) rfl ?_
      refine condE (fun h => ?_) fun h => ?_
      · have : rowI L id = (j : Int) := by
          have : rowM L id = some j := by
            rw [← h, hr1]
            exact rowM_at hnd he
          rw [rowI, this]
        have e2 := hk w2 (f1.then0 f2)
        rw [this] at e2
        exact e2
      · refine hK _ _ ⟨wsucc hj (by omega), f1.then0 f2, fun q e' hq he' => ?_⟩
        rcases Nat.lt_succ_iff_lt_or_eq.1 hq with h1 | h1
        · exact hno q e' h1 he'
        · subst h1; rw [he] at he'; cases he'; rw [← hr1]; exact h
    · rintro i w1 ⟨rfl, f1, hno⟩
      refine ⟨f1, rowM_none.2 fun e he => ?_⟩
      obtain ⟨q, hq⟩ := List.mem_iff_getElem?.1 he
      exact hno q e (by rw [hn]; exact (List.getElem?_eq_some_iff.1 hq).1) hq
  · rintro _ w1 ⟨f1, hr⟩
    have e2 := hk w1 f1
    rw [rowI, hr] at e2
    exact e2

theorem spec_r10_Add (h : Ref lab w b m L) {id : Int} (hid : IdOk id) {ok : Nat → Prop} {s : Sl} {l : List Comp} (hS : SlT ok w compT s l) (hm : Small l) (hl : ∀ c ∈ l, CompOk c) (hroom : L.length < 1048576) {K : Res [.sc (.int .i64)] → W R}
    (hk : ∀ lab' w', Ref lab' w' b m (addT m L id l) → (∀ k, lab' k ≠ 0 → lab k ≠ 0 ∨ w.heap.size ≤ k) → Fr (fun k => lab k ≠ 0) w w' → K (addM m L id l) Q w') :
    callW Tryz.prog k_pinnaceref10_Add [.pointer (some ⟨b, 0, none⟩), .int .u32 id, .slice s.a s.n s.c] [.sc (.int .i64)] K Q w := by
  refine C_pinnaceref10_Add _ _ _ K Q w ?_
  unfold F_pinnaceref10_Add
  refine condF rfl ?_
  have fin : ∀ {z : Int} {w' : World}, Fr None w w' → z ≠ 0 → addM m L id l = z → K z Q w' := by
    intro z w' f hz hs
    have e := hk lab w' (by rw [addT, hs, if_neg hz]; exact h.fr0 f) (fun k e => .inl e) (f.mono fun _ _ h => h.elim)
    rw [hs] at e
    exact e
  refine spec_r5_List hS hm hl fun w1 f1 => ?_
  refine condN (fun hc => fin f1 hc (by rw [addM, if_pos hc])) fun hc => ?_
  have fd : Fr None w w1.drew := f1.drew
  obtain ⟨sl, raws, r1⟩ := (h.fr0 fd).rep
  refine ptrI ?_
  refine fldI r1.blk (x := (m : Int)) rfl ?_
  refine spec_r5_Mask (hS.fr0 fd) hm fun w2 f2 => ?_
  have f02 := fd.then0 f2
  refine ⟨by rw [add_lit]; exact (r1.blk.fr f2 (fun h => h)).cell 0, ?_⟩
  refine condN (fun hmask => fin (z := 4) f02 (by omega) (by rw [addM, if_neg (by simpa using hc), if_pos (by omega)])) fun hmask => ?_
  refine spec_r10_Row (h.fr0 f02) fun w3 f3 => ?_
  have f03 := f02.then0 f3
  unfold rowI
  cases hrow : rowM L id with
  | some i =>
    refine condD (fun _ => fin (z := 9) f03 (by omega) (by rw [addM, if_neg (by simpa using hc), if_neg (by omega), if_pos (by rw [hrow]; rfl)])) fun hge => absurd (show (i : Int) ≥ 0 by omega) hge
  | none =>
    refine condD (fun hge => absurd (show (-1 : Int) ≥ 0 from hge) (by omega)) fun _ => ?_
    have hadd : addM m L id l = 0 := by rw [addM, if_neg (by simpa using hc), if_neg (by omega), if_neg (by simp [hrow])]
    have fd3 : Fr None w w3.drew := f03.drew
    clear r1 raws sl
    obtain ⟨sl, raws, r3⟩ := (h.fr0 fd3).rep
    refine ptrI ?_
    refine fldI r3.blk (x := sl) rfl ?_
    refine spec_r5_Twin (hS.fr0 fd3) hm fun tw w4 o4 f4 => ?_
    have r4 := r3.grow f4 3
    refine ⟨by rw [add_lit]; exact r4.blk.cell 1, ?_⟩
    have ht : SlT (fun k => relab lab w3.drew.heap.size w4.heap.size 3 k = 3) w4 compT tw l := o4.sl.mono fun k hk h => relab_new h hk
    refine r4.app hroom ht fun lab' s' w5 r5 hn5 f5 => ?_
    have hsz := fd3.size
    have hsz4 := f4.size
    have e := hk lab' w5 (by rw [addT, hadd, if_pos rfl]; exact ⟨h.ok.add hid hadd hroom, s', _, r5⟩) (fun k hk2 => by
      rcases hn5 k hk2 with h | h
      · rcases relab_ne h with ⟨h, _⟩ | ⟨h, _⟩
        · exact .inl h
        · exact .inr (by omega)
      · exact .inr (by omega)) ((fd3.then0 f4).trans f5 (fun _ h => h.elim) fun k hk2 h => by
      rcases relab_ne h with ⟨h, _⟩ | ⟨h, _⟩
      · exact h
      · omega)
    rw [hadd] at e
    exact e

theorem findM_valid {m : Nat} {l : List Comp} (h : Valid m l) (k : Int) : (findM l k < 0 ∧ k ∉ kindsOf m) ∨ (∃ q : Nat, findM l k = (q : Int) ∧ l[q]? = some (k, fieldsOf l k) ∧ k ∈ kindsOf m) := by
  unfold findM
  cases hf : l.findIdx? (fun c => c.1 == k) with
  | none =>
    left
    refine ⟨by simp, fun hk => ?_⟩
    rw [List.findIdx?_eq_none_iff] at hf
    rw [← h.kinds] at hk
    obtain ⟨c, hc, rfl⟩ := List.mem_map.1 hk
    have := hf c hc
    simp at this
  | some q =>
    right
    rw [List.findIdx?_eq_some_iff_getElem] at hf
    obtain ⟨hq, h1, _⟩ := hf
    have h1 : (l[q]).1 = k := by simpa using h1
    refine ⟨q, rfl, ?_, ?_⟩
    · rw [List.getElem?_eq_getElem hq, ← h1, fieldsOf_mem h.rising (List.getElem_mem hq)]
    · rw [← h.kinds, ← h1]; exact List.mem_map_of_mem (List.getElem_mem hq)

theorem spec_r10_Get (h : Ref lab w b m L) {id k : Int} {K : Res [.agg [.int .u8, .int .i32, .int .i32, .int .i32], .sc (.int .i64)] → W R} (hk : ∀ w', Fr None w w' → K (getM m L id k) Q w') :
    callW Tryz.prog k_pinnaceref10_Get [.pointer (some ⟨b, 0, none⟩), .int .u32 id, .int .u8 k] [.agg [.int .u8, .int .i32, .int .i32, .int .i32], .sc (.int .i64)] K Q w := by
  refine C_pinnaceref10_Get _ _ _ K Q w ?_
  unfold F_pinnaceref10_Get
  refine newI fun w1 B1 f1 s1 => condF rfl ?_
  have h1 := h.fr0 f1
  refine spec_r10_Row h1 fun w2 f2 => ?_
  have h2 := h1.fr0 f2
  have B2 := B1.fr f2 fun h => h
  have f02 := f1.then0 f2
  unfold rowI
  cases hr : rowM L id with
  | none =>
    refine condD (fun _ => ?_) fun hge => absurd (show (-1 : Int) < 0 by omega) hge
    refine stoAll B2 rfl rfl fun w3 B3 f3 s3 => ?_
    refine aggI B3 (x := (0, 0, 0, 0)) rfl ?_
    have e := hk w3 (f02.newer f3 fun x e => by omega)
    rw [getM, hr] at e
    exact e
  | some i =>
    refine condD (fun hlt => absurd (show (i : Int) < 0 from hlt) (by omega)) fun _ => ?_
    obtain ⟨hil, e, he, _⟩ := rowM_some hr
    obtain ⟨s, raws, r⟩ := h2.rep
    obtain ⟨r0, hr0, hr1, hr2⟩ := r.ents.get he
    have hv := h.ok.valid e (List.mem_of_getElem? he)
    have hsm := hv.small
    have hrl : raws.length = L.length := r.ents.len
    refine ptrI ?_
    refine fldI r.blk (x := s) rfl ?_
    refine r.own.sl.idx rfl (show (0 : Int) ≤ (i : Int) by omega) (show (i : Int) < _ by omega) fun a x hx hrd => ?_
    have hx : raws[i]? = some x := by simpa using hx
    rw [hr0] at hx
    cases hx
    refine hrd.fld (i := 1) (y := r0.2) rfl ?_
    refine spec_r5_Find hr2 (by omega) fun w3 f3 => ?_
    have B3 := B2.fr f3 fun h => h
    have f03 := f02.then0 f3
    rcases findM_valid hv k with ⟨hneg, hnk⟩ | ⟨q, hq, hlq, hkk⟩
    · refine condD (fun _ => ?_) fun hge => absurd hneg hge
      refine stoAll B3 rfl rfl fun w4 B4 f4 s4 => ?_
      refine aggI B4 (x := (0, 0, 0, 0)) rfl ?_
      have e2 := hk w4 (f03.newer f4 fun x e => by omega)
      rw [getM, hr] at e2
      simp only [if_neg hnk] at e2
      exact e2
    · refine condD (fun hlt => absurd hlt (by omega)) fun _ => ?_
      have r3 := r.fr0 f3
      refine ptrI ?_
      refine fldI r3.blk (x := s) rfl ?_
      refine r3.own.sl.idx rfl (show (0 : Int) ≤ (i : Int) by omega) (show (i : Int) < _ by omega) fun a x hx hrd => ?_
      have hx : raws[i]? = some x := by simpa using hx
      rw [hr0] at hx
      cases hx
      refine hrd.fld (i := 1) (y := r0.2) rfl ?_
      refine (hr2.fr0 f3).get rfl hq (List.getElem?_eq_some_iff.1 hlq).1 fun c hc => ?_
      rw [hlq] at hc
      cases hc
      refine stoAll B3 rfl rfl fun w4 B4 f4 s4 => ?_
      refine aggI B4 (x := (k, fieldsOf e.2 k)) rfl ?_
      have e2 := hk w4 (f03.newer f4 fun x e => by omega)
      rw [getM, hr] at e2
      simp only [if_pos hkk] at e2
      rw [compM_at he] at e2
      exact e2

theorem getM_err (m : Nat) (L : List Ent) (id k : Int) : (getM m L id k).2 = match rowM L id with
    | none => 7
    | some _ => if k ∈ kindsOf m then 0 else 10 := by
  unfold getM
  cases rowM L id with
  | none => rfl
  | some i => simp only []; split <;> rfl

theorem spec_r10_Set (h : Ref lab w b m L) {id : Int} {c : Comp} (hc0 : 0 ≤ c.1) {K : Res [.sc (.int .i64)] → W R}
    (hk : ∀ lab' w', Ref lab' w' b m (setT m L id c) → (∀ k, lab' k ≠ 0 → lab k ≠ 0 ∨ w.heap.size ≤ k) → Fr (fun k => lab k ≠ 0) w w' → K (setM m L id c) Q w') :
    callW Tryz.prog k_pinnaceref10_Set [.pointer (some ⟨b, 0, none⟩), .int .u32 id, .agg ⟨compC c⟩] [.sc (.int .i64)] K Q w := by
  refine C_pinnaceref10_Set _ _ _ K Q w ?_
  unfold F_pinnaceref10_Set
  refine newI fun w1 B1 f1 s1 => condF rfl ?_
  refine aggI B1 (x := c) rfl ?_
  refine spec_r5_Check (c := c) hc0 fun w2 f2 => ?_
  have B2 := B1.fr f2 fun h => h
  have f12 := f1.then0 f2
  have fin : ∀ {z : Int} {w' : World}, Fr None w w' → z ≠ 0 → setM m L id c = z → K z Q w' := by
    intro z w' f hz hs
    have e := hk lab w' (by rw [setT, hs, if_neg hz]; exact h.fr0 f) (fun k e => .inl e) (f.mono fun _ _ h => h.elim)
    rw [hs] at e
    exact e
  refine condN (fun hc => fin f12 hc (by rw [setM, if_pos hc])) fun hc => ?_
  refine fldI B2 (x := c.1) rfl ?_
  refine spec_r10_Get (h.fr0 f12) fun w3 f3 => ?_
  refine locI rfl rfl fun w4 B4 f4 s4 => ?_
  have f04 := (f12.then0 f3).then0 f4
  have B14 := (B2.fr f3 fun h => h).fr f4 fun h => h
  have hge := getM_err m L id c.1
  have h4 := h.fr0 f04
  cases hr : rowM L id with
  | none =>
    rw [hr] at hge
    have hs : setM m L id c = 7 := by rw [setM, if_neg (by simpa using hc), hr]
    rw [hge]
    exact condT rfl (fin (z := 7) f04 (by omega) hs)
  | some i =>
    rw [hr] at hge
    have hs : setM m L id c = if c.1 ∈ kindsOf m then 0 else 10 := by rw [setM, if_neg (by simpa using hc), hr]
    by_cases hm : c.1 ∈ kindsOf m
    · rw [if_pos hm] at hs
      simp only [if_pos hm] at hge
      rw [hge]
      refine condF rfl ?_
      refine spec_r10_Row h4 fun w5 f5 => ?_
      unfold rowI
      rw [hr]
      have fd : Fr None w4 w5.drew := f5.drew
      have h5 := h4.fr0 fd
      obtain ⟨hil, e, he, _⟩ := rowM_some hr
      obtain ⟨s, raws, r⟩ := h5.rep
      obtain ⟨r0, hr0, hr1, hr2⟩ := r.ents.get he
      have hv := h.ok.valid e (List.mem_of_getElem? he)
      have hsm := hv.small
      have hrl : raws.length = L.length := r.ents.len
      have hil' : i < raws.length := by omega
      refine ptrI ?_
      refine fldI r.blk (x := s) rfl ?_
      refine ptrI ?_
      refine fldI r.blk (x := s) rfl ?_
      refine r.own.sl.idx rfl (show (0 : Int) ≤ (i : Int) by omega) (show (i : Int) < _ by omega) fun a x hx hrd => ?_
      have hx : raws[i]? = some x := by simpa using hx
      rw [hr0] at hx
      cases hx
      refine hrd.fld (i := 1) (y := r0.2) rfl ?_
      have B15 := B14.fr fd fun h => h
      refine aggI B15 (x := c) rfl ?_
      refine spec_r5_With hr2 (by omega) fun wl w6 o6 f6 => ?_
      have r6 := r.grow f6 3
      refine ⟨by rw [add_lit]; exact r6.blk.cell 1, ?_⟩
      have ht : SlT (fun k => relab lab w5.drew.heap.size w6.heap.size 3 k = 3) w6 compT wl (withM e.2 c) := o6.sl.mono fun k hk h => relab_new h hk
      have hl6 : ∀ k, relab lab w5.drew.heap.size w6.heap.size 3 k ≠ 0 → lab k ≠ 0 ∨ w.heap.size ≤ k := fun k hk2 => by
        have := f04.size; have := fd.size
        rcases relab_ne hk2 with ⟨h, _⟩ | ⟨h, _⟩
        · exact .inl h
        · exact .inr (by omega)
      generalize relab lab w5.drew.heap.size w6.heap.size 3 = lab6 at r6 ht hl6
      have hget := List.getElem?_eq_getElem hil'
      refine r6.own.idx rfl (show (0 : Int) ≤ (i : Int) by omega) (show (i : Int) < _ by omega) fun g x hg hx _ => ?_
      rw [Int.toNat_natCast] at hx ⊢
      rw [hr0] at hx
      cases hx
      rw [add_lit]
      refine r6.own.setFld (j := 1) (x' := (r0.1, wl)) hr0 hg (show 1 < 2 by omega) rfl rfl fun w7 o7 f7 s7 => ?_
      have f7' : Fr (fun k => lab6 k = 2) w6 w7 := f7.mono fun k _ e => r6.own.own k e
      have hset : setT m L id c = L.set i (e.1, withM e.2 c) := by rw [setT, hs, if_pos rfl, hr]; exact setL_eq he
      have e2 := hk lab6 w7 (by
        rw [hset]
        refine ⟨by rw [← setL_eq he]; exact h.ok.set he (by simpa using hc) hm, s, raws.set i (r0.1, wl), ⟨r6.blk.fr f7' (fun e => by have := r6.lb; omega), r6.lb, o7, ⟨by simp [hrl], fun q r' e' h1 h2 => ?_⟩, fun k hk2 => by rw [s7]; exact r6.lt k hk2⟩⟩
        rw [List.getElem?_set] at h1 h2
        by_cases hq : i = q
        · subst hq
          rw [if_pos rfl, if_pos hil'] at h1
          rw [if_pos rfl, if_pos hil] at h2
          cases h1; cases h2
          exact ⟨hr1, ht.fr f7' fun k h e => by omega⟩
        · rw [if_neg hq] at h1 h2
          obtain ⟨h3, h4⟩ := r6.ents.at_ q r' e' h1 h2
          exact ⟨h3, h4.fr f7' fun k h e => by omega⟩) hl6 ((f04.then0 (fd.then0 f6)).trans f7' (fun _ h => h.elim) fun k hk2 e => by
        rcases hl6 k (by omega) with h | h
        · exact h
        · omega)
      rw [hs] at e2
      exact e2
    · rw [if_neg hm] at hs
      simp only [if_neg hm] at hge
      rw [hge]
      exact condT rfl (fin (z := 10) f04 (by omega) hs)

theorem EntsR.drop {ok : Nat → Prop} {raws : List (Int × Sl)} {L : List Ent} (h : EntsR ok w raws L) (i : Nat) : EntsR ok w (dropI raws i) (dropI L i) := by
  refine ⟨by rw [dropI_len, dropI_len, h.len], fun q r e h1 h2 => ?_⟩
  by_cases h0 : L = []
  · subst h0; simp [dropI] at h2
  · have hp : 0 < L.length := List.length_pos_iff.2 h0
    have hl := h.len
    obtain ⟨z, hz⟩ : ∃ z, raws[raws.length - 1]? = some z := ⟨_, List.getElem?_eq_getElem (by omega)⟩
    obtain ⟨y, hy⟩ : ∃ y, L[L.length - 1]? = some y := ⟨_, List.getElem?_eq_getElem (by omega)⟩
    rw [dropI_get hz] at h1
    rw [dropI_get hy] at h2
    rw [hl] at h1
    by_cases hq : q < L.length - 1
    · rw [if_pos hq] at h1 h2
      by_cases hqi : q = i
      · rw [if_pos hqi] at h1 h2
        cases h1; cases h2
        rw [hl] at hz
        exact h.at_ _ _ _ hz hy
      · rw [if_neg hqi] at h1 h2
        exact h.at_ q r e h1 h2
    · rw [if_neg hq] at h1; cases h1

theorem spec_r10_Remove (h : Ref lab w b m L) {id : Int} {K : Res [.sc .sl, .sc (.int .i64)] → W R}
    (h0 : rowM L id = none → ∀ w', Fr None w w' → K (⟨none, 0, 0⟩, 7) Q w')
    (hk : ∀ (i : Nat) e (s : Sl) lab' w', rowM L id = some i → L[i]? = some e → Ref lab' w' b m (dropI L i) → (∀ k, lab' k ≠ 0 → lab k ≠ 0 ∨ w.heap.size ≤ k) → SlT (fun k => lab k ≠ 0) w' compT s e.2 → Fr (fun k => lab k ≠ 0) w w' → K (s, 0) Q w') :
    callW Tryz.prog k_pinnaceref10_Remove [.pointer (some ⟨b, 0, none⟩), .int .u32 id] [.sc .sl, .sc (.int .i64)] K Q w := by
  refine C_pinnaceref10_Remove _ _ K Q w ?_
  unfold F_pinnaceref10_Remove
  refine condF rfl ?_
  refine spec_r10_Row h fun w1 f1 => ?_
  unfold rowI
  cases hr : rowM L id with
  | none => exact condT rfl (h0 hr w1 f1)
  | some i =>
    refine condD (fun hlt => absurd (show (i : Int) < 0 from hlt) (by omega)) fun _ => ?_
    obtain ⟨hil, e, he, heid⟩ := rowM_some hr
    obtain ⟨s, raws, r⟩ := (h.fr0 f1).rep
    obtain ⟨r0, hr0, hr1, hr2⟩ := r.ents.get he
    have hsm := h.ok.small
    have hrl : raws.length = L.length := r.ents.len
    have hsn : s.n = L.length := by rw [r.own.len, hrl]
    refine ptrI ?_
    refine fldI r.blk (x := s) rfl ?_
    refine r.own.sl.idx rfl (show (0 : Int) ≤ (i : Int) by omega) (show (i : Int) < _ by omega) fun a x hx hrd => ?_
    have hx : raws[i]? = some x := by simpa using hx
    rw [hr0] at hx
    cases hx
    refine hrd.fld (i := 1) (y := r0.2) rfl ?_
    refine ptrI ?_
    refine fldI r.blk (x := s) rfl ?_
    refine ptrI ?_
    refine fldI r.blk (x := s) rfl ?_
    have hlast : IntKind.wrap .i64 ((s.n : Int) - 1) = ((L.length - 1 : Nat) : Int) := by rw [w64 (by omega)]; omega
    simp only [hlast]
    refine r.own.sl.slc0 (n := L.length - 1) rfl (by omega) fun pre hpre => ?_
    have hpn : pre.n = L.length - 1 := by rw [hpre.len, List.length_take]; omega
    obtain ⟨z, hz⟩ : ∃ z, raws[raws.length - 1]? = some z := ⟨_, List.getElem?_eq_getElem (by omega)⟩
    have hbl := r.blk.lt
    refine forI (N := pre.n) (fun s : Sl × Int => s.2) (fun j st w' => ∃ o : Sl, st = (o, (j : Int)) ∧ Own (Up w1.heap.size) w' 34 entT o ((dropI raws i).take j) ∧ Fr (Up w1.heap.size) w1 w')
      ⟨⟨none, 0, 0⟩, rfl, Own.nil _ _ _ _, Fr.refl _ _⟩ (fun j s w' h => by obtain ⟨o, h, _⟩ := h; rw [h]) ?_ ?_
    · rintro j st w2 K' hj ⟨o, rfl, ho, f2⟩ - hK
      have hj' : j < raws.length - 1 := by omega
      have hsz := f2.size
      have r2 := r.fr f2 (fun k hk hu => by have := r.lt k hk; have hu : w1.heap.size ≤ k := hu; omega)
      obtain ⟨y, hy⟩ : ∃ y, raws[j]? = some y := ⟨_, List.getElem?_eq_getElem (by omega)⟩
      refine (hpre.frUp f2 (Nat.le_refl _)).get rfl rfl (by rw [List.length_take]; omega) fun x hx => ?_
      have hxy : x = y := by
        rw [List.getElem?_take] at hx
        split at hx
        · rw [hy] at hx; exact (Option.some.inj hx).symm
        · cases hx
      subst hxy
      refine locI rfl rfl fun w3 B3 f3 s3 => ?_
      have hdr : (dropI raws i)[j]? = some (if j = i then z else x) := by
        rw [dropI_get hz, if_pos hj', hy]
        split <;> rfl
      refine joinI (fun _ w' => Blk w' w2.heap.size 34 (entC (if j = i then z else x)) ∧ Fr (fun k => k = w2.heap.size) w3 w' ∧ w'.heap.size = w3.heap.size) ?_ ?_
      · refine condE (fun hji => ?_) fun hji => ?_
        · have hji : j = i := by have : (j : Int) = (i : Int) := hji; omega
          have r3 := r2.fr0 f3
          refine ptrI ?_
          refine fldI r3.blk (x := s) rfl ?_
          refine r3.own.sl.get (j := raws.length - 1) rfl (by rw [hrl]) (by omega) fun z' hz' => ?_
          rw [hz] at hz'
          cases hz'
          refine stoAll B3 rfl rfl fun w4 B4 f4 s4 => ?_
          rw [if_pos hji]
          exact ⟨B4, f4, s4⟩
        · have hji : ¬ j = i := fun h => hji (show (j : Int) = (i : Int) by omega)
          rw [if_neg hji]
          exact ⟨B3, Fr.refl _ _, rfl⟩
      · rintro _ w4 ⟨B4, f4, s4⟩
        refine aggI B4 (x := if j = i then z else x) rfl ?_
        have ho4 : Own (Up w1.heap.size) w4 34 entT o ((dropI raws i).take j) := by
          have h1 : Own (fun k => w1.heap.size ≤ k ∧ k < w2.heap.size) w2 34 entT o ((dropI raws i).take j) := ho.mono fun k hk h => ⟨h, hk⟩
          exact ((h1.none f3).fr f4 fun k hk e => by omega).mono fun k _ h => h.1
        have f24 : Fr None w2 w4 := f3.newer f4 fun k e => by omega
        have hlt : ((dropI raws i).take j).length ≤ 1048576 := by rw [List.length_take, dropI_len]; omega
        refine appF ents_ty (x := if j = i then z else x) rfl ho4 (by have := f24.size; omega) (by omega) (by omega) fun r5 w5 o5 f5 _ => ?_
        refine hK _ _ ⟨r5, by rw [wsucc hj (by omega)], ?_, (f2.then0 f24).thenOwn ho4 f5⟩
        rw [take_at hdr]
        exact o5
    · rintro st w2 ⟨o, rfl, ho, f2⟩
      have hsz := f2.size
      have r2 := r.fr f2 (fun k hk hu => by have := r.lt k hk; have hu : w1.heap.size ≤ k := hu; omega)
      rw [hpn, List.take_of_length_le (by rw [dropI_len]; omega)] at ho
      refine ptrI ?_
      rw [add_lit]
      refine setI (i := 0 + 1) r2.blk (by simp) rfl fun w3 B3 f3 s3 => ?_
      have hnone : Fr None w1 w2 := f2.ofUp (Nat.le_refl _)
      have f13 : Fr (fun k => k = b) w1 w3 := hnone.trans f3 (fun _ h => h.elim) fun _ _ h => h
      have hw1 := f1.size
      have hgone : SlT (fun k => lab k = 3) w3 compT r0.2 e.2 := hr2.fr f13 fun k hk e => by have := r.lb; rw [e] at hk; omega
      refine hk i e r0.2 (relab lab w1.heap.size w3.heap.size 2) w3 hr he ⟨h.ok.drop hil, o, dropI raws i, ⟨B3, by rw [relab_lt hbl]; exact r.lb, ?_, ?_, fun k hk2 => ?_⟩⟩ (fun k hk2 => ?_) (hgone.mono fun k _ h => by omega) ((f1.trans f13 (fun _ h => h.elim) fun k _ e => by rw [e, r.lb]; omega))
      · refine (ho.fr f3 fun k hk2 e => ?_).mono fun k hk2 h => relab_new h hk2
        have hk2 : w1.heap.size ≤ k := hk2
        omega
      · exact ((r.ents.drop i).fr f13 fun k hk2 e => by have := r.lb; rw [e] at hk2; omega).mono fun k _ hk2 => by rw [relab_lt (r.lt k (by omega))]; exact hk2
      · rcases relab_ne hk2 with ⟨_, h⟩ | ⟨_, h⟩
        · omega
        · exact h
      · rcases relab_ne hk2 with ⟨h, _⟩ | ⟨h, _⟩
        · exact .inl h
        · exact .inr (by omega)

theorem spec_r10_SameEnt {ok ok2 : Nat → Prop} {id id2 : Int} {s s2 : Sl} {l l2 : List Comp} (hS : SlT ok w compT s l) (hS2 : SlT ok2 w compT s2 l2) (hm : Small l) {K : Res [.sc .bool] → W R} (hk : ∀ w', Fr None w w' → K (decide (id = id2 ∧ l = l2)) Q w') :
    callW Tryz.prog k_pinnaceref10_SameEnt [.agg ⟨entC (id, s)⟩, .agg ⟨entC (id2, s2)⟩] [.sc .bool] K Q w := by
  refine C_pinnaceref10_SameEnt (id, s) (id2, s2) K Q w ?_
  unfold F_pinnaceref10_SameEnt
  refine newI fun w1 B1 f1 s1 => newI fun w2 B2 f2 s2' => ?_
  have B12 := B1.fr f2 fun h => h
  refine joinK ?_
  refine fldI B12 (x := id) rfl ?_
  refine fldI B2 (x := id2) rfl ?_
  have f02 := f1.then0 f2
  refine condE (fun h => ?_) fun h => ?_
  · refine fldI B12 (x := s) rfl ?_
    refine fldI B2 (x := s2) rfl ?_
    refine spec_r5_Same (hS.fr0 f02) (hS2.fr0 f02) hm fun w3 f3 => ?_
    have e := hk w3 (f02.then0 f3)
    have : decide (id = id2 ∧ l = l2) = decide (l = l2) := decide_eq_decide.2 ⟨fun h => h.2, fun h2 => ⟨h, h2⟩⟩
    rw [this] at e
    exact e
  · have e := hk w2 f02
    rw [decide_eq_false (fun h2 => h h2.1)] at e
    exact e

theorem spec_r10_Add0 {id : Int} {s : Sl} {K : Res [.sc (.int .i64)] → W R} (hk : K 10 Q w) : callW Tryz.prog k_pinnaceref10_Add [.pointer none, .int .u32 id, .slice s.a s.n s.c] [.sc (.int .i64)] K Q w := C_pinnaceref10_Add _ _ _ K Q w hk
theorem spec_r10_Remove0 {id : Int} {K : Res [.sc .sl, .sc (.int .i64)] → W R} (hk : K (⟨none, 0, 0⟩, 10) Q w) : callW Tryz.prog k_pinnaceref10_Remove [.pointer none, .int .u32 id] [.sc .sl, .sc (.int .i64)] K Q w := C_pinnaceref10_Remove _ _ K Q w hk
theorem spec_r10_Set0 {id : Int} {c : Comp} {K : Res [.sc (.int .i64)] → W R} (hk : ∀ w', Fr None w w' → K 10 Q w') : callW Tryz.prog k_pinnaceref10_Set [.pointer none, .int .u32 id, .agg ⟨compC c⟩] [.sc (.int .i64)] K Q w := by
  refine C_pinnaceref10_Set _ _ _ K Q w ?_
  unfold F_pinnaceref10_Set
  exact newI fun w1 B1 f1 s1 => condT rfl (hk w1 f1)
theorem spec_r10_Get0 {id k : Int} {K : Res [.agg [.int .u8, .int .i32, .int .i32, .int .i32], .sc (.int .i64)] → W R} (hk : ∀ w', Fr None w w' → K ((0, 0, 0, 0), 10) Q w') :
    callW Tryz.prog k_pinnaceref10_Get [.pointer none, .int .u32 id, .int .u8 k] [.agg [.int .u8, .int .i32, .int .i32, .int .i32], .sc (.int .i64)] K Q w := by
  refine C_pinnaceref10_Get _ _ _ K Q w ?_
  unfold F_pinnaceref10_Get
  refine newI fun w1 B1 f1 s1 => condT rfl ?_
  refine stoAll B1 rfl rfl fun w2 B2 f2 s2 => ?_
  exact aggI B2 (x := (0, 0, 0, 0)) rfl (hk w2 (f1.newer f2 fun x e => by omega))

end

end Go.Proofs.YtkblnhnjagemlaaGreat
