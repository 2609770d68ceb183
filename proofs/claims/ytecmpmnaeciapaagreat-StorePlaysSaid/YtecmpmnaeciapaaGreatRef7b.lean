/-
  The document's layer 7, second part: taking, freeing, listing.
-/
import Derived.Test.YtecmpmnaeciapaaGreatRef7
namespace Go.Proofs.YtecmpmnaeciapaaGreat
open Go Go.RowKit Go.Proofs.YtecmpmnaeciapaaGreat.Den
variable {R : Type} {Q : R → World → Prop} {w : World}
section
variable {F : Nat → Prop} {b : Nat} {s : SM}

theorem Den.SlT.fldL {ok : Nat → Prop} {l : List One} {sl : Sl} (h : SlT ok w oneT sl l) {i : Int} {j : Nat} (hi : i = j) {x : One} (hj : l[j]? = some x) {q : Nat} {c : Sc} {y : c.T} (hq : (oneT.cells x)[q]? = some (c.e y)) {K : c.T → W R} (hk : K y Q w) :
    (idxW sl.a sl.n 3 i fun a => ld (.sc c) (Addr.add a q) K) Q w := by
  subst hi
  have hjl := (List.getElem?_eq_some_iff.1 hj).1
  have hn := h.len
  rcases h.at_ with e | ⟨b, o, ha, _, _, hrd⟩
  · rw [e] at hjl; simp at hjl
  · rw [ha]
    refine ⟨_, rfl, by omega, by omega, ?_⟩
    rw [add_lit, Int.toNat_natCast]
    exact ⟨y, (Rd.cells.1 (hrd j x hj)) q _ hq, hk⟩

/-- the slot that was freed last. -/
theorem last_best {ones : List One} {clock : Int} (hs : SMOk s) (hM : R7M s ones clock) {q : Nat} {o : One} (hq : ones[q]? = some o) (h0 : 0 < o.2.2) (hmax : ∀ (i : Nat) (o' : One), ones[i]? = some o' → o'.2.2 ≤ o.2.2) : s.free.getLast? = some (q : Int) := by
  have hmem := (hM.fr q o hq).1 h0
  obtain ⟨z, hz⟩ : ∃ z, s.free.getLast? = some z := by
    cases hg : s.free.getLast? with
    | none => rw [List.getLast?_eq_none_iff] at hg; rw [hg] at hmem; simp at hmem
    | some z => exact ⟨z, rfl⟩
  have hsp := getLast_split hz
  have hzm : z ∈ s.free := List.mem_of_getLast? hz
  obtain ⟨i, rfl, hi, _⟩ := hs.freeGet hzm
  obtain ⟨oz, hoz, _⟩ := hM.at_ hi
  rw [hz]
  by_cases e : (i : Int) = q
  · rw [e]
  · have hqd : (q : Int) ∈ s.free.dropLast := by
      rw [hsp] at hmem
      rcases List.mem_append.1 hmem with h1 | h1
      · exact h1
      · simp at h1; omega
    have hm := hM.mono
    rw [hsp, List.pairwise_append] at hm
    have := hm.2.2 (q : Int) hqd (i : Int) (by simp)
    rw [fz_at hq, fz_at hoz] at this
    have := hmax i oz hoz
    omega
theorem free_nil {ones : List One} {clock : Int} (hs : SMOk s) (hM : R7M s ones clock) (h : ∀ (i : Nat) (o : One), ones[i]? = some o → ¬ 0 < o.2.2) : s.free = [] := by
  cases hf : s.free with
  | nil => rfl
  | cons x r =>
    obtain ⟨i, rfl, hi, _⟩ := hs.freeGet (x := x) (by rw [hf]; simp)
    obtain ⟨o, ho, _⟩ := hM.at_ hi
    exact absurd ((hM.fr i o ho).2 (by rw [hf]; simp)) (h i o ho)

def Best (ones : List One) (j : Nat) (best : Int) : Prop := (best = -1 ∧ ∀ (i : Nat) (o : One), i < j → ones[i]? = some o → ¬ 0 < o.2.2) ∨ ∃ (q : Nat) (o : One), best = (q : Int) ∧ ones[q]? = some o ∧ 0 < o.2.2 ∧ ∀ (i : Nat) (o' : One), i < j → ones[i]? = some o' → o'.2.2 ≤ o.2.2
def Better (ones : List One) (best : Int) (x : One) : Prop := 0 < x.2.2 ∧ (best < 0 ∨ ∃ (q : Nat) (o : One), best = (q : Int) ∧ ones[q]? = some o ∧ o.2.2 < x.2.2)
theorem best_yes {ones : List One} {j : Nat} {best : Int} {x : One} (hb : Best ones j best) (hx : ones[j]? = some x) (hz : Better ones best x) : Best ones (j + 1) (j : Int) := by
  refine .inr ⟨j, x, rfl, hx, hz.1, fun i o' hi ho' => ?_⟩
  rcases Nat.lt_succ_iff_lt_or_eq.1 hi with h2 | h2
  · rcases hb with ⟨_, hb2⟩ | ⟨q, o, hq, hoq, h3, h4⟩
    · have := hb2 i o' h2 ho'; have := hz.1; omega
    · have := h4 i o' h2 ho'
      rcases hz.2 with h5 | ⟨q2, o2, h6, h7, h8⟩
      · omega
      · have : q2 = q := by omega
        subst this
        rw [hoq] at h7
        cases h7
        omega
  · subst h2; rw [hx] at ho'; cases ho'; exact Int.le_refl _
theorem best_no {ones : List One} {j : Nat} {best : Int} {x : One} (hb : Best ones j best) (hx : ones[j]? = some x) (hz : ¬ Better ones best x) : Best ones (j + 1) best := by
  rcases hb with ⟨hb1, hb2⟩ | ⟨q, o, hq, hoq, h3, h4⟩
  · refine .inl ⟨hb1, fun i o' hi ho' => ?_⟩
    rcases Nat.lt_succ_iff_lt_or_eq.1 hi with h2 | h2
    · exact hb2 i o' h2 ho'
    · subst h2; rw [hx] at ho'; cases ho'
      exact fun h5 => hz ⟨h5, .inl (by omega)⟩
  · refine .inr ⟨q, o, hq, hoq, h3, fun i o' hi ho' => ?_⟩
    rcases Nat.lt_succ_iff_lt_or_eq.1 hi with h2 | h2
    · exact h4 i o' h2 ho'
    · subst h2; rw [hx] at ho'; cases ho'
      exact Int.not_lt.1 fun h5 => hz ⟨by omega, .inr ⟨q, o, hq, hoq, h5⟩⟩

theorem s7_Take (h : S7O b s F w) {K : Res [.sc (.int .u32), .sc (.int .i64)] → W R}
    (h0 : s.take = none → ∀ w', Fr None w w' → K (0, 8) Q w')
    (h1 : ∀ id s' w', s.take = some (id, s') → S7O b s' F w' → Fr F w w' → K (id, 0) Q w') : callW Tryz.prog k_pinnaceref07_Take [.pointer (some ⟨b, 0, none⟩)] [.sc (.int .u32), .sc (.int .i64)] K Q w := by
  obtain ⟨hs, sl, ones, clock, hF, B, ho, hM⟩ := h
  refine C_pinnaceref07_Take _ K Q w ?_
  unfold F_pinnaceref07_Take
  refine condF rfl (ptrI (fldI B (x := sl) rfl ?_))
  have hlen := hM.len
  have hle := hs.le
  have hsn : sl.n = ones.length := ho.len
  -- the one freed last
  refine rangeC (t := oneT) (l := ones) (ok := fun _ => True) (fun s : Int × Int => s.2) (fun j st w' => st.2 = (j : Int) ∧ Fr None w w' ∧ Best ones j st.1) rfl rfl rfl ⟨rfl, Fr.refl _ _, .inl ⟨rfl, by omega⟩⟩ (fun j s w' h => h.1) (fun j st w' hp => (ho.sl.mono fun _ _ _ => trivial).fr0 hp.2.1) ?_ ?_
  · rintro j x ⟨best, _⟩ w1 w2 K' hx ⟨rfl, f1, hb⟩ - B2 f2 s2 hK
    have hb : Best ones j best := hb
    have hjl := (List.getElem?_eq_some_iff.1 hx).1
    have fd : Fr None w w2.drew := (f1.then0 f2).drew
    have B2d := B2.drew
    refine joinI (fun z w' => w' = w2.drew ∧ (z = true ↔ Better ones best x)) ?_ ?_
    · refine fldI B2d (x := x.2.2) rfl (condD (fun hp => ?_) fun hp => ⟨rfl, iff_of_false (by simp) fun h => hp h.1⟩)
      refine condD (fun hb0 => ⟨rfl, iff_of_true rfl ⟨hp, .inl hb0⟩⟩) fun hb0 => ?_
      have hb0 : ¬ best < 0 := hb0
      rcases hb with ⟨hb1, _⟩ | ⟨q, o, hq, hoq, _⟩
      · omega
      refine fldI B2d (x := x.2.2) rfl (ptrI (fldI (B.fr fd fun h => h) (x := sl) rfl ?_))
      refine (ho.none fd).sl.fldL hq hoq (c := .int .i64) (q := 2) (y := o.2.2) rfl ⟨rfl, ?_⟩
      by_cases h2 : o.2.2 < x.2.2
      · exact iff_of_true (decide_eq_true h2) ⟨hp, .inr ⟨q, o, hq, hoq, h2⟩⟩
      · refine iff_of_false (by rw [decide_eq_false h2]; simp) ?_
        rintro ⟨_, h3 | ⟨q2, o2, h4, h5, h6⟩⟩
        · omega
        · have : q2 = q := by omega
          subst this
          rw [hoq] at h5
          cases h5
          exact h2 h6
    · rintro z w3 ⟨rfl, hziff⟩
      refine joinI (fun (c : Int) w' => w' = w2.drew ∧ Best ones (j + 1) c) ?_ ?_
      · exact condI (fun hz => ⟨rfl, best_yes hb hx (hziff.1 hz)⟩) fun hz => ⟨rfl, best_no hb hx fun h => by rw [hziff.2 h] at hz; cases hz⟩
      · rintro c w4 ⟨rfl, hc⟩
        exact hK _ _ ⟨wsucc (N := ones.length) hjl (by omega), fd, hc⟩
  rintro ⟨best, _⟩ w1 ⟨-, f1, hb⟩
  have B1 := B.fr f1 fun h => h
  have o1 := ho.none f1
  -- the slot, if there is one
  have hpost : ∀ (z : Int) (w2 : World), Fr None w w2 → ((z = -1 ∧ s.take = none) ∨ ∃ (q : Nat) (o : One) (g : Int) (s' : SM), z = (q : Int) ∧ ones[q]? = some o ∧ 1 ≤ g ∧ g ≤ 4194303 ∧ (g = if o.1 + 1 = 1 then s.first else o.1 + 1) ∧ o.1 + 1 ≤ 4194303 ∧ 0 ≤ o.1 ∧ s.take = some (idOf q g, s') ∧ R7M s' (ones.set q (g, true, 0)) clock) →
      (cond (decide (z < 0)) (retW (0, 8)) (ptrW (some ⟨b, 0, none⟩) fun x_30 => ld (.sc .sl) (Addr.add x_30 1) fun (x_31 : Sl) => idxW x_31.a x_31.n 3 z fun x_32 => ld (.sc (.int .i64)) (Addr.add x_32 0) fun (x_33 : Int) =>
        joinW (σ := Int) (fun J_34 => cond ((IntKind.wrap .i64 (x_33 + 1)) == 1) (ptrW (some ⟨b, 0, none⟩) fun x_35 => ld (.sc (.int .i64)) (Addr.add x_35 0) fun (x_36 : Int) => J_34 x_36) (J_34 (IntKind.wrap .i64 (x_33 + 1)))) <| fun s_37 =>
        ptrW (some ⟨b, 0, none⟩) fun x_38 => ld (.sc .sl) (Addr.add x_38 1) fun (x_39 : Sl) => idxW x_39.a x_39.n 3 z fun x_40 => stoL x_40 [.int .i64 s_37, .bool true, .int .i64 0] 0 <|
        callW Tryz.prog k_pinnaceref07_Make [.int .i64 z, .int .i64 s_37] [.sc (.int .u32), .sc (.int .i64)] fun (x_41 : Int × Int) => retW (x_41.1, x_41.2)) : W (Int × Int)) (fun r w => K r Q w) w2 := by
    rintro z w2 f2 (⟨rfl, ht⟩ | ⟨q, o, g, s', rfl, hq, g1, g2, hg, hg3, hg4, ht, hM'⟩)
    · exact condT rfl (h0 ht w2 f2)
    · have hql := (List.getElem?_eq_some_iff.1 hq).1
      refine condF (decide_eq_false (by omega)) (ptrI (fldI (B.fr f2 fun h => h) (x := sl) rfl ?_))
      have o2 := ho.none f2
      refine o2.sl.fldL rfl hq (c := .int .i64) (q := 0) (y := o.1) rfl ?_
      rw [w64 (x := o.1 + 1) (by omega)]
      refine joinI (fun (z : Int) w' => z = g ∧ w' = w2) ?_ ?_
      · refine condE (fun e => ptrI (fldI (B.fr f2 fun h => h) (x := s.first) rfl ⟨by rw [hg, if_pos e], rfl⟩)) fun e => ⟨by rw [hg, if_neg e], rfl⟩
      rintro z w3 ⟨rfl, rfl⟩
      refine ptrI (fldI (B.fr f2 fun h => h) (x := sl) rfl ?_)
      refine o2.idx rfl (by omega) (by omega) fun a u ha hu _ => ?_
      refine o2.set rfl (by omega) ha ((z, true, 0) : One) fun w4 o4 f4 _ => ?_
      rw [Int.toNat_natCast] at o4
      have hne : ¬ (sl.v.ownBlock = some b) := fun e => (ho.own b e).2 rfl
      refine spec_r7_Make (by omega) g1 g2 (h1 _ _ w4 ht ⟨hs.take ht, sl, _, clock, hF, ?_, o4, hM'⟩ (f2.any.then (f4.sub fun k e => (o2.own k e).1)))
      have e1 : s'.first = s.first := by
        unfold SM.take at ht
        split at ht
        · split at ht
          · simp only [Option.some.injEq, Prod.mk.injEq] at ht; rw [← ht.2]; rfl
          · cases ht
        · split at ht
          · simp only [Option.some.injEq, Prod.mk.injEq] at ht; rw [← ht.2]; rfl
          · cases ht
      have := (B.fr f2 fun h => h).fr f4 hne
      unfold s7C at this ⊢
      rw [e1]
      exact this
  rcases hb with ⟨hb1, hb2⟩ | ⟨q, o, hq, hoq, h3, h4⟩
  · -- none was freed: the next that is new
    have hb1 : best = -1 := hb1
    subst hb1
    have hfn := free_nil hs hM fun i o hi => hb2 i o (by have := (List.getElem?_eq_some_iff.1 hi).1; omega) hi
    refine loopI (fun st w' => Fr None w w' ∧ ((∃ j : Nat, st = (-1, (j : Int)) ∧ j ≤ ones.length ∧ ∀ (i : Nat) (o : One), i < j → ones[i]? = some o → o.1 ≠ 0) ∨ ∃ (q : Nat) (o : One) (z : Int), st = ((q : Int), z) ∧ ones[q]? = some o ∧ o.1 = 0 ∧ ∀ (i : Nat) (o : One), i < q → ones[i]? = some o → o.1 ≠ 0)) (fun st _ => if st.1 < 0 then ones.length + 1 - st.2.toNat else 0) ⟨f1, .inl ⟨0, rfl, by omega, by omega⟩⟩ ?_
    rintro st w2 ⟨f2, ⟨j, rfl, hjl, hno⟩ | ⟨q, o, z, rfl, hq, hq0, hno⟩⟩
    · refine joinI (fun z w' => w' = w2 ∧ z = decide (j < ones.length)) ?_ ?_
      · refine condT rfl (ptrI (fldI (B.fr f2 fun h => h) (x := sl) rfl ⟨rfl, ?_⟩))
        by_cases hj : j < ones.length
        · rw [decide_eq_true hj]; exact decide_eq_true (by show (j : Int) < (sl.n : Int); omega)
        · rw [decide_eq_false hj]; exact decide_eq_false (by show ¬ (j : Int) < (sl.n : Int); omega)
      rintro z w3 ⟨rfl, rfl⟩
      refine condD (fun hj => ?_) fun hj => ?_
      · obtain ⟨o, hoj⟩ : ∃ o, ones[j]? = some o := ⟨_, List.getElem?_eq_getElem hj⟩
        refine ptrI (fldI (B.fr f2 fun h => h) (x := sl) rfl ?_)
        refine (ho.none f2).sl.fldL rfl hoj (c := .int .i64) (q := 0) (y := o.1) rfl ?_
        have ew : IntKind.wrap .i64 ((j : Int) + 1) = ((j + 1 : Nat) : Int) := wsucc (N := ones.length) hj (by omega)
        refine joinK (condE (fun e => ⟨⟨f2, .inr ⟨j, o, _, rfl, hoj, e, hno⟩⟩, ?_⟩) fun e => ⟨⟨f2, .inl ⟨j + 1, by rw [← ew], by omega, fun i o' hi ho' => ?_⟩⟩, ?_⟩)
        · simp only
          rw [if_neg (by omega), if_pos (by omega)]; omega
        · rcases Nat.lt_succ_iff_lt_or_eq.1 hi with h2 | h2
          · exact hno i o' h2 ho'
          · subst h2; rw [hoj] at ho'; cases ho'; exact e
        · simp only
          rw [if_pos (by omega), if_pos (by omega), ew]; omega
      · refine hpost (-1) w3 f2 (.inl ⟨rfl, ?_⟩)
        unfold SM.take
        rw [hfn]
        simp only [List.getLast?_nil]
        rw [if_neg]
        intro hlt
        obtain ⟨o, ho1, ho2, _⟩ := hM.at_ hlt
        have := hs.new s.fresh o.1 ho2 (Nat.le_refl _)
        exact hno s.fresh o (by omega) ho1 this
    · refine joinI (fun z w' => w' = w2 ∧ z = false) (condF (decide_eq_false (by show ¬ (q : Int) < 0; omega)) ⟨rfl, rfl⟩) ?_
      rintro z2 w3 ⟨rfl, rfl⟩
      refine condF rfl ?_
      have hql := (List.getElem?_eq_some_iff.1 hq).1
      have hgq : s.gen[q]? = some o.1 := by rw [← hM.gen, List.getElem?_map, hq]; rfl
      have hfq : s.fresh = q := by
        have h5 : s.fresh ≤ q := Nat.le_of_not_lt fun h => by have := (hs.old q o.1 hgq h).1; omega
        rcases Nat.lt_or_ge s.fresh q with h6 | h6
        · obtain ⟨o2, ho2, ho3, _⟩ := hM.at_ (q := s.fresh) (by omega)
          have := hs.new s.fresh o2.1 ho3 (Nat.le_refl _)
          exact absurd this (hno s.fresh o2 h6 ho2)
        · omega
      have hfi := hs.first
      have huq : o.2.1 = false := by
        cases hu : o.2.1 with
        | false => rfl
        | true =>
          have := hs.unused q (by rw [← hM.used, List.getElem?_map, hq]; simp [hu])
          omega
      refine hpost (q : Int) w3 f2 (.inr ⟨q, o, s.first, { s.use s.fresh s.first with fresh := s.fresh + 1 }, rfl, hq, hfi.1, hfi.2, by rw [hq0, if_pos (by omega)], by omega, by omega, ?_, ?_⟩)
      · unfold SM.take
        rw [hfn]
        simp only [List.getLast?_nil]
        rw [if_pos (by omega), hfq]
      · have := hM.use (fr' := s.fresh + 1) (free' := []) hq huq (g := s.first) (by omega) (fun x => by rw [hfn]; simp) (List.nil_sublist _) (fun x hx => by rw [hfn] at hx; simp at hx)
        rw [hfq]
        rw [hfq] at this
        have e : ({ s.use q s.first with fresh := q + 1 } : SM) = { s.use q s.first with free := [], fresh := q + 1 } := by
          unfold SM.use
          rw [hfn]
        rw [e]
        exact this
  · have hq : best = (q : Int) := hq
    subst hq
    have hql := (List.getElem?_eq_some_iff.1 hoq).1
    have hlast := last_best hs hM hoq h3 fun i o' hi => h4 i o' (List.getElem?_eq_some_iff.1 hi).1 hi
    refine loopI (fun st w' => st = ((q : Int), 0) ∧ Fr None w w') (fun _ _ => 0) ⟨rfl, f1⟩ ?_
    rintro st w2 ⟨rfl, f2⟩
    refine joinI (fun z w' => w' = w2 ∧ z = false) (condF (decide_eq_false (by show ¬ (q : Int) < 0; omega)) ⟨rfl, rfl⟩) ?_
    rintro z w3 ⟨rfl, rfl⟩
    refine condF rfl ?_
    have hmem : (q : Int) ∈ s.free := List.mem_of_getLast? hlast
    obtain ⟨i, hiq, _, huq, g, hg1, hg2, hg3⟩ := hs.freeGet hmem
    have : i = q := by omega
    subst this
    have hgq : s.gen[i]? = some o.1 := by rw [← hM.gen, List.getElem?_map, hoq]; rfl
    rw [hgq] at hg1
    cases hg1
    have hu : o.2.1 = false := by
      rw [← hM.used, List.getElem?_map, hoq] at huq
      simpa using huq
    have hnd := hs.nodup
    have hsp := getLast_split hlast
    refine hpost (i : Int) w3 f2 (.inr ⟨i, o, o.1 + 1, { s.use i (o.1 + 1) with free := s.free.dropLast }, rfl, hoq, by omega, by omega, by rw [if_neg (by omega)], by omega, by omega, ?_, ?_⟩)
    · unfold SM.take
      rw [hlast]
      simp only [Int.toNat_natCast, hgq]
    · have := hM.use (fr' := s.fresh) (free' := s.free.dropLast) hoq hu (g := o.1 + 1) (by omega) (fun x => ?_) (List.dropLast_sublist _) (fun x hx => by obtain ⟨i', e, _⟩ := hs.freeGet hx; omega)
      · exact this
      · rw [hsp] at hnd
        have hnd2 := List.nodup_append.1 hnd
        constructor
        · intro hx
          exact ⟨(List.dropLast_sublist _).subset hx, fun e => hnd2.2.2 x hx (i : Int) (by simp) e⟩
        · rintro ⟨h5, h6⟩
          rw [hsp] at h5
          rcases List.mem_append.1 h5 with h7 | h7
          · exact h7
          · simp at h7; exact absurd h7 h6
end

end Go.Proofs.YtecmpmnaeciapaaGreat
