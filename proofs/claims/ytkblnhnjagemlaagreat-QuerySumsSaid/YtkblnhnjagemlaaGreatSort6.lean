/-
  slices.Sort of bytes: whatever the length.
-/
import Derived.Test.YtkblnhnjagemlaaGreatSort3
namespace Go.Proofs.YtkblnhnjagemlaaGreat
open Go Go.RowKit Go.Proofs.YtkblnhnjagemlaaGreat.Den
open Go.Sort (swp ltInt PermIn SortedIn)

set_option maxHeartbeats 1000000 in
theorem spec_pdq (n : Nat) : ∀ {R : Type} {Q : R → World → Prop} {w : World} {S : Nat → Prop} {s : Sl} {d : Array Int} {a b : Nat} {limit : Int} {K : Res [] → W R} (_h : DA S w s d) (_hm : d.size ≤ 1048576) (_hab : a ≤ b) (_hb : b ≤ d.size) (_hB : Go.Sort.Below ltInt a b d) (_hn : b - a ≤ n)
    (_hk : ∀ d' w', DA S w' s d' → PermIn a b d d' → SortedIn ltInt a b d' → Fr (OwnB s) w w' → K () Q w'),
    callW Tryz.prog k_slices_pdqsortOrdered_byte [.slice s.a s.n s.c, .int .i64 (a : Int), .int .i64 (b : Int), .int .i64 limit] [] K Q w := by
  induction n using Nat.strongRecOn with
  | _ n ih =>
  intro R Q w S s d a b limit K h hm hab hb hB hn hk
  refine C_slices_pdqsortOrdered_byte _ _ _ _ K Q w ?_
  unfold F_slices_pdqsortOrdered_byte
  refine loopI (fun st w' => ∃ (a' b' : Nat) (d' : Array Int), st.1 = (a' : Int) ∧ st.2.1 = (b' : Int) ∧ a ≤ a' ∧ a' ≤ b' ∧ b' ≤ b ∧ DA S w' s d' ∧ d'.size = d.size ∧ Go.Sort.Below ltInt a' b' d' ∧
    (∀ X, PermIn a' b' d' X → SortedIn ltInt a' b' X → PermIn a b d X ∧ SortedIn ltInt a b X) ∧ Fr (OwnB s) w w') (fun st _ => (st.2.1 - st.1).toNat) ⟨a, b, d, rfl, rfl, Nat.le_refl _, hab, Nat.le_refl _, h, rfl, hB, fun X h1 h2 => ⟨h1, h2⟩, Fr.refl _ _⟩ ?_
  rintro ⟨sa, sb, lim, wb, wp⟩ w1 ⟨a', b', d', e1, e2, ha, hab', hb', o1, hz, hB1, cl, f1⟩
  dsimp only at e1 e2 ⊢
  subst e1; subst e2
  have em : IntKind.wrap .i64 ((b' : Int) - (a' : Int)) = ((b' - a' : Nat) : Int) := wn (by omega) (by omega)
  rw [em]
  refine joinK (condD (fun h12 => ?_) fun h12 => ?_)
  · refine spec_ins o1 (by omega) hab' (by omega) fun w2 o2 f2 => ?_
    obtain ⟨p1, p2⟩ := Go.Sort.insertionSort_holds swo d' a' b' hab' (by omega)
    obtain ⟨q1, q2⟩ := cl _ p1 p2
    exact hk _ w2 o2 q1 q2 (f1.then f2)
  have h12 : ¬ ((b' - a' : Nat) : Int) ≤ 12 := h12
  have hlt : a' < b' := by omega
  refine condI (fun _ => ?_) fun _ => ?_
  · refine spec_heap o1 (by omega) hlt (by omega) fun w2 o2 f2 => ?_
    obtain ⟨p1, p2⟩ := Go.Sort.heapSort_holds swo d' a' b' hab' (by omega)
    obtain ⟨q1, q2⟩ := cl _ p1 p2
    exact hk _ w2 o2 q1 q2 (f1.then f2)
  refine joinI (fun (_ : Int) w' => ∃ e, DA S w' s e ∧ PermIn a' b' d' e ∧ Fr (OwnB s) w w') ?_ ?_
  · refine condI (fun _ => ?_) fun _ => ⟨d', o1, Go.Sort.permIn_refl _ _ _, f1⟩
    exact spec_break o1 (by omega) hlt (by omega) fun e w2 o2 p2 f2 => ⟨e, o2, p2, f1.then f2⟩
  rintro lim2 w2 ⟨e, o2, p2, f2⟩
  have hz2 := p2.1
  refine spec_pivot o2 (by omega) hlt (by omega) fun p z w3 hp1 hp2 f3 => ?_
  have f03 := f2.then f3.any
  have o3 := o2.none f3
  refine joinI (fun (t : Int × Int) w' => ∃ (q : Nat) (e : Array Int), t.1 = (q : Int) ∧ a' ≤ q ∧ q < b' ∧ DA S w' s e ∧ PermIn a' b' d' e ∧ Fr (OwnB s) w w') ?_ ?_
  · refine condI (fun _ => ?_) fun _ => ⟨p, e, rfl, hp1, hp2, o3, p2, f03⟩
    refine spec_reverse o3 (by omega) hlt (by omega) fun g w4 o4 p4 f4 => ⟨(b' - 1) - (p - a'), g, ?_, by omega, by omega, o4, Go.Sort.permIn_trans _ _ _ _ _ p2 p4, f03.then f4⟩
    show IntKind.wrap .i64 (IntKind.wrap .i64 ((b' : Int) - 1) - IntKind.wrap .i64 ((p : Int) - (a' : Int))) = _
    rw [wn (x := (b' : Int) - 1) (n := b' - 1) (by omega) (by omega), wn (x := (p : Int) - (a' : Int)) (n := p - a') (by omega) (by omega)]
    exact wn (by omega) (by omega)
  rintro ⟨t1, t2⟩ w4 ⟨q, g, et, hq1, hq2, o4, p4, f4⟩
  dsimp only at et ⊢
  subst et
  have hz4 := p4.1
  refine joinI (fun (_ : Bool) w' => w' = w4) ?_ ?_
  · exact condI (fun _ => condI (fun _ => rfl) fun _ => rfl) fun _ => rfl
  rintro z14 w5 rfl
  have hB4 : Go.Sort.Below ltInt a' b' g := hB1.perm (by omega) p4
  refine joinI (fun (_ : Unit) w' => ∃ e, DA S w' s e ∧ PermIn a' b' d' e ∧ Fr (OwnB s) w w') ?_ ?_
  · refine condI (fun _ => ?_) fun _ => ⟨g, o4, p4, f4⟩
    refine spec_partial o4 (by omega) hlt (by omega) fun w6 o6 f6 => ?_
    obtain ⟨c1, c2⟩ := Go.Sort.partialInsertionSort_holds swo g a' b' hlt (by omega) hB4
    have c3 := Go.Sort.permIn_trans _ _ _ _ _ p4 c1
    refine condI (fun hx => ?_) fun _ => ⟨_, o6, c3, f4.then f6⟩
    obtain ⟨q1, q2⟩ := cl _ c3 (c2 hx)
    exact hk _ w6 o6 q1 q2 (f4.then f6)
  rintro _ w6 ⟨u, o6, p6, f6⟩
  have hz6 := p6.1
  have hB6 : Go.Sort.Below ltInt a' b' u := hB1.perm (by omega) p6
  refine joinI (fun z w' => Fr None w6 w' ∧ (z = true → 0 < a' ∧ ltInt u[a' - 1]! u[q]! = false)) ?_ ?_
  · have fd : Fr None w6 w6.drew := (Fr.refl _ _).drew
    refine condD (fun h0 => ?_) fun _ => ⟨fd, fun h => by cases h⟩
    have h0 : (a' : Int) > 0 := h0
    refine rdA (o6.none fd) (j := a' - 1) (wn (by omega) (by omega)) (by omega) (rdA (o6.none fd) rfl (by omega) (spec_Less_byte ⟨fd, fun h => ⟨by omega, ?_⟩⟩))
    show decide (u[a' - 1]! < u[q]!) = false
    simpa using h
  rintro z24 w7 ⟨f7, hz24⟩
  have o7 := o6.none f7
  have f07 := f6.then f7.any
  refine condI (fun hz => ?_) fun _ => ?_
  · obtain ⟨h0, hnl⟩ := hz24 hz
    refine spec_partEq o7 (by omega) hq1 hq2 (by omega) fun w8 o8 f8 => ?_
    obtain ⟨r1, r2, r3, r4, r5⟩ := Go.Sort.round_eq (d4 := (Go.Sort.partitionEqual ltInt u a' b' q).2) (mid := (Go.Sort.partitionEqual ltInt u a' b' q).1) swo (Go.Sort.partitionEqual_holds ltInt) h0 hq1 hq2 (by omega) hB6 hnl rfl
    generalize (Go.Sort.partitionEqual ltInt u a' b' q).1 = mid at r1 r2 r4 r5 ⊢
    generalize (Go.Sort.partitionEqual ltInt u a' b' q).2 = v at o8 r3 r4 r5
    refine ⟨⟨mid, b', v, rfl, rfl, by omega, by omega, hb', o8, by omega, r4, fun X x1 x2 => ?_, f07.then f8⟩, ?_⟩
    · obtain ⟨y1, y2⟩ := r5 X x1 x2
      exact cl X (Go.Sort.permIn_trans _ _ _ _ _ p6 y1) y2
    · show ((b' : Int) - (mid : Int)).toNat < ((b' : Int) - (a' : Int)).toNat
      omega
  · refine spec_part o7 (by omega) hq1 hq2 (by omega) fun w8 o8 f8 => ?_
    obtain ⟨r1, r2, r3, r4, r5, r6, r7⟩ := Go.Sort.round_part (d4 := (Go.Sort.partition ltInt u a' b' q).2.2) (ap := (Go.Sort.partition ltInt u a' b' q).2.1) (mid := (Go.Sort.partition ltInt u a' b' q).1) swo (Go.Sort.partition_holds ltInt) hq1 hq2 (by omega) hB6 rfl
    generalize (Go.Sort.partition ltInt u a' b' q).1 = mid at r1 r2 r4 r5 r6 r7 ⊢
    generalize (Go.Sort.partition ltInt u a' b' q).2.1 = ap at ⊢
    generalize (Go.Sort.partition ltInt u a' b' q).2.2 = v at o8 r3 r4 r5 r6 r7
    have f08 := f07.then f8
    have e3 : IntKind.wrap .i64 ((mid : Int) + 1) = ((mid + 1 : Nat) : Int) := wn (by omega) (by omega)
    dsimp only
    rw [e3]
    refine joinI (fun (t : Int × Int × Bool) w' => ∃ (a2 b2 : Nat) (X : Array Int), t.1 = (a2 : Int) ∧ t.2.1 = (b2 : Int) ∧ a' ≤ a2 ∧ a2 ≤ b2 ∧ b2 ≤ b' ∧ b2 - a2 < b' - a' ∧ DA S w' s X ∧ X.size = d.size ∧ Go.Sort.Below ltInt a2 b2 X ∧
      (∀ Y, PermIn a2 b2 X Y → SortedIn ltInt a2 b2 Y → PermIn a b d Y ∧ SortedIn ltInt a b Y) ∧ Fr (OwnB s) w w') ?_ ?_
    · refine condD (fun _ => ?_) fun _ => ?_
      · refine ih (mid - a') (by omega) o8 (by omega) r1 (by omega) r4 (Nat.le_refl _) fun L w9 o9 p9 s9 f9 => ?_
        obtain ⟨y1, y2⟩ := r6 L p9 s9
        have := p9.1
        refine ⟨mid + 1, b', L, rfl, rfl, by omega, by omega, by omega, by omega, o9, by omega, y1, fun Y z1 z2 => ?_, f08.then f9⟩
        obtain ⟨x1, x2⟩ := y2 Y z1 z2
        exact cl Y (Go.Sort.permIn_trans _ _ _ _ _ p6 x1) x2
      · refine ih (b' - (mid + 1)) (by omega) o8 (by omega) (by omega) (by omega) r5 (Nat.le_refl _) fun L w9 o9 p9 s9 f9 => ?_
        obtain ⟨y1, y2⟩ := r7 L p9 s9
        have := p9.1
        refine ⟨a', mid, L, rfl, rfl, by omega, by omega, by omega, by omega, o9, by omega, y1, fun Y z1 z2 => ?_, f08.then f9⟩
        obtain ⟨x1, x2⟩ := y2 Y z1 z2
        exact cl Y (Go.Sort.permIn_trans _ _ _ _ _ p6 x1) x2
    · rintro ⟨t1, t2, t3⟩ w9 ⟨a2, b2, X, e4, e5, h1, h2, h3, h4, o9, hz9, hB9, cl9, f9⟩
      dsimp only at e4 e5 ⊢
      subst e4; subst e5
      refine ⟨⟨a2, b2, X, rfl, rfl, by omega, h2, by omega, o9, hz9, hB9, cl9, f9⟩, ?_⟩
      show ((b2 : Int) - (a2 : Int)).toNat < ((b' : Int) - (a' : Int)).toNat
      omega

section
variable {R : Type} {Q : R → World → Prop} {w : World} {S : Nat → Prop} {s : Sl} {l : List Int}
/-- bytes are sorted. -/
theorem spec_Sort (h : Own S w 5 bT s l) (hm : l.length ≤ 1048576) {K : Res [] → W R} (hk : ∀ l' w', Own S w' 5 bT s l' → l'.Perm l → l'.Pairwise (· ≤ ·) → Fr (OwnB s) w w' → K () Q w') :
    callW Tryz.prog k_slices_Sort_byte [.slice s.a s.n s.c] [] K Q w := by
  have hn : s.n = l.length := h.len
  refine C_slices_Sort_byte _ K Q w ?_
  unfold F_slices_Sort_byte
  have e : IntKind.wrap .u64 (s.n : Int) = (s.n : Int) := by rw [IntKind.wrap_u64]; omega
  rw [e]
  refine spec_bits_Len (by omega) (by omega) ?_
  have hd : DA S w s l.toArray := h
  have es : (s.n : Int) = ((l.toArray.size : Nat) : Int) := by rw [hn]; simp
  rw [es]
  refine spec_pdq l.toArray.size (a := 0) (b := l.toArray.size) hd (by simpa using hm) (Nat.zero_le _) (Nat.le_refl _) (.inl rfl) (Nat.le_refl _) fun d' w' o p sr f => ?_
  refine hk d'.toList w' o ?_ ?_ f
  · have := p.2.2
    have e2 : d'.extract 0 l.toArray.size = d' := by rw [← p.1]; simp
    rw [e2] at this
    simpa using this
  · rw [List.pairwise_iff_getElem]
    intro i j hi hj hij
    have hz := p.1
    simp only [Array.length_toList] at hi hj
    have := sr i j (Nat.zero_le _) hij (by omega)
    rw [getElem!_pos d' j hj, getElem!_pos d' i hi] at this
    simp only [ltInt, decide_eq_false_iff_not] at this
    simp only [Array.getElem_toList]
    exact Int.not_lt.1 this
end

end Go.Proofs.YtkblnhnjagemlaaGreat
