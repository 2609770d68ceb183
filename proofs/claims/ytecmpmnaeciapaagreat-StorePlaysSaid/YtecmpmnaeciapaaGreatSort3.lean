/-
  slices.Sort of bytes: heaps and partitions.
-/
import Derived.Test.YtecmpmnaeciapaaGreatSort2
namespace Go.Proofs.YtecmpmnaeciapaaGreat
open Go Go.RowKit Go.Proofs.YtecmpmnaeciapaaGreat.Den
open Go.Sort (swp ltInt PermIn SortedIn)
variable {R : Type} {Q : R → World → Prop} {w : World}
section
variable {S : Nat → Prop} {s : Sl} {d : Array Int}
theorem wn {x : Int} {n : Nat} (h : x = (n : Int)) (hn : n ≤ 1000000000) : IntKind.wrap .i64 x = (n : Int) := by rw [h, w64 (by omega)]

/-! ### the heap -/
theorem spec_sift (h : DA S w s d) (hm : d.size ≤ 1048576) {root hi first : Nat} (hf : first + hi ≤ d.size) (hr : root ≤ 1048576) (hr2 : root < hi ∨ 2 * root + 1 ≥ hi) {K : Res [] → W R} (hk : ∀ w', DA S w' s (Go.Sort.siftDown ltInt hi first root d) → (Go.Sort.siftDown ltInt hi first root d).size = d.size → Fr (OwnB s) w w' → K () Q w') :
    callW Tryz.prog k_slices_siftDownOrdered_byte [.slice s.a s.n s.c, .int .i64 (root : Int), .int .i64 (hi : Int), .int .i64 (first : Int)] [] K Q w := by
  refine C_slices_siftDownOrdered_byte _ _ _ _ K Q w ?_
  unfold F_slices_siftDownOrdered_byte
  refine loopI (fun i w' => ∃ (r : Nat) (e : Array Int), i = (r : Int) ∧ r ≤ 1048576 ∧ DA S w' s e ∧ e.size = d.size ∧ Go.Sort.siftDown ltInt hi first r e = Go.Sort.siftDown ltInt hi first root d ∧ Fr (OwnB s) w w') (fun i _ => hi - i.toNat) ⟨root, d, rfl, hr, h, rfl, rfl, Fr.refl _ _⟩ ?_
  rintro i w1 ⟨r, e, rfl, hr, o1, hz, he, f1⟩
  have e2 : IntKind.wrap .i64 (IntKind.wrap .i64 (2 * (r : Int)) + 1) = ((2 * r + 1 : Nat) : Int) := by rw [wn (x := 2 * (r : Int)) (n := 2 * r) (by omega) (by omega)]; exact wn (by omega) (by omega)
  have e3 : IntKind.wrap .i64 (IntKind.wrap .i64 (IntKind.wrap .i64 (2 * (r : Int)) + 1) + 1) = ((2 * r + 2 : Nat) : Int) := by rw [e2]; exact wn (by omega) (by omega)
  rw [e3, e2]
  refine condD (fun hge => ?_) fun hlt => ?_
  · have hge : (((2 * r + 1 : Nat) : Int)) ≥ (hi : Int) := hge
    rw [Go.Sort.siftDown, dif_pos (show 2 * r + 1 ≥ hi by omega)] at he
    rw [← he] at hk
    exact hk w1 o1 hz f1
  · have hlt : ¬ (((2 * r + 1 : Nat) : Int)) ≥ (hi : Int) := hlt
    have hr2 : 2 * r + 1 < hi := by omega
    have e4 : IntKind.wrap .i64 ((first : Int) + ((2 * r + 1 : Nat) : Int)) = ((first + (2 * r + 1) : Nat) : Int) := wn (by omega) (by omega)
    have e5 : IntKind.wrap .i64 (((first + (2 * r + 1) : Nat) : Int) + 1) = ((first + (2 * r + 1) + 1 : Nat) : Int) := wn (by omega) (by omega)
    have hdef := Go.Sort.siftDown.eq_def ltInt hi first r e
    rw [dif_neg (show ¬ 2 * r + 1 ≥ hi by omega)] at hdef
    have fd : Fr None w1 w1.drew := (Fr.refl _ _).drew
    -- the child
    refine joinI (fun z w' => w' = w1.drew ∧ z = (decide (2 * r + 1 + 1 < hi) && ltInt e[first + (2 * r + 1)]! e[first + (2 * r + 1) + 1]!)) ?_ ?_
    · refine condD (fun h1 => ?_) fun h1 => ⟨rfl, ?_⟩
      · have h1 : ((2 * r + 2 : Nat) : Int) < (hi : Int) := h1
        refine rdA (o1.none fd) e4 (by omega) (rdA (o1.none fd) (by rw [e4]; exact e5) (by omega) (spec_Less_byte ⟨rfl, ?_⟩))
        rw [decide_eq_true (show 2 * r + 1 + 1 < hi by omega)]
        rfl
      · have h1 : ¬ ((2 * r + 2 : Nat) : Int) < (hi : Int) := h1
        rw [decide_eq_false (show ¬ 2 * r + 1 + 1 < hi by omega)]
        rfl
    rintro z w2 ⟨rfl, hz1⟩
    rw [← hz1] at hdef
    refine joinI (fun (c : Int) w' => w' = w1.drew ∧ ∃ q : Nat, c = (q : Int) ∧ r < q ∧ q < hi ∧ Go.Sort.siftDown ltInt hi first r e = if !ltInt e[first + r]! e[first + q]! then e else Go.Sort.siftDown ltInt hi first q (swp e (first + r) (first + q))) ?_ ?_
    · cases z with
      | true =>
        simp only [if_true] at hdef
        have hq : 2 * r + 2 < hi := by
          have := hz1.symm
          simp only [Bool.and_eq_true, decide_eq_true_eq] at this
          omega
        rw [dif_pos hq] at hdef
        exact ⟨rfl, 2 * r + 2, rfl, by omega, hq, hdef⟩
      | false =>
        simp only [Bool.false_eq_true, if_false] at hdef
        exact ⟨rfl, 2 * r + 1, rfl, by omega, by omega, hdef⟩
    rintro c w3 ⟨rfl, q, rfl, hrq, hq, hdef2⟩
    have e6 : IntKind.wrap .i64 ((first : Int) + (r : Int)) = ((first + r : Nat) : Int) := wn (by omega) (by omega)
    have e7 : IntKind.wrap .i64 ((first : Int) + (q : Int)) = ((first + q : Nat) : Int) := wn (by omega) (by omega)
    have fd2 := fd.then0 (Fr.refl None w1.drew).drew
    refine rdA (o1.none fd2) e6 (by omega) (rdA (o1.none fd2) e7 (by omega) (spec_Less_byte ?_))
    refine condI (fun hb => ?_) fun hb => ?_
    · rw [if_pos (show (!ltInt e[first + r]! e[first + q]!) = true from hb)] at hdef2
      rw [hdef2] at he
      rw [← he] at hk
      exact hk _ (o1.none fd2) hz (f1.then fd2.any)
    · rw [if_neg (show ¬ (!ltInt e[first + r]! e[first + q]!) = true from fun h => by rw [show (!ltInt e[first + r]! e[first + q]!) = false from hb] at h; cases h)] at hdef2
      have fd3 := fd2.then0 (Fr.refl None w1.drew.drew).drew
      refine swpA (o1.none fd3) e6 e7 (by omega) (by omega) fun w4 o4 f4 => ⟨⟨q, _, rfl, by omega, o4, by rw [szs]; exact hz, by rw [← hdef2, he], (f1.then fd3.any).then f4⟩, by omega⟩

theorem spec_heap (h : DA S w s d) (hm : d.size ≤ 1048576) {a b : Nat} (hab : a < b) (hb : b ≤ d.size) {K : Res [] → W R} (hk : ∀ w', DA S w' s (Go.Sort.heapSort ltInt d a b) → Fr (OwnB s) w w' → K () Q w') :
    callW Tryz.prog k_slices_heapSortOrdered_byte [.slice s.a s.n s.c, .int .i64 (a : Int), .int .i64 (b : Int)] [] K Q w := by
  refine C_slices_heapSortOrdered_byte _ _ _ K Q w ?_
  unfold F_slices_heapSortOrdered_byte
  have e1 : IntKind.wrap .i64 ((b : Int) - (a : Int)) = ((b - a : Nat) : Int) := wn (by omega) (by omega)
  have e2 : IntKind.wrap .i64 (((b - a : Nat) : Int) - 1) = ((b - a - 1 : Nat) : Int) := wn (by omega) (by omega)
  have e3 : IntKind.wrap .i64 (Int.tdiv ((b - a - 1 : Nat) : Int) 2) = (((b - a - 1) / 2 : Nat) : Int) := wn (by rw [Int.tdiv_eq_ediv_of_nonneg (by omega)]; omega) (by omega)
  rw [e1, e2, e3]
  refine loopI (fun i w' => ∃ (k : Nat) (e : Array Int), i = (k : Int) - 1 ∧ k ≤ (b - a - 1) / 2 + 1 ∧ DA S w' s e ∧ e.size = d.size ∧ Go.Sort.heapBuild ltInt (b - a) a k e = Go.Sort.heapBuild ltInt (b - a) a ((b - a - 1) / 2 + 1) d ∧ Fr (OwnB s) w w') (fun i _ => (i + 1).toNat) ⟨(b - a - 1) / 2 + 1, d, by omega, Nat.le_refl _, h, rfl, rfl, Fr.refl _ _⟩ ?_
  rintro i w1 ⟨k, e, rfl, hk1, o1, hz, he, f1⟩
  refine condD (fun hge => ?_) fun hlt => ?_
  · have hge : (k : Int) - 1 ≥ 0 := hge
    obtain ⟨q, rfl⟩ : ∃ q, k = q + 1 := ⟨k - 1, by omega⟩
    rw [show (((q + 1 : Nat) : Int) - 1) = (q : Int) by omega]
    refine spec_sift o1 (by omega) (by omega) (by omega) (by omega) fun w2 o2 hz2 f2 => ?_
    have e4 : IntKind.wrap .i64 ((q : Int) - 1) = (q : Int) - 1 := w64 (by omega)
    rw [e4]
    exact ⟨⟨q, _, rfl, by omega, o2, by rw [hz2]; exact hz, by rw [← he]; rfl, f1.then f2⟩, by omega⟩
  · have hlt : ¬ (k : Int) - 1 ≥ 0 := hlt
    have hk0 : k = 0 := by omega
    subst hk0
    have he : e = Go.Sort.heapBuild ltInt (b - a) a ((b - a - 1) / 2 + 1) d := he
    refine loopI (fun i w' => ∃ (k : Nat) (g : Array Int), i = (k : Int) - 1 ∧ k ≤ b - a ∧ DA S w' s g ∧ g.size = d.size ∧ Go.Sort.heapPop ltInt a k g = Go.Sort.heapSort ltInt d a b ∧ Fr (OwnB s) w w') (fun i _ => (i + 1).toNat) ⟨b - a, e, by omega, Nat.le_refl _, o1, hz, by rw [Go.Sort.heapSort, ← he], f1⟩ ?_
    rintro i w2 ⟨k, g, rfl, hk2, o2, hz2, he2, f2⟩
    refine condD (fun hge => ?_) fun hlt => ?_
    · have hge : (k : Int) - 1 ≥ 0 := hge
      obtain ⟨q, rfl⟩ : ∃ q, k = q + 1 := ⟨k - 1, by omega⟩
      rw [show (((q + 1 : Nat) : Int) - 1) = (q : Int) by omega]
      have fd : Fr None w2 w2.drew := (Fr.refl _ _).drew
      have e5 : IntKind.wrap .i64 ((a : Int) + (q : Int)) = ((a + q : Nat) : Int) := wn (by omega) (by omega)
      refine swpA (o2.none fd) rfl e5 (by omega) (by omega) fun w3 o3 f3 => ?_
      refine spec_sift (root := 0) (hi := q) (first := a) o3 (by rw [szs]; omega) (by rw [szs]; omega) (by omega) (by omega) fun w4 o4 hz4 f4 => ?_
      have e4 : IntKind.wrap .i64 ((q : Int) - 1) = (q : Int) - 1 := w64 (by omega)
      rw [e4]
      exact ⟨⟨q, _, rfl, by omega, o4, by rw [hz4, szs]; exact hz2, by rw [← he2]; rfl, ((f2.then fd.any).then f3).then f4⟩, by omega⟩
    · have hlt : ¬ (k : Int) - 1 ≥ 0 := hlt
      have hk0 : k = 0 := by omega
      subst hk0
      rw [← he2] at hk
      exact hk w2 o2 f2

/-! ### reversing -/
theorem spec_reverse (h : DA S w s d) (hm : d.size ≤ 1048576) {a b : Nat} (hab : a < b) (hb : b ≤ d.size) {K : Res [] → W R} (hk : ∀ d' w', DA S w' s d' → PermIn a b d d' → Fr (OwnB s) w w' → K () Q w') :
    callW Tryz.prog k_slices_reverseRangeOrdered_byte [.slice s.a s.n s.c, .int .i64 (a : Int), .int .i64 (b : Int)] [] K Q w := by
  refine C_slices_reverseRangeOrdered_byte _ _ _ K Q w ?_
  unfold F_slices_reverseRangeOrdered_byte
  have e1 : IntKind.wrap .i64 ((b : Int) - 1) = ((b - 1 : Nat) : Int) := wn (by omega) (by omega)
  rw [e1]
  refine loopI (fun (st : Int × Int) w' => ∃ (i j : Nat) (e : Array Int), st = ((i : Int), (j : Int)) ∧ a ≤ i ∧ i ≤ b ∧ j < b ∧ DA S w' s e ∧ PermIn a b d e ∧ Fr (OwnB s) w w') (fun st _ => (st.2 - st.1).toNat) ⟨a, b - 1, d, rfl, Nat.le_refl _, by omega, by omega, h, Go.Sort.permIn_refl _ _ _, Fr.refl _ _⟩ ?_
  rintro st w1 ⟨i, j, e, rfl, h1, h2, h3, o1, hp, f1⟩
  have hz : e.size = d.size := hp.1
  refine condD (fun hlt => ?_) fun hge => hk e w1 o1 hp f1
  have hlt : (i : Int) < (j : Int) := hlt
  have fd : Fr None w1 w1.drew := (Fr.refl _ _).drew
  refine swpA (o1.none fd) rfl rfl (by omega) (by omega) fun w2 o2 f2 => ?_
  have e2 : IntKind.wrap .i64 ((i : Int) + 1) = ((i + 1 : Nat) : Int) := wn (by omega) (by omega)
  have e3 : IntKind.wrap .i64 ((j : Int) - 1) = ((j - 1 : Nat) : Int) := wn (by omega) (by omega)
  rw [e2, e3]
  refine ⟨⟨i + 1, j - 1, _, rfl, by omega, by omega, by omega, o2, Go.Sort.permIn_trans _ _ _ _ _ hp (Go.Sort.swp_permIn _ _ _ _ _ (by omega) (by omega) (by omega) (by omega) (by omega)), (f1.then fd.any).then f2⟩, ?_⟩
  show (((j - 1 : Nat) : Int) - ((i + 1 : Nat) : Int)).toNat < ((j : Int) - (i : Int)).toNat
  omega

/-! ### the two scans -/
theorem scanUpI (p : Int → Bool) (d : Array Int) {jhi : Int} {j : Nat} (hj : jhi = (j : Int)) (hjm : j ≤ 1048576) {body : Int → (Bool → W R) → W R} {done : Int → W R} {i0 : Nat} (hi0 : i0 ≤ 1048577)
    (hb : ∀ i w' J, i0 ≤ i → i ≤ j → Fr None w w' → J (p d[i]!) Q w' → body (i : Int) J Q w') (hd : ∀ w', Fr None w w' → done ((Go.Sort.scanUp p d j i0 : Nat) : Int) Q w') :
    loopW (fun K i => joinW (σ := Bool) (fun J => drawW (cond (decide (i ≤ jhi)) (body i J) (J false))) fun b => cond b (K (IntKind.wrap .i64 (i + 1))) (done i)) (i0 : Int) Q w := by
  subst hj
  refine loopI (fun i w' => ∃ q : Nat, i = (q : Int) ∧ i0 ≤ q ∧ q ≤ 1048577 ∧ Go.Sort.scanUp p d j q = Go.Sort.scanUp p d j i0 ∧ Fr None w w') (fun i _ => j + 1 - i.toNat) ⟨i0, rfl, Nat.le_refl _, hi0, rfl, Fr.refl _ _⟩ ?_
  rintro i w1 ⟨q, rfl, hq0, hq, he, f1⟩
  have f1d := f1.then0 (Fr.refl None w1).drew
  have hdef := Go.Sort.scanUp.eq_def p d j q
  refine joinI (fun z w' => Fr None w w' ∧ z = (decide (q ≤ j) && p d[q]!)) ?_ ?_
  · refine condD (fun h1 => ?_) fun h1 => ⟨f1d, ?_⟩
    · have h1 : (q : Int) ≤ (j : Int) := h1
      refine hb q _ _ hq0 (by omega) f1d ⟨f1d, ?_⟩
      rw [decide_eq_true (show q ≤ j by omega)]; rfl
    · have h1 : ¬ (q : Int) ≤ (j : Int) := h1
      rw [decide_eq_false (show ¬ q ≤ j by omega)]; rfl
  · rintro z w2 ⟨f2, hz⟩
    rw [← hz] at hdef
    cases z with
    | true =>
      simp only [if_true] at hdef
      have hqj : q ≤ j := by
        have := hz.symm
        simp only [Bool.and_eq_true, decide_eq_true_eq] at this
        exact this.1
      have e1 : IntKind.wrap .i64 ((q : Int) + 1) = ((q + 1 : Nat) : Int) := wn (by omega) (by omega)
      exact condT rfl ⟨⟨q + 1, e1, by omega, by omega, by rw [← hdef, he], f2⟩, by rw [e1]; omega⟩
    | false =>
      simp only [Bool.false_eq_true, if_false] at hdef
      have := hd w2 f2
      rw [← he, hdef] at this
      exact condF rfl this
theorem scanDownI (p : Int → Bool) (d : Array Int) {ilo : Int} {i : Nat} (hi : ilo = (i : Int)) (hi1 : 1 ≤ i) {body : Int → (Bool → W R) → W R} {done : Int → W R} {j0 : Nat} (hj0 : j0 ≤ 1048577)
    (hb : ∀ j w' J, i ≤ j → j ≤ j0 → Fr None w w' → J (p d[j]!) Q w' → body (j : Int) J Q w') (hd : ∀ w', Fr None w w' → done ((Go.Sort.scanDown p d i j0 : Nat) : Int) Q w') :
    loopW (fun K j => joinW (σ := Bool) (fun J => drawW (cond (decide (ilo ≤ j)) (body j J) (J false))) fun b => cond b (K (IntKind.wrap .i64 (j - 1))) (done j)) (j0 : Int) Q w := by
  subst hi
  refine loopI (fun j w' => ∃ q : Nat, j = (q : Int) ∧ q ≤ j0 ∧ Go.Sort.scanDown p d i q = Go.Sort.scanDown p d i j0 ∧ Fr None w w') (fun j _ => j.toNat) ⟨j0, rfl, Nat.le_refl _, rfl, Fr.refl _ _⟩ ?_
  rintro j w1 ⟨q, rfl, hq, he, f1⟩
  have f1d := f1.then0 (Fr.refl None w1).drew
  refine joinI (fun z w' => Fr None w w' ∧ z = (decide (i ≤ q) && p d[q]!)) ?_ ?_
  · refine condD (fun h1 => ?_) fun h1 => ⟨f1d, ?_⟩
    · have h1 : (i : Int) ≤ (q : Int) := h1
      refine hb q _ _ (by omega) hq f1d ⟨f1d, ?_⟩
      rw [decide_eq_true (show i ≤ q by omega)]; rfl
    · have h1 : ¬ (i : Int) ≤ (q : Int) := h1
      rw [decide_eq_false (show ¬ i ≤ q by omega)]; rfl
  · rintro z w2 ⟨f2, hz⟩
    cases q with
    | zero =>
      have : z = false := by rw [hz, decide_eq_false (by omega)]; rfl
      subst this
      have := hd w2 f2
      rw [← he] at this
      exact condF rfl this
    | succ q =>
      have hdef : Go.Sort.scanDown p d i (q + 1) = if (decide (i ≤ q + 1) && p d[q + 1]!) = true then Go.Sort.scanDown p d i q else q + 1 := rfl
      rw [← hz] at hdef
      cases z with
      | true =>
        simp only [if_true] at hdef
        have e1 : IntKind.wrap .i64 (((q + 1 : Nat) : Int) - 1) = (q : Int) := wn (by omega) (by omega)
        exact condT rfl ⟨⟨q, e1, by omega, by rw [← hdef, he], f2⟩, by rw [e1]; omega⟩
      | false =>
        simp only [Bool.false_eq_true, if_false] at hdef
        have := hd w2 f2
        rw [← he, hdef] at this
        exact condF rfl this
end

end Go.Proofs.YtecmpmnaeciapaaGreat
