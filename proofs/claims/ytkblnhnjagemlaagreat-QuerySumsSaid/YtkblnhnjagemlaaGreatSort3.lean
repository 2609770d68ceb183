/-
  slices.Sort of bytes: heaps and partitions.
-/
import Derived.Test.YtkblnhnjagemlaaGreatSort2
import Derived.Lib.ItoaNum
namespace Go.Proofs.YtkblnhnjagemlaaGreat
open Go Go.RowKit Go.Proofs.YtkblnhnjagemlaaGreat.Den
open Go.Sort (swp ltInt PermIn SortedIn)
variable {R : Type} {Q : R → World → Prop} {w : World}
section
variable {S : Nat → Prop} {s : Sl} {d : Array Int}
theorem wn {x : Int} {n : Nat} (h : x = (n : Int)) (hn : n ≤ 1000000000) : IntKind.wrap .i64 x = (n : Int) := by rw [h, w64 (by omega)]

/-! ### the heap -/
theorem spec_sift (h : DA S w s d) (hm : d.size ≤ 1048576) {root hi first : Nat} (hf : first + hi ≤ d.size) (hr : root ≤ 1048576) (_hr2 : root < hi ∨ 2 * root + 1 ≥ hi) {K : Res [] → W R} (hk : ∀ w', DA S w' s (Go.Sort.siftDown ltInt hi first root d) → (Go.Sort.siftDown ltInt hi first root d).size = d.size → Fr (OwnB s) w w' → K () Q w') :
    callW Tryz.prog k_slices_siftDownOrdered_byte [.slice s.a s.n s.c, .int .i64 (root : Int), .int .i64 (hi : Int), .int .i64 (first : Int)] [] K Q w := by
  refine C_slices_siftDownOrdered_byte _ _ _ _ K Q w ?_
  unfold F_slices_siftDownOrdered_byte
  refine loopI (fun i w' => ∃ (r : Nat) (e : Array Int), i = (r : Int) ∧ r ≤ 1048576 ∧ DA S w' s e ∧ e.size = d.size ∧ Go.Sort.siftDown ltInt hi first r e = Go.Sort.siftDown ltInt hi first root d ∧ Fr (OwnB s) w w') (fun i _ => hi - i.toNat) ⟨root, d, rfl, hr, h, rfl, rfl, Fr.refl _ _⟩ ?_
  rintro i w1 ⟨r, e, rfl, hr, o1, hz, he, f1⟩
  have e2 : IntKind.wrap .i64 (IntKind.wrap .i64 (2 * (r : Int)) + 1) = ((2 * r + 1 : Nat) : Int) := by rw [wn (x := 2 * (r : Int)) (n := 2 * r) (by omega) (by omega)]; exact wn (by omega) (by omega)
  have e3 : IntKind.wrap .i64 (IntKind.wrap .i64 (IntKind.wrap .i64 (2 * (r : Int)) + 1) + 1) = ((2 * r + 2 : Nat) : Int) := by rw [e2]; exact wn (by omega) (by omega)
  rw [e3, e2]
  refine condD (fun hge => ?_) fun hlt => ?_
  · have hge : (((2 * r + 1 : Nat) : Int)) ≥ (hi : Int) := hge
    rw [Go.Sort.siftDown, dif_pos (show 2 * r + 1 ≥ hi by omega)] at he
    rw [← he] at hk
    exact hk w1 o1 hz f1
  · have hlt : ¬ (((2 * r + 1 : Nat) : Int)) ≥ (hi : Int) := hlt
    have hr2 : 2 * r + 1 < hi := by omega
    have e4 : IntKind.wrap .i64 ((first : Int) + ((2 * r + 1 : Nat) : Int)) = ((first + (2 * r + 1) : Nat) : Int) := wn (by omega) (by omega)
    have e5 : IntKind.wrap .i64 (((first + (2 * r + 1) : Nat) : Int) + 1) = ((first + (2 * r + 1) + 1 : Nat) : Int) := wn (by omega) (by omega)
    have hdef := Go.Sort.siftDown.eq_def ltInt hi first r e
    rw [dif_neg (show ¬ 2 * r + 1 ≥ hi by omega)] at hdef
    have fd : Fr None w1 w1.drew := (Fr.refl _ _).drew
    -- the child
    refine joinI (fun z w' => w' = w1.drew ∧ z = (decide (2 * r + 1 + 1 < hi) && ltInt e[first + (2 * r + 1)]! e[first + (2 * r + 1) + 1]!)) ?_ ?_
    · refine condD (fun h1 => ?_) fun h1 => ⟨rfl, ?_⟩
      · have h1 : ((2 * r + 2 : Nat) : Int) < (hi : Int) := h1
        refine rdA (o1.none fd) e4 (by omega) (rdA (o1.none fd) (by rw [e4]; exact e5) (by omega) (spec_Less_byte ⟨rfl, ?_⟩))
        rw [decide_eq_true (show 2 * r + 1 + 1 < hi by omega)]
        rfl
      · have h1 : ¬ ((2 * r + 2 : Nat) : Int) < (hi : Int) := h1
        rw [decide_eq_false (show ¬ 2 * r + 1 + 1 < hi by omega)]
        rfl
    rintro z w2 ⟨rfl, hz1⟩
    rw [← hz1] at hdef
    refine joinI (fun (c : Int) w' => w' = w1.drew ∧ ∃ q : Nat, c = (q : Int) ∧ r < q ∧ q < hi ∧ Go.Sort.siftDown ltInt hi first r e = if !ltInt e[first + r]! e[first + q]! then e else Go.Sort.siftDown ltInt hi first q (swp e (first + r) (first + q))) ?_ ?_
    · cases z with
      | true =>
        simp only [if_true] at hdef
        have hq : 2 * r + 2 < hi := by
          have := hz1.symm
          simp only [Bool.and_eq_true, decide_eq_true_eq] at this
          omega
        rw [dif_pos hq] at hdef
        exact ⟨rfl, 2 * r + 2, rfl, by omega, hq, hdef⟩
      | false =>
        simp only [Bool.false_eq_true, if_false] at hdef
        exact ⟨rfl, 2 * r + 1, rfl, by omega, by omega, hdef⟩
    rintro c w3 ⟨rfl, q, rfl, hrq, hq, hdef2⟩
    have e6 : IntKind.wrap .i64 ((first : Int) + (r : Int)) = ((first + r : Nat) : Int) := wn (by omega) (by omega)
    have e7 : IntKind.wrap .i64 ((first : Int) + (q : Int)) = ((first + q : Nat) : Int) := wn (by omega) (by omega)
    have fd2 := fd.then0 (Fr.refl None w1.drew).drew
    refine rdA (o1.none fd2) e6 (by omega) (rdA (o1.none fd2) e7 (by omega) (spec_Less_byte ?_))
    refine condI (fun hb => ?_) fun hb => ?_
    · rw [if_pos (show (!ltInt e[first + r]! e[first + q]!) = true from hb)] at hdef2
      rw [hdef2] at he
      rw [← he] at hk
      exact hk _ (o1.none fd2) hz (f1.then fd2.any)
    · rw [if_neg (show ¬ (!ltInt e[first + r]! e[first + q]!) = true from fun h => by rw [show (!ltInt e[first + r]! e[first + q]!) = false from hb] at h; cases h)] at hdef2
      have fd3 := fd2.then0 (Fr.refl None w1.drew.drew).drew
      refine swpA (o1.none fd3) e6 e7 (by omega) (by omega) fun w4 o4 f4 => ⟨⟨q, _, rfl, by omega, o4, by rw [szs]; exact hz, by rw [← hdef2, he], (f1.then fd3.any).then f4⟩, by omega⟩

theorem spec_heap (h : DA S w s d) (hm : d.size ≤ 1048576) {a b : Nat} (hab : a < b) (hb : b ≤ d.size) {K : Res [] → W R} (hk : ∀ w', DA S w' s (Go.Sort.heapSort ltInt d a b) → Fr (OwnB s) w w' → K () Q w') :
    callW Tryz.prog k_slices_heapSortOrdered_byte [.slice s.a s.n s.c, .int .i64 (a : Int), .int .i64 (b : Int)] [] K Q w := by
  refine C_slices_heapSortOrdered_byte _ _ _ K Q w ?_
  unfold F_slices_heapSortOrdered_byte
  have e1 : IntKind.wrap .i64 ((b : Int) - (a : Int)) = ((b - a : Nat) : Int) := wn (by omega) (by omega)
  have e2 : IntKind.wrap .i64 (((b - a : Nat) : Int) - 1) = ((b - a - 1 : Nat) : Int) := wn (by omega) (by omega)
  have e3 : IntKind.wrap .i64 (Int.tdiv ((b - a - 1 : Nat) : Int) 2) = (((b - a - 1) / 2 : Nat) : Int) := wn (by rw [Int.tdiv_eq_ediv_of_nonneg (by omega)]; omega) (by omega)
  rw [e1, e2, e3]
  refine loopI (fun i w' => ∃ (k : Nat) (e : Array Int), i = (k : Int) - 1 ∧ k ≤ (b - a - 1) / 2 + 1 ∧ DA S w' s e ∧ e.size = d.size ∧ Go.Sort.heapBuild ltInt (b - a) a k e = Go.Sort.heapBuild ltInt (b - a) a ((b - a - 1) / 2 + 1) d ∧ Fr (OwnB s) w w') (fun i _ => (i + 1).toNat) ⟨(b - a - 1) / 2 + 1, d, by omega, Nat.le_refl _, h, rfl, rfl, Fr.refl _ _⟩ ?_
  rintro i w1 ⟨k, e, rfl, hk1, o1, hz, he, f1⟩
  refine condD (fun hge => ?_) fun hlt => ?_
  · have hge : (k : Int) - 1 ≥ 0 := hge
    obtain ⟨q, rfl⟩ : ∃ q, k = q + 1 := ⟨k - 1, by omega⟩
    rw [show (((q + 1 : Nat) : Int) - 1) = (q : Int) by omega]
    refine spec_sift o1 (by omega) (by omega) (by omega) (by omega) fun w2 o2 hz2 f2 => ?_
    have e4 : IntKind.wrap .i64 ((q : Int) - 1) = (q : Int) - 1 := w64 (by omega)
    rw [e4]
    exact ⟨⟨q, _, rfl, by omega, o2, by rw [hz2]; exact hz, by rw [← he]; rfl, f1.then f2⟩, by omega⟩
  · have hlt : ¬ (k : Int) - 1 ≥ 0 := hlt
    have hk0 : k = 0 := by omega
    subst hk0
    have he : e = Go.Sort.heapBuild ltInt (b - a) a ((b - a - 1) / 2 + 1) d := he
    refine loopI (fun i w' => ∃ (k : Nat) (g : Array Int), i = (k : Int) - 1 ∧ k ≤ b - a ∧ DA S w' s g ∧ g.size = d.size ∧ Go.Sort.heapPop ltInt a k g = Go.Sort.heapSort ltInt d a b ∧ Fr (OwnB s) w w') (fun i _ => (i + 1).toNat) ⟨b - a, e, by omega, Nat.le_refl _, o1, hz, by rw [Go.Sort.heapSort, ← he], f1⟩ ?_
    rintro i w2 ⟨k, g, rfl, hk2, o2, hz2, he2, f2⟩
    refine condD (fun hge => ?_) fun hlt => ?_
    · have hge : (k : Int) - 1 ≥ 0 := hge
      obtain ⟨q, rfl⟩ : ∃ q, k = q + 1 := ⟨k - 1, by omega⟩
      rw [show (((q + 1 : Nat) : Int) - 1) = (q : Int) by omega]
      have fd : Fr None w2 w2.drew := (Fr.refl _ _).drew
      have e5 : IntKind.wrap .i64 ((a : Int) + (q : Int)) = ((a + q : Nat) : Int) := wn (by omega) (by omega)
      refine swpA (o2.none fd) rfl e5 (by omega) (by omega) fun w3 o3 f3 => ?_
      refine spec_sift (root := 0) (hi := q) (first := a) o3 (by rw [szs]; omega) (by rw [szs]; omega) (by omega) (by omega) fun w4 o4 hz4 f4 => ?_
      have e4 : IntKind.wrap .i64 ((q : Int) - 1) = (q : Int) - 1 := w64 (by omega)
      rw [e4]
      exact ⟨⟨q, _, rfl, by omega, o4, by rw [hz4, szs]; exact hz2, by rw [← he2]; rfl, ((f2.then fd.any).then f3).then f4⟩, by omega⟩
    · have hlt : ¬ (k : Int) - 1 ≥ 0 := hlt
      have hk0 : k = 0 := by omega
      subst hk0
      rw [← he2] at hk
      exact hk w2 o2 f2

/-! ### reversing -/
theorem spec_reverse (h : DA S w s d) (hm : d.size ≤ 1048576) {a b : Nat} (hab : a < b) (hb : b ≤ d.size) {K : Res [] → W R} (hk : ∀ d' w', DA S w' s d' → PermIn a b d d' → Fr (OwnB s) w w' → K () Q w') :
    callW Tryz.prog k_slices_reverseRangeOrdered_byte [.slice s.a s.n s.c, .int .i64 (a : Int), .int .i64 (b : Int)] [] K Q w := by
  refine C_slices_reverseRangeOrdered_byte _ _ _ K Q w ?_
  unfold F_slices_reverseRangeOrdered_byte
  have e1 : IntKind.wrap .i64 ((b : Int) - 1) = ((b - 1 : Nat) : Int) := wn (by omega) (by omega)
  rw [e1]
  refine loopI (fun (st : Int × Int) w' => ∃ (i j : Nat) (e : Array Int), st = ((i : Int), (j : Int)) ∧ a ≤ i ∧ i ≤ b ∧ j < b ∧ DA S w' s e ∧ PermIn a b d e ∧ Fr (OwnB s) w w') (fun st _ => (st.2 - st.1).toNat) ⟨a, b - 1, d, rfl, Nat.le_refl _, by omega, by omega, h, Go.Sort.permIn_refl _ _ _, Fr.refl _ _⟩ ?_
  rintro st w1 ⟨i, j, e, rfl, h1, h2, h3, o1, hp, f1⟩
  have hz : e.size = d.size := hp.1
  refine condD (fun hlt => ?_) fun hge => hk e w1 o1 hp f1
  have hlt : (i : Int) < (j : Int) := hlt
  have fd : Fr None w1 w1.drew := (Fr.refl _ _).drew
  refine swpA (o1.none fd) rfl rfl (by omega) (by omega) fun w2 o2 f2 => ?_
  have e2 : IntKind.wrap .i64 ((i : Int) + 1) = ((i + 1 : Nat) : Int) := wn (by omega) (by omega)
  have e3 : IntKind.wrap .i64 ((j : Int) - 1) = ((j - 1 : Nat) : Int) := wn (by omega) (by omega)
  rw [e2, e3]
  refine ⟨⟨i + 1, j - 1, _, rfl, by omega, by omega, by omega, o2, Go.Sort.permIn_trans _ _ _ _ _ hp (Go.Sort.swp_permIn _ _ _ _ _ (by omega) (by omega) (by omega) (by omega) (by omega)), (f1.then fd.any).then f2⟩, ?_⟩
  show (((j - 1 : Nat) : Int) - ((i + 1 : Nat) : Int)).toNat < ((j : Int) - (i : Int)).toNat
  omega

/-! ### the two scans -/
theorem scanUpI (p : Int → Bool) (d : Array Int) {jhi : Int} {j : Nat} (hj : jhi = (j : Int)) (hjm : j ≤ 1048576) {body : Int → (Bool → W R) → W R} {done : Int → W R} {i0 : Nat} (hi0 : i0 ≤ 1048577)
    (hb : ∀ i w' J, i0 ≤ i → i ≤ j → Fr None w w' → J (p d[i]!) Q w' → body (i : Int) J Q w') (hd : ∀ w', Fr None w w' → done ((Go.Sort.scanUp p d j i0 : Nat) : Int) Q w') :
    loopW (fun K i => joinW (σ := Bool) (fun J => drawW (cond (decide (i ≤ jhi)) (body i J) (J false))) fun b => cond b (K (IntKind.wrap .i64 (i + 1))) (done i)) (i0 : Int) Q w := by
  subst hj
  refine loopI (fun i w' => ∃ q : Nat, i = (q : Int) ∧ i0 ≤ q ∧ q ≤ 1048577 ∧ Go.Sort.scanUp p d j q = Go.Sort.scanUp p d j i0 ∧ Fr None w w') (fun i _ => j + 1 - i.toNat) ⟨i0, rfl, Nat.le_refl _, hi0, rfl, Fr.refl _ _⟩ ?_
  rintro i w1 ⟨q, rfl, hq0, hq, he, f1⟩
  have f1d := f1.then0 (Fr.refl None w1).drew
  have hdef := Go.Sort.scanUp.eq_def p d j q
  refine joinI (fun z w' => Fr None w w' ∧ z = (decide (q ≤ j) && p d[q]!)) ?_ ?_
  · refine condD (fun h1 => ?_) fun h1 => ⟨f1d, ?_⟩
    · have h1 : (q : Int) ≤ (j : Int) := h1
      refine hb q _ _ hq0 (by omega) f1d ⟨f1d, ?_⟩
      rw [decide_eq_true (show q ≤ j by omega)]; rfl
    · have h1 : ¬ (q : Int) ≤ (j : Int) := h1
      rw [decide_eq_false (show ¬ q ≤ j by omega)]; rfl
  · rintro z w2 ⟨f2, hz⟩
    rw [← hz] at hdef
    cases z with
    | true =>
      simp only [if_true] at hdef
      have hqj : q ≤ j := by
        have := hz.symm
        simp only [Bool.and_eq_true, decide_eq_true_eq] at this
        exact this.1
      have e1 : IntKind.wrap .i64 ((q : Int) + 1) = ((q + 1 : Nat) : Int) := wn (by omega) (by omega)
      exact condT rfl ⟨⟨q + 1, e1, by omega, by omega, by rw [← hdef, he], f2⟩, by rw [e1]; omega⟩
    | false =>
      simp only [Bool.false_eq_true, if_false] at hdef
      have := hd w2 f2
      rw [← he, hdef] at this
      exact condF rfl this
theorem scanDownI (p : Int → Bool) (d : Array Int) {ilo : Int} {i : Nat} (hi : ilo = (i : Int)) (hi1 : 1 ≤ i) {body : Int → (Bool → W R) → W R} {done : Int → W R} {j0 : Nat} (hj0 : j0 ≤ 1048577)
    (hb : ∀ j w' J, i ≤ j → j ≤ j0 → Fr None w w' → J (p d[j]!) Q w' → body (j : Int) J Q w') (hd : ∀ w', Fr None w w' → done ((Go.Sort.scanDown p d i j0 : Nat) : Int) Q w') :
    loopW (fun K j => joinW (σ := Bool) (fun J => drawW (cond (decide (ilo ≤ j)) (body j J) (J false))) fun b => cond b (K (IntKind.wrap .i64 (j - 1))) (done j)) (j0 : Int) Q w := by
  subst hi
  refine loopI (fun j w' => ∃ q : Nat, j = (q : Int) ∧ q ≤ j0 ∧ Go.Sort.scanDown p d i q = Go.Sort.scanDown p d i j0 ∧ Fr None w w') (fun j _ => j.toNat) ⟨j0, rfl, Nat.le_refl _, rfl, Fr.refl _ _⟩ ?_
  rintro j w1 ⟨q, rfl, hq, he, f1⟩
  have f1d := f1.then0 (Fr.refl None w1).drew
  refine joinI (fun z w' => Fr None w w' ∧ z = (decide (i ≤ q) && p d[q]!)) ?_ ?_
  · refine condD (fun h1 => ?_) fun h1 => ⟨f1d, ?_⟩
    · have h1 : (i : Int) ≤ (q : Int) := h1
      refine hb q _ _ (by omega) hq f1d ⟨f1d, ?_⟩
      rw [decide_eq_true (show i ≤ q by omega)]; rfl
    · have h1 : ¬ (i : Int) ≤ (q : Int) := h1
      rw [decide_eq_false (show ¬ i ≤ q by omega)]; rfl
  · rintro z w2 ⟨f2, hz⟩
    cases q with
    | zero =>
      have : z = false := by rw [hz, decide_eq_false (by omega)]; rfl
      subst this
      have := hd w2 f2
      rw [← he] at this
      exact condF rfl this
    | succ q =>
      have hdef : Go.Sort.scanDown p d i (q + 1) = if (decide (i ≤ q + 1) && p d[q + 1]!) = true then Go.Sort.scanDown p d i q else q + 1 := rfl
      rw [← hz] at hdef
      cases z with
      | true =>
        simp only [if_true] at hdef
        have e1 : IntKind.wrap .i64 (((q + 1 : Nat) : Int) - 1) = (q : Int) := wn (by omega) (by omega)
        exact condT rfl ⟨⟨q, e1, by omega, by rw [← hdef, he], f2⟩, by rw [e1]; omega⟩
      | false =>
        simp only [Bool.false_eq_true, if_false] at hdef
        have := hd w2 f2
        rw [← he, hdef] at this
        exact condF rfl this
end

end Go.Proofs.YtkblnhnjagemlaaGreat

namespace Go.Proofs.YtkblnhnjagemlaaGreat
open Go Go.RowKit Go.Proofs.YtkblnhnjagemlaaGreat.Den
open Go.Sort (swp ltInt PermIn SortedIn)
variable {R : Type} {Q : R → World → Prop} {w : World}
section
variable {S : Nat → Prop} {s : Sl} {d : Array Int}

theorem spec_partEq (h : DA S w s d) (hm : d.size ≤ 1048576) {a b pivot : Nat} (h1 : a ≤ pivot) (h2 : pivot < b) (hb : b ≤ d.size) {K : Res [.sc (.int .i64)] → W R}
    (hk : ∀ w', DA S w' s (Go.Sort.partitionEqual ltInt d a b pivot).2 → Fr (OwnB s) w w' → K ((Go.Sort.partitionEqual ltInt d a b pivot).1 : Int) Q w') :
    callW Tryz.prog k_slices_partitionEqualOrdered_byte [.slice s.a s.n s.c, .int .i64 (a : Int), .int .i64 (b : Int), .int .i64 (pivot : Int)] [.sc (.int .i64)] K Q w := by
  refine C_slices_partitionEqualOrdered_byte _ _ _ _ K Q w ?_
  unfold F_slices_partitionEqualOrdered_byte
  have fd : Fr None w w.drew := (Fr.refl _ _).drew
  refine swpA (h.none fd) rfl rfl (by omega) (by omega) fun w1 o1 f1 => ?_
  have e1 : IntKind.wrap .i64 ((a : Int) + 1) = ((a + 1 : Nat) : Int) := wn (by omega) (by omega)
  have e2 : IntKind.wrap .i64 ((b : Int) - 1) = ((b - 1 : Nat) : Int) := wn (by omega) (by omega)
  rw [e1, e2]
  generalize hr : Go.Sort.partitionEqual ltInt d a b pivot = r at hk
  refine loopI (fun (st : Int × Int) w' => ∃ (i j : Nat) (e : Array Int), st = ((i : Int), (j : Int)) ∧ a < i ∧ i ≤ b ∧ j < b ∧ DA S w' s e ∧ e.size = d.size ∧ Go.Sort.partEqLoop ltInt a i j e = r ∧ Fr (OwnB s) w w') (fun st _ => (st.2 + 1 - st.1).toNat)
    ⟨a + 1, b - 1, _, rfl, by omega, by omega, by omega, o1, szs _ _ _, by rw [← hr]; rfl, fd.any.then f1⟩ ?_
  rintro st w2 ⟨i, j, e, rfl, hi, hib, hj, o2, hz, he, f2⟩
  have hdef := Go.Sort.partEqLoop_eq ltInt a i j e
  refine scanUpI (fun x => !ltInt e[a]! x) e (jhi := (j : Int)) rfl (by omega) (i0 := i) (by omega) (fun q w' J h1 h2 f hJ => ?_) fun w3 f3 => ?_
  · exact rdA (o2.none f) rfl (by omega) (rdA (o2.none f) rfl (by omega) (spec_Less_byte hJ))
  have hge := Go.Sort.scanUp_ge (fun x => !ltInt e[a]! x) e j i
  generalize Go.Sort.scanUp (fun x => !ltInt e[a]! x) e j i = i2 at hdef hge ⊢
  refine scanDownI (fun x => ltInt e[a]! x) e (ilo := (i2 : Int)) rfl (by omega) (j0 := j) (by omega) (fun q w' J h1 h2 f hJ => ?_) fun w4 f4 => ?_
  · exact rdA ((o2.none f3).none f) rfl (by omega) (rdA ((o2.none f3).none f) rfl (by omega) (spec_Less_byte hJ))
  have hle := Go.Sort.scanDown_le (fun x => ltInt e[a]! x) e i2 j
  generalize Go.Sort.scanDown (fun x => ltInt e[a]! x) e i2 j = j2 at hdef hle ⊢
  have f24 := f3.then0 f4
  refine condD (fun hgt => ?_) fun hgt => ?_
  · have hgt : (i2 : Int) > (j2 : Int) := hgt
    rw [if_pos (show i2 > j2 by omega)] at hdef
    have : r = (i2, e) := by rw [← he, hdef]
    subst this
    exact hk w4 (o2.none f24) (f2.then f24.any)
  · have hgt : ¬ (i2 : Int) > (j2 : Int) := hgt
    rw [if_neg (show ¬ i2 > j2 by omega)] at hdef
    have fd4 : Fr None w4 w4.drew := (Fr.refl _ _).drew
    refine swpA ((o2.none f24).none fd4) rfl rfl (by omega) (by omega) fun w5 o5 f5 => ?_
    have e3 : IntKind.wrap .i64 ((i2 : Int) + 1) = ((i2 + 1 : Nat) : Int) := wn (by omega) (by omega)
    have e4 : IntKind.wrap .i64 ((j2 : Int) - 1) = ((j2 - 1 : Nat) : Int) := wn (by omega) (by omega)
    rw [e3, e4]
    refine ⟨⟨i2 + 1, j2 - 1, _, rfl, by omega, by omega, by omega, o5, by rw [szs]; exact hz, by rw [← hdef, he], (f2.then (f24.then0 fd4).any).then f5⟩, ?_⟩
    show (((j2 - 1 : Nat) : Int) + 1 - ((i2 + 1 : Nat) : Int)).toNat < ((j : Int) + 1 - (i : Int)).toNat
    omega

theorem spec_part (h : DA S w s d) (hm : d.size ≤ 1048576) {a b pivot : Nat} (h1 : a ≤ pivot) (h2 : pivot < b) (hb : b ≤ d.size) {K : Res [.sc (.int .i64), .sc .bool] → W R}
    (hk : ∀ w', DA S w' s (Go.Sort.partition ltInt d a b pivot).2.2 → Fr (OwnB s) w w' → K (((Go.Sort.partition ltInt d a b pivot).1 : Int), (Go.Sort.partition ltInt d a b pivot).2.1) Q w') :
    callW Tryz.prog k_slices_partitionOrdered_byte [.slice s.a s.n s.c, .int .i64 (a : Int), .int .i64 (b : Int), .int .i64 (pivot : Int)] [.sc (.int .i64), .sc .bool] K Q w := by
  refine C_slices_partitionOrdered_byte _ _ _ _ K Q w ?_
  unfold F_slices_partitionOrdered_byte
  have fd : Fr None w w.drew := (Fr.refl _ _).drew
  refine swpA (h.none fd) rfl rfl (by omega) (by omega) fun w1 o1 f1 => ?_
  have e1 : IntKind.wrap .i64 ((a : Int) + 1) = ((a + 1 : Nat) : Int) := wn (by omega) (by omega)
  have e2 : IntKind.wrap .i64 ((b : Int) - 1) = ((b - 1 : Nat) : Int) := wn (by omega) (by omega)
  rw [e1, e2]
  have hr : Go.Sort.partition ltInt d a b pivot = if Go.Sort.scanUp (fun x => ltInt x (swp d a pivot)[a]!) (swp d a pivot) (b - 1) (a + 1) > Go.Sort.scanDown (fun x => !ltInt x (swp d a pivot)[a]!) (swp d a pivot) (Go.Sort.scanUp (fun x => ltInt x (swp d a pivot)[a]!) (swp d a pivot) (b - 1) (a + 1)) (b - 1) then _ else _ := rfl
  generalize Go.Sort.partition ltInt d a b pivot = r at hk hr
  have hze := szs d a pivot
  generalize swp d a pivot = e at o1 hr hze
  have f01 := fd.any.then f1
  refine scanUpI (fun x => ltInt x e[a]!) e (jhi := ((b - 1 : Nat) : Int)) rfl (by omega) (i0 := a + 1) (by omega) (fun q w' J h1 h2 f hJ => ?_) fun w3 f3 => ?_
  · exact rdA (o1.none f) rfl (by omega) (rdA (o1.none f) rfl (by omega) (spec_Less_byte hJ))
  have hge := Go.Sort.scanUp_ge (fun x => ltInt x e[a]!) e (b - 1) (a + 1)
  generalize Go.Sort.scanUp (fun x => ltInt x e[a]!) e (b - 1) (a + 1) = i2 at hr hge ⊢
  refine scanDownI (fun x => !ltInt x e[a]!) e (ilo := (i2 : Int)) rfl (by omega) (j0 := b - 1) (by omega) (fun q w' J h1 h2 f hJ => ?_) fun w4 f4 => ?_
  · exact rdA ((o1.none f3).none f) rfl (by omega) (rdA ((o1.none f3).none f) rfl (by omega) (spec_Less_byte hJ))
  have hle := Go.Sort.scanDown_le (fun x => !ltInt x e[a]!) e i2 (b - 1)
  generalize Go.Sort.scanDown (fun x => !ltInt x e[a]!) e i2 (b - 1) = j2 at hr hle ⊢
  have f14 := f3.then0 f4
  have fd4 : Fr None w4 w4.drew := (Fr.refl _ _).drew
  have o4 := (o1.none f14).none fd4
  have f04 := f01.then (f14.then0 fd4).any
  refine condD (fun hgt => ?_) fun hgt => ?_
  · have hgt : (i2 : Int) > (j2 : Int) := hgt
    rw [if_pos (show i2 > j2 by omega)] at hr
    subst hr
    exact swpA o4 rfl rfl (by omega) (by omega) fun w5 o5 f5 => hk w5 o5 (f04.then f5)
  · have hgt : ¬ (i2 : Int) > (j2 : Int) := hgt
    rw [if_neg (show ¬ i2 > j2 by omega)] at hr
    refine swpA o4 rfl rfl (by omega) (by omega) fun w5 o5 f5 => ?_
    have e3 : IntKind.wrap .i64 ((i2 : Int) + 1) = ((i2 + 1 : Nat) : Int) := wn (by omega) (by omega)
    have e4 : IntKind.wrap .i64 ((j2 : Int) - 1) = ((j2 - 1 : Nat) : Int) := wn (by omega) (by omega)
    rw [e3, e4]
    generalize hrr : Go.Sort.partLoop ltInt a (i2 + 1) (j2 - 1) (swp e i2 j2) = rr at hr
    refine loopI (fun (st : Int × Int) w' => ∃ (i j : Nat) (g : Array Int), st = ((i : Int), (j : Int)) ∧ a < i ∧ i ≤ b ∧ j < b ∧ DA S w' s g ∧ g.size = d.size ∧ Go.Sort.partLoop ltInt a i j g = rr ∧ Fr (OwnB s) w w') (fun st _ => (st.2 + 1 - st.1).toNat)
      ⟨i2 + 1, j2 - 1, _, rfl, by omega, by omega, by omega, o5, by rw [szs]; exact hze, hrr, f04.then f5⟩ ?_
    rintro st w6 ⟨i, j, g, rfl, hi, hib, hj, o6, hz, he, f6⟩
    have hdef := Go.Sort.partLoop_eq ltInt a i j g
    refine scanUpI (fun x => ltInt x g[a]!) g (jhi := (j : Int)) rfl (by omega) (i0 := i) (by omega) (fun q w' J h1 h2 f hJ => ?_) fun w7 f7 => ?_
    · exact rdA (o6.none f) rfl (by omega) (rdA (o6.none f) rfl (by omega) (spec_Less_byte hJ))
    have hge2 := Go.Sort.scanUp_ge (fun x => ltInt x g[a]!) g j i
    generalize Go.Sort.scanUp (fun x => ltInt x g[a]!) g j i = i3 at hdef hge2 ⊢
    refine scanDownI (fun x => !ltInt x g[a]!) g (ilo := (i3 : Int)) rfl (by omega) (j0 := j) (by omega) (fun q w' J h1 h2 f hJ => ?_) fun w8 f8 => ?_
    · exact rdA ((o6.none f7).none f) rfl (by omega) (rdA ((o6.none f7).none f) rfl (by omega) (spec_Less_byte hJ))
    have hle2 := Go.Sort.scanDown_le (fun x => !ltInt x g[a]!) g i3 j
    generalize Go.Sort.scanDown (fun x => !ltInt x g[a]!) g i3 j = j3 at hdef hle2 ⊢
    have f68 := f7.then0 f8
    have fd8 : Fr None w8 w8.drew := (Fr.refl _ _).drew
    have o8 := (o6.none f68).none fd8
    have f08 := f6.then (f68.then0 fd8).any
    refine condD (fun hgt => ?_) fun hgt => ?_
    · have hgt : (i3 : Int) > (j3 : Int) := hgt
      rw [if_pos (show i3 > j3 by omega)] at hdef
      have : rr = (j3, g) := by rw [← he, hdef]
      subst this
      subst hr
      exact swpA o8 rfl rfl (by omega) (by omega) fun w9 o9 f9 => hk w9 o9 (f08.then f9)
    · have hgt : ¬ (i3 : Int) > (j3 : Int) := hgt
      rw [if_neg (show ¬ i3 > j3 by omega)] at hdef
      refine swpA o8 rfl rfl (by omega) (by omega) fun w9 o9 f9 => ?_
      have e5 : IntKind.wrap .i64 ((i3 : Int) + 1) = ((i3 + 1 : Nat) : Int) := wn (by omega) (by omega)
      have e6 : IntKind.wrap .i64 ((j3 : Int) - 1) = ((j3 - 1 : Nat) : Int) := wn (by omega) (by omega)
      rw [e5, e6]
      refine ⟨⟨i3 + 1, j3 - 1, _, rfl, by omega, by omega, by omega, o9, by rw [szs]; exact hz, by rw [← hdef, he], f08.then f9⟩, ?_⟩
      show (((j3 - 1 : Nat) : Int) + 1 - ((i3 + 1 : Nat) : Int)).toNat < ((j : Int) + 1 - (i : Int)).toNat
      omega

/-! ### insertion in part -/
theorem scanSorted_le (d : Array Int) (b : Nat) : ∀ (n i : Nat), b - i ≤ n → i ≤ Go.Sort.scanSorted ltInt d b i ∧ (i ≤ b → Go.Sort.scanSorted ltInt d b i ≤ b)
  | 0, i, hn => by
    rw [Go.Sort.scanSorted, if_neg (by simp; omega)]; exact ⟨Nat.le_refl _, fun h => h⟩
  | n + 1, i, hn => by
    rw [Go.Sort.scanSorted]
    split
    · rename_i h
      have hib : i < b := by simp only [Bool.and_eq_true, decide_eq_true_eq] at h; exact h.1
      obtain ⟨h1, h2⟩ := scanSorted_le d b n (i + 1) (by omega)
      exact ⟨by omega, fun _ => h2 (by omega)⟩
    · exact ⟨Nat.le_refl _, fun h => h⟩
theorem spec_partial (h : DA S w s d) (hm : d.size ≤ 1048576) {a b : Nat} (hab : a < b) (hb : b ≤ d.size) {K : Res [.sc .bool] → W R}
    (hk : ∀ w', DA S w' s (Go.Sort.partialInsertionSort ltInt d a b).1 → Fr (OwnB s) w w' → K (Go.Sort.partialInsertionSort ltInt d a b).2 Q w') :
    callW Tryz.prog k_slices_partialInsertionSortOrdered_byte [.slice s.a s.n s.c, .int .i64 (a : Int), .int .i64 (b : Int)] [.sc .bool] K Q w := by
  refine C_slices_partialInsertionSortOrdered_byte _ _ _ K Q w ?_
  unfold F_slices_partialInsertionSortOrdered_byte
  have e1 : IntKind.wrap .i64 ((a : Int) + 1) = ((a + 1 : Nat) : Int) := wn (by omega) (by omega)
  have e2 : IntKind.wrap .i64 ((b : Int) - (a : Int)) = ((b - a : Nat) : Int) := wn (by omega) (by omega)
  rw [e1, e2]
  generalize hr : Go.Sort.partialInsertionSort ltInt d a b = r at hk
  refine loopI (fun (st : Int × Int) w' => ∃ (i n : Nat) (e : Array Int), st = ((i : Int), 5 - (n : Int)) ∧ a < i ∧ i ≤ b ∧ n ≤ 5 ∧ DA S w' s e ∧ e.size = d.size ∧ Go.Sort.partialIns ltInt a b n i e = r ∧ Fr (OwnB s) w w') (fun st _ => (5 - st.2).toNat)
    ⟨a + 1, 5, d, rfl, by omega, by omega, by omega, h, rfl, by rw [← hr]; rfl, Fr.refl _ _⟩ ?_
  rintro st w1 ⟨i, n, e, rfl, hi, hib, hn, o1, hz, he, f1⟩
  refine condD (fun hlt => ?_) fun hge => ?_
  rotate_left
  · have hge : ¬ (5 - (n : Int)) < 5 := hge
    have : n = 0 := by omega
    subst this
    have he : (e, false) = r := he
    subst he
    exact hk w1 o1 f1
  have hlt : (5 - (n : Int)) < 5 := hlt
  obtain ⟨m, rfl⟩ : ∃ m, n = m + 1 := ⟨n - 1, by omega⟩
  have hdef := Go.Sort.partialIns_succ (lt := ltInt) a b m i e
  have hsc := scanSorted_le e b (b - i) i (Nat.le_refl _)
  -- the scan
  refine loopI (fun q w' => ∃ q' : Nat, q = (q' : Int) ∧ i ≤ q' ∧ q' ≤ b ∧ Go.Sort.scanSorted ltInt e b q' = Go.Sort.scanSorted ltInt e b i ∧ Fr None w1 w') (fun q _ => b - q.toNat) ⟨i, rfl, Nat.le_refl _, hib, rfl, Fr.refl _ _⟩ ?_
  rintro q w2 ⟨q', rfl, hq1, hq2, heq, f2⟩
  have f2d := f2.then0 (Fr.refl None w2).drew
  have hdq := Go.Sort.scanSorted.eq_def ltInt e b q'
  have e3 : IntKind.wrap .i64 ((q' : Int) - 1) = ((q' - 1 : Nat) : Int) := wn (by omega) (by omega)
  refine joinI (fun z w' => Fr None w1 w' ∧ z = (decide (q' < b) && !ltInt e[q']! e[q' - 1]!)) ?_ ?_
  · refine condD (fun h1 => ?_) fun h1 => ⟨f2d, ?_⟩
    · have h1 : (q' : Int) < (b : Int) := h1
      refine rdA (o1.none f2d) rfl (by omega) (rdA (o1.none f2d) e3 (by omega) (spec_Less_byte ⟨f2d, ?_⟩))
      rw [decide_eq_true (show q' < b by omega)]; rfl
    · have h1 : ¬ (q' : Int) < (b : Int) := h1
      rw [decide_eq_false (show ¬ q' < b by omega)]; rfl
  rintro z w3 ⟨f3, hzz⟩
  rw [← hzz] at hdq
  cases z with
  | true =>
    simp only [if_true] at hdq
    have hqb : q' < b := by
      have := hzz.symm
      simp only [Bool.and_eq_true, decide_eq_true_eq] at this
      exact this.1
    have e4 : IntKind.wrap .i64 ((q' : Int) + 1) = ((q' + 1 : Nat) : Int) := wn (by omega) (by omega)
    exact condT rfl ⟨⟨q' + 1, e4, by omega, by omega, by rw [← hdq, heq], f3⟩, by rw [e4]; omega⟩
  | false =>
    simp only [Bool.false_eq_true, if_false] at hdq
    rw [← heq, hdq] at hdef
    refine condF rfl ?_
    have o3 := o1.none f3
    have f03 := f1.then f3.any
    refine condE (fun eqb => ?_) fun neb => ?_
    · have eqb : q' = b := by omega
      rw [if_pos eqb] at hdef
      have : r = (e, true) := by rw [← he, hdef]
      subst this
      exact hk w3 o3 f03
    have neb : ¬ q' = b := fun h => neb (by rw [h])
    rw [if_neg neb] at hdef
    refine condD (fun h50 => ?_) fun h50 => ?_
    · have h50 : ((b - a : Nat) : Int) < 50 := h50
      rw [if_pos (show b - a < 50 by omega)] at hdef
      have : r = (e, false) := by rw [← he, hdef]
      subst this
      exact hk w3 o3 f03
    have h50 : ¬ ((b - a : Nat) : Int) < 50 := h50
    rw [if_neg (show ¬ b - a < 50 by omega)] at hdef
    have fd3 : Fr None w3 w3.drew := (Fr.refl _ _).drew
    refine swpA (o3.none fd3) rfl e3 (by omega) (by omega) fun w4 o4 f4 => ?_
    have f04 := (f03.then fd3.any).then f4
    have hz4 : (swp e q' (q' - 1)).size = d.size := by rw [szs]; exact hz
    generalize swp e q' (q' - 1) = g4 at hdef o4 hz4
    have e5 : IntKind.wrap .i64 ((q' : Int) - (a : Int)) = ((q' - a : Nat) : Int) := wn (by omega) (by omega)
    have e6 : IntKind.wrap .i64 ((b : Int) - (q' : Int)) = ((b - q' : Nat) : Int) := wn (by omega) (by omega)
    have e7 : IntKind.wrap .i64 ((q' : Int) + 1) = ((q' + 1 : Nat) : Int) := wn (by omega) (by omega)
    rw [e5, e6, e3, e7]
    refine joinI (fun (_ : Unit) w' => DA S w' s (Go.Sort.fixDown ltInt a q' g4) ∧ (Go.Sort.fixDown ltInt a q' g4).size = d.size ∧ Fr (OwnB s) w w') ?_ ?_
    · unfold Go.Sort.fixDown
      refine condD (fun h2 => ?_) fun h2 => ?_
      · have h2 : ((q' - a : Nat) : Int) ≥ 2 := h2
        rw [if_pos (show q' - a ≥ 2 by omega)]
        refine joinK ?_
        refine loopI (fun t w' => ∃ (k : Nat) (g : Array Int), t = (k : Int) ∧ k < b ∧ DA S w' s g ∧ g.size = d.size ∧ Go.Sort.shiftDown ltInt k g = Go.Sort.shiftDown ltInt (q' - 1) g4 ∧ Fr (OwnB s) w w') (fun t _ => t.toNat) ⟨q' - 1, g4, rfl, by omega, o4, hz4, rfl, f04⟩ ?_
        rintro t w5 ⟨k, g, rfl, hkb, o5, hz5, he5, f5⟩
        refine condD (fun hk1 => ?_) fun hk1 => ?_
        · have hk1 : (k : Int) ≥ 1 := hk1
          obtain ⟨k', rfl⟩ : ∃ k', k = k' + 1 := ⟨k - 1, by omega⟩
          have e8 : IntKind.wrap .i64 (((k' + 1 : Nat) : Int) - 1) = (k' : Int) := wn (by omega) (by omega)
          have fd5 : Fr None w5 w5.drew := (Fr.refl _ _).drew
          have hdf : Go.Sort.shiftDown ltInt (k' + 1) g = if (!ltInt g[k' + 1]! g[k']!) = true then g else Go.Sort.shiftDown ltInt k' (swp g (k' + 1) k') := rfl
          refine rdA (o5.none fd5) rfl (by omega) (rdA (o5.none fd5) e8 (by omega) (spec_Less_byte ?_))
          refine condI (fun hbb => ?_) fun hbb => ?_
          · rw [if_pos (show (!ltInt g[k' + 1]! g[k']!) = true from hbb)] at hdf
            rw [← he5, hdf]
            exact ⟨o5.none fd5, hz5, f5.then fd5.any⟩
          · rw [if_neg (show ¬ (!ltInt g[k' + 1]! g[k']!) = true from fun h => by rw [show (!ltInt g[k' + 1]! g[k']!) = false from hbb] at h; cases h)] at hdf
            have fd6 := fd5.then0 (Fr.refl None w5.drew).drew
            refine swpA (o5.none fd6) rfl e8 (by omega) (by omega) fun w6 o6 f6 => ⟨⟨k', _, e8, by omega, o6, by rw [szs]; exact hz5, by rw [← hdf, he5], (f5.then fd6.any).then f6⟩, by rw [e8]; omega⟩
        · have hk1 : ¬ (k : Int) ≥ 1 := hk1
          have : k = 0 := by omega
          subst this
          have he5 : g = _ := he5
          rw [← he5]
          exact ⟨o5, hz5, f5⟩
      · have h2 : ¬ ((q' - a : Nat) : Int) ≥ 2 := h2
        rw [if_neg (show ¬ q' - a ≥ 2 by omega)]
        exact ⟨o4, hz4, f04⟩
    rintro _ w5 ⟨o5, hz5, f5⟩
    generalize Go.Sort.fixDown ltInt a q' g4 = g5 at hdef o5 hz5
    refine joinI (fun (_ : Unit) w' => DA S w' s (Go.Sort.fixUp ltInt b q' g5) ∧ (Go.Sort.fixUp ltInt b q' g5).size = d.size ∧ Fr (OwnB s) w w') ?_ ?_
    · unfold Go.Sort.fixUp
      refine condD (fun h2 => ?_) fun h2 => ?_
      · have h2 : ((b - q' : Nat) : Int) ≥ 2 := h2
        rw [if_pos (show b - q' ≥ 2 by omega)]
        refine joinK ?_
        refine loopI (fun t w' => ∃ (k : Nat) (g : Array Int), t = (k : Int) ∧ 1 ≤ k ∧ k ≤ b ∧ DA S w' s g ∧ g.size = d.size ∧ Go.Sort.shiftUp ltInt b k g = Go.Sort.shiftUp ltInt b (q' + 1) g5 ∧ Fr (OwnB s) w w') (fun t _ => b - t.toNat) ⟨q' + 1, g5, rfl, by omega, by omega, o5, hz5, rfl, f5⟩ ?_
        rintro t w6 ⟨k, g, rfl, hk1, hkb, o6, hz6, he6, f6⟩
        have hdf := Go.Sort.shiftUp.eq_def ltInt b k g
        refine condD (fun hlt2 => ?_) fun hlt2 => ?_
        · have hlt2 : (k : Int) < (b : Int) := hlt2
          rw [if_pos (show k < b by omega)] at hdf
          have e8 : IntKind.wrap .i64 ((k : Int) - 1) = ((k - 1 : Nat) : Int) := wn (by omega) (by omega)
          have fd5 : Fr None w6 w6.drew := (Fr.refl _ _).drew
          refine rdA (o6.none fd5) rfl (by omega) (rdA (o6.none fd5) e8 (by omega) (spec_Less_byte ?_))
          refine condI (fun hbb => ?_) fun hbb => ?_
          · rw [if_pos (show (!ltInt g[k]! g[k - 1]!) = true from hbb)] at hdf
            rw [← he6, hdf]
            exact ⟨o6.none fd5, hz6, f6.then fd5.any⟩
          · rw [if_neg (show ¬ (!ltInt g[k]! g[k - 1]!) = true from fun h => by rw [show (!ltInt g[k]! g[k - 1]!) = false from hbb] at h; cases h)] at hdf
            have fd6 := fd5.then0 (Fr.refl None w6.drew).drew
            have e9 : IntKind.wrap .i64 ((k : Int) + 1) = ((k + 1 : Nat) : Int) := wn (by omega) (by omega)
            refine swpA (o6.none fd6) rfl e8 (by omega) (by omega) fun w7 o7 f7 => ⟨⟨k + 1, _, e9, by omega, by omega, o7, by rw [szs]; exact hz6, by rw [← hdf, he6], (f6.then fd6.any).then f7⟩, by rw [e9]; omega⟩
        · have hlt2 : ¬ (k : Int) < (b : Int) := hlt2
          rw [if_neg (show ¬ k < b by omega)] at hdf
          rw [← he6, hdf]
          exact ⟨o6, hz6, f6⟩
      · have h2 : ¬ ((b - q' : Nat) : Int) ≥ 2 := h2
        rw [if_neg (show ¬ b - q' ≥ 2 by omega)]
        exact ⟨o5, hz5, f5⟩
    rintro _ w6 ⟨o6, hz6, f6⟩
    have e8 : IntKind.wrap .i64 (5 - ((m + 1 : Nat) : Int) + 1) = 5 - (m : Int) := by rw [w64 (by omega)]; omega
    exact ⟨⟨q', m, _, by rw [e8], by omega, by omega, by omega, o6, hz6, by rw [← hdef, he], f6⟩, by
      show (5 - IntKind.wrap .i64 (5 - ((m + 1 : Nat) : Int) + 1)).toNat < (5 - (5 - ((m + 1 : Nat) : Int))).toNat
      rw [e8]; omega⟩
end

end Go.Proofs.YtkblnhnjagemlaaGreat

namespace Go.Proofs.YtkblnhnjagemlaaGreat
open Go Go.RowKit Go.Proofs.YtkblnhnjagemlaaGreat.Den
open Go.Sort (swp ltInt PermIn SortedIn)
variable {R : Type} {Q : R → World → Prop} {w : World}
section
variable {ok : Nat → Prop} {S : Nat → Prop} {s : Sl} {d : Array Int}
theorem rdS (h : SlT ok w bT s d.toList) {ie : Int} {j : Nat} (hi : ie = (j : Int)) (hj : j < d.size) {K : Int → W R} (hk : K d[j]! Q w) : idxW s.a s.n 1 ie (fun a => ld (.sc (.int .u8)) a K) Q w := by
  refine h.get rfl hi (by simpa using hj) fun x hx => ?_
  rw [Array.getElem?_toList] at hx
  have e : d[j]! = x := by
    rw [getElem!_pos d j hj]
    exact (Array.getElem?_eq_some_iff.1 hx).2
  rw [e] at hk
  exact hk

/-! ### the pivot -/
/-- swaps is counted in block g. -/
structure Cnt (ok : Nat → Prop) (g : Nat) (s : Sl) (d : Array Int) (w : World) : Prop where
  sl : SlT ok w bT s d.toList
  ne : ∀ k, ok k → k ≠ g
  blk : ∃ n : Int, Blk w g 3 [.int .i64 n]
theorem Cnt.drew {g : Nat} (h : Cnt ok g s d w) {w' : World} (f : Fr None w w') : Cnt ok g s d w' := ⟨h.sl.fr0 f, h.ne, by obtain ⟨n, B⟩ := h.blk; exact ⟨n, B.fr f fun h => h⟩⟩
theorem spec_order2 {g : Nat} (h : Cnt ok g s d w) {a b : Nat} (ha : a < d.size) (hb : b < d.size) {K : Res [.sc (.int .i64), .sc (.int .i64)] → W R}
    (hk : ∀ p q w', (p = a ∧ q = b) ∨ (p = b ∧ q = a) → Cnt ok g s d w' → Fr (fun k => k = g) w w' → K ((p : Int), (q : Int)) Q w') :
    callW Tryz.prog k_slices_order2Ordered_byte [.slice s.a s.n s.c, .int .i64 (a : Int), .int .i64 (b : Int), .pointer (some ⟨g, 0, none⟩)] [.sc (.int .i64), .sc (.int .i64)] K Q w := by
  refine C_slices_order2Ordered_byte _ _ _ _ K Q w ?_
  unfold F_slices_order2Ordered_byte
  have fd : Fr None w w.drew := (Fr.refl _ _).drew
  have hd := h.drew fd
  refine rdS hd.sl rfl hb (rdS hd.sl rfl ha (spec_Less_byte ?_))
  refine condI (fun _ => ?_) fun _ => hk a b _ (.inl ⟨rfl, rfl⟩) hd fd.any
  obtain ⟨n, B⟩ := hd.blk
  refine ptrI (fld0 (i := 0) (x := n) B rfl ?_)
  refine ptrI (stoAll B rfl rfl fun w2 B2 f2 s2 => ?_)
  refine hk b a w2 (.inr ⟨rfl, rfl⟩) ⟨hd.sl.fr f2 fun k hk e => hd.ne k hk e, hd.ne, _, B2⟩ (fd.any.then f2)
theorem spec_median {g : Nat} (h : Cnt ok g s d w) {a b c : Nat} (ha : a < d.size) (hb : b < d.size) (hc : c < d.size) {K : Res [.sc (.int .i64)] → W R}
    (hk : ∀ p w', (p = a ∨ p = b ∨ p = c) → Cnt ok g s d w' → Fr (fun k => k = g) w w' → K (p : Int) Q w') :
    callW Tryz.prog k_slices_medianOrdered_byte [.slice s.a s.n s.c, .int .i64 (a : Int), .int .i64 (b : Int), .int .i64 (c : Int), .pointer (some ⟨g, 0, none⟩)] [.sc (.int .i64)] K Q w := by
  refine C_slices_medianOrdered_byte _ _ _ _ _ K Q w ?_
  unfold F_slices_medianOrdered_byte
  refine spec_order2 h ha hb fun p q w1 h1 c1 f1 => ?_
  refine spec_order2 c1 (a := q) (b := c) (by omega) hc fun p2 q2 w2 h2 c2 f2 => ?_
  refine spec_order2 c2 (a := p) (b := p2) (by omega) (by omega) fun p3 q3 w3 h3 c3 f3 => ?_
  exact hk q3 w3 (by omega) c3 ((f1.then f2).then f3)
theorem spec_medianAdj {g : Nat} (h : Cnt ok g s d w) (hm : d.size ≤ 1048576) {a : Nat} (ha : 1 ≤ a) (hb : a + 1 < d.size) {K : Res [.sc (.int .i64)] → W R}
    (hk : ∀ p w', (p = a - 1 ∨ p = a ∨ p = a + 1) → Cnt ok g s d w' → Fr (fun k => k = g) w w' → K (p : Int) Q w') :
    callW Tryz.prog k_slices_medianAdjacentOrdered_byte [.slice s.a s.n s.c, .int .i64 (a : Int), .pointer (some ⟨g, 0, none⟩)] [.sc (.int .i64)] K Q w := by
  refine C_slices_medianAdjacentOrdered_byte _ _ _ K Q w ?_
  unfold F_slices_medianAdjacentOrdered_byte
  rw [show IntKind.wrap .i64 ((a : Int) - 1) = ((a - 1 : Nat) : Int) from wn (by omega) (by omega), show IntKind.wrap .i64 ((a : Int) + 1) = ((a + 1 : Nat) : Int) from wn (by omega) (by omega)]
  exact spec_median h (by omega) (by omega) (by omega) hk
theorem spec_pivot (h : DA S w s d) (hm : d.size ≤ 1048576) {a b : Nat} (hab : a < b) (hb : b ≤ d.size) {K : Res [.sc (.int .i64), .sc (.int .i64)] → W R}
    (hk : ∀ (p : Nat) (z : Int) w', a ≤ p → p < b → Fr None w w' → K ((p : Int), z) Q w') :
    callW Tryz.prog k_slices_choosePivotOrdered_byte [.slice s.a s.n s.c, .int .i64 (a : Int), .int .i64 (b : Int)] [.sc (.int .i64), .sc (.int .i64)] K Q w := by
  refine C_slices_choosePivotOrdered_byte _ _ _ K Q w ?_
  unfold F_slices_choosePivotOrdered_byte
  have e1 : IntKind.wrap .i64 ((b : Int) - (a : Int)) = ((b - a : Nat) : Int) := wn (by omega) (by omega)
  have e2 : IntKind.wrap .i64 (Int.tdiv ((b - a : Nat) : Int) 4) = (((b - a) / 4 : Nat) : Int) := wn (by rw [Int.tdiv_eq_ediv_of_nonneg (by omega)]; omega) (by omega)
  have e3 : ∀ n : Nat, n ≤ 3 → IntKind.wrap .i64 ((a : Int) + IntKind.wrap .i64 ((((b - a) / 4 : Nat) : Int) * (n : Int))) = ((a + (b - a) / 4 * n : Nat) : Int) := fun n hn => by
    have h1 : (b - a) / 4 * n ≤ (b - a) / 4 * 3 := Nat.mul_le_mul_left _ hn
    rw [wn (x := (((b - a) / 4 : Nat) : Int) * (n : Int)) (n := (b - a) / 4 * n) (by push_cast; rfl) (by omega)]
    exact wn (by push_cast; rfl) (by omega)
  have i1 := e3 1 (by omega)
  have i2 := e3 2 (by omega)
  have i3 := e3 3 (by omega)
  rw [e1, e2]
  rw [show (((1 : Nat) : Int)) = 1 from rfl] at i1
  rw [show (((2 : Nat) : Int)) = 2 from rfl] at i2
  rw [show (((3 : Nat) : Int)) = 3 from rfl] at i3
  rw [i1, i2, i3]
  have j1 : a ≤ a + (b - a) / 4 * 1 ∧ a + (b - a) / 4 * 1 < b := by omega
  have j2 : a ≤ a + (b - a) / 4 * 2 ∧ a + (b - a) / 4 * 2 < b := by omega
  have j3 : a ≤ a + (b - a) / 4 * 3 ∧ a + (b - a) / 4 * 3 < b := by omega
  have k1 : 50 ≤ b - a → 1 ≤ a + (b - a) / 4 * 1 ∧ a + (b - a) / 4 * 1 - 1 ≥ a ∧ a + (b - a) / 4 * 1 + 1 < b := by omega
  have k2 : 50 ≤ b - a → 1 ≤ a + (b - a) / 4 * 2 ∧ a + (b - a) / 4 * 2 - 1 ≥ a ∧ a + (b - a) / 4 * 2 + 1 < b := by omega
  have k3 : 50 ≤ b - a → 1 ≤ a + (b - a) / 4 * 3 ∧ a + (b - a) / 4 * 3 - 1 ≥ a ∧ a + (b - a) / 4 * 3 + 1 < b := by omega
  generalize a + (b - a) / 4 * 1 = A1 at j1 k1
  generalize a + (b - a) / 4 * 2 = A2 at j2 k2
  generalize a + (b - a) / 4 * 3 = A3 at j3 k3
  clear i1 i2 i3 e3
  have hsl : SlT (fun k => k < w.heap.size) w bT s d.toList := h.sl.mono fun k hk _ => hk
  refine newI fun w1 B1 f1 s1 => ?_
  have hc : Cnt (fun k => k < w.heap.size) w.heap.size s d w1 := ⟨hsl.fr0 f1, fun k hk => by omega, 0, B1⟩
  refine joinI (fun (p : Int) w' => ∃ q : Nat, p = (q : Int) ∧ a ≤ q ∧ q < b ∧ Cnt (fun k => k < w.heap.size) w.heap.size s d w' ∧ Fr (fun k => k = w.heap.size) w1 w') ?_ ?_
  · refine condD (fun h8 => ?_) fun h8 => ⟨A2, rfl, j2.1, j2.2, hc, Fr.refl _ _⟩
    have h8 : ((b - a : Nat) : Int) ≥ 8 := h8
    refine joinI (fun (t : Int × Int × Int) w' => ∃ x y z : Nat, t = ((x : Int), (y : Int), (z : Int)) ∧ (a ≤ x ∧ x < b) ∧ (a ≤ y ∧ y < b) ∧ (a ≤ z ∧ z < b) ∧ Cnt (fun k => k < w.heap.size) w.heap.size s d w' ∧ Fr (fun k => k = w.heap.size) w1 w') ?_ ?_
    · refine condD (fun h50 => ?_) fun h50 => ⟨A1, A2, A3, rfl, j1, j2, j3, hc, Fr.refl _ _⟩
      have h50 : ((b - a : Nat) : Int) ≥ 50 := h50
      have k1 := k1 (by omega)
      have k2 := k2 (by omega)
      have k3 := k3 (by omega)
      refine spec_medianAdj hc hm (by omega) (by omega) fun x w2 h2 c2 f2 => ?_
      refine spec_medianAdj c2 hm (by omega) (by omega) fun y w3 h3 c3 f3 => ?_
      refine spec_medianAdj c3 hm (by omega) (by omega) fun z w4 h4 c4 f4 => ?_
      exact ⟨x, y, z, rfl, by omega, by omega, by omega, c4, (f2.then f3).then f4⟩
    · rintro t w2 ⟨x, y, z, rfl, h1, h2, h3, c2, f2⟩
      refine spec_median c2 (a := x) (b := y) (c := z) (by omega) (by omega) (by omega) fun p w3 h4 c3 f3 => ⟨p, rfl, by omega, by omega, c3, f2.then f3⟩
  · rintro p w2 ⟨q, rfl, h1, h2, c2, f2⟩
    obtain ⟨n, B⟩ := c2.blk
    have fin : Fr None w w2 := f1.newer f2 fun k e => by omega
    refine fld0 (i := 0) (x := n) B rfl ?_
    exact condI (fun _ => hk q 1 w2 h1 h2 fin) fun _ => condI (fun _ => hk q 2 w2 h1 h2 fin) fun _ => hk q 0 w2 h1 h2 fin

/-! ### patterns broken -/
theorem wrap64_range (x : Int) : 0 ≤ IntKind.wrap .u64 x ∧ IntKind.wrap .u64 x ≤ 18446744073709551615 := by rw [IntKind.wrap_u64]; omega
theorem bAnd_le {x y : Int} (h0 : 0 ≤ y) (h1 : y ≤ 18446744073709551615) : 0 ≤ bAnd .u64 x y ∧ bAnd .u64 x y ≤ y := by
  unfold bAnd
  have e : ((BitVec.ofInt 64 y).toNat : Int) = y := by
    rw [BitVec.toNat_ofInt]
    have : (2 : Int) ^ 64 = 18446744073709551616 := by decide
    omega
  have h2 : (BitVec.ofInt IntKind.u64.bits x &&& BitVec.ofInt IntKind.u64.bits y).toNat ≤ (BitVec.ofInt 64 y).toNat := by
    rw [BitVec.toNat_and]; exact Nat.and_le_right
  have h3 : (((BitVec.ofInt IntKind.u64.bits x &&& BitVec.ofInt IntKind.u64.bits y).toNat : Nat) : Int) ≤ y := by omega
  rw [IntKind.wrap_u64]
  omega
theorem spec_xorshift {g : Nat} {T : TypeId} {v : Int} (B : Blk w g T [.int .u64 v]) {K : Res [.sc (.int .u64)] → W R} (hk : ∀ x w', Blk w' g T [.int .u64 x] → Fr (fun k => k = g) w w' → K x Q w') :
    callW Tryz.prog k_slices_xorshift_Next [.pointer (some ⟨g, 0, none⟩)] [.sc (.int .u64)] K Q w := by
  refine C_slices_xorshift_Next _ K Q w ?_
  unfold F_slices_xorshift_Next
  refine ptrI (fld0 (i := 0) (x := v) B.drew rfl (ptrI (fld0 (i := 0) (x := v) B.drew rfl (ptrI (stoAll B.drew rfl rfl fun w1 B1 f1 _ => ?_)))))
  refine ptrI (fld0 (i := 0) B1.drew rfl (ptrI (fld0 (i := 0) B1.drew rfl (ptrI (stoAll B1.drew rfl rfl fun w2 B2 f2 _ => ?_)))))
  refine ptrI (fld0 (i := 0) B2.drew rfl (ptrI (fld0 (i := 0) B2.drew rfl (ptrI (stoAll B2.drew rfl rfl fun w3 B3 f3 _ => ?_)))))
  have fd : ∀ {v : World}, Fr (fun k => k = g) v v.drew := fun {v} => (Fr.refl _ v).drew
  exact ptrI (fld0 (i := 0) B3 rfl (hk _ w3 B3 (((fd.then f1).then (fd.then f2)).then (fd.then f3))))
theorem pow_bitLen {n : Nat} (h : 0 < n) (hn : n ≤ 1048576) : 1 ≤ Lib.bitLen n ∧ Lib.bitLen n ≤ 21 ∧ 2 ^ Lib.bitLen n ≤ 2 * n := by
  obtain ⟨h1, h2, _⟩ := Lib.bitLenAux_bounds 64 n (by omega) (by omega)
  have e : Lib.bitLen n = Lib.bitLenAux 64 n := rfl
  rw [← e] at h1 h2
  refine ⟨h1, ?_, ?_⟩
  · have : 2 ^ (Lib.bitLen n - 1) ≤ 2 ^ 20 := by have : (2 : Nat) ^ 20 = 1048576 := by decide
                                                 omega
    have := (Nat.pow_le_pow_iff_right (by omega : 1 < 2)).1 this
    omega
  · have : 2 ^ Lib.bitLen n = 2 * 2 ^ (Lib.bitLen n - 1) := by
      rw [← Nat.pow_succ', Nat.succ_eq_add_one, Nat.sub_add_cancel h1]
    omega
theorem spec_break (h : DA S w s d) (hm : d.size ≤ 1048576) {a b : Nat} (hab : a < b) (hb : b ≤ d.size) {K : Res [] → W R} (hk : ∀ d' w', DA S w' s d' → PermIn a b d d' → Fr (OwnB s) w w' → K () Q w') :
    callW Tryz.prog k_slices_breakPatternsOrdered_byte [.slice s.a s.n s.c, .int .i64 (a : Int), .int .i64 (b : Int)] [] K Q w := by
  refine C_slices_breakPatternsOrdered_byte _ _ _ K Q w ?_
  unfold F_slices_breakPatternsOrdered_byte
  have e1 : IntKind.wrap .i64 ((b : Int) - (a : Int)) = ((b - a : Nat) : Int) := wn (by omega) (by omega)
  rw [e1]
  have e2 : IntKind.wrap .i64 (Int.tdiv ((b - a : Nat) : Int) 4) = (((b - a) / 4 : Nat) : Int) := wn (by rw [Int.tdiv_eq_ediv_of_nonneg (by omega)]; omega) (by omega)
  have e3 : IntKind.wrap .i64 ((((b - a) / 4 : Nat) : Int) * 2) = (((b - a) / 4 * 2 : Nat) : Int) := wn (by push_cast; rfl) (by omega)
  have e4 : IntKind.wrap .i64 ((a : Int) + (((b - a) / 4 * 2 : Nat) : Int)) = ((a + (b - a) / 4 * 2 : Nat) : Int) := wn (by push_cast; rfl) (by omega)
  have e5 : IntKind.wrap .i64 (((a + (b - a) / 4 * 2 : Nat) : Int) + 1) = ((a + (b - a) / 4 * 2 + 1 : Nat) : Int) := wn (by push_cast; rfl) (by omega)
  rw [e2, e3, e4, e5]
  refine joinI (fun (_ : Unit) w' => ∃ d', DA S w' s d' ∧ PermIn a b d d' ∧ Fr (OwnB s) w w') ?_ fun _ w' ⟨d', o, p, f⟩ => hk d' w' o p f
  refine condD (fun h8 => ?_) fun h8 => ⟨d, h, Go.Sort.permIn_refl _ _ _, Fr.refl _ _⟩
  have h8 : ((b - a : Nat) : Int) ≥ 8 := h8
  have e6 : IntKind.wrap .i64 (((a + (b - a) / 4 * 2 : Nat) : Int) - 1) = ((a + (b - a) / 4 * 2 - 1 : Nat) : Int) := wn (by omega) (by omega)
  rw [e6]
  refine newI fun w1 B1 f1 s1 => stoAll B1 rfl rfl fun w2 B2 f2 s2 => ?_
  have f02 : Fr None w w2 := f1.newer f2 fun k e => by omega
  refine C_slices_nextPowerOfTwo _ _ _ w2 ?_
  unfold F_slices_nextPowerOfTwo
  have e7 : IntKind.wrap .u64 ((b - a : Nat) : Int) = ((b - a : Nat) : Int) := by rw [IntKind.wrap_u64]; omega
  rw [e7]
  refine spec_bits_Len (by omega) (by omega) (chkI (by omega) ?_)
  rw [Int.toNat_natCast]
  obtain ⟨l1, l2, l3⟩ := pow_bitLen (n := b - a) (by omega) (by omega)
  generalize hL : Lib.bitLen (b - a) = L at l1 l2 l3
  have e8 : shL .u64 1 (L : Int) = ((2 ^ L : Nat) : Int) := by
    unfold shL
    rw [Int.toNat_natCast, show min L IntKind.u64.bits = L from Nat.min_eq_left (by show L ≤ 64; omega), IntKind.wrap_u64]
    have : (1 : Int) * 2 ^ L = ((2 ^ L : Nat) : Int) := by rw [Int.one_mul]; push_cast; rfl
    rw [this]
    generalize 2 ^ L = M at l3
    omega
  rw [e8]
  have hpos : 0 < 2 ^ L := Nat.pow_pos (by omega)
  generalize 2 ^ L = M at l3 hpos
  have e9 : IntKind.wrap .u64 ((M : Int) - 1) = (M : Int) - 1 := by rw [IntKind.wrap_u64]; omega
  unfold retW
  dsimp only
  rw [e9]
  have o2 : DA (fun k => S k ∧ k < w.heap.size) w2 s d := Own.st h f02 fun k hk e => ⟨fun h => h, e, hk⟩
  refine loopI (fun i w' => ∃ (n : Nat) (e : Array Int), i = (n : Int) ∧ a + (b - a) / 4 * 2 - 1 ≤ n ∧ n ≤ a + (b - a) / 4 * 2 + 2 ∧ (∃ v : Int, Blk w' w.heap.size 325 [.int .u64 v]) ∧ DA (fun k => S k ∧ k < w.heap.size) w' s e ∧ PermIn a b d e ∧ Fr (fun k => OwnB s k ∨ k = w.heap.size) w2 w') (fun i _ => a + (b - a) / 4 * 2 + 2 - i.toNat)
    ⟨_, d, rfl, Nat.le_refl _, by omega, ⟨_, B2⟩, o2, Go.Sort.permIn_refl _ _ _, Fr.refl _ _⟩ ?_
  rintro i w3 ⟨n, e, rfl, hn1, hn2, ⟨v, B3⟩, o3, hp, f3⟩
  have hz := hp.1
  refine condD (fun hle => ?_) fun hgt => ?_
  · have hle : (n : Int) ≤ ((a + (b - a) / 4 * 2 + 1 : Nat) : Int) := hle
    refine spec_xorshift B3 fun x w4 B4 f4 => ?_
    have o4 : DA (fun k => S k ∧ k < w.heap.size) w4 s e := o3.fr f4 fun k hk e => by omega
    obtain ⟨g1, g2⟩ := bAnd_le (x := x) (y := (M : Int) - 1) (by omega) (by omega)
    generalize bAnd .u64 x ((M : Int) - 1) = y at g1 g2
    have ey : IntKind.wrap .i64 y = y := w64 (by omega)
    rw [ey]
    refine joinI (fun (z : Int) w' => w' = w4 ∧ ∃ q : Nat, z = (q : Int) ∧ q < b - a) ?_ ?_
    · refine condD (fun h1 => ⟨rfl, (y - ((b - a : Nat) : Int)).toNat, ?_, ?_⟩) fun h1 => ⟨rfl, y.toNat, by omega, ?_⟩
      · have h1 : y ≥ ((b - a : Nat) : Int) := h1
        rw [w64 (by omega)]; omega
      · have h1 : y ≥ ((b - a : Nat) : Int) := h1
        omega
      · have h1 : ¬ y ≥ ((b - a : Nat) : Int) := h1
        omega
    · rintro z w5 ⟨rfl, q, rfl, hq⟩
      have fd : Fr None w5 w5.drew := (Fr.refl _ _).drew
      have e10 : IntKind.wrap .i64 ((a : Int) + (q : Int)) = ((a + q : Nat) : Int) := wn (by push_cast; rfl) (by omega)
      refine swpA (o4.none fd) rfl e10 (by omega) (by omega) fun w6 o6 f6 => ?_
      have e11 : IntKind.wrap .i64 ((n : Int) + 1) = ((n + 1 : Nat) : Int) := wn (by push_cast; rfl) (by omega)
      refine ⟨⟨n + 1, _, e11, by omega, by omega, ⟨x, (B4.fr fd fun h => h).fr f6 fun hk => ?_⟩, o6, Go.Sort.permIn_trans _ _ _ _ _ hp (Go.Sort.swp_permIn _ _ _ _ _ (by omega) (by omega) (by omega) (by omega) (by omega)), ?_⟩, by rw [e11]; omega⟩
      · have := (o4.own _ hk).2; omega
      · exact ((f3.then (f4.sub fun k e => .inr e)).then fd.any).then (f6.sub fun k e => .inl e)
  · refine ⟨e, o3.mono fun k _ h => h.1, hp, ?_⟩
    refine f02.trans f3 (fun _ h => h.elim) fun k hk e => ?_
    rcases e with e | e
    · exact e
    · omega
end

end Go.Proofs.YtkblnhnjagemlaaGreat
