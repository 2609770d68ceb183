/-
  slices.Sort of bytes: partitions, and insertion in part.
-/
import Derived.Test.YtecmpmnaeciapaaGreatSort3
namespace Go.Proofs.YtecmpmnaeciapaaGreat
open Go Go.RowKit Go.Proofs.YtecmpmnaeciapaaGreat.Den
open Go.Sort (swp ltInt PermIn SortedIn)
variable {R : Type} {Q : R → World → Prop} {w : World}
section
variable {S : Nat → Prop} {s : Sl} {d : Array Int}

theorem spec_partEq (h : DA S w s d) (hm : d.size ≤ 1048576) {a b pivot : Nat} (h1 : a ≤ pivot) (h2 : pivot < b) (hb : b ≤ d.size) {K : Res [.sc (.int .i64)] → W R}
    (hk : ∀ w', DA S w' s (Go.Sort.partitionEqual ltInt d a b pivot).2 → Fr (OwnB s) w w' → K ((Go.Sort.partitionEqual ltInt d a b pivot).1 : Int) Q w') :
    callW Tryz.prog k_slices_partitionEqualOrdered_byte [.slice s.a s.n s.c, .int .i64 (a : Int), .int .i64 (b : Int), .int .i64 (pivot : Int)] [.sc (.int .i64)] K Q w := by
  refine C_slices_partitionEqualOrdered_byte _ _ _ _ K Q w ?_
  unfold F_slices_partitionEqualOrdered_byte
  have fd : Fr None w w.drew := (Fr.refl _ _).drew
  refine swpA (h.none fd) rfl rfl (by omega) (by omega) fun w1 o1 f1 => ?_
  have e1 : IntKind.wrap .i64 ((a : Int) + 1) = ((a + 1 : Nat) : Int) := wn (by omega) (by omega)
  have e2 : IntKind.wrap .i64 ((b : Int) - 1) = ((b - 1 : Nat) : Int) := wn (by omega) (by omega)
  rw [e1, e2]
  generalize hr : Go.Sort.partitionEqual ltInt d a b pivot = r at hk
  refine loopI (fun (st : Int × Int) w' => ∃ (i j : Nat) (e : Array Int), st = ((i : Int), (j : Int)) ∧ a < i ∧ i ≤ b ∧ j < b ∧ DA S w' s e ∧ e.size = d.size ∧ Go.Sort.partEqLoop ltInt a i j e = r ∧ Fr (OwnB s) w w') (fun st _ => (st.2 + 1 - st.1).toNat)
    ⟨a + 1, b - 1, _, rfl, by omega, by omega, by omega, o1, szs _ _ _, by rw [← hr]; rfl, fd.any.then f1⟩ ?_
  rintro st w2 ⟨i, j, e, rfl, hi, hib, hj, o2, hz, he, f2⟩
  have hdef := Go.Sort.partEqLoop_eq ltInt a i j e
  refine scanUpI (fun x => !ltInt e[a]! x) e (jhi := (j : Int)) rfl (by omega) (i0 := i) (by omega) (fun q w' J h1 h2 f hJ => ?_) fun w3 f3 => ?_
  · exact rdA (o2.none f) rfl (by omega) (rdA (o2.none f) rfl (by omega) (spec_Less_byte hJ))
  have hge := Go.Sort.scanUp_ge (fun x => !ltInt e[a]! x) e j i
  generalize Go.Sort.scanUp (fun x => !ltInt e[a]! x) e j i = i2 at hdef hge ⊢
  refine scanDownI (fun x => ltInt e[a]! x) e (ilo := (i2 : Int)) rfl (by omega) (j0 := j) (by omega) (fun q w' J h1 h2 f hJ => ?_) fun w4 f4 => ?_
  · exact rdA ((o2.none f3).none f) rfl (by omega) (rdA ((o2.none f3).none f) rfl (by omega) (spec_Less_byte hJ))
  have hle := Go.Sort.scanDown_le (fun x => ltInt e[a]! x) e i2 j
  generalize Go.Sort.scanDown (fun x => ltInt e[a]! x) e i2 j = j2 at hdef hle ⊢
  have f24 := f3.then0 f4
  refine condD (fun hgt => ?_) fun hgt => ?_
  · have hgt : (i2 : Int) > (j2 : Int) := hgt
    rw [if_pos (show i2 > j2 by omega)] at hdef
    have : r = (i2, e) := by rw [← he, hdef]
    subst this
    exact hk w4 (o2.none f24) (f2.then f24.any)
  · have hgt : ¬ (i2 : Int) > (j2 : Int) := hgt
    rw [if_neg (show ¬ i2 > j2 by omega)] at hdef
    have fd4 : Fr None w4 w4.drew := (Fr.refl _ _).drew
    refine swpA ((o2.none f24).none fd4) rfl rfl (by omega) (by omega) fun w5 o5 f5 => ?_
    have e3 : IntKind.wrap .i64 ((i2 : Int) + 1) = ((i2 + 1 : Nat) : Int) := wn (by omega) (by omega)
    have e4 : IntKind.wrap .i64 ((j2 : Int) - 1) = ((j2 - 1 : Nat) : Int) := wn (by omega) (by omega)
    rw [e3, e4]
    refine ⟨⟨i2 + 1, j2 - 1, _, rfl, by omega, by omega, by omega, o5, by rw [szs]; exact hz, by rw [← hdef, he], (f2.then (f24.then0 fd4).any).then f5⟩, ?_⟩
    show (((j2 - 1 : Nat) : Int) + 1 - ((i2 + 1 : Nat) : Int)).toNat < ((j : Int) + 1 - (i : Int)).toNat
    omega

theorem spec_part (h : DA S w s d) (hm : d.size ≤ 1048576) {a b pivot : Nat} (h1 : a ≤ pivot) (h2 : pivot < b) (hb : b ≤ d.size) {K : Res [.sc (.int .i64), .sc .bool] → W R}
    (hk : ∀ w', DA S w' s (Go.Sort.partition ltInt d a b pivot).2.2 → Fr (OwnB s) w w' → K (((Go.Sort.partition ltInt d a b pivot).1 : Int), (Go.Sort.partition ltInt d a b pivot).2.1) Q w') :
    callW Tryz.prog k_slices_partitionOrdered_byte [.slice s.a s.n s.c, .int .i64 (a : Int), .int .i64 (b : Int), .int .i64 (pivot : Int)] [.sc (.int .i64), .sc .bool] K Q w := by
  refine C_slices_partitionOrdered_byte _ _ _ _ K Q w ?_
  unfold F_slices_partitionOrdered_byte
  have fd : Fr None w w.drew := (Fr.refl _ _).drew
  refine swpA (h.none fd) rfl rfl (by omega) (by omega) fun w1 o1 f1 => ?_
  have e1 : IntKind.wrap .i64 ((a : Int) + 1) = ((a + 1 : Nat) : Int) := wn (by omega) (by omega)
  have e2 : IntKind.wrap .i64 ((b : Int) - 1) = ((b - 1 : Nat) : Int) := wn (by omega) (by omega)
  rw [e1, e2]
  have hr : Go.Sort.partition ltInt d a b pivot = if Go.Sort.scanUp (fun x => ltInt x (swp d a pivot)[a]!) (swp d a pivot) (b - 1) (a + 1) > Go.Sort.scanDown (fun x => !ltInt x (swp d a pivot)[a]!) (swp d a pivot) (Go.Sort.scanUp (fun x => ltInt x (swp d a pivot)[a]!) (swp d a pivot) (b - 1) (a + 1)) (b - 1) then _ else _ := rfl
  generalize Go.Sort.partition ltInt d a b pivot = r at hk hr
  have hze := szs d a pivot
  generalize swp d a pivot = e at o1 hr hze
  have f01 := fd.any.then f1
  refine scanUpI (fun x => ltInt x e[a]!) e (jhi := ((b - 1 : Nat) : Int)) rfl (by omega) (i0 := a + 1) (by omega) (fun q w' J h1 h2 f hJ => ?_) fun w3 f3 => ?_
  · exact rdA (o1.none f) rfl (by omega) (rdA (o1.none f) rfl (by omega) (spec_Less_byte hJ))
  have hge := Go.Sort.scanUp_ge (fun x => ltInt x e[a]!) e (b - 1) (a + 1)
  generalize Go.Sort.scanUp (fun x => ltInt x e[a]!) e (b - 1) (a + 1) = i2 at hr hge ⊢
  refine scanDownI (fun x => !ltInt x e[a]!) e (ilo := (i2 : Int)) rfl (by omega) (j0 := b - 1) (by omega) (fun q w' J h1 h2 f hJ => ?_) fun w4 f4 => ?_
  · exact rdA ((o1.none f3).none f) rfl (by omega) (rdA ((o1.none f3).none f) rfl (by omega) (spec_Less_byte hJ))
  have hle := Go.Sort.scanDown_le (fun x => !ltInt x e[a]!) e i2 (b - 1)
  generalize Go.Sort.scanDown (fun x => !ltInt x e[a]!) e i2 (b - 1) = j2 at hr hle ⊢
  have f14 := f3.then0 f4
  have fd4 : Fr None w4 w4.drew := (Fr.refl _ _).drew
  have o4 := (o1.none f14).none fd4
  have f04 := f01.then (f14.then0 fd4).any
  refine condD (fun hgt => ?_) fun hgt => ?_
  · have hgt : (i2 : Int) > (j2 : Int) := hgt
    rw [if_pos (show i2 > j2 by omega)] at hr
    subst hr
    exact swpA o4 rfl rfl (by omega) (by omega) fun w5 o5 f5 => hk w5 o5 (f04.then f5)
  · have hgt : ¬ (i2 : Int) > (j2 : Int) := hgt
    rw [if_neg (show ¬ i2 > j2 by omega)] at hr
    refine swpA o4 rfl rfl (by omega) (by omega) fun w5 o5 f5 => ?_
    have e3 : IntKind.wrap .i64 ((i2 : Int) + 1) = ((i2 + 1 : Nat) : Int) := wn (by omega) (by omega)
    have e4 : IntKind.wrap .i64 ((j2 : Int) - 1) = ((j2 - 1 : Nat) : Int) := wn (by omega) (by omega)
    rw [e3, e4]
    generalize hrr : Go.Sort.partLoop ltInt a (i2 + 1) (j2 - 1) (swp e i2 j2) = rr at hr
    refine loopI (fun (st : Int × Int) w' => ∃ (i j : Nat) (g : Array Int), st = ((i : Int), (j : Int)) ∧ a < i ∧ i ≤ b ∧ j < b ∧ DA S w' s g ∧ g.size = d.size ∧ Go.Sort.partLoop ltInt a i j g = rr ∧ Fr (OwnB s) w w') (fun st _ => (st.2 + 1 - st.1).toNat)
      ⟨i2 + 1, j2 - 1, _, rfl, by omega, by omega, by omega, o5, by rw [szs]; exact hze, hrr, f04.then f5⟩ ?_
    rintro st w6 ⟨i, j, g, rfl, hi, hib, hj, o6, hz, he, f6⟩
    have hdef := Go.Sort.partLoop_eq ltInt a i j g
    refine scanUpI (fun x => ltInt x g[a]!) g (jhi := (j : Int)) rfl (by omega) (i0 := i) (by omega) (fun q w' J h1 h2 f hJ => ?_) fun w7 f7 => ?_
    · exact rdA (o6.none f) rfl (by omega) (rdA (o6.none f) rfl (by omega) (spec_Less_byte hJ))
    have hge2 := Go.Sort.scanUp_ge (fun x => ltInt x g[a]!) g j i
    generalize Go.Sort.scanUp (fun x => ltInt x g[a]!) g j i = i3 at hdef hge2 ⊢
    refine scanDownI (fun x => !ltInt x g[a]!) g (ilo := (i3 : Int)) rfl (by omega) (j0 := j) (by omega) (fun q w' J h1 h2 f hJ => ?_) fun w8 f8 => ?_
    · exact rdA ((o6.none f7).none f) rfl (by omega) (rdA ((o6.none f7).none f) rfl (by omega) (spec_Less_byte hJ))
    have hle2 := Go.Sort.scanDown_le (fun x => !ltInt x g[a]!) g i3 j
    generalize Go.Sort.scanDown (fun x => !ltInt x g[a]!) g i3 j = j3 at hdef hle2 ⊢
    have f68 := f7.then0 f8
    have fd8 : Fr None w8 w8.drew := (Fr.refl _ _).drew
    have o8 := (o6.none f68).none fd8
    have f08 := f6.then (f68.then0 fd8).any
    refine condD (fun hgt => ?_) fun hgt => ?_
    · have hgt : (i3 : Int) > (j3 : Int) := hgt
      rw [if_pos (show i3 > j3 by omega)] at hdef
      have : rr = (j3, g) := by rw [← he, hdef]
      subst this
      subst hr
      exact swpA o8 rfl rfl (by omega) (by omega) fun w9 o9 f9 => hk w9 o9 (f08.then f9)
    · have hgt : ¬ (i3 : Int) > (j3 : Int) := hgt
      rw [if_neg (show ¬ i3 > j3 by omega)] at hdef
      refine swpA o8 rfl rfl (by omega) (by omega) fun w9 o9 f9 => ?_
      have e5 : IntKind.wrap .i64 ((i3 : Int) + 1) = ((i3 + 1 : Nat) : Int) := wn (by omega) (by omega)
      have e6 : IntKind.wrap .i64 ((j3 : Int) - 1) = ((j3 - 1 : Nat) : Int) := wn (by omega) (by omega)
      rw [e5, e6]
      refine ⟨⟨i3 + 1, j3 - 1, _, rfl, by omega, by omega, by omega, o9, by rw [szs]; exact hz, by rw [← hdef, he], f08.then f9⟩, ?_⟩
      show (((j3 - 1 : Nat) : Int) + 1 - ((i3 + 1 : Nat) : Int)).toNat < ((j : Int) + 1 - (i : Int)).toNat
      omega

/-! ### insertion in part -/
theorem scanSorted_le (d : Array Int) (b : Nat) : ∀ (n i : Nat), b - i ≤ n → i ≤ Go.Sort.scanSorted ltInt d b i ∧ (i ≤ b → Go.Sort.scanSorted ltInt d b i ≤ b)
  | 0, i, hn => by
    rw [Go.Sort.scanSorted, if_neg (by simp; omega)]; exact ⟨Nat.le_refl _, fun h => h⟩
  | n + 1, i, hn => by
    rw [Go.Sort.scanSorted]
    split
    · rename_i h
      have hib : i < b := by simp only [Bool.and_eq_true, decide_eq_true_eq] at h; exact h.1
      obtain ⟨h1, h2⟩ := scanSorted_le d b n (i + 1) (by omega)
      exact ⟨by omega, fun _ => h2 (by omega)⟩
    · exact ⟨Nat.le_refl _, fun h => h⟩
theorem spec_partial (h : DA S w s d) (hm : d.size ≤ 1048576) {a b : Nat} (hab : a < b) (hb : b ≤ d.size) {K : Res [.sc .bool] → W R}
    (hk : ∀ w', DA S w' s (Go.Sort.partialInsertionSort ltInt d a b).1 → Fr (OwnB s) w w' → K (Go.Sort.partialInsertionSort ltInt d a b).2 Q w') :
    callW Tryz.prog k_slices_partialInsertionSortOrdered_byte [.slice s.a s.n s.c, .int .i64 (a : Int), .int .i64 (b : Int)] [.sc .bool] K Q w := by
  refine C_slices_partialInsertionSortOrdered_byte _ _ _ K Q w ?_
  unfold F_slices_partialInsertionSortOrdered_byte
  have e1 : IntKind.wrap .i64 ((a : Int) + 1) = ((a + 1 : Nat) : Int) := wn (by omega) (by omega)
  have e2 : IntKind.wrap .i64 ((b : Int) - (a : Int)) = ((b - a : Nat) : Int) := wn (by omega) (by omega)
  rw [e1, e2]
  generalize hr : Go.Sort.partialInsertionSort ltInt d a b = r at hk
  refine loopI (fun (st : Int × Int) w' => ∃ (i n : Nat) (e : Array Int), st = ((i : Int), 5 - (n : Int)) ∧ a < i ∧ i ≤ b ∧ n ≤ 5 ∧ DA S w' s e ∧ e.size = d.size ∧ Go.Sort.partialIns ltInt a b n i e = r ∧ Fr (OwnB s) w w') (fun st _ => (5 - st.2).toNat)
    ⟨a + 1, 5, d, rfl, by omega, by omega, by omega, h, rfl, by rw [← hr]; rfl, Fr.refl _ _⟩ ?_
  rintro st w1 ⟨i, n, e, rfl, hi, hib, hn, o1, hz, he, f1⟩
  refine condD (fun hlt => ?_) fun hge => ?_
  rotate_left
  · have hge : ¬ (5 - (n : Int)) < 5 := hge
    have : n = 0 := by omega
    subst this
    have he : (e, false) = r := he
    subst he
    exact hk w1 o1 f1
  have hlt : (5 - (n : Int)) < 5 := hlt
  obtain ⟨m, rfl⟩ : ∃ m, n = m + 1 := ⟨n - 1, by omega⟩
  have hdef := Go.Sort.partialIns_succ (lt := ltInt) a b m i e
  have hsc := scanSorted_le e b (b - i) i (Nat.le_refl _)
  -- the scan
  refine loopI (fun q w' => ∃ q' : Nat, q = (q' : Int) ∧ i ≤ q' ∧ q' ≤ b ∧ Go.Sort.scanSorted ltInt e b q' = Go.Sort.scanSorted ltInt e b i ∧ Fr None w1 w') (fun q _ => b - q.toNat) ⟨i, rfl, Nat.le_refl _, hib, rfl, Fr.refl _ _⟩ ?_
  rintro q w2 ⟨q', rfl, hq1, hq2, heq, f2⟩
  have f2d := f2.then0 (Fr.refl None w2).drew
  have hdq := Go.Sort.scanSorted.eq_def ltInt e b q'
  have e3 : IntKind.wrap .i64 ((q' : Int) - 1) = ((q' - 1 : Nat) : Int) := wn (by omega) (by omega)
  refine joinI (fun z w' => Fr None w1 w' ∧ z = (decide (q' < b) && !ltInt e[q']! e[q' - 1]!)) ?_ ?_
  · refine condD (fun h1 => ?_) fun h1 => ⟨f2d, ?_⟩
    · have h1 : (q' : Int) < (b : Int) := h1
      refine rdA (o1.none f2d) rfl (by omega) (rdA (o1.none f2d) e3 (by omega) (spec_Less_byte ⟨f2d, ?_⟩))
      rw [decide_eq_true (show q' < b by omega)]; rfl
    · have h1 : ¬ (q' : Int) < (b : Int) := h1
      rw [decide_eq_false (show ¬ q' < b by omega)]; rfl
  rintro z w3 ⟨f3, hzz⟩
  rw [← hzz] at hdq
  cases z with
  | true =>
    simp only [if_true] at hdq
    have hqb : q' < b := by
      have := hzz.symm
      simp only [Bool.and_eq_true, decide_eq_true_eq] at this
      exact this.1
    have e4 : IntKind.wrap .i64 ((q' : Int) + 1) = ((q' + 1 : Nat) : Int) := wn (by omega) (by omega)
    exact condT rfl ⟨⟨q' + 1, e4, by omega, by omega, by rw [← hdq, heq], f3⟩, by rw [e4]; omega⟩
  | false =>
    simp only [Bool.false_eq_true, if_false] at hdq
    rw [← heq, hdq] at hdef
    refine condF rfl ?_
    have o3 := o1.none f3
    have f03 := f1.then f3.any
    refine condE (fun eqb => ?_) fun neb => ?_
    · have eqb : q' = b := by omega
      rw [if_pos eqb] at hdef
      have : r = (e, true) := by rw [← he, hdef]
      subst this
      exact hk w3 o3 f03
    have neb : ¬ q' = b := fun h => neb (by rw [h])
    rw [if_neg neb] at hdef
    refine condD (fun h50 => ?_) fun h50 => ?_
    · have h50 : ((b - a : Nat) : Int) < 50 := h50
      rw [if_pos (show b - a < 50 by omega)] at hdef
      have : r = (e, false) := by rw [← he, hdef]
      subst this
      exact hk w3 o3 f03
    have h50 : ¬ ((b - a : Nat) : Int) < 50 := h50
    rw [if_neg (show ¬ b - a < 50 by omega)] at hdef
    have fd3 : Fr None w3 w3.drew := (Fr.refl _ _).drew
    refine swpA (o3.none fd3) rfl e3 (by omega) (by omega) fun w4 o4 f4 => ?_
    have f04 := (f03.then fd3.any).then f4
    have hz4 : (swp e q' (q' - 1)).size = d.size := by rw [szs]; exact hz
    generalize swp e q' (q' - 1) = g4 at hdef o4 hz4
    have e5 : IntKind.wrap .i64 ((q' : Int) - (a : Int)) = ((q' - a : Nat) : Int) := wn (by omega) (by omega)
    have e6 : IntKind.wrap .i64 ((b : Int) - (q' : Int)) = ((b - q' : Nat) : Int) := wn (by omega) (by omega)
    have e7 : IntKind.wrap .i64 ((q' : Int) + 1) = ((q' + 1 : Nat) : Int) := wn (by omega) (by omega)
    rw [e5, e6, e3, e7]
    refine joinI (fun (_ : Unit) w' => DA S w' s (Go.Sort.fixDown ltInt a q' g4) ∧ (Go.Sort.fixDown ltInt a q' g4).size = d.size ∧ Fr (OwnB s) w w') ?_ ?_
    · unfold Go.Sort.fixDown
      refine condD (fun h2 => ?_) fun h2 => ?_
      · have h2 : ((q' - a : Nat) : Int) ≥ 2 := h2
        rw [if_pos (show q' - a ≥ 2 by omega)]
        refine joinK ?_
        refine loopI (fun t w' => ∃ (k : Nat) (g : Array Int), t = (k : Int) ∧ k < b ∧ DA S w' s g ∧ g.size = d.size ∧ Go.Sort.shiftDown ltInt k g = Go.Sort.shiftDown ltInt (q' - 1) g4 ∧ Fr (OwnB s) w w') (fun t _ => t.toNat) ⟨q' - 1, g4, rfl, by omega, o4, hz4, rfl, f04⟩ ?_
        rintro t w5 ⟨k, g, rfl, hkb, o5, hz5, he5, f5⟩
        refine condD (fun hk1 => ?_) fun hk1 => ?_
        · have hk1 : (k : Int) ≥ 1 := hk1
          obtain ⟨k', rfl⟩ : ∃ k', k = k' + 1 := ⟨k - 1, by omega⟩
          have e8 : IntKind.wrap .i64 (((k' + 1 : Nat) : Int) - 1) = (k' : Int) := wn (by omega) (by omega)
          have fd5 : Fr None w5 w5.drew := (Fr.refl _ _).drew
          have hdf : Go.Sort.shiftDown ltInt (k' + 1) g = if (!ltInt g[k' + 1]! g[k']!) = true then g else Go.Sort.shiftDown ltInt k' (swp g (k' + 1) k') := rfl
          refine rdA (o5.none fd5) rfl (by omega) (rdA (o5.none fd5) e8 (by omega) (spec_Less_byte ?_))
          refine condI (fun hbb => ?_) fun hbb => ?_
          · rw [if_pos (show (!ltInt g[k' + 1]! g[k']!) = true from hbb)] at hdf
            rw [← he5, hdf]
            exact ⟨o5.none fd5, hz5, f5.then fd5.any⟩
          · rw [if_neg (show ¬ (!ltInt g[k' + 1]! g[k']!) = true from fun h => by rw [show (!ltInt g[k' + 1]! g[k']!) = false from hbb] at h; cases h)] at hdf
            have fd6 := fd5.then0 (Fr.refl None w5.drew).drew
            refine swpA (o5.none fd6) rfl e8 (by omega) (by omega) fun w6 o6 f6 => ⟨⟨k', _, e8, by omega, o6, by rw [szs]; exact hz5, by rw [← hdf, he5], (f5.then fd6.any).then f6⟩, by rw [e8]; omega⟩
        · have hk1 : ¬ (k : Int) ≥ 1 := hk1
          have : k = 0 := by omega
          subst this
          have he5 : g = _ := he5
          rw [← he5]
          exact ⟨o5, hz5, f5⟩
      · have h2 : ¬ ((q' - a : Nat) : Int) ≥ 2 := h2
        rw [if_neg (show ¬ q' - a ≥ 2 by omega)]
        exact ⟨o4, hz4, f04⟩
    rintro _ w5 ⟨o5, hz5, f5⟩
    generalize Go.Sort.fixDown ltInt a q' g4 = g5 at hdef o5 hz5
    refine joinI (fun (_ : Unit) w' => DA S w' s (Go.Sort.fixUp ltInt b q' g5) ∧ (Go.Sort.fixUp ltInt b q' g5).size = d.size ∧ Fr (OwnB s) w w') ?_ ?_
    · unfold Go.Sort.fixUp
      refine condD (fun h2 => ?_) fun h2 => ?_
      · have h2 : ((b - q' : Nat) : Int) ≥ 2 := h2
        rw [if_pos (show b - q' ≥ 2 by omega)]
        refine joinK ?_
        refine loopI (fun t w' => ∃ (k : Nat) (g : Array Int), t = (k : Int) ∧ 1 ≤ k ∧ k ≤ b ∧ DA S w' s g ∧ g.size = d.size ∧ Go.Sort.shiftUp ltInt b k g = Go.Sort.shiftUp ltInt b (q' + 1) g5 ∧ Fr (OwnB s) w w') (fun t _ => b - t.toNat) ⟨q' + 1, g5, rfl, by omega, by omega, o5, hz5, rfl, f5⟩ ?_
        rintro t w6 ⟨k, g, rfl, hk1, hkb, o6, hz6, he6, f6⟩
        have hdf := Go.Sort.shiftUp.eq_def ltInt b k g
        refine condD (fun hlt2 => ?_) fun hlt2 => ?_
        · have hlt2 : (k : Int) < (b : Int) := hlt2
          rw [if_pos (show k < b by omega)] at hdf
          have e8 : IntKind.wrap .i64 ((k : Int) - 1) = ((k - 1 : Nat) : Int) := wn (by omega) (by omega)
          have fd5 : Fr None w6 w6.drew := (Fr.refl _ _).drew
          refine rdA (o6.none fd5) rfl (by omega) (rdA (o6.none fd5) e8 (by omega) (spec_Less_byte ?_))
          refine condI (fun hbb => ?_) fun hbb => ?_
          · rw [if_pos (show (!ltInt g[k]! g[k - 1]!) = true from hbb)] at hdf
            rw [← he6, hdf]
            exact ⟨o6.none fd5, hz6, f6.then fd5.any⟩
          · rw [if_neg (show ¬ (!ltInt g[k]! g[k - 1]!) = true from fun h => by rw [show (!ltInt g[k]! g[k - 1]!) = false from hbb] at h; cases h)] at hdf
            have fd6 := fd5.then0 (Fr.refl None w6.drew).drew
            have e9 : IntKind.wrap .i64 ((k : Int) + 1) = ((k + 1 : Nat) : Int) := wn (by omega) (by omega)
            refine swpA (o6.none fd6) rfl e8 (by omega) (by omega) fun w7 o7 f7 => ⟨⟨k + 1, _, e9, by omega, by omega, o7, by rw [szs]; exact hz6, by rw [← hdf, he6], (f6.then fd6.any).then f7⟩, by rw [e9]; omega⟩
        · have hlt2 : ¬ (k : Int) < (b : Int) := hlt2
          rw [if_neg (show ¬ k < b by omega)] at hdf
          rw [← he6, hdf]
          exact ⟨o6, hz6, f6⟩
      · have h2 : ¬ ((b - q' : Nat) : Int) ≥ 2 := h2
        rw [if_neg (show ¬ b - q' ≥ 2 by omega)]
        exact ⟨o5, hz5, f5⟩
    rintro _ w6 ⟨o6, hz6, f6⟩
    have e8 : IntKind.wrap .i64 (5 - ((m + 1 : Nat) : Int) + 1) = 5 - (m : Int) := by rw [w64 (by omega)]; omega
    exact ⟨⟨q', m, _, by rw [e8], by omega, by omega, by omega, o6, hz6, by rw [← hdef, he], f6⟩, by
      show (5 - IntKind.wrap .i64 (5 - ((m + 1 : Nat) : Int) + 1)).toNat < (5 - (5 - ((m + 1 : Nat) : Int))).toNat
      rw [e8]; omega⟩
end

end Go.Proofs.YtecmpmnaeciapaaGreat
