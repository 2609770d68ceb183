/-
  What slices.Sort of few bytes computes.
-/
import Derived.Test.YtkblnhnjagemlaaGreatObj
import Derived.Test.YtkblnhnjagemlaaGreatFS
import Derived.Test.YtkblnhnjagemlaaGreatBits
namespace Go.Proofs.YtkblnhnjagemlaaGreat
open Go Go.RowKit Go.Proofs.YtkblnhnjagemlaaGreat.Den
variable {R : Type} {Q : R → World → Prop} {w : World}

abbrev bT : Ty := .sc (.int .u8)
def gi (m : List Int) (p : Nat) : Int := m[p]?.getD 0
theorem gi_at {m : List Int} {p : Nat} {x : Int} (h : m[p]? = some x) : gi m p = x := by rw [gi, h]; rfl
theorem gi_set {m : List Int} {q : Nat} {v : Int} (hq : q < m.length) (p : Nat) : gi (m.set q v) p = if p = q then v else gi m p := by
  unfold gi
  rw [List.getElem?_set]
  by_cases e : q = p
  · subst e; rw [if_pos rfl, if_pos hq, if_pos rfl]; rfl
  · rw [if_neg e, if_neg (fun h => e h.symm)]
def swapL (m : List Int) (i j : Nat) : List Int := (m.set j (gi m i)).set i (gi m j)
theorem swapL_len (m : List Int) (i j : Nat) : (swapL m i j).length = m.length := by simp [swapL]
theorem swapL_gi {m : List Int} {i j : Nat} (hi : i < m.length) (hj : j < m.length) (p : Nat) : gi (swapL m i j) p = if p = i then gi m j else if p = j then gi m i else gi m p := by
  unfold swapL
  rw [gi_set (by simpa using hi), gi_set hj]
theorem swapL_perm {m : List Int} {i j : Nat} (hi : i < m.length) (hj : j < m.length) : (swapL m i j).Perm m := by
  unfold swapL
  rw [gi_at (List.getElem?_eq_getElem hi), gi_at (List.getElem?_eq_getElem hj)]
  exact List.set_set_perm hj hi

theorem spec_Less_byte {x y : Int} {K : Res [.sc .bool] → W R} (hk : K (decide (x < y)) Q w) : callW Tryz.prog k_cmp_Less_byte [.int .u8 x, .int .u8 y] [.sc .bool] K Q w := by
  refine C_cmp_Less_byte _ _ K Q w ?_
  unfold F_cmp_Less_byte
  refine joinK (C_cmp_isNaN_byte _ _ _ _ ?_)
  unfold F_cmp_isNaN_byte
  exact condF (by simp) hk

/-- sorted up to i, but for what stands at j. -/
structure Ins (m : List Int) (i j : Nat) : Prop where
  a : ∀ p q, p < q → q ≤ i → p ≠ j → q ≠ j → gi m p ≤ gi m q
  b : ∀ q, j < q → q ≤ i → gi m j ≤ gi m q
def Srt (m : List Int) (i : Nat) : Prop := ∀ p q, p < q → q < i → gi m p ≤ gi m q
theorem Ins.start {m : List Int} {i : Nat} (h : Srt m i) : Ins m i i := ⟨fun p q h1 h2 h3 h4 => h p q h1 (by omega), fun q h1 h2 => by omega⟩
theorem Ins.swap {m : List Int} {i j : Nat} (h : Ins m i (j + 1)) (hj : j + 1 < m.length) (hlt : gi m (j + 1) < gi m j) : Ins (swapL m (j + 1) j) i j := by
  have e := swapL_gi (m := m) (i := j + 1) (j := j) hj (by omega)
  refine ⟨fun p q h1 h2 h3 h4 => ?_, fun q h1 h2 => ?_⟩
  · rw [e, e, if_neg h3, if_neg h4]
    by_cases hq : q = j + 1
    · subst hq
      rw [if_pos rfl, if_neg (by omega)]
      exact h.a p j (by omega) (by omega) (by omega) (by omega)
    · rw [if_neg hq]
      by_cases hp : p = j + 1
      · rw [if_pos hp]
        exact h.a j q (by omega) h2 (by omega) hq
      · rw [if_neg hp]
        exact h.a p q h1 h2 hp hq
  · rw [e, e, if_neg (by omega), if_pos rfl, if_neg (show q ≠ j by omega)]
    by_cases hq : q = j + 1
    · rw [if_pos hq]; omega
    · rw [if_neg hq]
      exact h.b q (by omega) h2
theorem Ins.done {m : List Int} {i j : Nat} (h : Ins m i j) (hd : j = 0 ∨ ∃ k, j = k + 1 ∧ gi m k ≤ gi m j) : Srt m (i + 1) := by
  intro p q h1 h2
  by_cases hp : p = j
  · subst hp; exact h.b q h1 (by omega)
  · by_cases hq : q = j
    · subst hq
      rcases hd with hd | ⟨k, rfl, hk⟩
      · omega
      · by_cases hpk : p = k
        · subst hpk; exact hk
        · exact Int.le_trans (h.a p k (by omega) (by omega) hp (by omega)) hk
    · exact h.a p q h1 (by omega) hp hq

theorem spec_insertionSort {S : Nat → Prop} {s : Sl} {l : List Int} (ho : Own S w 5 bT s l) (hm : l.length ≤ 1048576) {K : Res [] → W R} (hk : ∀ l' w', Own S w' 5 bT s l' → l'.Perm l → Srt l' l.length → Fr (fun k => s.v.ownBlock = some k) w w' → K () Q w') :
    callW Tryz.prog k_slices_insertionSortOrdered_byte [.slice s.a s.n s.c, .int .i64 0, .int .i64 (s.n : Int)] [] K Q w := by
  refine C_slices_insertionSortOrdered_byte _ _ _ K Q w ?_
  unfold F_slices_insertionSortOrdered_byte
  have hn : s.n = l.length := ho.len
  rw [show IntKind.wrap .i64 (0 + 1) = ((1 : Nat) : Int) from rfl]
  refine loopI (fun i w' => ∃ (n : Nat) (m : List Int), i = (n : Int) ∧ 1 ≤ n ∧ Own S w' 5 bT s m ∧ m.Perm l ∧ Srt m n ∧ Fr (fun k => s.v.ownBlock = some k) w w') (fun i _ => s.n - i.toNat) ⟨1, l, rfl, Nat.le_refl _, ho, List.Perm.refl _, fun p q h1 h2 => by omega, Fr.refl _ _⟩ ?_
  rintro i w1 ⟨n, m, rfl, hn1, o1, hp, hs, f1⟩
  have hml : m.length = l.length := hp.length_eq
  refine condD (fun hlt => ?_) fun hge => ?_
  · have hnl : n < l.length := by have : (n : Int) < (s.n : Int) := hlt; omega
    refine loopI (fun j w' => ∃ (q : Nat) (m : List Int), j = (q : Int) ∧ q ≤ n ∧ Own S w' 5 bT s m ∧ m.Perm l ∧ Ins m n q ∧ Fr (fun k => s.v.ownBlock = some k) w w') (fun j _ => j.toNat) ⟨n, m, rfl, Nat.le_refl _, o1, hp, Ins.start hs, f1⟩ ?_
    rintro j w2 ⟨q, m, rfl, hq, o2, hp, hI, f2⟩
    have hml : m.length = l.length := hp.length_eq
    have fd : Fr None w2 w2.drew := (Fr.refl _ _).drew
    have out : (q = 0 ∨ ∃ k, q = k + 1 ∧ gi m k ≤ gi m q) → ∃ (n' : Nat) (m : List Int), IntKind.wrap .i64 ((n : Int) + 1) = (n' : Int) ∧ 1 ≤ n' ∧ Own S w2.drew 5 bT s m ∧ m.Perm l ∧ Srt m n' ∧ Fr (fun k => s.v.ownBlock = some k) w w2.drew := fun h => ⟨n + 1, m, wsucc hnl (by omega), by omega, o2.none fd, hp, hI.done h, f2.then fd.any⟩
    have meas : s.n - (IntKind.wrap .i64 ((n : Int) + 1)).toNat < s.n - (n : Int).toNat := by rw [wsucc hnl (by omega)]; omega
    refine joinI (fun z w' => w' = w2.drew ∧ ((z = true ∧ ∃ k, q = k + 1 ∧ gi m q < gi m k) ∨ (z = false ∧ (q = 0 ∨ ∃ k, q = k + 1 ∧ gi m k ≤ gi m q)))) ?_ ?_
    · refine condD (fun h0 => ?_) fun h0 => ⟨rfl, .inr ⟨rfl, .inl (by have : ¬ (q : Int) > 0 := h0; omega)⟩⟩
      obtain ⟨k, rfl⟩ : ∃ k, q = k + 1 := ⟨q - 1, by have : (q : Int) > 0 := h0; omega⟩
      have e1 : IntKind.wrap .i64 (((k + 1 : Nat) : Int) - 1) = (k : Int) := by rw [w64 (by omega)]; omega
      refine (o2.none fd).sl.get (j := k + 1) rfl rfl (by omega) fun x hx => ?_
      refine (o2.none fd).sl.get (j := k) rfl e1 (by omega) fun y hy => spec_Less_byte ⟨rfl, ?_⟩
      by_cases h : x < y
      · exact .inl ⟨decide_eq_true h, k, rfl, by rw [gi_at hx, gi_at hy]; exact h⟩
      · exact .inr ⟨decide_eq_false h, .inr ⟨k, rfl, by rw [gi_at hx, gi_at hy]; exact Int.not_lt.1 h⟩⟩
    · rintro z w3 ⟨rfl, ⟨rfl, k, rfl, hlt2⟩ | ⟨rfl, hd⟩⟩
      · refine condT rfl ?_
        have e1 : IntKind.wrap .i64 (((k + 1 : Nat) : Int) - 1) = (k : Int) := by rw [w64 (by omega)]; omega
        have o3 := (o2.none fd).none (Fr.refl None w2.drew).drew
        have f3 := f2.then (fd.then0 (Fr.refl None w2.drew).drew).any
        refine o3.sl.get (j := k) rfl e1 (by omega) fun x hx => ?_
        refine o3.sl.get (j := k + 1) rfl rfl (by omega) fun y hy => ?_
        refine o3.idx rfl (by omega) (by omega) fun g u hg hu _ => ?_
        refine o3.set rfl (by omega) hg x fun w4 o4 f4 _ => ?_
        refine o4.idx rfl (by rw [e1]; omega) (by rw [e1]; simp; omega) fun g2 u2 hg2 hu2 _ => ?_
        refine o4.set rfl (by rw [e1]; simp; omega) hg2 y fun w5 o5 f5 _ => ?_
        have em : (m.set (k + 1 : Nat) x).set k y = swapL m k (k + 1) := by rw [swapL, gi_at hx, gi_at hy]
        have e2 : ((m.set ((k + 1 : Nat) : Int).toNat x).set (IntKind.wrap .i64 (((k + 1 : Nat) : Int) - 1)).toNat y) = swapL m (k + 1) k := by
          rw [e1, Int.toNat_natCast, Int.toNat_natCast, swapL, gi_at hx, gi_at hy, List.set_comm _ _ (by omega)]
        rw [e2] at o5
        refine ⟨⟨k, _, e1, by omega, o5, (swapL_perm (by omega) (by omega)).trans hp, hI.swap (by omega) hlt2, f3.then (f4.then f5)⟩, ?_⟩
        rw [e1]
        omega
      · exact condF rfl ⟨out hd, meas⟩
  · have : ¬ n < l.length := fun h => hge (show (n : Int) < (s.n : Int) by omega)
    exact hk m w1 o1 hp (fun p q h1 h2 => hs p q h1 (by omega)) f1

/-- few bytes are sorted. -/
theorem spec_Sort_few {S : Nat → Prop} {s : Sl} {l : List Int} (ho : Own S w 5 bT s l) (hm : l.length ≤ 12) {K : Res [] → W R} (hk : ∀ l' w', Own S w' 5 bT s l' → l'.Perm l → Srt l' l.length → Fr (fun k => s.v.ownBlock = some k) w w' → K () Q w') :
    callW Tryz.prog k_slices_Sort_byte [.slice s.a s.n s.c] [] K Q w := by
  have hn : s.n = l.length := ho.len
  refine C_slices_Sort_byte _ K Q w ?_
  unfold F_slices_Sort_byte
  have e : IntKind.wrap .u64 (s.n : Int) = (s.n : Int) := by rw [IntKind.wrap_u64]; omega
  rw [e]
  refine spec_bits_Len (by omega) (by omega) ?_
  refine C_slices_pdqsortOrdered_byte _ _ _ _ _ _ _ ?_
  unfold F_slices_pdqsortOrdered_byte
  refine loopI (fun st w' => st.1 = 0 ∧ st.2.1 = (s.n : Int) ∧ w' = w) (fun _ _ => 0) ⟨rfl, rfl, rfl⟩ ?_
  rintro ⟨a, b, c, d, e⟩ w1 ⟨h1, h2, rfl⟩
  simp only at h1 h2
  subst h1; subst h2
  refine joinK ?_
  refine condT (by rw [w64 (by dsimp only; omega)]; exact decide_eq_true (by dsimp only; omega)) ?_
  exact spec_insertionSort ho (by omega) hk

end Go.Proofs.YtkblnhnjagemlaaGreat
