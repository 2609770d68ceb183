/-
  What the proof of packetHeads_holds leans on, laid together by a program of this session (wip/pack.py) out of its own texts; the last of these texts holds packetHeads_holds.
-/
import Derived.Test.YtchhhjlpnecjkaaGreatH4
set_option linter.unusedVariables false
namespace Go.Proofs.YtchhhjlpnecjkaaGreat
open Go Go.RowKit Go.Proofs.YtchhhjlpnecjkaaGreat.Den
variable {α : Type} {l m r : List α} {a b i j k : Nat}
inductive ShK (a b : Nat) : List α → List α → Prop
  | refl (l : List α) : ShK a b l l
  | step {l m : List α} {i j : Nat} {x y : α} : ShK a b l m → a ≤ i → i < b → a ≤ j → j < b → m[i]? = some x → m[j]? = some y → ShK a b l ((m.set i y).set j x)
theorem get_swap {x y : α} (hx : m[i]? = some x) (hy : m[j]? = some y) (k : Nat) : ((m.set i y).set j x)[k]? = if k = j then m[i]? else if k = i then m[j]? else m[k]? := by
  have hi := (List.getElem?_eq_some_iff.1 hx).1
  have hj := (List.getElem?_eq_some_iff.1 hy).1
  rw [List.getElem?_set, List.length_set, List.getElem?_set]
  by_cases h1 : j = k
  · subst h1; simp [hj, hx]
  · rw [if_neg h1, if_neg (fun e : k = j => h1 e.symm)]
    by_cases h2 : i = k
    · subst h2; rw [if_pos rfl, if_pos hi, if_pos rfl]; exact hy.symm
    · rw [if_neg h2, if_neg (fun e : k = i => h2 e.symm)]
theorem ShK.trans {n : List α} (h : ShK a b l m) (g : ShK a b m n) : ShK a b l n := by
  induction g with
  | refl => exact h
  | step _ h1 h2 h3 h4 h5 h6 ih => exact .step ih h1 h2 h3 h4 h5 h6
theorem ShK.mono {a' b' : Nat} (h : ShK a b l m) (ha : a' ≤ a) (hb : b ≤ b') : ShK a' b' l m := by
  induction h with
  | refl => exact .refl _
  | step _ h1 h2 h3 h4 h5 h6 ih => exact .step ih (by omega) (by omega) (by omega) (by omega) h5 h6
theorem ShK.len (h : ShK a b l m) : m.length = l.length := by
  induction h with
  | refl => rfl
  | step _ _ _ _ _ _ _ ih => rw [List.length_set, List.length_set, ih]
theorem ShK.out (h : ShK a b l m) (hk : k < a ∨ b ≤ k) : m[k]? = l[k]? := by
  induction h with
  | refl => rfl
  | step _ h1 h2 h3 h4 h5 h6 ih => rw [get_swap h5 h6, if_neg (by omega), if_neg (by omega), ih]
theorem ShK.mem (h : ShK a b l m) (h1 : a ≤ k) (h2 : k < b) : ∃ k', a ≤ k' ∧ k' < b ∧ m[k]? = l[k']? := by
  induction h generalizing k with
  | refl => exact ⟨k, h1, h2, rfl⟩
  | step _ g1 g2 g3 g4 g5 g6 ih =>
    rw [get_swap g5 g6]
    split
    · exact ih g1 g2
    · split
      · exact ih g3 g4
      · exact ih h1 h2
theorem ShK.perm (h : ShK a b l m) : m.Perm l := by
  induction h with
  | refl => exact List.Perm.refl _
  | step _ g1 g2 g3 g4 g5 g6 ih =>
    obtain ⟨i1, i2⟩ := List.getElem?_eq_some_iff.1 g5
    obtain ⟨j1, j2⟩ := List.getElem?_eq_some_iff.1 g6
    subst i2
    subst j2
    exact (List.set_set_perm i1 j1).trans ih
section
variable (key : α → Int)
def So (a b : Nat) (l : List α) : Prop := ∀ p q x y, a ≤ p → p < q → q < b → l[p]? = some x → l[q]? = some y → key x ≤ key y
variable {key}
theorem So.mono {a' b' : Nat} (h : So key a b l) (ha : a ≤ a') (hb : b' ≤ b) : So key a' b' l := fun p q x y h1 h2 h3 => h p q x y (by omega) h2 (by omega)
theorem So.same (h : So key a b l) (hs : ∀ k, a ≤ k → k < b → m[k]? = l[k]?) : So key a b m := fun p q x y h1 h2 h3 hx hy => h p q x y h1 h2 h3 ((hs p h1 (by omega)).symm.trans hx) ((hs q (by omega) h3).symm.trans hy)
theorem So.one (h : b ≤ a + 1) : So key a b l := fun p q x y h1 h2 h3 => by omega
def InsK (key : α → Int) (a i j : Nat) (l : List α) : Prop := ∀ p q x y, a ≤ p → p < q → q ≤ i → q ≠ j → l[p]? = some x → l[q]? = some y → key x ≤ key y
theorem InsK.start (h : So key a i l) : InsK key a i i l := fun p q x y h1 h2 h3 h4 => h p q x y h1 h2 (by omega)
theorem InsK.stop {x y : α} (h : InsK key a i j l) (he : j = a ∨ l[j]? = some x ∧ l[j - 1]? = some y ∧ key y ≤ key x) (haj : a ≤ j) : So key a (i + 1) l := by
  intro p q u v h1 h2 h3 hu hv
  by_cases e : q = j
  · subst e
    rcases he with e | ⟨e1, e2, e3⟩
    · omega
    · rw [e1] at hv; cases hv
      by_cases e4 : p = q - 1
      · subst e4; rw [e2] at hu; cases hu; exact e3
      · exact Int.le_trans (h p (q - 1) u y h1 (by omega) (by omega) (by omega) hu e2) e3
  · exact h p q u v h1 h2 (by omega) e hu hv
theorem InsK.step {x y : α} (h : InsK key a i j l) (haj : a < j) (hji : j ≤ i) (hx : l[j]? = some x) (hy : l[j - 1]? = some y) (hlt : key x < key y) : InsK key a i (j - 1) ((l.set j y).set (j - 1) x) := by
  intro p q u v h1 h2 h3 h4 hu hv
  rw [get_swap hx hy] at hu hv
  rw [if_neg h4] at hv
  by_cases e : q = j
  · rw [if_pos e, hy] at hv; cases hv
    by_cases e2 : p = j - 1
    · rw [if_pos e2, hx] at hu; cases hu; omega
    · rw [if_neg e2, if_neg (by omega)] at hu
      exact h p (j - 1) u y h1 (by omega) (by omega) (by omega) hu hy
  · rw [if_neg e] at hv
    by_cases e2 : p = j - 1
    · rw [if_pos e2, hx] at hu; cases hu
      exact h j q x v (by omega) (by omega) h3 e hx hv
    · rw [if_neg e2] at hu
      by_cases e3 : p = j
      · rw [if_pos e3, hy] at hu; cases hu
        exact h (j - 1) q y v (by omega) (by omega) h3 e hy hv
      · rw [if_neg e3] at hu
        exact h p q u v h1 h2 h3 e hu hv
def rot (l : List α) (a m b k : Nat) : Option α := if a ≤ k ∧ k < b then (if k < a + (b - m) then l[k + (m - a)]? else l[k - (b - m)]?) else l[k]?
def Rot (a m b : Nat) (l r : List α) : Prop := ∀ k, r[k]? = rot l a m b k
def Swp (a b n : Nat) (l r : List α) : Prop := ∀ k, r[k]? = if a ≤ k ∧ k < a + n then l[k - a + b]? else if b ≤ k ∧ k < b + n then l[k - b + a]? else l[k]?
theorem Swp.zero : Swp a b 0 l l := fun k => by rw [if_neg (by omega), if_neg (by omega)]
theorem Swp.step {n : Nat} {x y : α} (h : Swp a b n l r) (hab : a + n < b) (hx : r[a + n]? = some x) (hy : r[b + n]? = some y) : Swp a b (n + 1) l ((r.set (a + n) y).set (b + n) x) := by
  intro k
  have e1 : r[a + n]? = l[a + n]? := by rw [h, if_neg (by omega), if_neg (by omega)]
  have e2 : r[b + n]? = l[b + n]? := by rw [h, if_neg (by omega), if_neg (by omega)]
  rw [get_swap hx hy, e1, e2]
  by_cases c1 : k = b + n
  · rw [if_pos c1, if_neg (by omega), if_pos (by omega), show k - b + a = a + n by omega]
  · rw [if_neg c1]
    by_cases c2 : k = a + n
    · rw [if_pos c2, if_pos (by omega), show k - a + b = b + n by omega]
    · rw [if_neg c2, h k]
      by_cases c3 : a ≤ k ∧ k < a + n
      · rw [if_pos c3, if_pos (by omega)]
      · rw [if_neg c3]
        by_cases c4 : b ≤ k ∧ k < b + n
        · rw [if_pos c4, if_neg (by omega), if_pos (by omega)]
        · rw [if_neg c4, if_neg (by omega), if_neg (by omega)]
theorem rot_left {c : List α} {m i k : Nat} (hi : i ≤ m) (hk : k < i) (hs : Swp (m - i) m k l c) (ht : ∀ p, r[p]? = rot c (m - (i - k)) m (m + k) p) : ∀ p, r[p]? = rot l (m - i) m (m + k) p := by
  intro p
  rw [ht p]
  unfold rot
  have h := hs
  unfold Swp at h
  by_cases e1 : m - i ≤ p ∧ p < m + k
  · rw [if_pos e1]
    by_cases e2 : m - (i - k) ≤ p
    · rw [if_pos ⟨e2, e1.2⟩]
      by_cases e3 : p < m - (i - k) + (m + k - m)
      · rw [if_pos e3, h, if_neg (by omega)]
        by_cases e4 : p < m - i + (m + k - m)
        · omega
        · rw [if_neg e4, if_pos (by omega)]
          congr 1; omega
      · rw [if_neg e3, h, if_neg (by omega), if_neg (by omega), if_neg (by omega)]
    · rw [if_neg (by omega), h, if_pos (by omega), if_pos (by omega)]
      congr 1; omega
  · rw [if_neg e1, if_neg (by omega), h, if_neg (by omega), if_neg (by omega)]
theorem rot_right {c : List α} {m i k : Nat} (hi : i ≤ m) (hk : i < k) (hs : Swp (m - i) (m + k - i) i l c) (ht : ∀ p, r[p]? = rot c (m - i) m (m + (k - i)) p) : ∀ p, r[p]? = rot l (m - i) m (m + k) p := by
  intro p
  rw [ht p]
  unfold rot
  have h := hs
  unfold Swp at h
  by_cases e1 : m - i ≤ p ∧ p < m + k
  · rw [if_pos e1]
    by_cases e2 : p < m + (k - i)
    · rw [if_pos ⟨e1.1, e2⟩]
      by_cases e3 : p < m - i + (m + (k - i) - m)
      · rw [if_pos e3, if_pos (by omega), h, if_neg (by omega)]
        by_cases e4 : m + k - i ≤ p + (m - (m - i))
        · omega
        · rw [if_neg (by omega)]
      · rw [if_neg e3, h]
        by_cases e4 : p < m - i + (m + k - m)
        · rw [if_pos e4, if_pos (by omega)]
          congr 1; omega
        · omega
    · rw [if_neg (by omega), h, if_neg (by omega), if_pos (by omega), if_neg (by omega)]
      congr 1; omega
  · rw [if_neg e1, if_neg (by omega), h, if_neg (by omega), if_neg (by omega)]
theorem rot_same {c : List α} {m i : Nat} (hi : i ≤ m) (hs : Swp (m - i) m i l c) : Rot (m - i) m (m + i) l c := by
  intro p
  rw [hs p]
  unfold rot
  by_cases e1 : m - i ≤ p ∧ p < m + i
  · rw [if_pos e1]
    by_cases e2 : p < m
    · rw [if_pos (by omega), if_pos (by omega)]
      congr 1; omega
    · rw [if_neg (by omega), if_pos (by omega), if_neg (by omega)]
      congr 1; omega
  · rw [if_neg e1, if_neg (by omega), if_neg (by omega)]
theorem merge_parts {m s e mid : Nat} {r : List α} (hb : b ≤ l.length) (h1 : So key a m l) (h2 : So key m b l) (has : a ≤ s) (hsm : s ≤ m) (hme : m ≤ e) (heb : e ≤ b) (hmid : mid = s + (e - m))
    (hl : s = a ∨ e = b ∨ ∀ x y, l[s - 1]? = some x → l[e]? = some y → key x ≤ key y) (hg : s = m ∨ e = m ∨ ∀ x y, l[e - 1]? = some x → l[s]? = some y → key x ≤ key y) (hr : Rot s m e l r) :
    So key a s r ∧ So key s mid r ∧ So key mid e r ∧ So key e b r ∧ ∀ p q x y, a ≤ p → p < mid → mid ≤ q → q < b → r[p]? = some x → r[q]? = some y → key x ≤ key y := by
  subst hmid
  unfold Rot rot at hr
  have sub : ∀ p, a ≤ p → p < s → r[p]? = l[p]? := fun p _ h => by rw [hr p, if_neg (by omega)]
  have sup : ∀ p, e ≤ p → r[p]? = l[p]? := fun p h => by rw [hr p, if_neg (by omega)]
  have lo : ∀ p, s ≤ p → p < s + (e - m) → r[p]? = l[p + (m - s)]? := fun p h h' => by rw [hr p, if_pos (by omega), if_pos h']
  have hi : ∀ p, s + (e - m) ≤ p → p < e → r[p]? = l[p - (e - m)]? := fun p h h' => by rw [hr p, if_pos (by omega), if_neg (by omega)]
  have gt : ∀ k, k < b → ∃ x, l[k]? = some x := fun k hk => ⟨l[k], List.getElem?_eq_getElem (by omega)⟩
  have A : ∀ p q x y, a ≤ p → p < s → e ≤ q → q < b → l[p]? = some x → l[q]? = some y → key x ≤ key y := by
    intro p q x y g1 g2 g3 g4 hx hy
    obtain ⟨x', hx'⟩ := gt (s - 1) (by omega)
    obtain ⟨y', hy'⟩ := gt e (by omega)
    have k1 : key x ≤ key x' := by
      by_cases c : p = s - 1
      · subst c; rw [hx] at hx'; cases hx'; exact Int.le_refl _
      · exact h1 p (s - 1) x x' g1 (by omega) (by omega) hx hx'
    have k2 : key y' ≤ key y := by
      by_cases c : q = e
      · subst c; rw [hy] at hy'; cases hy'; exact Int.le_refl _
      · exact h2 e q y' y (by omega) (by omega) g4 hy' hy
    rcases hl with c | c | c
    · omega
    · omega
    · have := c x' y' hx' hy'; omega
  have B : ∀ p q x y, m ≤ p → p < e → s ≤ q → q < m → l[p]? = some x → l[q]? = some y → key x ≤ key y := by
    intro p q x y g1 g2 g3 g4 hx hy
    obtain ⟨x', hx'⟩ := gt (e - 1) (by omega)
    obtain ⟨y', hy'⟩ := gt s (by omega)
    have k1 : key x ≤ key x' := by
      by_cases c : p = e - 1
      · subst c; rw [hx] at hx'; cases hx'; exact Int.le_refl _
      · exact h2 p (e - 1) x x' g1 (by omega) (by omega) hx hx'
    have k2 : key y' ≤ key y := by
      by_cases c : q = s
      · subst c; rw [hy] at hy'; cases hy'; exact Int.le_refl _
      · exact h1 s q y' y has (by omega) g4 hy' hy
    rcases hg with c | c | c
    · omega
    · omega
    · have := c x' y' hx' hy'; omega
  refine ⟨(h1.mono (Nat.le_refl _) hsm).same fun k g1 g2 => sub k g1 g2, ?_, ?_, (h2.mono hme (Nat.le_refl _)).same fun k g1 g2 => sup k g1, ?_⟩
  · intro p q x y g1 g2 g3 hx hy
    rw [lo p g1 (by omega)] at hx
    rw [lo q (by omega) g3] at hy
    exact h2 _ _ x y (by omega) (by omega) (by omega) hx hy
  · intro p q x y g1 g2 g3 hx hy
    rw [hi p g1 (by omega)] at hx
    rw [hi q (by omega) g3] at hy
    exact h1 _ _ x y (by omega) (by omega) (by omega) hx hy
  · intro p q x y g1 g2 g3 g4 hx hy
    by_cases c1 : p < s
    · rw [sub p g1 c1] at hx
      by_cases c2 : q < e
      · rw [hi q g3 c2] at hy
        exact h1 _ _ x y g1 (by omega) (by omega) hx hy
      · rw [sup q (by omega)] at hy
        exact A p q x y g1 c1 (by omega) g4 hx hy
    · rw [lo p (by omega) g2] at hx
      by_cases c2 : q < e
      · rw [hi q g3 c2] at hy
        exact B _ _ x y (by omega) (by omega) (by omega) (by omega) hx hy
      · rw [sup q (by omega)] at hy
        exact h2 _ _ x y (by omega) (by omega) g4 hx hy
theorem merge_join {mid : Nat} {r3 r4 : List α} (hc : ∀ p q x y, a ≤ p → p < mid → mid ≤ q → q < b → r[p]? = some x → r[q]? = some y → key x ≤ key y) (h3 : ShK a mid r r3) (s3 : So key a mid r3) (h4 : ShK mid b r3 r4) (s4 : So key mid b r4) : So key a b r4 := by
  intro p q x y g1 g2 g3 hx hy
  by_cases c1 : mid ≤ p
  · exact s4 p q x y c1 g2 g3 hx hy
  rw [h4.out (.inl (by omega))] at hx
  by_cases c2 : q < mid
  · rw [h4.out (.inl c2)] at hy
    exact s3 p q x y g1 g2 c2 hx hy
  obtain ⟨p', p1, p2, p3⟩ := h3.mem g1 (by omega)
  obtain ⟨q', q1, q2, q3⟩ := h4.mem (by omega : mid ≤ q) g3
  rw [p3] at hx
  rw [q3, h3.out (.inr q1)] at hy
  exact hc p' q' x y p1 p2 q1 q2 hx hy
end
theorem rot_triv {m : Nat} (h : a = m ∨ b = m) (hab : a ≤ m ∧ m ≤ b) : Rot a m b l l := by
  intro k
  unfold rot
  by_cases e : a ≤ k ∧ k < b
  · rw [if_pos e]
    rcases h with rfl | rfl
    · rw [if_pos (by omega), Nat.sub_self]; rfl
    · rw [if_neg (by omega), Nat.sub_self]; rfl
  · rw [if_neg e]
theorem rot_up {x y : α} (h : Rot a (a + 1) (k + 1) l r) (hak : a ≤ k) (hx : r[k]? = some x) (hy : r[k + 1]? = some y) : Rot a (a + 1) (k + 2) l ((r.set k y).set (k + 1) x) := by
  intro p
  have e1 := h k
  have e2 := h (k + 1)
  unfold rot at e1 e2
  rw [if_pos (by omega), if_neg (by omega)] at e1
  rw [if_neg (by omega)] at e2
  rw [get_swap hx hy, e1, e2]
  unfold rot
  by_cases c1 : p = k + 1
  · rw [if_pos c1, if_pos (by omega), if_neg (by omega)]
    congr 1; omega
  · rw [if_neg c1]
    by_cases c2 : p = k
    · rw [if_pos c2, if_pos (by omega), if_pos (by omega)]
      congr 1; omega
    · rw [if_neg c2, h p]
      unfold rot
      by_cases c3 : a ≤ p ∧ p < k + 1
      · rw [if_pos c3, if_pos (by omega), if_pos (by omega), if_pos (by omega)]
      · rw [if_neg c3, if_neg (by omega)]
theorem rot_dn {m : Nat} {x y : α} (h : Rot (k + 1) m (m + 1) l r) (hkm : k < m) (hx : r[k + 1]? = some x) (hy : r[k]? = some y) : Rot k m (m + 1) l ((r.set (k + 1) y).set k x) := by
  intro p
  have e1 := h (k + 1)
  have e2 := h k
  unfold rot at e1 e2
  rw [if_pos (by omega), if_pos (by omega)] at e1
  rw [if_neg (by omega)] at e2
  rw [get_swap hx hy, e1, e2]
  unfold rot
  by_cases c1 : p = k
  · rw [if_pos c1, if_pos (by omega), if_pos (by omega)]
    congr 1; omega
  · rw [if_neg c1]
    by_cases c2 : p = k + 1
    · rw [if_pos c2, if_pos (by omega), if_neg (by omega)]
      congr 1; omega
    · rw [if_neg c2, h p]
      unfold rot
      by_cases c3 : k + 1 ≤ p ∧ p < m + 1
      · rw [if_pos c3, if_neg (by omega), if_pos (by omega), if_neg (by omega)]
      · rw [if_neg c3, if_neg (by omega)]
section
variable {key : α → Int}
theorem so_left (hb : b ≤ l.length) (h2 : So key (a + 1) b l) (hai : a + 1 ≤ i) (hib : i ≤ b) (h1 : i = a + 1 ∨ ∀ x y, l[i - 1]? = some x → l[a]? = some y → key x < key y) (h3 : i = b ∨ ∀ x y, l[a]? = some x → l[i]? = some y → key x ≤ key y) (hr : Rot a (a + 1) i l r) : So key a b r := by
  unfold Rot rot at hr
  have lo : ∀ p, a ≤ p → p < i - 1 → r[p]? = l[p + 1]? := fun p g1 g2 => by rw [hr p, if_pos (by omega), if_pos (by omega)]; congr 1; omega
  have at_ : r[i - 1]? = l[a]? := by rw [hr, if_pos (by omega), if_neg (by omega)]; congr 1; omega
  have hi : ∀ p, i ≤ p → r[p]? = l[p]? := fun p g => by rw [hr p, if_neg (by omega)]
  have gt : ∀ k, k < b → ∃ x, l[k]? = some x := fun k hk => ⟨l[k], List.getElem?_eq_getElem (by omega)⟩
  intro p q x y g1 g2 g3 hx hy
  by_cases c1 : q < i - 1
  · rw [lo p g1 (by omega)] at hx
    rw [lo q (by omega) c1] at hy
    exact h2 _ _ x y (by omega) (by omega) (by omega) hx hy
  by_cases c2 : q = i - 1
  · subst c2
    rw [lo p g1 g2] at hx
    rw [at_] at hy
    obtain ⟨z, hz⟩ := gt (i - 1) (by omega)
    have k1 : key x ≤ key z := by
      by_cases e : p + 1 = i - 1
      · rw [e] at hx; rw [hx] at hz; cases hz; exact Int.le_refl _
      · exact h2 _ _ x z (by omega) (by omega) (by omega) hx hz
    rcases h1 with e | e
    · omega
    · have := e z y hz hy; omega
  · rw [hi q (by omega)] at hy
    by_cases c3 : p < i - 1
    · rw [lo p g1 c3] at hx
      exact h2 _ _ x y (by omega) (by omega) g3 hx hy
    by_cases c4 : p = i - 1
    · rw [c4, at_] at hx
      obtain ⟨z, hz⟩ := gt i (by omega)
      have k1 : key z ≤ key y := by
        by_cases e : q = i
        · subst e; rw [hy] at hz; cases hz; exact Int.le_refl _
        · exact h2 _ _ z y (by omega) (by omega) g3 hz hy
      rcases h3 with e | e
      · omega
      · have := e x z hx hz; omega
    · rw [hi p (by omega)] at hx
      exact h2 _ _ x y (by omega) g2 g3 hx hy
theorem so_right {m : Nat} (hb : m < l.length) (h2 : So key a m l) (hai : a ≤ i) (him : i ≤ m) (h1 : i = a ∨ ∀ x y, l[i - 1]? = some x → l[m]? = some y → key x ≤ key y) (h3 : i = m ∨ ∀ x y, l[m]? = some x → l[i]? = some y → key x < key y) (hr : Rot i m (m + 1) l r) : So key a (m + 1) r := by
  unfold Rot rot at hr
  have lo : ∀ p, p < i → r[p]? = l[p]? := fun p g => by rw [hr p, if_neg (by omega)]
  have at_ : r[i]? = l[m]? := by rw [hr, if_pos (by omega), if_pos (by omega)]; congr 1; omega
  have hi : ∀ p, i < p → p ≤ m → r[p]? = l[p - 1]? := fun p g g' => by rw [hr p, if_pos (by omega), if_neg (by omega)]; congr 1; omega
  have gt : ∀ k, k ≤ m → ∃ x, l[k]? = some x := fun k hk => ⟨l[k], List.getElem?_eq_getElem (by omega)⟩
  intro p q x y g1 g2 g3 hx hy
  by_cases c1 : q < i
  · rw [lo p (by omega)] at hx
    rw [lo q c1] at hy
    exact h2 _ _ x y g1 g2 (by omega) hx hy
  by_cases c2 : q = i
  · rw [lo p (by omega)] at hx
    rw [c2, at_] at hy
    obtain ⟨z, hz⟩ := gt (i - 1) (by omega)
    have k1 : key x ≤ key z := by
      by_cases e : p = i - 1
      · rw [e, hz] at hx; cases hx; exact Int.le_refl _
      · exact h2 _ _ x z g1 (by omega) (by omega) hx hz
    rcases h1 with e | e
    · omega
    · have := e z y hz hy; omega
  · rw [hi q (by omega) (by omega)] at hy
    by_cases c3 : p < i
    · rw [lo p c3] at hx
      exact h2 _ _ x y g1 (by omega) (by omega) hx hy
    by_cases c4 : p = i
    · rw [c4, at_] at hx
      obtain ⟨z, hz⟩ := gt i him
      have k1 : key z ≤ key y := by
        by_cases e : q - 1 = i
        · rw [e, hz] at hy; cases hy; exact Int.le_refl _
        · exact h2 _ _ z y hai (by omega) (by omega) hz hy
      rcases h3 with e | e
      · omega
      · have := e x z hx hz; omega
    · rw [hi p (by omega) (by omega)] at hx
      exact h2 _ _ x y (by omega) (by omega) (by omega) hx hy
end
end Go.Proofs.YtchhhjlpnecjkaaGreat
namespace Go.Proofs.YtchhhjlpnecjkaaGreat
open Go Go.RowKit Go.Proofs.YtchhhjlpnecjkaaGreat.Den
variable {R : Type} {Q : R → World → Prop} {w : World}
section
variable {t : Ty} {E : TypeId} {S : Nat → Prop} {s : Sl} {l : List t.T} {sz : Nat}
theorem swapI (ho : Own S w E t s l) (hsz : sz = t.size) (hf : t.fine = true) {p q : Nat} {ip iq : Int} (hp : ip = (p : Int)) (hq : iq = (q : Int)) {x y : t.T} (hx : l[q]? = some x) (hy : l[p]? = some y) {K : W R}
    (hk : ∀ w', Own S w' E t s ((l.set q y).set p x) → Fr (fun k => s.v.ownBlock = some k) w w' → w'.heap.size = w.heap.size → K Q w') :
    (idxW s.a s.n sz ip fun a => ld t a fun y' => idxW s.a s.n sz iq fun b => ld t b fun x' => idxW s.a s.n sz iq fun c => stoL c (t.cells y') 0 <| idxW s.a s.n sz ip fun d => stoL d (t.cells x') 0 K) Q w := by
  subst hp hq hsz
  have hpl := (List.getElem?_eq_some_iff.1 hy).1
  have hql := (List.getElem?_eq_some_iff.1 hx).1
  refine ho.idx rfl (by omega) (by omega) fun g y' hg hy' hr => ldI y' hr ?_
  refine ho.idx rfl (by omega) (by omega) fun g2 x' hg2 hx' hr2 => ldI x' hr2 ?_
  rw [Int.toNat_natCast] at hy' hx'
  rw [hy] at hy'
  rw [hx] at hx'
  cases hy'
  cases hx'
  refine ho.idx rfl (by omega) (by omega) fun g3 x3 hg3 _ _ => ?_
  rw [Int.toNat_natCast]
  refine ho.set hf hql hg3 y fun w2 o2 f2 s2 => ?_
  refine o2.idx rfl (by omega) (by simp; omega) fun g4 x4 hg4 _ _ => ?_
  rw [Int.toNat_natCast]
  exact o2.set hf (by simp; omega) hg4 x fun w3 o3 f3 s3 => hk w3 o3 (f2.then f3) (by omega)
theorem insI (hsz : sz = t.size) (hf : t.fine = true) (key : t.T → Int) (callc : t.T → t.T → (Int → W R) → W R) (hc : ∀ x y (K : Int → W R) Q w, (∀ z w', (z < 0 ↔ key x < key y) → Fr None w w' → K z Q w') → callc x y K Q w)
    {a b : Nat} {ia ib : Int} (ha : ia = (a : Int)) (hb : ib = (b : Int)) (hab : a ≤ b) (hbl : b ≤ l.length) (hm : l.length ≤ 4611686018427387903) (ho : Own S w E t s l) {K : W R} (hk : ∀ l' w', ShK a b l l' → So key a b l' → Own S w' E t s l' → Fr (fun k => s.v.ownBlock = some k) w w' → K Q w') :
    loopW (fun K_1 s_2 => cond (decide (s_2 < ib)) (loopW (fun K_3 s_4 =>
      joinW (σ := Bool) (fun J_5 => drawW <| cond (decide (s_4 > ia)) (idxW s.a s.n sz s_4 fun x_6 => ld t x_6 fun x_7 => idxW s.a s.n sz (IntKind.wrap .i64 (s_4 - 1)) fun x_8 => ld t x_8 fun x_9 => callc x_7 x_9 fun x_10 => J_5 (decide (x_10 < 0))) (J_5 false))
      fun s_11 => cond s_11 (drawW <| idxW s.a s.n sz (IntKind.wrap .i64 (s_4 - 1)) fun a => ld t a fun y' => idxW s.a s.n sz s_4 fun b => ld t b fun x' => idxW s.a s.n sz s_4 fun c => stoL c (t.cells y') 0 <| idxW s.a s.n sz (IntKind.wrap .i64 (s_4 - 1)) fun d => stoL d (t.cells x') 0 (K_3 (IntKind.wrap .i64 (s_4 - 1)))) (K_1 (IntKind.wrap .i64 (s_2 + 1)))) s_2) K) (IntKind.wrap .i64 (ia + 1)) Q w := by
  subst ha hb hsz
  have hnd : ∀ {u v : World}, Fr (fun k => s.v.ownBlock = some k) u v → Fr (fun k => s.v.ownBlock = some k) u v.drew := fun f => f.then0 (Fr.refl _ _).drew
  refine loopI (fun (i : Int) u => ∃ (n : Nat) (m : List t.T), i = (n : Int) ∧ a + 1 ≤ n ∧ (n ≤ b ∨ n = a + 1) ∧ ShK a b l m ∧ So key a n m ∧ Own S u E t s m ∧ Fr (fun k => s.v.ownBlock = some k) w u) (fun i _ => b - i.toNat) ⟨a + 1, l, by rw [w64 (by omega)]; rfl, Nat.le_refl _, .inr rfl, .refl _, So.one (Nat.le_refl _), ho, Fr.refl _ _⟩ ?_
  rintro _ u ⟨n, m, rfl, hn1, hn2, hsh, hso, hou, fu⟩
  have hml := hsh.len
  refine condD (fun hlt => ?_) fun hge => hk m u hsh (hso.mono (Nat.le_refl _) (by omega)) hou fu
  have hlt : n < b := by omega
  refine loopI (fun (i : Int) v => ∃ (j : Nat) (m : List t.T), i = (j : Int) ∧ a ≤ j ∧ j ≤ n ∧ ShK a b l m ∧ InsK key a n j m ∧ Own S v E t s m ∧ Fr (fun k => s.v.ownBlock = some k) w v) (fun i _ => i.toNat) ⟨n, m, rfl, by omega, Nat.le_refl _, hsh, InsK.start hso, hou, fu⟩ ?_
  rintro _ v ⟨j, m2, rfl, hj1, hj2, hsh2, hin, hov, fv⟩
  have hml2 := hsh2.len
  refine joinI (fun z u' => Own S u' E t s m2 ∧ Fr (fun k => s.v.ownBlock = some k) w u' ∧ (z = true → a < j ∧ ∃ x y, m2[j]? = some x ∧ m2[j - 1]? = some y ∧ key x < key y) ∧ (z = false → j = a ∨ ∃ x y, m2[j]? = some x ∧ m2[j - 1]? = some y ∧ key y ≤ key x)) ?_ ?_
  · have hod : Own S v.drew E t s m2 := hov.none (Fr.refl None v).drew
    show (cond (decide ((j : Int) > (a : Int))) _ _ : W R) _ v.drew
    refine condD (fun hgt => ?_) fun hle => ⟨hod, hnd fv, fun h => (by cases h), fun _ => .inl (by omega)⟩
    refine hod.idx rfl (by omega) (by omega) fun g x hg hx hr => ldI x hr ?_
    rw [w64 (x := (j : Int) - 1) (by omega)]
    refine hod.idx rfl (by omega) (by omega) fun g2 y hg2 hy hr2 => ldI y hr2 ?_
    rw [Int.toNat_natCast] at hx
    rw [show ((j : Int) - 1).toNat = j - 1 by omega] at hy
    refine hc x y _ _ _ fun z w' hz f => ?_
    refine ⟨hod.none f, (hnd fv).then0 f, fun h => ⟨by omega, x, y, hx, hy, hz.1 (by simpa using h)⟩, fun h => .inr ⟨x, y, hx, hy, ?_⟩⟩
    have h : ¬ z < 0 := by simpa using h
    exact Int.not_lt.1 fun h2 => h (hz.2 h2)
  rintro z v2 ⟨ho2, f2, ht, hff⟩
  refine condI (fun hz => ?_) fun hz => ?_
  · obtain ⟨haj, x, y, hx, hy, hkey⟩ := ht hz
    refine swapI (p := j - 1) (q := j) (ho2.none (Fr.refl None v2).drew) rfl hf (by rw [w64 (by omega)]; omega) rfl hx hy fun v3 o3 f3 s3 => ?_
    refine ⟨⟨j - 1, _, by rw [w64 (by omega)]; omega, by omega, by omega, hsh2.step (by omega) (by omega) (by omega) (by omega) hx hy, hin.step haj hj2 hx hy hkey, o3, (hnd f2).then f3⟩, ?_⟩
    rw [w64 (by omega)]
    omega
  · refine ⟨⟨n + 1, m2, by rw [w64 (by omega)]; rfl, by omega, .inl (by omega), hsh2, ?_, ho2, f2⟩, ?_⟩
    · rcases hff hz with e | ⟨x, y, e1, e2, e3⟩
      · subst e
        by_cases hl : j < m2.length
        · obtain ⟨x, hx⟩ : ∃ x, m2[j]? = some x := ⟨_, List.getElem?_eq_getElem hl⟩
          exact hin.stop (x := x) (y := x) (.inl rfl) hj1
        · intro p q x y h1 h2 h3 hx hy
          exact absurd (List.getElem?_eq_some_iff.1 hx).1 (by omega)
      · exact hin.stop (.inr ⟨e1, e2, e3⟩) hj1
    · rw [w64 (by omega)]
      omega
end
theorem spec_diff_Patch_c2 {x y : Int × Sl} {K : Res [.sc (.int .i64)] → W R} (hk : ∀ z w', (z < 0 ↔ x.1 < y.1) → Fr None w w' → K z Q w') : callW Tryz.prog k_diff_Patch_c2 [.agg ⟨[.int .u32 x.1, .slice x.2.a x.2.n x.2.c]⟩, .agg ⟨[.int .u32 y.1, .slice y.2.a y.2.n y.2.c]⟩] [.sc (.int .i64)] K Q w := by
  refine C_diff_Patch_c2 x y K Q w ?_
  unfold F_diff_Patch_c2
  refine newI fun w1 B1 f1 z1 => newI fun w2 B2 f2 z2 => fldI (B1.fr f2 fun h => h) (i := 0) (x := x.1) rfl (fldI B2 (i := 0) (x := y.1) rfl (spec_Compare_ID ?_))
  exact hk _ w2 cmp3_lt (f1.then0 f2)
abbrev entKey (e : Int × Sl) : Int := e.1
section
variable {S : Nat → Prop} {s : Sl} {l : List (Int × Sl)} {a b m : Nat}
theorem spec_swapRange_Ent (ho : Own S w 57 entT s l) {n : Nat} (hab : a + n ≤ b) (hbl : b + n ≤ l.length) (hm : l.length ≤ 4611686018427387903) {K : Res [] → W R} (hk : ∀ l' w', ShK a (b + n) l l' → Swp a b n l l' → Own S w' 57 entT s l' → Fr (fun k => s.v.ownBlock = some k) w w' → K () Q w') :
    callW Tryz.prog k_slices_swapRangeCmpFunc_Ent [.slice s.a s.n s.c, .int .i64 (a : Int), .int .i64 (b : Int), .int .i64 (n : Int), .func (.func 121) #[] #[]] [] K Q w := by
  refine C_slices_swapRangeCmpFunc_Ent__diff_Patch_c2 s _ _ _ K Q w ?_
  unfold F_slices_swapRangeCmpFunc_Ent__diff_Patch_c2
  refine forI (N := n) (fun i : Int => i) (fun j i u => i = (j : Int) ∧ ∃ l', ShK a (b + n) l l' ∧ Swp a b j l l' ∧ Own S u 57 entT s l' ∧ Fr (fun k => s.v.ownBlock = some k) w u) ⟨rfl, l, .refl _, Swp.zero, ho, Fr.refl _ _⟩ (fun j s w' h => h.1) ?_ ?_
  · rintro j i u K' hj ⟨rfl, l', hsh, hsw, hou, fu⟩ - hK
    have hl := hsh.len
    obtain ⟨x, hx⟩ : ∃ x, l'[a + j]? = some x := ⟨_, List.getElem?_eq_getElem (by omega)⟩
    obtain ⟨y, hy⟩ : ∃ y, l'[b + j]? = some y := ⟨_, List.getElem?_eq_getElem (by omega)⟩
    refine swapI (t := entT) (p := b + j) (q := a + j) (hou.none (Fr.refl None u).drew) rfl rfl (by rw [w64 (by omega)]; omega) (by rw [w64 (by omega)]; omega) hx hy fun u2 o2 f2 s2 => ?_
    exact hK _ _ ⟨wsucc hj (by omega), _, hsh.step (by omega) (by omega) (by omega) (by omega) hx hy, hsw.step (by omega) hx hy, o2, (fu.then0 (Fr.refl None u).drew).then f2⟩
  · rintro i u ⟨_, l', hsh, hsw, hou, fu⟩
    exact hk l' u hsh hsw hou fu
theorem spec_rotate_Ent (ho : Own S w 57 entT s l) (ham : a < m) (hmb : m < b) (hbl : b ≤ l.length) (hm : l.length ≤ 4611686018427387903) {K : Res [] → W R} (hk : ∀ l' w', ShK a b l l' → Rot a m b l l' → Own S w' 57 entT s l' → Fr (fun k => s.v.ownBlock = some k) w w' → K () Q w') :
    callW Tryz.prog k_slices_rotateCmpFunc_Ent [.slice s.a s.n s.c, .int .i64 (a : Int), .int .i64 (m : Int), .int .i64 (b : Int), .func (.func 121) #[] #[]] [] K Q w := by
  refine C_slices_rotateCmpFunc_Ent__diff_Patch_c2 s _ _ _ K Q w ?_
  unfold F_slices_rotateCmpFunc_Ent__diff_Patch_c2
  refine loopI (fun (st : Int × Int) u => ∃ (i j : Nat) (l' : List (Int × Sl)), st = ((i : Int), (j : Int)) ∧ 0 < i ∧ 0 < j ∧ a + i ≤ m ∧ m + j ≤ b ∧ ShK a b l l' ∧ (∀ r, Rot (m - i) m (m + j) l' r → Rot a m b l r) ∧ Own S u 57 entT s l' ∧ Fr (fun k => s.v.ownBlock = some k) w u)
    (fun st _ => st.1.toNat + st.2.toNat) ⟨m - a, b - m, l, by rw [w64 (by omega), w64 (by omega)]; congr 1 <;> omega, by omega, by omega, by omega, by omega, .refl _, fun r h => by rw [show m - (m - a) = a by omega, show m + (b - m) = b by omega] at h; exact h, ho, Fr.refl _ _⟩ ?_
  rintro _ u ⟨i, j, l', rfl, hi, hj, hai, hjb, hsh, hrot, hou, fu⟩
  have hl := hsh.len
  dsimp only
  have em : IntKind.wrap .i64 ((m : Int) - (i : Int)) = ((m - i : Nat) : Int) := by rw [w64 (by omega)]; omega
  rw [em]
  refine condN (fun hne => ?_) fun heq => ?_
  · refine joinI (fun (st : Int × Int) u => ∃ (i2 j2 : Nat) (l' : List (Int × Sl)), st = ((i2 : Int), (j2 : Int)) ∧ 0 < i2 ∧ 0 < j2 ∧ i2 + j2 < i + j ∧ a + i2 ≤ m ∧ m + j2 ≤ b ∧ ShK a b l l' ∧ (∀ r, Rot (m - i2) m (m + j2) l' r → Rot a m b l r) ∧ Own S u 57 entT s l' ∧ Fr (fun k => s.v.ownBlock = some k) w u) ?_ ?_
    · refine condD (fun hgt => ?_) fun hle => ?_
      · have hgt : j < i := by omega
        refine spec_swapRange_Ent (a := m - i) (b := m) (n := j) hou (by omega) (by omega) (by omega) fun l2 u2 sh2 sw2 o2 f2 => ?_
        exact ⟨i - j, j, l2, by rw [w64 (by omega)]; congr 1; omega, by omega, hj, by omega, by omega, by omega, hsh.trans (sh2.mono (by omega) (by omega)), fun r h => hrot r (rot_left (by omega) hgt sw2 h), o2, fu.then f2⟩
      · have hlt : i < j := by omega
        rw [w64 (x := (m : Int) + (j : Int)) (by omega), w64 (x := (m : Int) + (j : Int) - (i : Int)) (by omega), show (m : Int) + (j : Int) - (i : Int) = ((m + j - i : Nat) : Int) by omega]
        refine spec_swapRange_Ent (a := m - i) (b := m + j - i) (n := i) hou (by omega) (by omega) (by omega) fun l2 u2 sh2 sw2 o2 f2 => ?_
        exact ⟨i, j - i, l2, by rw [w64 (by omega)]; congr 1; omega, hi, by omega, by omega, by omega, by omega, hsh.trans (sh2.mono (by omega) (by omega)), fun r h => hrot r (rot_right (by omega) hlt sw2 h), o2, fu.then f2⟩
    · rintro _ u2 ⟨i2, j2, l2, rfl, h1, h2, h3, h4, h5, h6, h7, h8, h9⟩
      exact ⟨⟨i2, j2, l2, rfl, h1, h2, h4, h5, h6, h7, h8, h9⟩, by simp only [Int.toNat_natCast]; exact h3⟩
  · have heq : i = j := by omega
    subst heq
    refine spec_swapRange_Ent (a := m - i) (b := m) (n := i) hou (by omega) (by omega) (by omega) fun l2 u2 sh2 sw2 o2 f2 => ?_
    exact hk l2 u2 (hsh.trans (sh2.mono (by omega) (by omega))) (hrot l2 (rot_same (by omega) sw2)) o2 (fu.then f2)
theorem spec_insertion_Ent (ho : Own S w 57 entT s l) (hab : a ≤ b) (hbl : b ≤ l.length) (hm : l.length ≤ 4611686018427387903) {K : Res [] → W R} (hk : ∀ l' w', ShK a b l l' → So entKey a b l' → Own S w' 57 entT s l' → Fr (fun k => s.v.ownBlock = some k) w w' → K () Q w') :
    callW Tryz.prog k_slices_insertionSortCmpFunc_Ent [.slice s.a s.n s.c, .int .i64 (a : Int), .int .i64 (b : Int), .func (.func 121) #[] #[]] [] K Q w := by
  refine C_slices_insertionSortCmpFunc_Ent__diff_Patch_c2 s _ _ K Q w ?_
  unfold F_slices_insertionSortCmpFunc_Ent__diff_Patch_c2
  exact insI (t := entT) (sz := 2) rfl rfl entKey (fun x y K => callW Tryz.prog k_diff_Patch_c2 [.agg ⟨[.int .u32 x.1, .slice x.2.a x.2.n x.2.c]⟩, .agg ⟨[.int .u32 y.1, .slice y.2.a y.2.n y.2.c]⟩] [.sc (.int .i64)] K) (fun x y K Q w h => spec_diff_Patch_c2 h) rfl rfl hab hbl hm ho hk
abbrev cmpEnt (x y : Int × Sl) (K : Int → W Unit) : W Unit := callW Tryz.prog k_diff_Patch_c2 [.agg ⟨[.int .u32 x.1, .slice x.2.a x.2.n x.2.c]⟩, .agg ⟨[.int .u32 y.1, .slice y.2.a y.2.n y.2.c]⟩] [.sc (.int .i64)] K
theorem cmpI (ho : Own S w 57 entT s l) {p q : Nat} {ip iq : Int} (hp : ip = (p : Int)) (hq : iq = (q : Int)) {x y : Int × Sl} (hx : l[p]? = some x) (hy : l[q]? = some y) {K : Int → W Unit} {Q : Unit → World → Prop}
    (hk : ∀ z w', (z < 0 ↔ x.1 < y.1) → Fr None w w' → K z Q w') : (drawW <| idxW s.a s.n 2 ip fun a => ld entT a fun (x : Int × Sl) => idxW s.a s.n 2 iq fun b => ld entT b fun (y : Int × Sl) => cmpEnt x y K) Q w := by
  subst hp hq
  have hpl := (List.getElem?_eq_some_iff.1 hx).1
  have hql := (List.getElem?_eq_some_iff.1 hy).1
  have fd : Fr None w w.drew := (Fr.refl _ _).drew
  have hod := ho.none fd
  refine hod.idx rfl (by omega) (by omega) fun g x' hg hx' hr => ldI x' hr ?_
  refine hod.idx rfl (by omega) (by omega) fun g2 y' hg2 hy' hr2 => ldI y' hr2 ?_
  rw [Int.toNat_natCast] at hx' hy'
  rw [hx] at hx'
  rw [hy] at hy'
  cases hx'
  cases hy'
  exact spec_diff_Patch_c2 fun z w' hz f => hk z w' hz (fd.then0 f)
theorem spec_symMerge_Ent : ∀ (d : Nat) {a b m : Nat} {l : List (Int × Sl)} {w : World} {R : Type} {Q : R → World → Prop} (_ : b - a ≤ d) (_ : Own S w 57 entT s l) (_ : a < m) (_ : m < b) (_ : b ≤ l.length) (_ : l.length ≤ 2305843009213693951) (_ : So entKey a m l) (_ : So entKey m b l) {K : Res [] → W R}
    (_ : ∀ l' w', ShK a b l l' → So entKey a b l' → Own S w' 57 entT s l' → Fr (fun k => s.v.ownBlock = some k) w w' → K () Q w'),
    callW Tryz.prog k_slices_symMergeCmpFunc_Ent [.slice s.a s.n s.c, .int .i64 (a : Int), .int .i64 (m : Int), .int .i64 (b : Int), .func (.func 121) #[] #[]] [] K Q w
  | 0, _, _, _, _, _, _, _, hd, _, h1, h2, _, _, _, _, _, _ => by omega
  | d + 1, a, b, m, l, w, R, Q, hd, ho, ham, hmb, hbl, hm, s1, s2, K, hk => by
    have gt : ∀ {l : List (Int × Sl)} {k : Nat}, k < l.length → ∃ x, l[k]? = some x := fun hk => ⟨_, List.getElem?_eq_getElem hk⟩
    refine C_slices_symMergeCmpFunc_Ent__diff_Patch_c2 s _ _ _ K Q w ?_
    unfold F_slices_symMergeCmpFunc_Ent__diff_Patch_c2
    rw [w64 (x := (m : Int) - (a : Int)) (by omega), w64 (x := (b : Int) - (m : Int)) (by omega)]
    refine condE (fun e1 => ?_) fun e1 => condE (fun e2 => ?_) fun e2 => ?_
    · have e1 : m = a + 1 := by omega
      subst e1
      obtain ⟨pv, hpv⟩ := gt (l := l) (k := a) (by omega)
      refine loopI (fun (st : Int × Int) u => ∃ i j : Nat, st = ((i : Int), (j : Int)) ∧ a + 1 ≤ i ∧ i ≤ j ∧ j ≤ b ∧ (i = a + 1 ∨ ∀ x y, l[i - 1]? = some x → l[a]? = some y → entKey x < entKey y) ∧ (j = b ∨ ∀ x y, l[a]? = some x → l[j]? = some y → entKey x ≤ entKey y) ∧ Own S u 57 entT s l ∧ Fr (fun k => s.v.ownBlock = some k) w u)
        (fun st _ => (st.2 - st.1).toNat) ⟨a + 1, b, rfl, Nat.le_refl _, by omega, Nat.le_refl _, .inl rfl, .inl rfl, ho, Fr.refl _ _⟩ ?_
      rintro _ u ⟨i, j, rfl, h1, h2, h3, h4, h5, hou, fu⟩
      dsimp only
      refine condD (fun hlt => ?_) fun hge => ?_
      · have hlt : i < j := by omega
        rw [half (by omega)]
        obtain ⟨x, hx⟩ := gt (l := l) (k := (i + j) / 2) (by omega)
        refine cmpI hou rfl rfl hx hpv fun z u2 hz f2 => ?_
        rw [w64 (x := (((i + j) / 2 : Nat) : Int) + 1) (by omega)]
        refine joinI (fun (st : Int × Int) u => u = u2 ∧ ∃ i2 j2 : Nat, st = ((i2 : Int), (j2 : Int)) ∧ i ≤ i2 ∧ i2 ≤ j2 ∧ j2 ≤ j ∧ j2 - i2 < j - i ∧ (i2 = a + 1 ∨ ∀ x y, l[i2 - 1]? = some x → l[a]? = some y → entKey x < entKey y) ∧ (j2 = b ∨ ∀ x y, l[a]? = some x → l[j2]? = some y → entKey x ≤ entKey y)) ?_ ?_
        · refine condD (fun hc => ?_) fun hc => ?_
          · refine ⟨rfl, (i + j) / 2 + 1, j, rfl, by omega, by omega, Nat.le_refl _, by omega, .inr fun x' y' g1 g2 => ?_, h5⟩
            rw [Nat.add_sub_cancel, hx] at g1
            rw [hpv] at g2
            cases g1; cases g2
            exact hz.1 hc
          · refine ⟨rfl, i, (i + j) / 2, rfl, Nat.le_refl _, by omega, by omega, by omega, h4, .inr fun x' y' g1 g2 => ?_⟩
            rw [hpv] at g1
            rw [hx] at g2
            cases g1; cases g2
            exact Int.not_lt.1 fun h => hc (hz.2 h)
        · rintro _ u3 ⟨rfl, i2, j2, rfl, g1, g2, g3, g4, g5, g6⟩
          exact ⟨⟨i2, j2, rfl, by omega, g2, by omega, g5, g6, hou.none f2, fu.then0 f2⟩, by dsimp only; omega⟩
      · have hij : j = i := by omega
        subst hij
        rw [w64 (x := (j : Int) - 1) (by omega)]
        refine loopI (fun (st : Int) u => ∃ (k : Nat) (l' : List (Int × Sl)), st = (k : Int) ∧ a ≤ k ∧ k ≤ j - 1 ∧ ShK a b l l' ∧ Rot a (a + 1) (k + 1) l l' ∧ Own S u 57 entT s l' ∧ Fr (fun k => s.v.ownBlock = some k) w u) (fun st _ => j - st.toNat) ⟨a, l, rfl, Nat.le_refl _, by omega, .refl _, rot_triv (.inr rfl) (by omega), hou, fu⟩ ?_
        rintro _ v ⟨k, l', rfl, g1, g2, sh', hr', hov, fv⟩
        have hl' := sh'.len
        refine condD (fun hlt => ?_) fun hge => ?_
        · have hlt : k < j - 1 := by omega
          obtain ⟨x, hx⟩ := gt (l := l') (k := k) (by omega)
          obtain ⟨y, hy⟩ := gt (l := l') (k := k + 1) (by omega)
          refine swapI (t := entT) (p := k + 1) (q := k) (hov.none (Fr.refl None v).drew) rfl rfl (by rw [w64 (by omega)]; omega) rfl hx hy fun v2 o2 f2 z2 => ?_
          refine ⟨⟨k + 1, _, by rw [w64 (by omega)]; omega, by omega, by omega, sh'.step (by omega) (by omega) (by omega) (by omega) hx hy, rot_up hr' g1 hx hy, o2, (fv.then0 (Fr.refl None v).drew).then f2⟩, ?_⟩
          rw [w64 (by omega)]
          omega
        · have : k + 1 = j := by omega
          rw [this] at hr'
          exact hk l' v sh' (so_left hbl s2 h1 h3 h4 h5 hr') hov fv
    · have e2 : b = m + 1 := by omega
      subst e2
      obtain ⟨pv, hpv⟩ := gt (l := l) (k := m) (by omega)
      refine loopI (fun (st : Int × Int) u => ∃ i j : Nat, st = ((i : Int), (j : Int)) ∧ a ≤ i ∧ i ≤ j ∧ j ≤ m ∧ (i = a ∨ ∀ x y, l[i - 1]? = some x → l[m]? = some y → entKey x ≤ entKey y) ∧ (j = m ∨ ∀ x y, l[m]? = some x → l[j]? = some y → entKey x < entKey y) ∧ Own S u 57 entT s l ∧ Fr (fun k => s.v.ownBlock = some k) w u)
        (fun st _ => (st.2 - st.1).toNat) ⟨a, m, rfl, Nat.le_refl _, by omega, Nat.le_refl _, .inl rfl, .inl rfl, ho, Fr.refl _ _⟩ ?_
      rintro _ u ⟨i, j, rfl, h1, h2, h3, h4, h5, hou, fu⟩
      dsimp only
      refine condD (fun hlt => ?_) fun hge => ?_
      · have hlt : i < j := by omega
        rw [half (by omega)]
        obtain ⟨x, hx⟩ := gt (l := l) (k := (i + j) / 2) (by omega)
        refine cmpI hou rfl rfl hpv hx fun z u2 hz f2 => ?_
        rw [w64 (x := (((i + j) / 2 : Nat) : Int) + 1) (by omega)]
        refine joinI (fun (st : Int × Int) u => u = u2 ∧ ∃ i2 j2 : Nat, st = ((i2 : Int), (j2 : Int)) ∧ i ≤ i2 ∧ i2 ≤ j2 ∧ j2 ≤ j ∧ j2 - i2 < j - i ∧ (i2 = a ∨ ∀ x y, l[i2 - 1]? = some x → l[m]? = some y → entKey x ≤ entKey y) ∧ (j2 = m ∨ ∀ x y, l[m]? = some x → l[j2]? = some y → entKey x < entKey y)) ?_ ?_
        · refine condI (fun hc => ?_) fun hc => ?_
          · have hc : ¬ z < 0 := by simpa using hc
            refine ⟨rfl, (i + j) / 2 + 1, j, rfl, by omega, by omega, Nat.le_refl _, by omega, .inr fun x' y' g1 g2 => ?_, h5⟩
            rw [Nat.add_sub_cancel, hx] at g1
            rw [hpv] at g2
            cases g1; cases g2
            exact Int.not_lt.1 fun h => hc (hz.2 h)
          · have hc : z < 0 := by simpa using hc
            refine ⟨rfl, i, (i + j) / 2, rfl, Nat.le_refl _, by omega, by omega, by omega, h4, .inr fun x' y' g1 g2 => ?_⟩
            rw [hpv] at g1
            rw [hx] at g2
            cases g1; cases g2
            exact hz.1 hc
        · rintro _ u3 ⟨rfl, i2, j2, rfl, g1, g2, g3, g4, g5, g6⟩
          exact ⟨⟨i2, j2, rfl, by omega, g2, by omega, g5, g6, hou.none f2, fu.then0 f2⟩, by dsimp only; omega⟩
      · have hij : j = i := by omega
        subst hij
        refine loopI (fun (st : Int) u => ∃ (k : Nat) (l' : List (Int × Sl)), st = (k : Int) ∧ j ≤ k ∧ k ≤ m ∧ ShK a (m + 1) l l' ∧ Rot k m (m + 1) l l' ∧ Own S u 57 entT s l' ∧ Fr (fun k => s.v.ownBlock = some k) w u) (fun st _ => st.toNat) ⟨m, l, rfl, h3, Nat.le_refl _, .refl _, rot_triv (.inl rfl) (by omega), hou, fu⟩ ?_
        rintro _ v ⟨k, l', rfl, g1, g2, sh', hr', hov, fv⟩
        have hl' := sh'.len
        refine condD (fun hgt => ?_) fun hge => ?_
        · have hgt : j < k := by have hgt : (k : Int) > (j : Int) := hgt; omega
          obtain ⟨k, rfl⟩ : ∃ q, k = q + 1 := ⟨k - 1, by omega⟩
          obtain ⟨x, hx⟩ := gt (l := l') (k := k + 1) (by omega)
          obtain ⟨y, hy⟩ := gt (l := l') (k := k) (by omega)
          refine swapI (t := entT) (p := k) (q := k + 1) (hov.none (Fr.refl None v).drew) rfl rfl (by rw [w64 (by omega)]; omega) rfl hx hy fun v2 o2 f2 z2 => ?_
          refine ⟨⟨k, _, by rw [w64 (by omega)]; omega, by omega, by omega, sh'.step (by omega) (by omega) (by omega) (by omega) hx hy, rot_dn hr' (by omega) hx hy, o2, (fv.then0 (Fr.refl None v).drew).then f2⟩, ?_⟩
          rw [w64 (by omega)]
          omega
        · have : k = j := by have hge : ¬ (k : Int) > (j : Int) := hge; omega
          subst this
          exact hk l' v sh' (so_right (by omega) s1 h1 h3 h4 h5 hr') hov fv
    · obtain ⟨mid, hmid⟩ : ∃ mid, mid = (a + b) / 2 := ⟨_, rfl⟩
      rw [half (i := a) (j := b) (by omega), ← hmid, w64 (x := (mid : Int) + (m : Int)) (by omega), w64 (x := (mid : Int) + (m : Int) - (b : Int)) (by omega), w64 (x := (mid : Int) + (m : Int) - 1) (by omega)]
      refine joinI (fun (st : Int × Int) u => u = w ∧ ∃ i j : Nat, st = ((i : Int), (j : Int)) ∧ ((mid < m ∧ i + b = mid + m ∧ j = mid) ∨ (m ≤ mid ∧ i = a ∧ j = m))) ?_ ?_
      · refine condD (fun hgt => ⟨rfl, mid + m - b, mid, ?_, .inl ⟨by omega, by omega, rfl⟩⟩) fun hle => ⟨rfl, a, m, rfl, .inr ⟨by omega, rfl, rfl⟩⟩
        congr 1
        omega
      rintro _ u0 ⟨rfl, i0, j0, rfl, hij0⟩
      dsimp only
      refine loopI (fun (st : Int × Int) u => ∃ i j : Nat, st = ((i : Int), (j : Int)) ∧ i0 ≤ i ∧ i ≤ j ∧ j ≤ j0 ∧ (i = i0 ∨ ∀ x y, l[i - 1]? = some x → l[mid + m - i]? = some y → entKey x ≤ entKey y) ∧ (j = j0 ∨ ∀ x y, l[mid + m - j - 1]? = some x → l[j]? = some y → entKey x ≤ entKey y) ∧ Own S u 57 entT s l ∧ Fr (fun k => s.v.ownBlock = some k) u0 u)
        (fun st _ => (st.2 - st.1).toNat) ⟨i0, j0, rfl, Nat.le_refl _, by omega, Nat.le_refl _, .inl rfl, .inl rfl, ho, Fr.refl _ _⟩ ?_
      rintro _ u ⟨i, j, rfl, h1, h2, h3, h4, h5, hou, fu⟩
      dsimp only
      refine condD (fun hlt => ?_) fun hge => ?_
      · have hlt : i < j := by omega
        rw [half (i := i) (j := j) (by omega)]
        obtain ⟨c, hc⟩ : ∃ c, c = (i + j) / 2 := ⟨_, rfl⟩
        rw [← hc, w64 (x := (mid : Int) + (m : Int) - 1 - (c : Int)) (by omega), w64 (x := (c : Int) + 1) (by omega)]
        obtain ⟨x, hx⟩ := gt (l := l) (k := mid + m - c - 1) (by omega)
        obtain ⟨y, hy⟩ := gt (l := l) (k := c) (by omega)
        refine cmpI hou (p := mid + m - c - 1) (q := c) (by omega) rfl hx hy fun z u2 hz f2 => ?_
        refine joinI (fun (st : Int × Int) u => u = u2 ∧ ∃ i2 j2 : Nat, st = ((i2 : Int), (j2 : Int)) ∧ i ≤ i2 ∧ i2 ≤ j2 ∧ j2 ≤ j ∧ j2 - i2 < j - i ∧ (i2 = i0 ∨ ∀ x y, l[i2 - 1]? = some x → l[mid + m - i2]? = some y → entKey x ≤ entKey y) ∧ (j2 = j0 ∨ ∀ x y, l[mid + m - j2 - 1]? = some x → l[j2]? = some y → entKey x ≤ entKey y)) ?_ ?_
        · refine condI (fun hc2 => ?_) fun hc2 => ?_
          · have hc2 : ¬ z < 0 := by simpa using hc2
            refine ⟨rfl, c + 1, j, rfl, by omega, by omega, Nat.le_refl _, by omega, .inr fun x' y' g1 g2 => ?_, h5⟩
            rw [Nat.add_sub_cancel, hy] at g1
            rw [show mid + m - (c + 1) = mid + m - c - 1 by omega, hx] at g2
            cases g1; cases g2
            exact Int.not_lt.1 fun h => hc2 (hz.2 h)
          · have hc2 : z < 0 := by simpa using hc2
            refine ⟨rfl, i, c, rfl, Nat.le_refl _, by omega, by omega, by omega, h4, .inr fun x' y' g1 g2 => ?_⟩
            rw [hx] at g1
            rw [hy] at g2
            cases g1; cases g2
            exact Int.le_of_lt (hz.1 hc2)
        · rintro _ u3 ⟨rfl, i2, j2, rfl, g1, g2, g3, g4, g5, g6⟩
          exact ⟨⟨i2, j2, rfl, by omega, g2, by omega, g5, g6, hou.none f2, fu.then0 f2⟩, by dsimp only; omega⟩
      · have hij : j = i := by omega
        subst hij
        obtain ⟨e, he⟩ : ∃ e, e = mid + m - j := ⟨_, rfl⟩
        rw [w64 (x := (mid : Int) + (m : Int) - (j : Int)) (by omega), show (mid : Int) + (m : Int) - (j : Int) = (e : Int) by omega]
        refine joinI (fun z v => v = u ∧ z = decide (j < m ∧ m < e)) ?_ ?_
        · refine condD (fun g => ⟨rfl, decide_eq_decide.2 (by omega)⟩) fun g => ⟨rfl, (decide_eq_false (by omega)).symm⟩
        rintro _ v ⟨rfl, rfl⟩
        refine joinI (fun (_ : Unit) v2 => ∃ l2, ShK j e l l2 ∧ Rot j m e l l2 ∧ Own S v2 57 entT s l2 ∧ Fr (fun k => s.v.ownBlock = some k) u0 v2) ?_ ?_
        · refine condD (fun g => ?_) fun g => ⟨l, .refl _, rot_triv (by omega) (by omega), hou, fu⟩
          exact spec_rotate_Ent hou g.1 g.2 (by omega) (by omega) fun l2 v2 g1 g2 g3 g4 => ⟨l2, g1, g2, g3, fu.then g4⟩
        rintro _ v2 ⟨l2, sh2, rot2, o2, fv2⟩
        have hl2 := sh2.len
        obtain ⟨p1, p2, p3, p4, p5⟩ := merge_parts (mid := mid) hbl s1 s2 (by omega) (by omega) (by omega) (by omega) (by omega) (by
          rcases h4 with g | g
          · omega
          · rw [← he] at g
            exact .inr (.inr g)) (by
          rcases h5 with g | g
          · omega
          · rw [← he] at g
            exact .inr (.inr g)) rot2
        refine joinI (fun z v => v = v2 ∧ z = decide (a < j ∧ j < mid)) ?_ ?_
        · refine condD (fun g => ⟨rfl, decide_eq_decide.2 (by omega)⟩) fun g => ⟨rfl, (decide_eq_false (by omega)).symm⟩
        rintro _ v3 ⟨rfl, rfl⟩
        refine joinI (fun (_ : Unit) v4 => ∃ l3, ShK a mid l2 l3 ∧ So entKey a mid l3 ∧ Own S v4 57 entT s l3 ∧ Fr (fun k => s.v.ownBlock = some k) u0 v4) ?_ ?_
        · refine condD (fun g => ?_) fun g => ⟨l2, .refl _, ?_, o2, fv2⟩
          · exact spec_symMerge_Ent d (by omega) o2 g.1 g.2 (by omega) (by omega) p1 p2 fun l3 v4 g1 g2 g3 g4 => ⟨l3, g1, g2, g3, fv2.then g4⟩
          · by_cases c : j = a
            · rw [c] at p2; exact p2
            · have : j = mid := by omega
              rw [this] at p1; exact p1
        rintro _ v4 ⟨l3, sh3, so3, o3, fv4⟩
        have hl3 := sh3.len
        have q3 : So entKey mid e l3 := p3.same fun k g1 g2 => sh3.out (.inr g1)
        have q4 : So entKey e b l3 := p4.same fun k g1 g2 => sh3.out (.inr (by omega))
        refine joinI (fun z v => v = v4 ∧ z = decide (mid < e ∧ e < b)) ?_ ?_
        · refine condD (fun g => ⟨rfl, decide_eq_decide.2 (by omega)⟩) fun g => ⟨rfl, (decide_eq_false (by omega)).symm⟩
        rintro _ v5 ⟨rfl, rfl⟩
        refine joinI (fun (_ : Unit) v6 => ∃ l4, ShK mid b l3 l4 ∧ So entKey mid b l4 ∧ Own S v6 57 entT s l4 ∧ Fr (fun k => s.v.ownBlock = some k) u0 v6) ?_ ?_
        · refine condD (fun g => ?_) fun g => ⟨l3, .refl _, ?_, o3, fv4⟩
          · exact spec_symMerge_Ent d (by omega) o3 g.1 g.2 (by omega) (by omega) q3 q4 fun l4 v6 g1 g2 g3 g4 => ⟨l4, g1, g2, g3, fv4.then g4⟩
          · by_cases c : e = mid
            · rw [c] at q4; exact q4
            · have : e = b := by omega
              rw [this] at q3; exact q3
        rintro _ v6 ⟨l4, sh4, so4, o4, fv6⟩
        exact hk l4 v6 (((sh2.mono (by omega) (by omega)).trans (sh3.mono (Nat.le_refl _) (by omega))).trans (sh4.mono (by omega) (Nat.le_refl _))) (merge_join p5 sh3 so3 sh4 so4) o4 fv6
end
end Go.Proofs.YtchhhjlpnecjkaaGreat
set_option linter.unusedVariables false
namespace Go.Proofs.YtchhhjlpnecjkaaGreat
open Go Go.Proofs.YtchhhjlpnecjkaaGreat.Den
def F_cmp_isNaN_byte (x0 : Int) : W (Bool) :=
  retW (x0 != x0)
def H_cmp_isNaN_byte : Hints := {}
theorem E_cmp_isNaN_byte (x0 : Int) : denF Tryz.prog H_cmp_isNaN_byte Tryz.f178 [.sc .bool] [.int .u8 x0] = F_cmp_isNaN_byte x0 := by kernel_rfl
theorem C_cmp_isNaN_byte {R : Type} (x0 : Int) (K : Res [.sc .bool] → W R) (Q : R → World → Prop) (w : World) (h : F_cmp_isNaN_byte x0 (fun r w => K r Q w) w) : callW Tryz.prog k_cmp_isNaN_byte [.int .u8 x0] [.sc .bool] K Q w :=
  den_calls mix Tryz.func178 H_cmp_isNaN_byte (ts := [.sc .bool]) trivial (by rw [Tryz.ntmps178]; simp) (by rw [E_cmp_isNaN_byte]; exact h)
end Go.Proofs.YtchhhjlpnecjkaaGreat
namespace Go.Proofs.YtchhhjlpnecjkaaGreat
open Go Go.RowKit Go.Proofs.YtchhhjlpnecjkaaGreat.Den
variable {R : Type} {Q : R → World → Prop} {w : World}
section
variable {S : Nat → Prop} {s : Sl} {l : List (Int × Sl)}
theorem spec_stable_Ent (ho : Own S w 57 entT s l) {n : Nat} (hn : n = l.length) (hm : l.length ≤ 1152921504606846975) {K : Res [] → W R} (hk : ∀ l' w', ShK 0 n l l' → So entKey 0 n l' → Own S w' 57 entT s l' → Fr (fun k => s.v.ownBlock = some k) w w' → K () Q w') :
    callW Tryz.prog k_slices_stableCmpFunc_Ent [.slice s.a s.n s.c, .int .i64 (n : Int), .func (.func 121) #[] #[]] [] K Q w := by
  refine C_slices_stableCmpFunc_Ent__diff_Patch_c2 s _ K Q w ?_
  unfold F_slices_stableCmpFunc_Ent__diff_Patch_c2
  refine loopI (fun (st : Int × Int) u => ∃ (q : Nat) (l' : List (Int × Sl)), st = (((20 * q : Nat) : Int), ((20 * q + 20 : Nat) : Int)) ∧ 20 * q ≤ n ∧ ShK 0 n l l' ∧ (∀ k, k < q → So entKey (20 * k) (20 * k + 20) l') ∧ Own S u 57 entT s l' ∧ Fr (fun k => s.v.ownBlock = some k) w u) (fun st _ => n + 20 - st.2.toNat) ⟨0, l, rfl, by omega, .refl _, fun k h => by omega, ho, Fr.refl _ _⟩ ?_
  rintro _ u ⟨q, l1, rfl, hq, sh1, so1, o1, fu⟩
  have hl1 := sh1.len
  dsimp only
  refine condD (fun hle => ?_) fun hgt => ?_
  · have hle : 20 * q + 20 ≤ n := by omega
    refine spec_insertion_Ent o1 (a := 20 * q) (b := 20 * q + 20) (by omega) (by omega) (by omega) fun l2 u2 sh2 so2 o2 f2 => ?_
    refine ⟨⟨q + 1, l2, by rw [w64 (by omega)]; congr 1, by omega, sh1.trans (sh2.mono (by omega) (by omega)), fun k hk => ?_, o2, fu.then f2⟩, ?_⟩
    · by_cases e : k = q
      · rw [e]; exact so2
      · exact (so1 k (by omega)).same fun p g1 g2 => sh2.out (.inl (by omega))
    · rw [w64 (by omega)]
      omega
  refine spec_insertion_Ent o1 (a := 20 * q) (b := n) (by omega) (by omega) (by omega) fun l2 u2 sh2 so2 o2 f2 => ?_
  have sh02 := sh1.trans (sh2.mono (Nat.zero_le _) (Nat.le_refl _))
  have hgt : n < 20 * q + 20 := by omega
  have hB : ∀ k, So entKey (k * 20) (min (k * 20 + 20) n) l2 := fun k => by
    by_cases e : k < q
    · rw [Nat.min_eq_left (by omega), Nat.mul_comm]
      exact (so1 k e).same fun p g1 g2 => sh2.out (.inl (by omega))
    · by_cases e2 : k = q
      · rw [Nat.min_eq_right (by omega), e2, Nat.mul_comm]
        exact so2
      · intro p r x y g1 g2 g3
        omega
  have fu2 := fu.then f2
  clear so1 so2 sh1 sh2 o1 fu f2 hl1 hq hgt
  refine loopI (fun (st : Int) v => ∃ (bs : Nat) (l' : List (Int × Sl)), st = (bs : Int) ∧ 20 ≤ bs ∧ bs ≤ 2 * n + 20 ∧ ShK 0 n l l' ∧ (∀ k, So entKey (k * bs) (min (k * bs + bs) n) l') ∧ Own S v 57 entT s l' ∧ Fr (fun k => s.v.ownBlock = some k) w v) (fun st _ => n - st.toNat) ⟨20, l2, rfl, Nat.le_refl _, by omega, sh02, hB, o2, fu2⟩ ?_
  clear hB sh02 o2 fu2 l2 u2
  rintro _ v ⟨bs, l3, rfl, hb20, hbn, sh3, hB, o3, fv⟩
  refine condD (fun hlt => ?_) fun hge => ?_
  · have hlt : bs < n := by omega
    rw [w64 (x := 2 * (bs : Int)) (by omega)]
    refine loopI (fun (st : Int × Int) v => ∃ (q a : Nat) (l' : List (Int × Sl)), st = ((a : Int), ((a + 2 * bs : Nat) : Int)) ∧ a = q * (2 * bs) ∧ a ≤ n ∧ ShK 0 n l l' ∧ (∀ k, k < q → So entKey (k * (2 * bs)) (k * (2 * bs) + 2 * bs) l') ∧ (∀ k, 2 * q ≤ k → So entKey (k * bs) (min (k * bs + bs) n) l') ∧ Own S v 57 entT s l' ∧ Fr (fun k => s.v.ownBlock = some k) w v)
      (fun st _ => n + 2 * bs - st.2.toNat) ⟨0, 0, l3, by congr 1; omega, by omega, by omega, sh3, fun k h => by omega, fun k _ => hB k, o3, fv⟩ ?_
    rintro _ z ⟨q, a, l4, rfl, ha, han, sh4, lo, hi, o4, fz⟩
    have hl4 := sh4.len
    have ea : (2 * q) * bs = a := by rw [ha, Nat.mul_comm 2 q, Nat.mul_assoc]
    have eb : (2 * q + 1) * bs = a + bs := by rw [Nat.add_mul, ea, Nat.one_mul]
    have ec : (q + 1) * (2 * bs) = a + 2 * bs := by rw [Nat.add_mul, Nat.one_mul, ← ha]
    have p1 := hi (2 * q) (Nat.le_refl _)
    have p2 := hi (2 * q + 1) (by omega)
    rw [ea] at p1
    rw [eb] at p2
    dsimp only
    rw [w64 (x := (a : Int) + (bs : Int)) (by omega), show (a : Int) + (bs : Int) = ((a + bs : Nat) : Int) by omega]
    refine condD (fun hle => ?_) fun hgt => ?_
    · have hle : a + 2 * bs ≤ n := by omega
      refine spec_symMerge_Ent (b := a + 2 * bs) (2 * bs) (by omega) o4 (by omega) (by omega) (by omega) (by omega) (p1.mono (Nat.le_refl _) (by omega)) (p2.mono (Nat.le_refl _) (by omega)) fun l5 z2 sh5 so5 o5 f5 => ?_
      refine ⟨⟨q + 1, a + 2 * bs, l5, by rw [w64 (by omega)]; congr 1, ec.symm, hle, sh4.trans (sh5.mono (by omega) (by omega)), fun k hk => ?_, fun k hk => ?_, o5, fz.then f5⟩, ?_⟩
      · by_cases e : k = q
        · rw [e, ← ha]; exact so5
        · have : (k + 1) * (2 * bs) ≤ q * (2 * bs) := Nat.mul_le_mul_right _ (by omega)
          rw [Nat.add_mul, Nat.one_mul, ← ha] at this
          exact (lo k (by omega)).same fun p g1 g2 => sh5.out (.inl (by omega))
      · have : (2 * q + 2) * bs ≤ k * bs := Nat.mul_le_mul_right _ (by omega)
        rw [Nat.add_mul, ea] at this
        exact (hi k (by omega)).same fun p g1 g2 => sh5.out (.inr (by omega))
      · rw [w64 (by omega)]
        omega
    · have hgt : n < a + 2 * bs := by omega
      have out : ∀ (l5 : List (Int × Sl)), ShK a n l4 l5 → So entKey a n l5 → ∀ k, So entKey (k * (2 * bs)) (min (k * (2 * bs) + 2 * bs) n) l5 := by
        intro l5 sh5 so5 k
        by_cases e : k < q
        · have : (k + 1) * (2 * bs) ≤ q * (2 * bs) := Nat.mul_le_mul_right _ (by omega)
          rw [Nat.add_mul, Nat.one_mul, ← ha] at this
          rw [Nat.min_eq_left (by omega)]
          exact (lo k e).same fun p g1 g2 => sh5.out (.inl (by omega))
        · by_cases e2 : k = q
          · rw [e2, ← ha, Nat.min_eq_right (by omega)]
            exact so5
          · have : (q + 1) * (2 * bs) ≤ k * (2 * bs) := Nat.mul_le_mul_right _ (by omega)
            rw [ec] at this
            intro p r x y g1 g2 g3
            omega
      refine joinI (fun (_ : Unit) v => ∃ l5, ShK a n l4 l5 ∧ So entKey a n l5 ∧ Own S v 57 entT s l5 ∧ Fr (fun k => s.v.ownBlock = some k) w v) ?_ ?_
      · refine condD (fun g => ?_) fun g => ⟨l4, .refl _, p1.mono (Nat.le_refl _) (by omega), o4, fz⟩
        have g : a + bs < n := by omega
        exact spec_symMerge_Ent (b := n) (2 * bs) (by omega) o4 (by omega) g (by omega) (by omega) (p1.mono (Nat.le_refl _) (by omega)) (p2.mono (Nat.le_refl _) (by omega)) fun l5 z2 sh5 so5 o5 f5 => ⟨l5, sh5, so5, o5, fz.then f5⟩
      rintro _ z2 ⟨l5, sh5, so5, o5, f5⟩
      refine ⟨⟨2 * bs, l5, by rw [w64 (by omega)]; omega, by omega, by omega, sh4.trans (sh5.mono (Nat.zero_le _) (Nat.le_refl _)), out l5 sh5 so5, o5, f5⟩, ?_⟩
      rw [w64 (by omega)]
      omega
  · have h0 := hB 0
    rw [Nat.zero_mul, Nat.min_eq_right (by omega)] at h0
    exact hk l3 v sh3 h0 o3 fv
theorem spec_SortStable_Ent (ho : Own S w 57 entT s l) (hm : l.length ≤ 1152921504606846975) {K : Res [] → W R} (hk : ∀ l' w', l'.Perm l → So entKey 0 l'.length l' → Own S w' 57 entT s l' → Fr (fun k => s.v.ownBlock = some k) w w' → K () Q w') :
    callW Tryz.prog k_slices_SortStableFunc_Ent [.slice s.a s.n s.c, .func (.func 121) #[] #[]] [] K Q w := by
  refine C_slices_SortStableFunc_Ent__diff_Patch_c2 s K Q w ?_
  unfold F_slices_SortStableFunc_Ent__diff_Patch_c2
  exact spec_stable_Ent ho ho.len hm fun l' w' sh so o f => hk l' w' sh.perm (by rw [sh.len, ← ho.len]; exact so) o f
end
section
variable {S : Nat → Prop} {s : Sl} {l : List Comp}
abbrev compKey (c : Comp) : Int := c.1
theorem spec_diff_turn_c1 {x y : Comp} {K : Res [.sc (.int .i64)] → W R} (hk : ∀ z w', (z < 0 ↔ x.1 < y.1) → Fr None w w' → K z Q w') : callW Tryz.prog k_diff_turn_c1 [.agg ⟨compC x⟩, .agg ⟨compC y⟩] [.sc (.int .i64)] K Q w := by
  refine C_diff_turn_c1 x y K Q w ?_
  unfold F_diff_turn_c1
  refine newI fun w1 B1 f1 z1 => newI fun w2 B2 f2 z2 => fldI (B1.fr f2 fun h => h) (i := 0) (x := x.1) rfl (fldI B2 (i := 0) (x := y.1) rfl ?_)
  refine C_cmp_Compare_byte _ _ _ _ _ ?_
  unfold F_cmp_Compare_byte
  refine C_cmp_isNaN_byte _ _ _ _ ?_
  unfold F_cmp_isNaN_byte
  refine C_cmp_isNaN_byte _ _ _ _ ?_
  unfold F_cmp_isNaN_byte
  have f02 := f1.then0 f2
  refine condF (by simp) (condF (by simp) (condD (fun h => ?_) fun h => condD (fun h2 => ?_) fun h2 => ?_))
  · exact hk _ w2 ⟨fun _ => h, fun _ => by decide⟩ f02
  · exact hk _ w2 ⟨fun h3 => absurd h3 (by decide), fun h3 => absurd h3 h⟩ f02
  · exact hk _ w2 ⟨fun h3 => absurd h3 (by decide), fun h3 => absurd h3 h⟩ f02
theorem spec_SortStable_Comp (ho : Own S w 92 compT s l) (hm : l.length < 20) {K : Res [] → W R} (hk : ∀ l' w', l'.Perm l → So compKey 0 l'.length l' → Own S w' 92 compT s l' → Fr (fun k => s.v.ownBlock = some k) w w' → K () Q w') :
    callW Tryz.prog k_slices_SortStableFunc_Comp [.slice s.a s.n s.c, .func (.func 150) #[] #[]] [] K Q w := by
  refine C_slices_SortStableFunc_Comp__diff_turn_c1 s K Q w ?_
  unfold F_slices_SortStableFunc_Comp__diff_turn_c1
  refine C_slices_stableCmpFunc_Comp__diff_turn_c1 s _ _ _ _ ?_
  unfold F_slices_stableCmpFunc_Comp__diff_turn_c1
  have hl := ho.len
  refine loopI (fun (st : Int × Int) v => st = (0, 20) ∧ v = w) (fun _ _ => 0) ⟨rfl, rfl⟩ ?_
  rintro _ v ⟨rfl, rfl⟩
  refine condF (decide_eq_false (by show ¬ (20 : Int) ≤ (s.n : Int); omega)) ?_
  refine C_slices_insertionSortCmpFunc_Comp__diff_turn_c1 s _ _ _ _ _ ?_
  unfold F_slices_insertionSortCmpFunc_Comp__diff_turn_c1
  refine insI (t := compT) (sz := 4) rfl rfl compKey (fun x y K => callW Tryz.prog k_diff_turn_c1 [.agg ⟨compC x⟩, .agg ⟨compC y⟩] [.sc (.int .i64)] K) (fun x y K Q w h => spec_diff_turn_c1 h) (a := 0) rfl (congrArg Int.ofNat hl) (Nat.zero_le _) (Nat.le_refl _) (by omega) ho fun l' w' sh so o f => ?_
  unfold retW
  refine loopI (fun (st : Int) z => st = 20 ∧ z = w') (fun _ _ => 0) ⟨rfl, rfl⟩ ?_
  rintro _ z ⟨rfl, rfl⟩
  refine condF (decide_eq_false (by show ¬ (20 : Int) < (s.n : Int); omega)) ?_
  exact hk l' z sh.perm (by rw [sh.len]; exact so) o f
end
end Go.Proofs.YtchhhjlpnecjkaaGreat
namespace Go.Proofs.YtchhhjlpnecjkaaGreat
open Go Go.RowKit Go.Proofs.YtchhhjlpnecjkaaGreat.Den
variable {R : Type} {Q : R → World → Prop} {w : World}
theorem Den.All2.inv {α β : Type} {p : α → β → Prop} {x : α} {l : List α} {k : List β} (h : All2 p (x :: l) k) : ∃ b k0, k = b :: k0 ∧ p x b ∧ All2 p l k0 := by
  rcases k with _ | ⟨b, k0⟩
  · have := h.len; simp at this
  · exact ⟨b, k0, rfl, h.at_ 0 x b rfl rfl, by have := h.len; simpa using this, fun i a c ha hc => h.at_ (i + 1) a c (by simpa using ha) (by simpa using hc)⟩
theorem Den.All2.cons {α β : Type} {p : α → β → Prop} {x : α} {b : β} {l : List α} {k : List β} (hx : p x b) (h : All2 p l k) : All2 p (x :: l) (b :: k) :=
  ⟨by simp [h.len], fun i a c ha hc => by
    rcases i with _ | i
    · simp at ha hc; subst ha; subst hc; exact hx
    · exact h.at_ i a c (by simpa using ha) (by simpa using hc)⟩
theorem Den.All2.perm {α β : Type} {p : α → β → Prop} {l l' : List α} (hp : l.Perm l') : ∀ {k : List β}, All2 p l k → ∃ k', k'.Perm k ∧ All2 p l' k' := by
  induction hp with
  | nil => exact fun {k} h => ⟨k, List.Perm.refl _, h⟩
  | cons x _ ih =>
    intro k h
    obtain ⟨b, k0, rfl, hb, h0⟩ := h.inv
    obtain ⟨k1, p1, h1⟩ := ih h0
    exact ⟨b :: k1, p1.cons b, All2.cons hb h1⟩
  | swap x y l =>
    intro k h
    obtain ⟨b, k0, rfl, hb, h0⟩ := h.inv
    obtain ⟨c, k1, rfl, hc, h1⟩ := h0.inv
    exact ⟨c :: b :: k1, List.Perm.swap _ _ _, All2.cons hc (All2.cons hb h1)⟩
  | trans _ _ ih1 ih2 =>
    intro k h
    obtain ⟨k1, p1, h1⟩ := ih1 h
    obtain ⟨k2, p2, h2⟩ := ih2 h1
    exact ⟨k2, p2.trans p1, h2⟩
theorem So.pair {α : Type} {key : α → Int} {l : List α} (h : So key 0 l.length l) : l.Pairwise fun a b => key a ≤ key b := by
  rw [List.pairwise_iff_getElem]
  intro i j hi hj hij
  exact h i j _ _ (Nat.zero_le _) hij hj (List.getElem?_eq_getElem hi) (List.getElem?_eq_getElem hj)
theorem lost_test : ∀ m : Fin 256, ∀ j : Fin 6, (bAnd .u8 (shR .u8 ((m.val : Nat) : Int) ((j.val : Nat) : Int)) 1 == 1) = m.val.testBit j.val := by decide +kernel
def turnF (d : Chg) (c : Comp) : Comp := if (findC d.2.2.2 c.1).2 = true then (findC d.2.2.2 c.1).1 else c
def turnB (d : Chg) (c : Comp) : Bool := !(decide (c.1 < 6) && d.2.1.toNat.testBit c.1.toNat)
theorem turnP_eq (l : List Comp) (d : Chg) : turnP l d = (l.filter (turnB d)).map (turnF d) ++ d.2.2.1 := rfl
theorem turn_snoc (l : List Comp) (d : Chg) (c : Comp) : ((l ++ [c]).filter (turnB d)).map (turnF d) = (l.filter (turnB d)).map (turnF d) ++ if turnB d c = true then [turnF d c] else [] := by
  rw [List.filter_append, List.map_append]
  congr 1
  by_cases h : turnB d c = true
  · simp [List.filter, h]
  · simp [List.filter, h]
theorem spec_diff_turn {ok ok2 : Nat → Prop} {r : Int × Sl} {e : Ent} (h1 : r.1 = e.1) (hS : SlT ok w compT r.2 e.2) (hm : e.2.length ≤ 9) (hc : ∀ c ∈ e.2, CompOk c) {rd : ChgRaw} {d : Chg} (hd : chgR ok2 w rd d) (hl : 0 ≤ d.2.1 ∧ d.2.1 ≤ 255) (hn : d.2.2.1.length ≤ 9) (hs : Small d.2.2.2) {K : Res [.agg [.int .u32, .sl]] → W R}
    (hk : ∀ t e' w', TurnOf e d e' → Own (Up w.heap.size) w' 92 compT t e'.2 → Fr None w w' → K (e.1, t) Q w') :
    callW Tryz.prog k_diff_turn [.agg ⟨[.int .u32 r.1, .slice r.2.a r.2.n r.2.c]⟩, .agg ⟨[.int .u32 rd.1, .int .u8 rd.2.1, .slice rd.2.2.1.a rd.2.2.1.n rd.2.2.1.c, .slice rd.2.2.2.a rd.2.2.2.n rd.2.2.2.c]⟩] [.agg [.int .u32, .sl]] K Q w := by
  refine C_diff_turn r rd K Q w ?_
  unfold F_diff_turn
  obtain ⟨d1, d2, d3, d4⟩ := hd
  refine newI fun w1 Be f1 z1 => newI fun w2 Bd f2 z2 => newI fun w3 Bx f3 z3 => ?_
  have Be := (Be.fr f2 fun h => h).fr f3 fun h => h
  have Bd := Bd.fr f3 fun h => h
  have f03 := (f1.then0 f2).then0 f3
  have hlen := hS.len
  refine fldI Be (i := 1) (x := r.2) rfl ?_
  have keep : ∀ {u : World}, Fr (Up w3.heap.size) w3 u → Blk u w.heap.size 57 [.int .u32 r.1, .slice r.2.a r.2.n r.2.c] ∧ Blk u w1.heap.size 86 [.int .u32 rd.1, .int .u8 rd.2.1, .slice rd.2.2.1.a rd.2.2.1.n rd.2.2.1.c, .slice rd.2.2.2.a rd.2.2.2.n rd.2.2.2.c] ∧ Blk u w2.heap.size 57 [.int .u32 0, .slice none 0 0] ∧ Fr None w u := fun f =>
    ⟨Be.frUp f (by omega), Bd.frUp f (by omega), Bx.frUp f (by omega), f03.thenUp f f03.size⟩
  refine forI (N := r.2.n) (fun s : Sl × Int => s.2) (fun j st u => st.2 = (j : Int) ∧ Own (Up w3.heap.size) u 92 compT st.1 (((e.2.take j).filter (turnB d)).map (turnF d)) ∧ Fr (Up w3.heap.size) w3 u) ⟨rfl, by rw [List.take_zero]; exact Own.nil _ _ _ _, Fr.refl _ _⟩ (fun j s w' h => h.1) ?_ ?_
  · rintro j ⟨z, _⟩ u K' hj ⟨rfl, o, fu⟩ - hK
    obtain ⟨Beu, Bdu, Bxu, f0u⟩ := keep fu
    have su := fu.size
    obtain ⟨c, hcj⟩ : ∃ c, e.2[j]? = some c := ⟨_, List.getElem?_eq_getElem (by omega)⟩
    refine joinI (fun z v => Own (Up w3.heap.size) v 92 compT z (((e.2.take (j + 1)).filter (turnB d)).map (turnF d)) ∧ Fr (Up w3.heap.size) w3 v) ?_ fun z v ⟨h1, h2⟩ => hK _ _ ⟨wsucc hj (by omega), h1, h2⟩
    refine (hS.fr0 f0u).get rfl rfl (by omega) fun x hx => ?_
    rw [hcj] at hx
    cases hx
    have hco := hc c (List.mem_of_getElem? hcj)
    refine newI fun u1 Bc g1 y1 => stoAll Bc rfl rfl fun u2 Bc g2 y2 => ?_
    have g02 : Fr None u u2 := g1.newer g2 fun k e => by omega
    have Bd2 := Bdu.fr g02 fun h => h
    refine joinI (fun z v => z = !turnB d c ∧ v = u2) ?_ ?_
    · refine fldI Bc (i := 0) (x := c.1) rfl (condD (fun hlt => ?_) fun hge => ?_)
      · refine fldI Bd2 (i := 1) (x := rd.2.1) rfl (fldI Bc (i := 0) (x := c.1) rfl (chkI hco.1.1 ⟨?_, rfl⟩))
        have hlt6 : c.1 < 6 := hlt
        have t := lost_test ⟨d.2.1.toNat, by omega⟩ ⟨c.1.toNat, by have := hco.1; omega⟩
        dsimp only at t
        rw [show ((d.2.1.toNat : Nat) : Int) = d.2.1 by omega, show ((c.1.toNat : Nat) : Int) = c.1 by have := hco.1; omega] at t
        unfold turnB
        rw [d2, t, decide_eq_true hlt]
        simp
      · unfold turnB
        rw [decide_eq_false hge]
        exact ⟨by simp, rfl⟩
    rintro z' v ⟨rfl, rfl⟩
    rw [take_at hcj, turn_snoc]
    have fu2 := fu.then g02.up
    refine condI (fun hb => ?_) fun hb => ?_
    · rw [if_neg (by simpa using hb), List.append_nil]
      exact ⟨o.none g02, fu2⟩
    have hb : turnB d c = true := by simpa using hb
    rw [if_pos hb]
    refine fldI Bd2 (i := 3) (x := rd.2.2.2) rfl (fldI Bc (i := 0) (x := c.1) rfl (spec_diff_find (d4.fr0 (f0u.then0 g02)) (by have := hs; omega) fun u3 g3 => ?_))
    have g03 := g02.then0 g3
    refine newI fun u4 By g4 y4 => stoAll By rfl rfl fun u5 By g5 y5 => ?_
    have g35 : Fr None u3 u5 := g4.newer g5 fun k e => by omega
    have Bc5 := (Bc.fr g3 fun h => h).fr g35 fun h => h
    have g05 := g03.then0 g35
    have s5 := g05.size
    have sc : u.heap.size < u5.heap.size := Bc5.lt
    refine joinI (fun (_ : Unit) v => Blk v u.heap.size 92 (compC (turnF d c)) ∧ Fr None u v ∧ u.heap.size ≤ v.heap.size) ?_ ?_
    · unfold turnF
      refine condI (fun hf => ?_) fun hf => ?_
      · rw [if_pos hf]
        refine aggI By (x := (findC d.2.2.2 c.1).1) rfl (stoAll Bc5 rfl rfl fun u6 B6 g6 y6 => ⟨B6, g05.newer g6 fun k e => by omega, by omega⟩)
      · rw [if_neg (by rw [hf]; simp)]
        exact ⟨Bc5, g05, by omega⟩
    rintro _ v ⟨Bv, gv, sv⟩
    refine aggI Bv (x := turnF d c) rfl ?_
    have ol : ((e.2.take j).filter (turnB d)).length ≤ e.2.length := Nat.le_trans (List.length_filter_le _ _) (by simp; omega)
    refine appP (x := turnF d c) comps_ty rfl (o.none gv) (fun k e => by show w3.heap.size ≤ k; omega) (by simp; omega) (by simp; omega) fun r2 u7 o7 g7 => ?_
    exact ⟨o7, (fu.then gv.up).then ((o.none gv).upFr g7)⟩
  · rintro ⟨z, _⟩ u ⟨_, o, fu⟩
    obtain ⟨Beu, Bdu, Bxu, f0u⟩ := keep fu
    have su := fu.size
    have s03 := f03.size
    rw [List.take_of_length_le (by omega)] at o
    refine fldI Bdu (i := 2) (x := rd.2.2.1) rfl ?_
    have ol : ((e.2.filter (turnB d)).map (turnF d)).length ≤ 9 := by rw [List.length_map]; exact Nat.le_trans (List.length_filter_le _ _) hm
    have hnl := (d3.fr0 f0u)
    refine appI (S' := Up w3.heap.size) comps_ty o hnl (by omega) (by rw [maxLen_eq]; omega) (fun _ h => h) (by show _ ≤ _; omega) fun r2 u2 o2 g2 y2 => ?_
    rw [← turnP_eq] at o2
    have fu2 := fu.then (o.upFr g2)
    refine spec_SortStable_Comp o2 (by rw [turnP_eq, List.length_append]; omega) fun l' u3 hp hso o3 g3 => ?_
    have fu3 := fu2.then (o2.upFr g3)
    obtain ⟨Be3, Bd3, Bx3, f3'⟩ := keep fu3
    refine fldI Be3 (i := 0) (x := r.1) rfl (stoAll Bx3 rfl rfl fun u4 B4 g4 y4 => aggI B4 (x := ((r.1, r2) : Int × Sl)) rfl ?_)
    rw [h1]
    exact hk r2 (e.1, l') u4 ⟨rfl, hp, hso.pair⟩ ((o3.fr g4 fun k (e : w3.heap.size ≤ k) e2 => by omega).mono fun k _ (e : w3.heap.size ≤ k) => by show w.heap.size ≤ k; omega) (f3'.newer g4 fun k e => by omega)
theorem spec_Contains_ID {ok : Nat → Prop} {s : Sl} {l : List Int} (hS : SlT ok w idT s l) (hm : l.length ≤ 4611686018427387904) {x : Int} {K : Res [.sc .bool] → W R} (hk : ∀ w', Fr None w w' → K (decide (x ∈ l)) Q w') :
    callW Tryz.prog k_slices_Contains_ID [.slice s.a s.n s.c, .int .u32 x] [.sc .bool] K Q w := by
  refine C_slices_Contains_ID s _ K Q w ?_
  unfold F_slices_Contains_ID
  refine C_slices_Index_ID s _ _ _ w ?_
  unfold F_slices_Index_ID
  have hlen := hS.len
  refine forI (N := s.n) (fun s : Int => s) (fun j i w' => i = j ∧ Fr None w w' ∧ ∀ q y, q < j → l[q]? = some y → y ≠ x) ⟨rfl, Fr.refl _ _, by omega⟩ (fun j s w' h => h.1) ?_ ?_
  · rintro j i w1 K' hj ⟨rfl, f1, hno⟩ - hK
    refine (hS.fr0 f1).get rfl rfl (by omega) fun y hy => condE (fun e => ?_) fun e => ?_
    · have e : x = y := e
      subst e
      have := hk w1 f1
      rw [decide_eq_true (List.mem_of_getElem? hy)] at this
      show K (decide ((j : Int) ≥ 0)) Q w1
      rw [decide_eq_true (by omega)]
      exact this
    · refine hK _ _ ⟨wsucc hj (by omega), f1, fun q z hq hz => ?_⟩
      rcases Nat.lt_succ_iff_lt_or_eq.1 hq with h1 | h1
      · exact hno q z h1 hz
      · subst h1; rw [hy] at hz; cases hz; exact fun h => e h.symm
  · rintro i w1 ⟨rfl, f1, hno⟩
    have := hk w1 f1
    rw [decide_eq_false (fun hm => by
      obtain ⟨q, hq⟩ := List.mem_iff_getElem?.1 hm
      exact hno q x (by rw [hlen]; exact (List.getElem?_eq_some_iff.1 hq).1) hq rfl)] at this
    exact this
theorem spec_IndexFunc_Change {ok : Nat → Prop} {s : Sl} {rd : List ChgRaw} {l : List Chg} (hS : SlT ok w chgT s rd) (hE : All2 (fun a b => chgR ok w a b) rd l) (hm : l.length ≤ 4611686018427387904) {be : Nat} {T : TypeId} {id : Int} {tl : List Value} (B : Blk w be T (.int .u32 id :: tl)) {K : Res [.sc (.int .i64)] → W R}
    (h0 : l.find? (fun d => d.1 == id) = none → ∀ w', Fr None w w' → K (-1) Q w') (hk : ∀ i d, l[i]? = some d → l.find? (fun d => d.1 == id) = some d → ∀ w', Fr None w w' → K (i : Nat) Q w') :
    callW Tryz.prog k_slices_IndexFunc_Change [.slice s.a s.n s.c, .func (.func 118) #[] #[.pointer (some ⟨be, 0, none⟩)]] [.sc (.int .i64)] K Q w := by
  refine C_slices_IndexFunc_Change__diff_Patch_c1 s _ K Q w ?_
  unfold F_slices_IndexFunc_Change__diff_Patch_c1
  have hlen := hS.len
  have hel := hE.len
  refine forI (N := s.n) (fun s : Int => s) (fun j i w' => i = j ∧ Fr None w w' ∧ ∀ q y, q < j → l[q]? = some y → y.1 ≠ id) ⟨rfl, Fr.refl _ _, by omega⟩ (fun j s w' h => h.1) ?_ ?_
  · rintro j i w1 K' hj ⟨rfl, f1, hno⟩ - hK
    obtain ⟨d, hd⟩ : ∃ d, l[j]? = some d := ⟨_, List.getElem?_eq_getElem (by omega)⟩
    obtain ⟨r, hr, hrd⟩ := hE.get hd
    refine (hS.fr0 f1).get rfl rfl (by omega) fun y hy => ?_
    rw [hr] at hy
    cases hy
    refine C_diff_Patch_c1 r _ _ _ _ ?_
    unfold F_diff_Patch_c1
    refine newI fun w2 B2 f2 z2 => fldI B2 (i := 0) (x := r.1) rfl (ptrI (fldI ((B.fr f1 fun h => h).fr f2 fun h => h) (i := 0) (x := id) rfl ?_))
    refine condE (fun e => ?_) fun e => ?_
    · have e : r.1 = id := e
      rw [hrd.1] at e
      have : l.find? (fun d => d.1 == id) = some d := by
        rw [List.find?_eq_some_iff_getElem]
        obtain ⟨hl, he⟩ := List.getElem?_eq_some_iff.1 hd
        exact ⟨by simp [e], j, hl, he, fun q hq => by have := hno q _ hq (List.getElem?_eq_getElem (by omega)); simpa using this⟩
      exact hk j d hd this w2 (f1.then0 f2)
    · refine hK _ _ ⟨wsucc hj (by omega), f1.then0 f2, fun q y hq hy => ?_⟩
      rcases Nat.lt_succ_iff_lt_or_eq.1 hq with h1 | h1
      · exact hno q y h1 hy
      · subst h1; rw [hd] at hy; cases hy; exact fun h => e (hrd.1.trans h)
  · rintro i w1 ⟨rfl, f1, hno⟩
    refine h0 (List.find?_eq_none.2 fun d hd => ?_) w1 f1
    obtain ⟨q, hq⟩ := List.mem_iff_getElem?.1 hd
    have := hno q d (by have := (List.getElem?_eq_some_iff.1 hq).1; omega) hq
    simpa using this
end Go.Proofs.YtchhhjlpnecjkaaGreat
namespace Go.Proofs.YtchhhjlpnecjkaaGreat
open Go Go.RowKit Go.Proofs.YtchhhjlpnecjkaaGreat.Den
variable {R : Type} {Q : R → World → Prop} {w : World}
def ChgSm (d : Chg) : Prop := (0 ≤ d.2.1 ∧ d.2.1 ≤ 255) ∧ d.2.2.1.length ≤ 9 ∧ Small d.2.2.2 ∧ (∀ c ∈ d.2.2.1, CompOk c) ∧ ∀ c ∈ d.2.2.2, CompOk c
theorem turn_fit {e e' : Ent} {d : Chg} (he : EntFit e) (h6 : e.2.length ≤ 6) (hd : ChgSm d) (h : TurnOf e d e') : EntFit e' := by
  obtain ⟨h1, h2, h3⟩ := h
  obtain ⟨d1, d2, d3, d4, d5⟩ := hd
  refine ⟨by rw [h1]; exact he.1, ?_, fun c hc => ?_⟩
  · rw [h2.length_eq]
    unfold turnP
    rw [List.length_append, List.length_map]
    have := List.length_filter_le (fun c : Comp => !(decide (c.1 < 6) && d.2.1.toNat.testBit c.1.toNat)) e.2
    omega
  · have := (h2.mem_iff).1 hc
    unfold turnP at this
    rcases List.mem_append.1 this with h | h
    · obtain ⟨x, hx, rfl⟩ := List.mem_map.1 h
      split
      · rename_i hf; exact d5 _ (findC_some hf).1
      · exact he.2.2 x (List.mem_filter.1 hx).1
    · exact d4 c h
theorem diffE_form {was now : List Ent} (h : diffE was now = 0) : FormOk now := by
  unfold diffE at h
  split at h
  · omega
  · exact formOk.1 h
theorem EntsR.append {ok : Nat → Prop} {r1 r2 : List (Int × Sl)} {l1 l2 : List Ent} (h1 : EntsR ok w r1 l1) (h2 : EntsR ok w r2 l2) : EntsR ok w (r1 ++ r2) (l1 ++ l2) := by
  have hl := h1.len
  refine ⟨by simp [h1.len, h2.len], fun i a b ha hb => ?_⟩
  by_cases hi : i < r1.length
  · rw [List.getElem?_append_left hi] at ha
    rw [List.getElem?_append_left (by omega)] at hb
    exact h1.at_ i a b ha hb
  · rw [List.getElem?_append_right (by omega)] at ha hb
    rw [hl] at ha
    exact h2.at_ _ a b ha hb
theorem spec_diff_Patch {okw okd : Nat → Prop} {sw : Sl} {raws : List (Int × Sl)} {was : List Ent} (hS : SlT okw w entT sw raws) (hE : EntsR okw w raws was) (hf : FormOk was) (hL : ∀ e ∈ was, EntFit e) {rD : DRaw} {gone : List Int} {come : List Ent} {chg : List Chg} (hD : DltR okd w rD gone come chg) (hg : gone.length ≤ 4611686018427387904) (hC : ∀ e ∈ come, EntFit e) (hd : chg.length ≤ 4611686018427387904) (hd2 : ∀ d ∈ chg, ChgSm d) (hm : was.length + come.length ≤ 1048576) {K : Res [.sc .sl, .sc (.int .i64)] → W R}
    (h0 : (∀ now, ¬ PatchOk was gone come chg now) → ∀ w', Fr None w w' → K (⟨none, 0, 0⟩, 4) Q w') (hk : ∀ now, PatchOk was gone come chg now → (∀ e ∈ now, EntFit e) → now.length ≤ was.length + come.length → ∀ r raws' w', Own (Up w.heap.size) w' 57 entT r raws' → EntsR (Up w.heap.size) w' raws' now → Fr None w w' → K (r, 0) Q w') :
    callW Tryz.prog k_diff_Patch [.slice sw.a sw.n sw.c, .agg ⟨[.slice rD.1.a rD.1.n rD.1.c, .slice rD.2.1.a rD.2.1.n rD.2.1.c, .slice rD.2.2.a rD.2.2.n rD.2.2.c]⟩] [.sc .sl, .sc (.int .i64)] K Q w := by
  refine C_diff_Patch sw rD K Q w ?_
  unfold F_diff_Patch
  have hwl := hS.len
  have hel := hE.len
  refine newI fun w1 B1 f1 z1 => ?_
  refine spec_snap_Form (hS.fr0 f1) (hE.fr f1 fun _ _ h => h) (by omega) (fun e he => (hL e he).idOk) fun w2 f2 => ?_
  rw [formOk.2 hf]
  refine condF rfl ?_
  have f02 := f1.then0 f2
  have B1 := B1.fr f2 fun h => h
  have s2 := f2.size
  have hS' : SlT (fun k => k < w.heap.size) w2 entT sw raws := (hS.mono fun k hk _ => hk).fr0 f02
  have hE' : EntsR (fun k => k < w.heap.size) w2 raws was := (hE.mono fun k hk _ => hk).fr f02 fun _ _ h => h
  have hD' : DltR (fun k => k < w.heap.size) w2 rD gone come chg := DltR.st hD f02 fun k hk _ => ⟨fun h => h, hk⟩
  obtain ⟨dg, ⟨rc, dc1, dc2⟩, ⟨rd, dd1, dd2⟩⟩ := hD'
  have six : ∀ e ∈ was, e.2.length ≤ 6 := fun e he => hf.six he
  have lt : ∀ k, k < w.heap.size → ¬ Up w2.heap.size k := fun k hk e => by have e : w2.heap.size ≤ k := e; omega
  obtain ⟨ng, hng⟩ : ∃ ng : Ent → Bool, ng = fun e => !decide (e.1 ∈ gone) := ⟨_, rfl⟩
  refine forI (N := sw.n) (fun s : Sl × Int => s.2) (fun j st u => st.2 = (j : Int) ∧ (∃ rs K, Own (Up w2.heap.size) u 57 entT st.1 rs ∧ EntsR (fun k => (k < w.heap.size ∨ w2.heap.size ≤ k) ∧ st.1.v.ownBlock ≠ some k) u rs K ∧ All2 (KeepR chg) ((was.take j).filter ng) K ∧ (∀ (i : Nat) a b, ((was.take j).filter ng)[i]? = some a → K[i]? = some b → b.1 = a.1) ∧ ∀ e ∈ K, EntFit e) ∧ Fr (Up w2.heap.size) w2 u)
    ⟨rfl, ⟨[], [], Own.nil _ _ _ _, EntsR.nil _ _, by rw [List.take_zero]; exact All2.nil _, fun i a b h => by simp at h, fun e he => by cases he⟩, Fr.refl _ _⟩ (fun j s w' h => h.1) ?_ ?_
  · rintro j ⟨z, _⟩ u K' hj ⟨rfl, ⟨rs, KL, o, eR, hK2, hid, hfit⟩, fu⟩ - hK
    have su := fu.size
    obtain ⟨e, he⟩ : ∃ e, was[j]? = some e := ⟨_, List.getElem?_eq_getElem (by omega)⟩
    obtain ⟨r, hr, r1, r2⟩ := hE'.get he
    have hem := List.mem_of_getElem? he
    refine joinI (fun z v => (∃ rs K, Own (Up w2.heap.size) v 57 entT z rs ∧ EntsR (fun k => (k < w.heap.size ∨ w2.heap.size ≤ k) ∧ z.v.ownBlock ≠ some k) v rs K ∧ All2 (KeepR chg) ((was.take (j + 1)).filter ng) K ∧ (∀ (i : Nat) a b, ((was.take (j + 1)).filter ng)[i]? = some a → K[i]? = some b → b.1 = a.1) ∧ ∀ e ∈ K, EntFit e) ∧ Fr (Up w2.heap.size) w2 v) ?_ fun z v ⟨h1, h2⟩ => hK _ _ ⟨wsucc hj (by omega), h1, h2⟩
    refine (hS'.fr fu lt).get rfl rfl (by omega) fun x hx => ?_
    rw [hr] at hx
    cases hx
    refine newI fun u1 Bc g1 y1 => stoAll Bc rfl rfl fun u2 Bc g2 y2 => ?_
    have g02 : Fr None u u2 := g1.newer g2 fun k e => by omega
    have B12 := (B1.frUp fu (by omega)).fr g02 fun h => h
    have fu2 := fu.then g02.up
    refine fldI B12 (i := 0) (x := rD.1) rfl (fldI Bc (i := 0) (x := r.1) rfl (spec_Contains_ID (dg.fr fu2 lt) hg fun u3 g3 => ?_))
    have g03 := g02.then0 g3
    have ft : (was.take (j + 1)).filter ng = (was.take j).filter ng ++ if ng e = true then [e] else [] := by
      rw [take_at he, List.filter_append]
      congr 1
      by_cases h : ng e = true
      · simp [List.filter, h]
      · simp [List.filter, h]
    have hnge : ng e = !decide (r.1 ∈ gone) := by rw [hng, r1]
    refine condI (fun hc => ?_) fun hc => ?_
    · rw [ft, if_neg (by rw [hnge, hc]; simp), List.append_nil]
      exact ⟨⟨rs, KL, o.none g03, eR.fr g03 fun _ _ h => h, hK2, hid, hfit⟩, fu.then g03.up⟩
    have hng1 : ng e = true := by rw [hnge, hc]; rfl
    rw [ft, if_pos hng1]
    have B13 := B12.fr g3 fun h => h
    have Bc3 := Bc.fr g3 fun h => h
    have fu3 := fu2.then g3.up
    refine fldI B13 (i := 2) (x := rD.2.2) rfl ?_
    have dd13 := dd1.fr fu3 lt
    have dd23 : All2 (fun a b => chgR (fun k => k < w.heap.size) u3 a b) rd chg := dd2.imp fun a b h => St.fr (A := fun F w => chgR F w a b) (chgR_st a b) h fu3 lt
    have s3 := g03.size
    have cu : u.heap.size < u3.heap.size := Bc3.lt
    obtain ⟨J, hJ⟩ : ∃ J : World → Prop, J = fun v => ∃ t e', Blk v u.heap.size 57 [.int .u32 e.1, .slice t.a t.n t.c] ∧ SlT (fun k => k < w.heap.size ∨ u.heap.size ≤ k) v compT t e'.2 ∧ e'.1 = e.1 ∧ KeepR chg e e' ∧ EntFit e' ∧ Fr None u v := ⟨_, rfl⟩
    have fin : ∀ v, J v → ld (.agg [.int .u32, .sl]) ⟨u.heap.size, 0, none⟩ (fun (x_21 : (Int × Sl)) =>
        newW 57 [.int .u32 x_21.1, .slice x_21.2.a x_21.2.n x_21.2.c] fun x_22 =>
        rawW Tryz.prog (Builtin.append_ #[23, 23] 23 #[.slice z.a z.n z.c, .slice (some x_22) 1 1]) [.sc .sl] fun (x_23 : Sl) =>
        fun _ v => (∃ rs K, Own (Up w2.heap.size) v 57 entT x_23 rs ∧ EntsR (fun k => (k < w.heap.size ∨ w2.heap.size ≤ k) ∧ x_23.v.ownBlock ≠ some k) v rs K ∧ All2 (KeepR chg) ((was.take j).filter ng ++ [e]) K ∧ (∀ (i : Nat) a b, ((was.take j).filter ng ++ [e])[i]? = some a → K[i]? = some b → b.1 = a.1) ∧ ∀ e ∈ K, EntFit e) ∧ Fr (Up w2.heap.size) w2 v) (fun r w => K r Q w) v := by
      rw [hJ]
      rintro v ⟨t, e', Bv, St', h1, h2, h3, gv⟩
      have sv := gv.size
      refine aggI Bv (x := ((e.1, t) : Int × Sl)) rfl ?_
      have hlen : rs.length ≤ 1048576 := by
        have a1 := eR.len
        have a2 := hK2.len
        have a3 := List.length_filter_le ng (was.take j)
        have a4 : (was.take j).length ≤ was.length := by simp; omega
        omega
      have ov := o.none gv
      have oz : Own (fun k => w2.heap.size ≤ k ∧ (z.v.ownBlock = some k ∨ v.heap.size ≤ k)) v 57 entT z rs := ⟨ov.row, fun k e => ⟨ov.own k e, .inl e⟩⟩
      refine appP (x := ((e.1, t) : Int × Sl)) ents_ty rfl oz (fun k e => ⟨by omega, .inr e⟩) (by omega) (by omega) fun z2 v2 o2 f2 => ?_
      have zlt : ∀ k, z.v.ownBlock = some k → k < u.heap.size := fun k e => o.lt e
      have nz2 : ∀ k, (k < w.heap.size ∨ w2.heap.size ≤ k) → z.v.ownBlock ≠ some k → k < v.heap.size → z2.v.ownBlock ≠ some k := fun k _ h2 h3 e => by
        rcases (o2.own k e).2 with h | h
        · exact h2 h
        · omega
      refine ⟨⟨rs ++ [(e.1, t)], KL ++ [e'], o2.mono fun k _ e => e.1, ?_, hK2.snoc h2, ?_, ?_⟩, (fu.then gv.up).then (f2.sub fun k e => ov.own k e)⟩
      · refine EntsR.snoc ?_ h1.symm ?_
        · have e1 : EntsR (fun k => ((k < w.heap.size ∨ w2.heap.size ≤ k) ∧ z.v.ownBlock ≠ some k) ∧ k < v.heap.size) v rs KL := (eR.fr gv fun _ _ h => h).mono fun k hk e => ⟨e, hk⟩
          exact (e1.fr f2 fun k e e2 => e.1.2 e2).mono fun k _ e => ⟨e.1.1, nz2 k e.1.1 e.1.2 e.2⟩
        · have t1 : SlT (fun k => (k < w.heap.size ∨ u.heap.size ≤ k) ∧ k < v.heap.size) v compT t e'.2 := St'.mono fun k hk e => ⟨e, hk⟩
          have nz : ∀ k, (k < w.heap.size ∨ u.heap.size ≤ k) → z.v.ownBlock ≠ some k := fun k h e => by
            have := zlt k e
            have := o.own k e
            have : w2.heap.size ≤ k := this
            omega
          exact (t1.fr f2 fun k e e2 => nz k e.1 e2).mono fun k _ e => ⟨by omega, nz2 k (by omega) (nz k e.1) e.2⟩
      · intro i a b ha hb
        have hl := hK2.len
        by_cases hi : i < ((was.take j).filter ng).length
        · rw [List.getElem?_append_left hi] at ha
          rw [List.getElem?_append_left (by omega)] at hb
          exact hid i a b ha hb
        · have : i = ((was.take j).filter ng).length := by
            have := (List.getElem?_eq_some_iff.1 ha).1
            simp at this
            omega
          rw [List.getElem?_append_right (by omega)] at ha hb
          rw [this] at ha hb
          simp [hl] at ha hb
          rw [← ha, ← hb, h1]
      · intro x hx
        rcases List.mem_append.1 hx with hx | hx
        · exact hfit x hx
        · simp at hx; subst hx; exact h3
    have hr2 : SlT (fun k => k < w.heap.size) u3 compT r.2 e.2 := r2.fr fu3 lt
    refine spec_IndexFunc_Change dd13 dd23 hd Bc3 (fun hnone u4 g4 => ?_) fun i d hi hsome u4 g4 => ?_
    · refine joinI (fun _ v => J v) (condF (by decide) ?_) (fun _ v h => fin v h)
      rw [hJ]
      refine ⟨r.2, e, by rw [← r1]; exact Bc3.fr g4 fun h => h, (hr2.fr0 g4).mono fun k _ h => .inl h, rfl, ⟨fun d hd => ?_, fun _ => rfl⟩, hL e hem, g03.then0 g4⟩
      rw [← r1, hnone] at hd
      cases hd
    · have gd : Fr None u4 u4.drew := (Fr.refl _ _).drew
      have g4d := g4.then0 gd
      refine joinI (fun _ v => J v) (condT (decide_eq_true (Int.natCast_nonneg i)) ?_) (fun _ v h => fin v h)
      refine aggI (Bc3.fr g4d fun h => h) (x := r) rfl (fldI (B13.fr g4d fun h => h) (i := 2) (x := rD.2.2) rfl ?_)
      obtain ⟨q, hq, hqr⟩ := dd23.get hi
      refine (dd13.fr0 g4d).get rfl rfl (List.getElem?_eq_some_iff.1 hq).1 fun q' hq' => ?_
      rw [hq] at hq'
      cases hq'
      have hdf := hd2 d (List.mem_of_getElem? hi)
      refine spec_diff_turn r1 (hr2.fr0 g4d) (by have := six e hem; omega) (hL e hem).2.2 (St.fr0 (A := fun F w => chgR F w q d) (chgR_st q d) hqr g4d) hdf.1 hdf.2.1 hdf.2.2.1 fun t e' u5 ht o5 g5 => ?_
      have g35 := g4d.then0 g5
      refine stoAll (Bc3.fr g35 fun h => h) rfl rfl fun u6 B6 g6 y6 => ?_
      rw [hJ]
      have s5 := g4d.size
      refine ⟨t, e', B6, (o5.sl.fr g6 fun k (e : u4.drew.heap.size ≤ k) e2 => by omega).mono fun k _ (e : u4.drew.heap.size ≤ k) => .inr (by omega), ht.1, ⟨fun d' hd' => ?_, fun hn => ?_⟩, turn_fit (hL e hem) (six e hem) hdf ht, (g03.then0 g35).newer g6 fun k e => by omega⟩
      · rw [← r1, hsome] at hd'
        cases hd'
        exact ht
      · rw [← r1, hsome] at hn
        cases hn
  · rintro ⟨z, _⟩ u ⟨_, ⟨rs, KL, o, eR, hK2, hid, hfit⟩, fu⟩
    have su := fu.size
    rw [List.take_of_length_le (by omega)] at hK2 hid
    have hlen : rs.length ≤ was.length := by
      have a1 := eR.len
      have a2 := hK2.len
      have a3 := List.length_filter_le ng was
      omega
    have hcl := dc1.len.trans dc2.len
    have hcl2 := dc2.len
    have B1u := B1.frUp fu (by omega)
    refine fldI B1u (i := 1) (x := rD.2.1) rfl ?_
    have oz : Own (fun k => w2.heap.size ≤ k ∧ (z.v.ownBlock = some k ∨ u.heap.size ≤ k)) u 57 entT z rs := ⟨o.row, fun k e => ⟨o.own k e, .inl e⟩⟩
    refine appI (S' := fun k => w2.heap.size ≤ k ∧ (z.v.ownBlock = some k ∨ u.heap.size ≤ k)) ents_ty oz (dc1.fr fu lt) (by omega) (by rw [maxLen_eq]; omega) (fun _ h => h) ⟨by omega, .inr (Nat.le_refl _)⟩ fun z2 u2 o2 g2 y2 => ?_
    have zlt : ∀ k, z.v.ownBlock = some k → k < u.heap.size := fun k e => o.lt e
    have nz2 : ∀ k, z.v.ownBlock ≠ some k → k < u.heap.size → z2.v.ownBlock ≠ some k := fun k h2 h3 e => by
      rcases (o2.own k e).2 with h | h
      · exact h2 h
      · omega
    have ltz : ∀ k, k < w.heap.size → z.v.ownBlock ≠ some k := fun k hk e => by have : w2.heap.size ≤ k := o.own k e; omega
    have E2 : EntsR (fun k => (k < w.heap.size ∨ w2.heap.size ≤ k) ∧ z2.v.ownBlock ≠ some k) u2 (rs ++ rc) (KL ++ come) := by
      refine EntsR.append ?_ ?_
      · have e1 : EntsR (fun k => ((k < w.heap.size ∨ w2.heap.size ≤ k) ∧ z.v.ownBlock ≠ some k) ∧ k < u.heap.size) u rs KL := eR.mono fun k hk e => ⟨e, hk⟩
        exact (e1.fr g2 fun k e e2 => e.1.2 e2).mono fun k _ e => ⟨e.1.1, nz2 k e.1.2 e.2⟩
      · exact ((dc2.fr fu lt).fr g2 fun k e e2 => ltz k e e2).mono fun k _ e => ⟨.inl e, nz2 k (ltz k e) (by omega)⟩
    have fu2 := fu.then (g2.sub fun k e => o.own k e)
    refine spec_SortStable_Ent o2 (by rw [List.length_append]; omega) fun rs3 u3 hp hso o3 g3 => ?_
    have E3 := E2.fr g3 fun k e e2 => e.2 e2
    obtain ⟨l, hpl, hA⟩ := Den.All2.perm hp.symm (p := fun (r : Int × Sl) (e : Ent) => r.1 = e.1 ∧ SlT (fun k => (k < w.heap.size ∨ w2.heap.size ≤ k) ∧ z2.v.ownBlock ≠ some k) u3 compT r.2 e.2) (k := KL ++ come) ⟨E3.len, E3.at_⟩
    have E3 : EntsR (fun k => (k < w.heap.size ∨ w2.heap.size ≤ k) ∧ z2.v.ownBlock ≠ some k) u3 rs3 l := ⟨hA.len, hA.at_⟩
    have hsl : l.Pairwise fun a b => a.1 ≤ b.1 := by
      rw [List.pairwise_iff_getElem]
      intro i j hi hj hij
      have hl := hA.len
      have q := List.pairwise_iff_getElem.1 hso.pair i j (by omega) (by omega) hij
      have a1 := (hA.at_ i _ _ (List.getElem?_eq_getElem (by omega)) (List.getElem?_eq_getElem hi)).1
      have a2 := (hA.at_ j _ _ (List.getElem?_eq_getElem (by omega)) (List.getElem?_eq_getElem hj)).1
      rw [← a1, ← a2]
      exact q
    have uniq : ∀ now, PatchOk was gone come chg now → l = now := fun now hp2 => by
      rw [hng] at hK2 hid
      exact patch_now hf hp2 hK2 hid hpl hsl
    have lfit : ∀ e ∈ l, EntFit e := fun e he => by
      rcases List.mem_append.1 ((hpl.mem_iff).1 he) with h | h
      · exact hfit e h
      · exact hC e h
    have llen : l.length ≤ was.length + come.length := by
      have := hpl.length_eq
      rw [List.length_append] at this
      have := eR.len
      omega
    have fu3 := fu2.then (g3.sub fun k e => (o2.own k e).1)
    have S3 : SlT (fun k => k < w.heap.size ∨ w2.heap.size ≤ k) u3 entT z2 rs3 := o3.sl.mono fun k _ e => .inr e.1
    have E4 : EntsR (fun k => k < w.heap.size ∨ w2.heap.size ≤ k) u3 rs3 l := E3.mono fun k _ e => e.1
    have f03 : Fr None w u3 := f02.thenUp fu3 f02.size
    refine spec_diff_Diff (hS'.fr fu3 lt) (hE'.fr fu3 lt) S3 E4 (by omega) (by omega) hL lfit (fun hbad u4 g4 => ?_) fun hgood rr u4 dr g4 => ?_
    · refine newI fun u5 B5 g5 y5 => stoAll B5 rfl rfl fun u6 B6 g6 y6 => ?_
      have f06 := ((f03.then0 g4).then0 g5).newer g6 fun k e => by have := g4.size; have := f03.size; omega
      refine joinI (fun z v => z = true ∧ v = u6) (condT (by simpa using hbad) ⟨rfl, rfl⟩) ?_
      rintro z v ⟨rfl, rfl⟩
      refine condT rfl (h0 (fun now hp2 => ?_) _ f06)
      have := uniq now hp2
      subst this
      refine hbad ?_
      unfold diffE
      rw [if_neg (by rw [formOk.2 hf]; simp)]
      exact formOk.2 hp2.form
    · refine newI fun u5 B5 g5 y5 => stoAll B5 rfl rfl fun u6 B6 g6 y6 => ?_
      have g46 : Fr None u4 u6 := g5.newer g6 fun k e => by omega
      have g36 := g4.then0 g46
      have f06 := f03.then0 g36
      have B16 := ((B1u.fr g2 fun e => by have := o.own _ e; have : w2.heap.size ≤ w.heap.size := this; omega).fr g3 fun e => by have := (o2.own _ e).1; omega).fr g36 fun h => h
      refine joinI (fun z v => (z = !decide (goneM was l = gone ∧ comeM was l = come ∧ chgsM was l = chg)) ∧ Fr None u6 v) (condF rfl ?_) ?_
      · refine aggI B6 (x := rr) rfl (aggI B16 (x := rD) rfl ?_)
        have fl : ∀ e ∈ comeM was l, Small e.2 := fun e he => (lfit e (List.mem_filter.1 he).1).2.1
        have cl : (comeM was l).length ≤ l.length := List.length_filter_le _ _
        have gl : (goneM was l).length ≤ was.length := by unfold goneM; rw [List.length_map]; exact List.length_filter_le _ _
        have dl : (chgsM was l).length ≤ l.length := filterMap_le _ _
        have ds : ∀ d ∈ chgsM was l, Small d.2.2.1 ∧ Small d.2.2.2 := fun d hd => by
          obtain ⟨b, hb, h2⟩ := List.mem_filterMap.1 hd
          obtain ⟨_, a, ha, _, h3, _⟩ := chgOne_id h2
          have hb2 := (lfit b hb).2.1
          rw [h3]
          exact ⟨Nat.le_trans (newM_le _ _) hb2, Nat.le_trans (chM_le _ _) hb2⟩
        refine spec_diff_same (ok2 := fun k => k < w.heap.size) (DltR.st.fr0 dr g46) (DltR.st.fr0 (DltR.st (show DltR (fun k => k < w.heap.size) w2 rD gone come chg from ⟨dg, ⟨rc, dc1, dc2⟩, ⟨rd, dd1, dd2⟩⟩) fu3 fun k _ e => ⟨lt k e, e⟩) g36) (by omega) fl ds fun u7 g7 => ⟨rfl, g7⟩
      rintro _ u7 ⟨rfl, g7⟩
      have f07 := f06.then0 g7
      have hdl := diffE_form hgood
      refine condI (fun hb => ?_) fun hb => ?_
      · have hb : ¬ (goneM was l = gone ∧ comeM was l = come ∧ chgsM was l = chg) := of_decide_eq_false (by rw [Bool.not_eq_true'] at hb; exact hb)
        refine h0 (fun now hp2 => ?_) _ f07
        have := uniq now hp2
        subst this
        exact hb ⟨hp2.gone, hp2.come, hp2.chg⟩
      · have hb : goneM was l = gone ∧ comeM was l = come ∧ chgsM was l = chg := of_decide_eq_true (by rw [Bool.not_eq_false'] at hb; exact hb)
        have g37 := g36.then0 g7
        refine spec_snap_Copy (S3.fr0 g37) (E4.fr g37 fun _ _ h => h) (by omega) (fun e he => (lfit e he).2.1) fun r8 raws8 u8 o8 e8 g8 => ?_
        have s7 := f07.size
        exact hk l ⟨hdl, hb.1, hb.2.1, hb.2.2⟩ lfit llen r8 raws8 u8 (o8.mono fun k _ (e : u7.heap.size ≤ k) => by show w.heap.size ≤ k; omega) (e8.mono fun k _ (e : u7.heap.size ≤ k) => by show w.heap.size ≤ k; omega) (f07.then0 g8)
end Go.Proofs.YtchhhjlpnecjkaaGreat
namespace Go.Proofs.YtchhhjlpnecjkaaGreat
open Go Go.RowKit Go.Proofs.YtchhhjlpnecjkaaGreat.Den
variable {R : Type} {Q : R → World → Prop} {w : World}
abbrev restAct (hv rv : Value) (s : Sl) (A B C : Nat) : Act := { tmps := #[hv, rv, .slice s.a s.n s.c, .pointer (some ⟨A, 0, none⟩), .pointer (some ⟨B, 0, none⟩), undef, .slice none 0 0, .pointer (some ⟨C, 0, none⟩), undef, undef, undef, undef, undef, undef, undef, undef, undef, undef, undef, undef, undef, undef, undef], defers := [{ target := .fn (.func 66) #[], args := #[.pointer (some ⟨C, 0, none⟩)] }] }
section
variable {hv rv : Value} {p : Option Addr} {s : Sl} {A B C : Nat} {T TB TC : TypeId} {tl : List Value} {RR : Ending → World → Prop}
theorem rest_other {k : Int} (Bh : Blk w A T (.int .u8 k :: tl)) (Be : Blk w C TC [.int .i64 0]) (h1 : ¬ k = 1) (h2 : ¬ k = 2) (hR : ∀ w', Fr (fun k => k = C) w w' → RR (.returned (.tuple #[.slice none 0 0, .int .i64 0])) w') :
    (doorOf Tryz.f29).wp Tryz.prog (bodyPostD Tryz.prog Tryz.f29 RR) (restAct hv rv s A B C) w := by
  have c1 : w.cell? ⟨A, 0, none⟩ = some (.int .u8 k) := Bh.cell 0
  have c3 : w.cell? ⟨C, 0, none⟩ = some (.int .i64 0) := Be.cell 0
  have c4 : w.frozen? ⟨C, 0, none⟩ = false := Be.frozen 0
  have h1' : (k == 1) = false := by simpa using h1
  have h2' : (k == 2) = false := by simpa using h2
  show Code.wp _ (Code.seq (Code.seq _ _) (Code.seq _ _)) _ _ _
  go_wp2
  have c5 := (Be.set 0 (.int .i64 0)).cell 0
  exact caught_ret (v := .tuple #[.slice none 0 0, .int .i64 0]) (by simp [results, Tryz.results29, go_sem, c5]) (hR _ (Fr.setCell (S := fun k => k = C) (Fr.refl _ _) (p := ⟨C, 0, none⟩) (.inl rfl) _))
theorem rest_full (Bh : Blk w A T (.int .u8 1 :: tl)) (Br : Blk w B TB [.pointer p])
   (hc : Calls Tryz.prog 72 #[.agg #[.pointer p]] w fun e w' => Blk w' C TC [.int .i64 0] ∧ ((∃ r : Sl, e = .returned (.slice r.a r.n r.c) ∧ ∀ w2, Fr (fun k => k = C) w' w2 → RR (.returned (.tuple #[.slice r.a r.n r.c, .int .i64 0])) w2) ∨ (e = .panicked giveUp ∧ ∀ w2, Fr (fun k => k = C) w' w2 → RR (.returned (.tuple #[.slice none 0 0, .int .i64 4])) w2))) :
    (doorOf Tryz.f29).wp Tryz.prog (bodyPostD Tryz.prog Tryz.f29 RR) (restAct hv (.agg #[.pointer p]) s A B C) w := by
  have c1 : w.cell? ⟨A, 0, none⟩ = some (.int .u8 1) := Bh.cell 0
  have c2 : w.cell? ⟨B, 0, none⟩ = some (.pointer p) := Br.cell 0
  show Code.wp _ (Code.seq (Code.seq _ _) (Code.seq _ _)) _ _ _
  go_wp2_with (go_at_call 72; refine hc.mono ?_; rintro e w' ⟨B', ⟨r, rfl, hR⟩ | ⟨rfl, hR⟩⟩ <;> (have c3 : w'.cell? ⟨C, 0, none⟩ = some (.int .i64 0) := B'.cell 0) <;> (have c4 : w'.frozen? ⟨C, 0, none⟩ = false := B'.frozen 0))
  · have c5 := (B'.set 0 (.int .i64 0)).cell 0
    exact caught_ret (v := .tuple #[.slice r.a r.n r.c, .int .i64 0]) (by simp [results, Tryz.results29, go_sem, c5]) (hR _ (Fr.setCell (S := fun k => k = C) (Fr.refl _ _) (p := ⟨C, 0, none⟩) (.inl rfl) _))
  · refine caught_bad (v := .tuple #[.slice none 0 0, .int .i64 4]) B' fun w2 B2 g2 => ⟨?_, hR w2 g2⟩
    have c5 := B2.cell 0
    simp [results, Tryz.results29, go_sem, c5]
theorem rest_step (Bh : Blk w A T (.int .u8 2 :: tl)) (Br : Blk w B TB [.pointer p])
   (hc : Calls Tryz.prog 74 #[.agg #[.pointer p], .slice s.a s.n s.c] w fun e w' => (∃ d : DRaw, e = .returned (.agg #[.slice d.1.a d.1.n d.1.c, .slice d.2.1.a d.2.1.n d.2.1.c, .slice d.2.2.a d.2.2.n d.2.2.c]) ∧
      Calls Tryz.prog 73 #[.slice s.a s.n s.c, .agg #[.slice d.1.a d.1.n d.1.c, .slice d.2.1.a d.2.1.n d.2.1.c, .slice d.2.2.a d.2.2.n d.2.2.c]] w' fun e w' => Blk w' C TC [.int .i64 0] ∧ ∃ (r : Sl) (x : Int), e = .returned (.tuple #[.slice r.a r.n r.c, .int .i64 x]) ∧ ∀ w2, Fr (fun k => k = C) w' w2 → RR (.returned (.tuple #[.slice r.a r.n r.c, .int .i64 x])) w2) ∨ (e = .panicked giveUp ∧ Blk w' C TC [.int .i64 0] ∧ ∀ w2, Fr (fun k => k = C) w' w2 → RR (.returned (.tuple #[.slice none 0 0, .int .i64 4])) w2)) :
    (doorOf Tryz.f29).wp Tryz.prog (bodyPostD Tryz.prog Tryz.f29 RR) (restAct hv (.agg #[.pointer p]) s A B C) w := by
  have c1 : w.cell? ⟨A, 0, none⟩ = some (.int .u8 2) := Bh.cell 0
  have c2 : w.cell? ⟨B, 0, none⟩ = some (.pointer p) := Br.cell 0
  show Code.wp _ (Code.seq (Code.seq _ _) (Code.seq _ _)) _ _ _
  go_wp2_with (first
    | (go_at_call 74; refine hc.mono ?_; rintro e w' (⟨d, rfl, hc2⟩ | ⟨rfl, B', hR⟩))
    | (go_at_call 73; refine hc2.mono ?_; rintro e w'' ⟨B', r, x, rfl, hR⟩; have c3 : w''.cell? ⟨C, 0, none⟩ = some (.int .i64 0) := B'.cell 0; have c4 : w''.frozen? ⟨C, 0, none⟩ = false := B'.frozen 0))
  · have c5 := (B'.set 0 (.int .i64 x)).cell 0
    exact caught_ret (v := .tuple #[.slice r.a r.n r.c, .int .i64 x]) (by simp [results, Tryz.results29, go_sem, c5]) (hR _ (Fr.setCell (S := fun k => k = C) (Fr.refl _ _) (p := ⟨C, 0, none⟩) (.inl rfl) _))
  · refine caught_bad (v := .tuple #[.slice none 0 0, .int .i64 4]) B' fun w2 B2 g2 => ⟨?_, hR w2 g2⟩
    have c5 := B2.cell 0
    simp [results, Tryz.results29, go_sem, c5]
end
end Go.Proofs.YtchhhjlpnecjkaaGreat
namespace Go.Proofs.YtchhhjlpnecjkaaGreat
open Go Go.RowKit Go.Proofs.YtchhhjlpnecjkaaGreat.Den
theorem mkC_ok {k : Int} (hk : 0 ≤ k ∧ k ≤ 255) {vs : List Int} (h : ∀ v ∈ vs, -2147483648 ≤ v ∧ v ≤ 2147483647) : CompOk (mkC k vs) := by
  have g : ∀ i : Nat, i32 (vs.getD i 0) := fun i => by
    rw [List.getD_eq_getElem?_getD]
    cases hi : vs[i]? with
    | none => exact ⟨by decide, by decide⟩
    | some v => exact h v (List.mem_of_getElem? hi)
  exact ⟨hk, g 0, g 1, g 2⟩
theorem compD_ok {k : Int} (hk : 0 ≤ k ∧ k ≤ 255) {L : List Bool} {c : Comp} {r : List Bool} (h : compD k L = some (c, r)) : CompOk c := by
  unfold compD at h
  split at h
  · cases h
  · cases hr : readF k (List.range (cntM k)) L with
    | none => rw [hr] at h; cases h
    | some q =>
      obtain ⟨vs, L3⟩ := q
      rw [hr] at h
      cases h
      refine mkC_ok hk fun v hv => ?_
      obtain ⟨_, a2, a3⟩ := readF_len k _ hr
      obtain ⟨j, hj⟩ := List.mem_iff_getElem?.1 hv
      have hjl := (List.getElem?_eq_some_iff.1 hj).1
      have hj2 : (List.range (cntM k))[j]? = some j := by
        rw [List.getElem?_range]
        rw [List.length_range] at a2
        omega
      have := a3 j j v hj2 hj
      obtain ⟨r1, r2⟩ := rangeM_i32 k (j : Int)
      omega
theorem movedD_ok {was : Comp} (hw : CompOk was) {i : Nat} {L : List Bool} {v : Int} {r : List Bool} (h : movedD was i L = some (v, r)) : -2147483648 ≤ v ∧ v ≤ 2147483647 := by
  obtain ⟨r1, r2⟩ := rangeM_i32 was.1 (i : Int)
  have hf := flI hw i
  unfold movedD at h
  cases h1 : getN 1 L with
  | none => rw [h1] at h; cases h
  | some p =>
    obtain ⟨b, L1⟩ := p
    rw [h1] at h
    dsimp only at h
    split at h
    · cases h; exact hf
    · cases h2 : getN 1 L1 with
      | none => rw [h2] at h; cases h
      | some p =>
        obtain ⟨b2, L2⟩ := p
        rw [h2] at h
        dsimp only at h
        split at h
        · cases h3 : getIn (rangeM was.1 (i : Int)).1 (rangeM was.1 (i : Int)).2.1 L2 with
          | none => rw [h3] at h; cases h
          | some p =>
            obtain ⟨n, L3⟩ := p
            rw [h3] at h
            have a3 := (getIn_len h3).2
            dsimp only at h
            split at h
            · cases h
            · cases h; omega
        · cases h3 : getN 4 L2 with
          | none => rw [h3] at h; cases h
          | some p =>
            obtain ⟨n, L3⟩ := p
            rw [h3] at h
            dsimp only at h
            split at h
            · cases h
            · cases h; omega
theorem stepDec_ok {was c : Comp} (hw : CompOk was) {L r : List Bool} (h : stepDec was L = some (c, r)) : CompOk c := by
  have rs : ∀ (is : List Nat) {L : List Bool} {vs : List Int} {r : List Bool}, readS was is L = some (vs, r) → ∀ v ∈ vs, -2147483648 ≤ v ∧ v ≤ 2147483647 := by
    intro is
    induction is with
    | nil => intro L vs r h v hv; rw [readS] at h; cases h; cases hv
    | cons i is ih =>
      intro L vs r h v hv
      rw [readS] at h
      cases h1 : movedD was i L with
      | none => rw [h1] at h; cases h
      | some p =>
        obtain ⟨x, L2⟩ := p
        rw [h1] at h
        dsimp only at h
        cases h2 : readS was is L2 with
        | none => rw [h2] at h; cases h
        | some q =>
          obtain ⟨vs2, L3⟩ := q
          rw [h2] at h
          cases h
          rcases List.mem_cons.1 hv with rfl | hv
          · exact movedD_ok hw h1
          · exact ih h2 v hv
  unfold stepDec at h
  split at h
  · cases h
  · cases hr : readS was (List.range (cntM was.1)) L with
    | none => rw [hr] at h; cases h
    | some q =>
      obtain ⟨vs2, L3⟩ := q
      rw [hr] at h
      cases h
      exact mkC_ok hw.1 (rs _ hr)
theorem kindsOf_ok {m : Nat} {k : Int} (h : k ∈ kindsOf m) : 0 ≤ k ∧ k ≤ 255 := by
  have e : kindsOf m = kindsB m 6 := rfl
  rw [e] at h
  obtain ⟨j, hj, rfl⟩ := List.mem_map.1 h
  have := List.mem_range.1 (List.mem_filter.1 hj).1
  omega
theorem kindsOf_5 {m : Nat} (hm : m < 32) : (kindsOf m).length ≤ 5 := by rw [← kindsB_all hm]; exact kindsB_le m 5
theorem getN_lt {n : Nat} {L : List Bool} {v : Nat} {r : List Bool} (h : getN n L = some (v, r)) : v < 2 ^ n := by
  unfold getN at h
  split at h
  · rename_i hn
    cases h
    have := valB_lt' (L.take n)
    rw [List.length_take, Nat.min_eq_left hn] at this
    exact this
  · cases h
theorem comps_fit {m : Nat} (hm : m < 32) {L : List Bool} {cs : List Comp} {r : List Bool} (h : compsD (kindsOf m) L = some (cs, r)) : cs.length ≤ 5 ∧ ∀ c ∈ cs, CompOk c := by
  obtain ⟨_, h2, h3⟩ := compsD_len _ h
  have hl : cs.length = (kindsOf m).length := by rw [← h2, List.length_map]
  refine ⟨by have := kindsOf_5 hm; omega, fun c hc => ?_⟩
  obtain ⟨L1, L2, h4⟩ := h3 c hc
  exact compD_ok (kindsOf_ok (h2 ▸ List.mem_map_of_mem hc)) h4
theorem entD_fit {last : Int} {L : List Bool} {e : Ent} {r : List Bool} (h : entD last L = some (e, r)) : EntFit e ∧ e.2.length ≤ 5 := by
  unfold entD at h
  cases h1 : idDec last L with
  | none => rw [h1] at h; cases h
  | some p =>
    obtain ⟨id, L1⟩ := p
    rw [h1] at h
    dsimp only at h
    cases h2 : getN 5 L1 with
    | none => rw [h2] at h; cases h
    | some p =>
      obtain ⟨m, L2⟩ := p
      rw [h2] at h
      dsimp only at h
      cases h3 : compsD (kindsOf m) L2 with
      | none => rw [h3] at h; cases h
      | some p =>
        obtain ⟨cs, L3⟩ := p
        rw [h3] at h
        cases h
        obtain ⟨a1, a2⟩ := comps_fit (getN_lt h2) h3
        exact ⟨⟨idDec_ok h1, by show cs.length ≤ _; omega, a2⟩, a1⟩
theorem ents_fit {L : List Bool} {l : List Ent} {r : List Bool} (h : entsD L = some (l, r)) : (∀ e ∈ l, EntFit e ∧ e.2.length ≤ 5) ∧ r.length + 10 * l.length ≤ L.length := by
  unfold entsD at h
  cases h1 : getVar L with
  | none => rw [h1] at h; cases h
  | some p =>
    obtain ⟨n, L1⟩ := p
    rw [h1] at h
    obtain ⟨a1, a2, a3⟩ := repD_len (fun _ _ _ _ h => entD_len h) _ _ h
    have := varD_len _ _ _ h1
    refine ⟨fun e he => ?_, by rw [a1]; omega⟩
    obtain ⟨last, L2, L3, h4⟩ := a3 e he
    exact entD_fit h4
theorem chgD_fit {was : List Ent} (hL : ∀ e ∈ was, EntFit e) {last : Int} {L : List Bool} {d : Chg} {r : List Bool} (h : chgD was last L = some (d, r)) : ChgSm d := by
  unfold chgD at h
  cases h1 : idDec last L with
  | none => rw [h1] at h; cases h
  | some p =>
    obtain ⟨id, L1⟩ := p
    rw [h1] at h
    dsimp only at h
    cases h2 : getN 5 L1 with
    | none => rw [h2] at h; cases h
    | some p =>
      obtain ⟨lost, L2⟩ := p
      rw [h2] at h
      dsimp only at h
      cases h3 : getN 5 L2 with
      | none => rw [h3] at h; cases h
      | some p =>
        obtain ⟨fr, L3⟩ := p
        rw [h3] at h
        dsimp only at h
        cases h4 : getN 5 L3 with
        | none => rw [h4] at h; cases h
        | some p =>
          obtain ⟨st, L4⟩ := p
          rw [h4] at h
          dsimp only at h
          cases h5 : compsD (kindsOf fr) L4 with
          | none => rw [h5] at h; cases h
          | some p =>
            obtain ⟨ns, L5⟩ := p
            rw [h5] at h
            dsimp only at h
            cases h6 : setsD was id (kindsOf st) L5 with
            | none => rw [h6] at h; cases h
            | some p =>
              obtain ⟨ss, L6⟩ := p
              rw [h6] at h
              cases h
              have b1 : lost < 32 := getN_lt h2
              obtain ⟨a1, a2⟩ := comps_fit (getN_lt h3) h5
              obtain ⟨_, c2, c3⟩ := setsD_len _ _ _ h6
              have hl : ss.length = (kindsOf st).length := by rw [← c2, List.length_map]
              have := kindsOf_5 (getN_lt h4)
              refine ⟨⟨by show (0 : Int) ≤ (lost : Int); omega, by show (lost : Int) ≤ 255; omega⟩, by show ns.length ≤ 9; omega, by show ss.length ≤ _; omega, a2, fun c hc => ?_⟩
              obtain ⟨M1, M2, hs⟩ := c3 c hc
              exact stepDec_ok (oldM_ok hL _ _) hs
theorem delta_fit {was : List Ent} (hL : ∀ e ∈ was, EntFit e) {L : List Bool} {d : Delta} {r : List Bool} (h : deltaD was L = some (d, r)) : d.1.length ≤ L.length ∧ (∀ e ∈ d.2.1, EntFit e ∧ e.2.length ≤ 5) ∧ 10 * d.2.1.length ≤ L.length ∧ d.2.2.length ≤ L.length ∧ ∀ x ∈ d.2.2, ChgSm x := by
  unfold deltaD at h
  cases h1 : goneD L with
  | none => rw [h1] at h; cases h
  | some p =>
    obtain ⟨g, L1⟩ := p
    rw [h1] at h
    dsimp only at h
    cases h2 : entsD L1 with
    | none => rw [h2] at h; cases h
    | some p =>
      obtain ⟨c, L2⟩ := p
      rw [h2] at h
      dsimp only at h
      cases h3 : chgsD was L2 with
      | none => rw [h3] at h; cases h
      | some p =>
        obtain ⟨ds, L3⟩ := p
        rw [h3] at h
        cases h
        have a1 : L1.length + 5 * g.length ≤ L.length := by
          unfold goneD at h1
          cases hv : getVar L with
          | none => rw [hv] at h1; cases h1
          | some p =>
            obtain ⟨n, M⟩ := p
            rw [hv] at h1
            obtain ⟨b1, b2, _⟩ := repD_len (fun _ _ _ _ h => idDec_len h) _ _ h1
            have := varD_len _ _ _ hv
            rw [b1]
            omega
        obtain ⟨a2, a3⟩ := ents_fit h2
        unfold chgsD at h3
        cases hv : getVar L2 with
        | none => rw [hv] at h3; cases h3
        | some p =>
          obtain ⟨n, M⟩ := p
          rw [hv] at h3
          obtain ⟨b1, b2, b3⟩ := repD_len (fun _ _ _ _ h => chgD_len h) _ _ h3
          have := varD_len _ _ _ hv
          refine ⟨by show g.length ≤ _; omega, a2, by show 10 * c.length ≤ _; omega, by show ds.length ≤ _; rw [b1]; omega, fun x hx => ?_⟩
          obtain ⟨last, M1, M2, hx⟩ := b3 x hx
          exact chgD_fit hL hx
end Go.Proofs.YtchhhjlpnecjkaaGreat
namespace Go.Proofs.YtchhhjlpnecjkaaGreat
open Go Go.RowKit Go.Proofs.YtchhhjlpnecjkaaGreat.Den
variable {R : Type} {Q : R → World → Prop} {w : World}
theorem findM_cases (l : List Comp) (k : Int) : (findM l k = -1 ∧ ∀ c ∈ l, c.1 ≠ k) ∨ ∃ (q : Nat) (c : Comp), findM l k = (q : Int) ∧ l[q]? = some c ∧ c.1 = k := by
  unfold findM
  split
  · rename_i i hi
    rw [List.findIdx?_eq_some_iff_getElem] at hi
    obtain ⟨hl, he, _⟩ := hi
    exact .inr ⟨i, l[i], rfl, List.getElem?_eq_getElem hl, by simpa using he⟩
  · rename_i hn
    rw [List.findIdx?_eq_none_iff] at hn
    exact .inl ⟨rfl, fun c hc => by simpa using hn c hc⟩
section
variable {n bd : Nat} {id lost : Int} {a l : List Comp} {lab : Nat → Nat} {sn ss : Sl} {c : Comp}
theorem ChgI.same (h : ChgI n bd id lost a l lab sn ss w) (hf : (findC a c.1).2 = true ∧ (findC a c.1).1 = c) : ChgI n bd id lost a (l ++ [c]) lab sn ss w := by
  refine ⟨h.blk, h.lb, ?_, ?_, h.up⟩
  · rw [newM_snoc, if_neg (by simp [hf.1]), List.append_nil]; exact h.new
  · rw [chM_snoc, if_neg (fun h => h.2 hf.2), List.append_nil]; exact h.set
end
end Go.Proofs.YtchhhjlpnecjkaaGreat
namespace Go.Proofs.YtchhhjlpnecjkaaGreat
open Go Go.RowKit Go.Proofs.YtchhhjlpnecjkaaGreat.Den
variable {R : Type} {Q : R → World → Prop} {w : World}
end Go.Proofs.YtchhhjlpnecjkaaGreat
namespace Go.Proofs.YtchhhjlpnecjkaaGreat
open Go Go.RowKit Go.Proofs.YtchhhjlpnecjkaaGreat.Den
variable {R : Type} {Q : R → World → Prop} {w : World}
theorem stepB2_le (a c : Comp) : (stepB2 a c).length ≤ 200 := by
  have e : stepB2 a c = (List.range (cntM c.1)).flatMap fun i => (oneP a c i).flatMap partB := by
    unfold stepB2 partsB stepP
    rw [List.flatMap_assoc]
    rfl
  have h3 := cntM_le c.1
  have := flat_le (fun i => (oneP a c i).flatMap partB) 66 (List.range (cntM c.1)) fun i _ => by
    obtain ⟨q1, q2⟩ := rangeM_i32 c.1 (i : Int)
    have hw := width_le (lo := (rangeM c.1 (i : Int)).1) (hi := (rangeM c.1 (i : Int)).2.1) (by omega)
    show ((oneP a c i).flatMap partB).length ≤ 66
    unfold oneP
    split
    · simp [partB_len]
    · split
      · simp [partB_len]
      · simp only [List.flatMap_cons, List.flatMap_nil, List.length_append, partB_len, List.length_nil]
        unfold fieldP
        rw [Int.toNat_natCast]
        show 1 + (1 + (widthM (rangeM c.1 (i : Int)).1 (rangeM c.1 (i : Int)).2.1 + 0)) ≤ 66
        omega
  rw [List.length_range] at this
  rw [e]
  omega
theorem setsB_le (was : List Ent) (id : Int) (l : List Comp) : (setsB was id l).length ≤ 200 * l.length := flat_le _ 200 _ fun c _ => stepB2_le _ _
theorem compsB_le (l : List Comp) : (compsB l).length ≤ 192 * l.length := flat_le _ 192 _ fun c _ => compB_le
theorem new_set_le (a l : List Comp) : (newM a l).length + (chM a l).length ≤ l.length := by
  unfold newM chM
  induction l with
  | nil => simp
  | cons c r ih =>
    simp only [List.filter_cons]
    by_cases h : (findC a c.1).2 = true
    · rw [h]
      by_cases h2 : (findC a c.1).1 = c
      · simp [h2]; omega
      · simp [h2]; omega
    · have h : (findC a c.1).2 = false := by simpa using h
      rw [h]
      simp
      omega
theorem chgB_le (was : List Ent) (last : Int) {d : Chg} (h : d.2.2.1.length + d.2.2.2.length ≤ 6) : (chgB was last d).length ≤ 1300 := by
  have h1 := idBits_le last d.1
  have h2 := compsB_le d.2.2.1
  have h3 := setsB_le was d.1 d.2.2.2
  unfold chgB
  simp only [List.length_append, bitsOf_len]
  omega
theorem encs_le {α : Type} {enc : Int → α → List Bool} {id : α → Int} {m : Nat} : ∀ (l : List α) (last : Int), (∀ a ∈ l, ∀ last, (enc last a).length ≤ m) → (encs enc id last l).length ≤ m * l.length
  | [], _, _ => by simp [encs]
  | a :: r, last, h => by
    have h1 := encs_le (enc := enc) (id := id) r (id a) fun x hx => h x (List.mem_cons_of_mem _ hx)
    have h2 := h a List.mem_cons_self last
    rw [encs, List.length_append, List.length_cons, Nat.mul_add]
    omega
theorem varB_le {v : Nat} (h : v ≤ 4294967295) : (varB v).length ≤ 80 := by
  have lg2 := groupsM_le (v := (v : Int)) (by omega) (by omega)
  rw [Int.toNat_natCast] at lg2
  rw [varB_len]
  omega
theorem goneB_le {l : List Int} (h : l.length ≤ 4294967295) : (goneB l).length ≤ 80 + 80 * l.length := by
  unfold goneB
  rw [List.length_append]
  have := varB_le h
  have := encs_le (enc := idBits) (id := fun i : Int => i) l 0 fun a _ last => idBits_le last a
  omega
theorem entsB_le {l : List Ent} (h : l.length ≤ 4294967295) (h6 : ∀ e ∈ l, e.2.length ≤ 6) : (entsB l).length ≤ 80 + 1300 * l.length := by
  unfold entsB
  rw [List.length_append]
  have := varB_le h
  have := encs_le (enc := entB) (id := fun e : Ent => e.1) l 0 fun a ha last => entB_le (h6 a ha)
  omega
theorem chgsB_le (was : List Ent) {l : List Chg} (h : l.length ≤ 4294967295) (h6 : ∀ d ∈ l, d.2.2.1.length + d.2.2.2.length ≤ 6) : (chgsB was l).length ≤ 80 + 1300 * l.length := by
  unfold chgsB
  rw [List.length_append]
  have := varB_le h
  have := encs_le (enc := chgB was) (id := fun d : Chg => d.1) l 0 fun a ha last => chgB_le was last (h6 a ha)
  omega
theorem come_chg_le (was now : List Ent) : (comeM was now).length + (chgsM was now).length ≤ now.length := by
  unfold comeM chgsM
  induction now with
  | nil => simp
  | cons e r ih =>
    rw [List.filter_cons, List.filterMap_cons]
    by_cases h : hasE was e.1 = true
    · rw [h]
      simp only [Bool.not_true, Bool.false_eq_true, if_false, List.length_cons]
      cases chgOne was e <;> simp <;> omega
    · have h : hasE was e.1 = false := by simpa using h
      rw [h]
      have : chgOne was e = none := by
        unfold chgOne
        have : was.find? (fun a => a.1 == e.1) = none := by
          rw [List.find?_eq_none]
          intro x hx
          simpa using hasE_not.1 h x hx
        rw [this]
      rw [this]
      simp
      omega
theorem mask_told : ∀ (l : List Comp) (m : Nat), m < 32 → (∀ c ∈ l, c.1 < 5) → l.foldl orK m < 32
  | [], m, h, _ => h
  | c :: r, m, h, hc => by
    rw [List.foldl_cons]
    refine mask_told r _ ?_ fun x hx => hc x (List.mem_cons_of_mem _ hx)
    have := hc c List.mem_cons_self
    unfold orK
    split
    · refine Nat.or_lt_two_pow (n := 5) h ?_
      rw [Nat.one_shiftLeft]
      exact Nat.pow_lt_pow_right (by decide) (by omega)
    · exact h
theorem FormOk.kinds {L : List Ent} (h : FormOk L) {e : Ent} (he : e ∈ L) : ∀ c ∈ e.2, 0 ≤ c.1 ∧ c.1 < 5 := fun c hc => by
  have h1 := h.told e he
  unfold secretM at h1
  rw [List.any_eq_false] at h1
  have h2 := h1 c hc
  have h3 : toldM c.1 = true := by simpa using h2
  unfold toldM at h3
  have := of_decide_eq_true h3
  omega
theorem FormOk.mask {L : List Ent} (h : FormOk L) {e : Ent} (he : e ∈ L) {l : List Comp} (hl : ∀ c ∈ l, c ∈ e.2) : maskN l < 32 := mask_told l 0 (by decide) fun c hc => (h.kinds he c (hl c hc)).2
theorem FormOk.entTold {L : List Ent} (h : FormOk L) {e : Ent} (he : e ∈ L) (hf : EntFit e) : EntTold e := ⟨hf, (listE_0.1 (h.list he)).1, h.mask he fun _ hc => hc, h.six he⟩
theorem FormOk.come {was now : List Ent} (h : FormOk now) (hf : ∀ e ∈ now, EntFit e) : ∀ e ∈ comeM was now, EntTold e := fun e he => by
  have := (List.mem_filter.1 he).1
  exact h.entTold this (hf e this)
theorem old_of {was : List Ent} (h : FormOk was) {a : Ent} (ha : a ∈ was) {y : Comp} (hy : y ∈ a.2) : oldM was a.1 y.1 = y := by
  obtain ⟨i, hi⟩ := List.mem_iff_getElem?.1 ha
  have hf : was.findIdx? (fun e => e.1 == a.1) = some i := by
    rw [List.findIdx?_eq_some_iff_getElem]
    obtain ⟨hl, hg⟩ := List.getElem?_eq_some_iff.1 hi
    refine ⟨hl, by rw [hg]; simp, fun q hq => ?_⟩
    have := ids_lt h.rise hq (List.getElem?_eq_getElem (by omega)) hi
    simp; omega
  unfold oldM
  rw [hf]
  simp only [hi, Option.bind_some]
  cases hq : a.2.find? (fun c => c.1 == y.1) with
  | none =>
    rw [List.find?_eq_none] at hq
    exact absurd (hq y hy) (by simp)
  | some z =>
    have h1 := List.mem_of_find?_eq_some hq
    have h2 : z.1 = y.1 := by have := List.find?_some hq; simpa using this
    exact kind_one (h.list ha) h1 hy h2
structure ChgTold (was : List Ent) (d : Chg) : Prop where
  id : IdOk d.1
  lost : 0 ≤ d.2.1 ∧ d.2.1 < 32
  new : ∀ c ∈ d.2.2.1, checkM c = 0 ∧ CompOk c
  newm : maskN d.2.2.1 < 32
  setm : maskN d.2.2.2 < 32
  six : d.2.2.1.length + d.2.2.2.length ≤ 6
  set : ∃ (i : Nat) (a : Ent), was[i]? = some a ∧ findE was d.1 = (i : Int) ∧ ∀ c ∈ d.2.2.2, CompOk c ∧ ∃ (q : Nat) (y : Comp), findM a.2 c.1 = (q : Int) ∧ a.2[q]? = some y ∧ CompOk y ∧ pairM y c = 0 ∧ oldM was d.1 c.1 = y
theorem chgs_told {was now : List Ent} (hw : FormOk was) (hn : FormOk now) (hL1 : ∀ e ∈ was, EntFit e) (hL2 : ∀ e ∈ now, EntFit e) : ∀ d ∈ chgsM was now, ChgTold was d := by
  intro d hd
  obtain ⟨e, he, hd⟩ := List.mem_filterMap.1 hd
  obtain ⟨-, a, ha, hid, rfl, -⟩ := chgOne_id hd
  have la := hw.list ha
  have le := hn.list he
  obtain ⟨i, hi⟩ := List.mem_iff_getElem?.1 ha
  have hlost : lostM a.2 e.2 < 32 := by
    have h1 := hw.mask ha (l := a.2) fun _ h => h
    have ee : (lostM a.2 e.2).toNat = (BitVec.ofInt 8 (maskN a.2 : Int) &&& ~~~BitVec.ofInt 8 (maskN e.2 : Int)).toNat := by
      unfold lostM bNot
      have := (BitVec.ofInt 8 (maskN a.2 : Int) &&& ~~~BitVec.ofInt 8 (maskN e.2 : Int)).isLt
      show (IntKind.wrap .u8 ((BitVec.ofInt 8 (maskN a.2 : Int) &&& ~~~BitVec.ofInt 8 (maskN e.2 : Int)).toNat : Int)).toNat = _
      rw [wu8 (by omega), Int.toNat_natCast]
    have h2 : (lostM a.2 e.2).toNat < 32 := by
      rw [ee, BitVec.toNat_and]
      refine Nat.lt_of_le_of_lt Nat.and_le_left ?_
      rw [BitVec.toNat_ofInt]
      omega
    have := (lostM_range a.2 e.2).1
    omega
  have cok : ∀ c ∈ e.2, checkM c = 0 ∧ CompOk c := fun c hc => ⟨(listE_0.1 le).1 c hc, (hL2 e he).2.2 c hc⟩
  refine ⟨(hL2 e he).1, ⟨(lostM_range a.2 e.2).1, hlost⟩, fun c hc => cok c (newM_mem hc), hn.mask he fun c hc => newM_mem hc, hn.mask he fun c hc => chM_mem hc, ?_, i, a, hi, ?_, fun c hc => ?_⟩
  · have := new_set_le a.2 e.2
    have := hn.six he
    show (newM a.2 e.2).length + (chM a.2 e.2).length ≤ 6
    omega
  · show findE was e.1 = _
    rw [← hid]
    exact findE_some hw.rise hi
  · have hce := chM_mem hc
    obtain ⟨hck, hco⟩ := cok c hce
    have hf : (findC a.2 c.1).2 = true := by
      have := (List.mem_filter.1 hc).2
      simp at this
      exact this.1
    obtain ⟨g1, g2⟩ := findC_some hf
    rcases findM_cases a.2 c.1 with ⟨_, hno⟩ | ⟨q, y, hq, hy, hk⟩
    · exact absurd g2 (hno _ g1)
    have hym := List.mem_of_getElem? hy
    refine ⟨hco, q, y, hq, hy, (hL1 a ha).2.2 y hym, ?_, ?_⟩
    · unfold pairM
      rw [if_neg (by rw [(listE_0.1 la).1 y hym]; simp), if_neg (by rw [hck]; simp), if_pos hk]
    · show oldM was e.1 c.1 = y
      rw [← hid, ← hk]
      exact old_of hw ha hym
def refBits (h : Head) (was now : List Ent) : List Bool := headB h ++ (if h.1 = 1 then entsB now else if h.1 = 2 then deltaB was (goneM was now) (comeM was now) (chgsM was now) else [])
def formE (h : Head) (was now : List Ent) : Int := if h.1 = 1 then formM 0 now else if h.1 = 2 then diffE was now else if 0 < now.length then 4 else 0
def refE (h : Head) (was now : List Ent) : Int := if headE h ≠ 0 then headE h else if formE h was now ≠ 0 then formE h was now else if 4096 < (packM (refBits h was now)).length then 3 else 0
def refB (h : Head) (was now : List Ent) : List Int := sealF (packM (refBits h was now))
end Go.Proofs.YtchhhjlpnecjkaaGreat
namespace Go.Proofs.YtchhhjlpnecjkaaGreat
open Go Go.RowKit Go.Proofs.YtchhhjlpnecjkaaGreat.Den
variable {R : Type} {Q : R → World → Prop} {w : World}
theorem headB_le {h : Head} (hok : HeadOk h) : (headB h).length ≤ 320 := by
  obtain ⟨⟨k0, k1⟩, ⟨c0, c1⟩, ⟨e0, e1⟩, ⟨t0, t1⟩, ⟨b0, b1⟩⟩ := hok
  have l1 := inB_len h.1 1 5
  have l2 := inB_len h.2.1 0 15
  have lw1 : widthM 1 5 ≤ 64 := width_le (by decide)
  have lw2 : widthM 0 15 ≤ 64 := width_le (by decide)
  have l3 := varB_le (v := h.2.2.1.toNat) (by omega)
  have l4 := varB_le (v := idD h.2.2.2.2 h.2.2.2.1) (by unfold idD; omega)
  unfold headB
  simp only [List.length_append]
  have lt32 : (if h.1 ≤ 3 then bitsOf h.2.2.2.1.toNat 32 else []).length ≤ 32 := by split <;> simp [bitsOf_len]
  have lt33 : (if h.1 = 2 then varB (idD h.2.2.2.2 h.2.2.2.1) else []).length ≤ 80 := by
    split
    · exact l4
    · simp
  omega
end Go.Proofs.YtchhhjlpnecjkaaGreat
namespace Go.Proofs.YtchhhjlpnecjkaaGreat
open Go Go.RowKit Go.Proofs.YtchhhjlpnecjkaaGreat.Den
end Go.Proofs.YtchhhjlpnecjkaaGreat
namespace Go.Proofs.YtchhhjlpnecjkaaGreat
open Go Go.RowKit Go.Proofs.YtchhhjlpnecjkaaGreat.Den
variable {R : Type} {Q : R → World → Prop} {w : World}
theorem spec_bytes_Equal {ok ok2 : Nat → Prop} {s s2 : Sl} {l l2 : List Int} (hS : SlT ok w u8T s l) (hS2 : SlT ok2 w u8T s2 l2) (h1 : BytesOk l) (h2 : BytesOk l2) {K : Res [.sc .bool] → W R} (hk : K (decide (l = l2)) Q w) :
    callW Tryz.prog k_bytes_Equal [.slice s.a s.n s.c, .slice s2.a s2.n s2.c] [.sc .bool] K Q w := by
  refine C_bytes_Equal s s2 K Q w ?_
  unfold F_bytes_Equal
  refine strI hS (strI hS2 ?_)
  rw [str_eq h1 h2]
  exact hk
theorem spec_frame_Open {ok : Nat → Prop} {s : Sl} {l : List Int} (hS : SlT ok w u8T s l) (hb : BytesOk l) (hm : l.length ≤ 140737488355000) {K : Res [.sc .sl, .sc (.int .i64)] → W R} (h1 : ∀ w', Fr None w w' → (l.length < 4 → K (⟨none, 0, 0⟩, 2) Q w') ∧ (4100 < l.length → K (⟨none, 0, 0⟩, 3) Q w') ∧ (4 ≤ l.length → l.length ≤ 4100 → sealF (l.take (l.length - 4)) ≠ l → K (⟨none, 0, 0⟩, 6) Q w'))
    (hk : 4 ≤ l.length → l.length ≤ 4100 → sealF (l.take (l.length - 4)) = l → ∀ r w', Own (Up w.heap.size) w' 5 u8T r (l.take (l.length - 4)) → Fr None w w' → K (r, 0) Q w') :
    callW Tryz.prog k_frame_Open [.slice s.a s.n s.c] [.sc .sl, .sc (.int .i64)] K Q w := by
  refine C_frame_Open s K Q w ?_
  unfold F_frame_Open
  have hlen := hS.len
  rw [w64 (x := (s.n : Int) - 4) (by omega)]
  refine condD (fun h => (h1 w (Fr.refl _ _)).1 (by omega)) fun ha => ?_
  refine condD (fun h => (h1 w (Fr.refl _ _)).2.1 (by omega)) fun hc => ?_
  have fd : Fr None w w.drew := (Fr.refl _ _).drew
  have hSd := hS.fr0 fd
  have hbt : BytesOk (l.take (l.length - 4)) := fun x hx => hb x (List.mem_of_mem_take hx)
  have hbd : BytesOk (l.drop (l.length - 4)) := fun x hx => hb x (List.mem_of_mem_drop hx)
  have hlt : (l.take (l.length - 4)).length = l.length - 4 := by rw [List.length_take]; omega
  refine hSd.from (n := l.length - 4) rfl (by omega) (by omega) fun r1 hr1 _ => ?_
  refine hSd.cutI (n := l.length - 4) (by omega) (by omega) fun r2 _ hr2 => ?_
  refine spec_frame_Sum (hr2 _ _ hSd) (by omega) (spec_frame_tail fun t w1 o1 f1 => ?_)
  refine spec_bytes_Equal (hr1.fr0 f1) o1.sl hbd (tailF_ok _) ?_
  have key : (l.drop (l.length - 4) = tailF (sumF (l.take (l.length - 4)))) ↔ sealF (l.take (l.length - 4)) = l := by
    constructor
    · intro e
      unfold sealF
      rw [← e, List.take_append_drop]
    · intro e
      have := congrArg (List.drop (l.length - 4)) e
      unfold sealF at this
      rw [List.drop_left' hlt] at this
      exact this.symm
  have f01 := fd.then0 f1
  refine condI (fun h => ?_) fun h => ?_
  · refine (h1 w1 f01).2.2 (by omega) (by omega) fun e => ?_
    have := key.2 e
    simp [this] at h
  · have h : l.drop (l.length - 4) = tailF (sumF (l.take (l.length - 4))) := by simpa using h
    refine (hS.fr0 f01).cutI (n := l.length - 4) (by omega) (by omega) fun r3 _ hr3 => ?_
    refine spec_bytes_Clone (hr3 _ _ (hS.fr0 f01)) (by omega) fun r w2 o2 f2 => ?_
    have z1 := f01.size
    exact hk (by omega) (by omega) (key.1 h) r w2 (o2.up z1) (f01.then0 f2)
end Go.Proofs.YtchhhjlpnecjkaaGreat
namespace Go.Proofs.YtchhhjlpnecjkaaGreat
open Go Go.RowKit Go.Proofs.YtchhhjlpnecjkaaGreat.Den
variable {R : Type} {Q : R → World → Prop} {w : World}
def RestR (k : Int) (was : List Ent) (L : List Bool) (now : List Ent) : Prop := (k = 1 ∧ ∃ L', entsD L = some (now, L')) ∨ (k = 2 ∧ ∃ d L', deltaD was L = some (d, L') ∧ PatchOk was d.1 d.2.1 d.2.2 now) ∨ (k ≠ 1 ∧ k ≠ 2 ∧ now = [])
set_option maxRecDepth 100000 in
theorem spec_packet_rest {b : Nat} {L : List Bool} {F : Nat → Prop} (h : RD b L F w) (hF : ∀ k, F k → k < w.heap.size) {hd : Head} {okw : Nat → Prop} {sw : Sl} {raws : List (Int × Sl)} {was : List Ent} (hS : SlT okw w entT sw raws) (hE : EntsR okw w raws was) (hL : ∀ e ∈ was, EntFit e) (hm : was.length ≤ 200000) (hd' : ∀ k, okw k → k ≠ b) (hf : hd.1 = 2 → FormOk was) {K : Res [.sc .sl, .sc (.int .i64)] → W R}
    (h0 : (∀ now, ¬ RestR hd.1 was L now) → ∀ w', Fr (fun k => k = b) w w' → K (⟨none, 0, 0⟩, 4) Q w') (hk : ∀ now, RestR hd.1 was L now → (∀ e ∈ now, EntFit e) → now.length ≤ 1048576 → ∀ r raws' w', SlT (Up w.heap.size) w' entT r raws' → EntsR (Up w.heap.size) w' raws' now → Fr (fun k => k = b) w w' → K (r, 0) Q w') :
    callW Tryz.prog k_packet_rest [.agg ⟨[.int .u8 hd.1, .int .u8 hd.2.1, .int .u32 hd.2.2.1, .int .u32 hd.2.2.2.1, .int .u32 hd.2.2.2.2]⟩, .agg ⟨[.pointer (some ⟨b, 0, none⟩)]⟩, .slice sw.a sw.n sw.c] [.sc .sl, .sc (.int .i64)] K Q w := by
  unfold callW
  go_enter_defers Tryz.func29, Tryz.ntmps29
  generalize hc : Code.seq (Code.seq _ (Code.block _ _)) _ = c
  go_wp2
  have hc : c = doorOf Tryz.f29 := hc.symm
  subst hc
  have hbb := hF b h.1
  have hl8 := h.len
  obtain ⟨w3, hw3⟩ : ∃ w3, w3 = ((w.alloc (.cells ⟨[.int .u8 hd.1, .int .u8 hd.2.1, .int .u32 hd.2.2.1, .int .u32 hd.2.2.2.1, .int .u32 hd.2.2.2.2]⟩ 30)).alloc (.cells ⟨[.pointer (some ⟨b, 0, none⟩)]⟩ 62)).alloc (.cells #[.int .i64 0] 31) := ⟨_, rfl⟩
  have f1 : Fr None w (w.alloc (.cells ⟨[.int .u8 hd.1, .int .u8 hd.2.1, .int .u32 hd.2.2.1, .int .u32 hd.2.2.2.1, .int .u32 hd.2.2.2.2]⟩ 30)) := (Fr.refl None w).alloc _
  have f2 := f1.alloc (.cells ⟨[.pointer (some ⟨b, 0, none⟩)]⟩ 62)
  have f3 := f2.alloc (.cells #[.int .i64 0] 31)
  have Bh : Blk w3 w.heap.size 30 [.int .u8 hd.1, .int .u8 hd.2.1, .int .u32 hd.2.2.1, .int .u32 hd.2.2.2.1, .int .u32 hd.2.2.2.2] := by rw [hw3]; exact ((Blk.new w _ _).alloc _).alloc _
  have Br : Blk w3 (w.heap.size + 1) 62 [.pointer (some ⟨b, 0, none⟩)] := by
    rw [hw3]
    refine Blk.alloc ?_ _
    have := Blk.new (w.alloc (.cells ⟨[.int .u8 hd.1, .int .u8 hd.2.1, .int .u32 hd.2.2.1, .int .u32 hd.2.2.2.1, .int .u32 hd.2.2.2.2]⟩ 30)) 62 [.pointer (some ⟨b, 0, none⟩)]
    simpa using this
  have Be : Blk w3 (w.heap.size + 2) 31 [.int .i64 0] := by
    rw [hw3]
    have := Blk.new ((w.alloc (.cells ⟨[.int .u8 hd.1, .int .u8 hd.2.1, .int .u32 hd.2.2.1, .int .u32 hd.2.2.2.1, .int .u32 hd.2.2.2.2]⟩ 30)).alloc (.cells ⟨[.pointer (some ⟨b, 0, none⟩)]⟩ 62)) 31 [.int .i64 0]
    simpa using this
  have fw : Fr None w w3 := by rw [hw3]; exact f3
  have z3 : w3.heap.size = w.heap.size + 3 := by rw [hw3]; simp
  rw [← hw3]
  clear hw3 f1 f2 f3
  have hr3 := RD.st.fr0 h fw
  have hF3 : ∀ k, F k → k < w3.heap.size := fun k e => by have := hF k e; omega
  have fin : ∀ {u v : World}, Fr (fun k => k = b) w3 u → Fr (fun k => k = w.heap.size + 2) u v → Fr (fun k => k = b) w v := fun g f => (fw.any.then g).thenNew f fun k e => by omega
  have hbC : ¬ w.heap.size + 2 = b := by omega
  by_cases k1 : hd.1 = 1
  · rw [k1] at Bh h0 hk
    refine rest_full Bh Br (TC := 31) ?_
    have := spec_rd_ents (R := Unit ⊕ List PanicEntry) (Q := fun s w' => match s with
      | .inl _ => False
      | .inr ch => ch = giveUp ∧ entsD L = none ∧ Fr (fun k => k = b) w3 w') hr3 hF3 (K := fun r _ w' => ∃ l L', entsD L = some (l, L') ∧ Fr (fun k => k = b) w3 w' ∧ ∃ raws', SlT (Up w3.heap.size) w' entT r raws' ∧ EntsR (Up w3.heap.size) w' raws' l) (fun hn w' f => ⟨rfl, hn, f⟩)
      fun l L' hl r raws' lab w' o e up _ f => ⟨l, L', hl, f, raws', o.sl.mono fun k _ e => (up k (by omega)).1, e.mono fun k _ e => (up k (by omega)).1⟩
    refine Calls.mono this ?_
    rintro e w' (⟨r, rfl, l, L', hl, f, raws', hS', hE'⟩ | ⟨ch, rfl, rfl, hn, f⟩)
    · refine ⟨Be.fr f hbC, .inl ⟨r, rfl, fun w2 f2 => ⟨(r, 0), rfl, ?_⟩⟩⟩
      obtain ⟨fit, fl⟩ := ents_fit hl
      refine hk l (.inl ⟨rfl, L', hl⟩) (fun e he => (fit e he).1) (by omega) r raws' w2 ((hS'.fr f2 fun k (e : w3.heap.size ≤ k) e2 => by omega).mono fun k _ (e : w3.heap.size ≤ k) => by show w.heap.size ≤ k; omega) ((hE'.fr f2 fun k (e : w3.heap.size ≤ k) e2 => by omega).mono fun k _ (e : w3.heap.size ≤ k) => by show w.heap.size ≤ k; omega) (fin f f2)
    · refine ⟨Be.fr f hbC, .inr ⟨rfl, fun w2 f2 => ⟨(⟨none, 0, 0⟩, 4), rfl, h0 (fun now hr => ?_) w2 (fin f f2)⟩⟩⟩
      rcases hr with ⟨_, L', h⟩ | ⟨h, _⟩ | ⟨h, _⟩
      · rw [hn] at h; cases h
      · cases h
      · exact h rfl
  by_cases k2 : hd.1 = 2
  · have hform := hf k2
    rw [k2] at Bh h0 hk
    refine rest_step Bh Br (TC := 31) ?_
    have hS3 := hS.fr0 fw
    have hE3 := hE.fr fw fun _ _ h => h
    have := spec_rd_delta (R := Unit ⊕ List PanicEntry) (Q := fun s w' => match s with
      | .inl _ => False
      | .inr ch => ch = giveUp ∧ deltaD was L = none ∧ Fr (fun k => k = b) w3 w') hr3 hF3 hS3 hE3 hform.rise (by omega) hL hd' (K := fun r _ w' => ∃ d L', deltaD was L = some (d, L') ∧ Fr (fun k => k = b) w3 w' ∧ DltR (Up w3.heap.size) w' r d.1 d.2.1 d.2.2) (fun hn w' f => ⟨rfl, hn, f⟩)
      fun d L' hd r w' dr _ f => ⟨d, L', hd, f, dr⟩
    refine Calls.mono this ?_
    rintro e w' (⟨r, rfl, d, L', hdl, f, dr⟩ | ⟨ch, rfl, rfl, hn, f⟩)
    · refine .inl ⟨r, rfl, ?_⟩
      obtain ⟨q1, q2, q3, q4, q5⟩ := delta_fit hL hdl
      have sz := f.size
      have := spec_diff_Patch (R := Unit) (Q := fun _ _ => False) (hS3.fr f hd') (hE3.fr f hd') hform hL dr (by omega) (fun e he => (q2 e he).1) (by omega) q5 (by omega) (K := fun r _ w'' => Fr None w' w'' ∧ ((r = ((⟨none, 0, 0⟩ : Sl), (4 : Int)) ∧ ∀ now, ¬ PatchOk was d.1 d.2.1 d.2.2 now) ∨ (r.2 = 0 ∧ ∃ now, PatchOk was d.1 d.2.1 d.2.2 now ∧ (∀ e ∈ now, EntFit e) ∧ now.length ≤ was.length + d.2.1.length ∧ ∃ raws', SlT (Up w'.heap.size) w'' entT r.1 raws' ∧ EntsR (Up w'.heap.size) w'' raws' now)))
        (fun hn w'' g => ⟨g, .inl ⟨rfl, hn⟩⟩) fun now hp fit hlen r raws' w'' o e g => ⟨g, .inr ⟨rfl, now, hp, fit, hlen, raws', o.sl, e⟩⟩
      refine Calls.mono this ?_
      rintro e w'' ⟨rr, rfl, g, hcase⟩
      refine ⟨(Be.fr f hbC).fr g fun h => h, rr.1, rr.2, rfl, fun w2 f2 => ⟨rr, rfl, ?_⟩⟩
      have fin2 := fin (f.then g.any) f2
      rcases hcase with ⟨rfl, hn⟩ | ⟨hr0, now, hp, fit, hlen, raws', hS', hE'⟩
      · refine h0 (fun now hr => ?_) w2 fin2
        rcases hr with ⟨h, _⟩ | ⟨_, d2, L2, h2, h3⟩ | ⟨_, h, _⟩
        · cases h
        · rw [hdl] at h2; cases h2; exact hn now h3
        · exact h rfl
      · have e : rr = (rr.1, 0) := Prod.ext rfl hr0
        rw [e]
        refine hk now (.inr (.inl ⟨rfl, d, L', hdl, hp⟩)) fit (by omega) rr.1 raws' w2 ((hS'.fr f2 fun k (e : w'.heap.size ≤ k) e2 => by omega).mono fun k _ (e : w'.heap.size ≤ k) => by show w.heap.size ≤ k; omega) ((hE'.fr f2 fun k (e : w'.heap.size ≤ k) e2 => by omega).mono fun k _ (e : w'.heap.size ≤ k) => by show w.heap.size ≤ k; omega) fin2
    · refine .inr ⟨rfl, Be.fr f hbC, fun w2 f2 => ⟨(⟨none, 0, 0⟩, 4), rfl, h0 (fun now hr => ?_) w2 (fin f f2)⟩⟩
      rcases hr with ⟨h, _⟩ | ⟨_, d2, L2, h2, h3⟩ | ⟨_, h, _⟩
      · cases h
      · rw [hn] at h2; cases h2
      · exact h rfl
  · refine rest_other Bh Be k1 k2 fun w2 f2 => ⟨(⟨none, 0, 0⟩, 0), rfl, ?_⟩
    exact hk [] (.inr (.inr ⟨k1, k2, rfl⟩)) (fun e he => by cases he) (by simp) ⟨none, 0, 0⟩ [] w2 (SlT.nil _) (EntsR.nil _ _) (fin (Fr.refl _ _) f2)
theorem RestR.uniq {k : Int} {was : List Ent} {L : List Bool} {x y : List Ent} (hf : k = 2 → FormOk was) (hx : RestR k was L x) (hy : RestR k was L y) : x = y := by
  rcases hx with ⟨k1, L1, h1⟩ | ⟨k2, d, L1, h1, p1⟩ | ⟨k1, k2, rfl⟩
  · rcases hy with ⟨_, L2, h2⟩ | ⟨k2, _⟩ | ⟨k2, _⟩
    · rw [h1] at h2; cases h2; rfl
    · omega
    · exact absurd k1 k2
  · rcases hy with ⟨k1, _⟩ | ⟨_, d2, L2, h2, p2⟩ | ⟨_, k1, _⟩
    · omega
    · rw [h1] at h2
      cases h2
      exact delta_inj (hf k2) p1.form p2.form (p1.gone.trans p2.gone.symm) (p1.come.trans p2.come.symm) (p1.chg.trans p2.chg.symm)
    · exact absurd k2 k1
  · rcases hy with ⟨k3, _⟩ | ⟨k3, _⟩ | ⟨_, _, rfl⟩
    · exact absurd k3 k1
    · exact absurd k3 k2
    · rfl
def frameErr (l : List Int) : Int := if l.length < 4 then 2 else if 4100 < l.length then 3 else if sealF (l.take (l.length - 4)) ≠ l then 6 else 0
theorem frameErr_0 {l : List Int} (h : frameErr l = 0) : 4 ≤ l.length ∧ l.length ≤ 4100 ∧ sealF (l.take (l.length - 4)) = l := by
  unfold frameErr at h
  split at h
  · cases h
  · split at h
    · cases h
    · split at h
      · cases h
      · exact ⟨by omega, by omega, Classical.byContradiction (by assumption)⟩
theorem frameErr_of {l : List Int} (h1 : 4 ≤ l.length) (h2 : l.length ≤ 4100) (h3 : sealF (l.take (l.length - 4)) = l) : frameErr l = 0 := by
  unfold frameErr
  rw [if_neg (by omega), if_neg (by omega), if_neg (fun h => h h3)]
theorem spec_frame_Open2 {ok : Nat → Prop} {s : Sl} {l : List Int} (hS : SlT ok w u8T s l) (hb : BytesOk l) (hm : l.length ≤ 140737488355000) {K : Res [.sc .sl, .sc (.int .i64)] → W R} (h0 : frameErr l ≠ 0 → ∀ w', Fr None w w' → K (⟨none, 0, 0⟩, frameErr l) Q w') (hk : frameErr l = 0 → ∀ r w', Own (Up w.heap.size) w' 5 u8T r (l.take (l.length - 4)) → Fr None w w' → K (r, 0) Q w') :
    callW Tryz.prog k_frame_Open [.slice s.a s.n s.c] [.sc .sl, .sc (.int .i64)] K Q w := by
  refine spec_frame_Open hS hb hm (fun w' f => ⟨fun h => ?_, fun h => ?_, fun h1 h2 h3 => ?_⟩) fun h1 h2 h3 r w' o f => hk (frameErr_of h1 h2 h3) r w' o f
  · have e : frameErr l = 2 := by unfold frameErr; rw [if_pos h]
    have := h0 (by rw [e]; decide) w' f
    rw [e] at this
    exact this
  · have e : frameErr l = 3 := by unfold frameErr; rw [if_neg (by omega), if_pos h]
    have := h0 (by rw [e]; decide) w' f
    rw [e] at this
    exact this
  · have e : frameErr l = 6 := by unfold frameErr; rw [if_neg (by omega), if_neg (by omega), if_pos h3]
    have := h0 (by rw [e]; decide) w' f
    rw [e] at this
    exact this
def OpenR (l : List Int) (was : List Ent) (hd : Head) (now : List Ent) : Prop := ∃ L', headD (bitsU (l.take (l.length - 4))) = some (hd, L') ∧ (hd.1 = 2 → FormOk was) ∧ RestR hd.1 was L' now ∧ sealE hd was now = 0 ∧ sealB hd was now = l
theorem OpenR.uniq {l : List Int} {was : List Ent} {hd hd' : Head} {now now' : List Ent} (h : OpenR l was hd now) (h' : OpenR l was hd' now') : hd' = hd ∧ now' = now := by
  obtain ⟨L1, a1, a2, a3, _⟩ := h
  obtain ⟨L2, b1, b2, b3, _⟩ := h'
  rw [a1] at b1
  cases b1
  exact ⟨rfl, b3.uniq a2 a3⟩
theorem spec_packet_Open {ok okw : Nat → Prop} {s sw : Sl} {l : List Int} {raws : List (Int × Sl)} {was : List Ent} (hS : SlT ok w u8T s l) (hb : BytesOk l) (hm : l.length ≤ 140737488355000) (hW : SlT okw w entT sw raws) (hE : EntsR okw w raws was) (hL : ∀ e ∈ was, EntFit e) (hwl : was.length ≤ 200000) {K : Res [.agg headT, .sc .sl, .sc (.int .i64)] → W R} (h0 : frameErr l ≠ 0 → ∀ w', Fr None w w' → K ((0, 0, 0, 0, 0), ⟨none, 0, 0⟩, frameErr l) Q w')
    (h1 : frameErr l = 0 → (∀ hd now, ¬ OpenR l was hd now) → ∀ w', Fr None w w' → K ((0, 0, 0, 0, 0), ⟨none, 0, 0⟩, 4) Q w') (hk : frameErr l = 0 → ∀ hd now, OpenR l was hd now → HeadOk hd → (∀ e ∈ now, EntFit e) → now.length ≤ 1048576 → ∀ r raws' w', SlT (Up w.heap.size) w' entT r raws' → EntsR (Up w.heap.size) w' raws' now → Fr None w w' → K (hd, r, 0) Q w') :
    callW Tryz.prog k_packet_Open [.slice s.a s.n s.c, .slice sw.a sw.n sw.c] [.agg headT, .sc .sl, .sc (.int .i64)] K Q w := by
  refine C_packet_Open s sw K Q w ?_
  unfold F_packet_Open
  refine newI fun w1 B1 f1 z1 => spec_frame_Open2 (hS.fr0 f1) hb hm (fun he w2 f2 => ?_) fun he r w2 o2 f2 => ?_
  · refine condT (by simpa using he) (stoAll (B1.fr f2 fun h => h) rfl rfl fun w3 B3 f3 z3 => aggI B3 (x := ((0, 0, 0, 0, 0) : Head)) rfl ?_)
    exact h0 he w3 ((f1.then0 f2).newer f3 fun k e => by omega)
  obtain ⟨l1, l2, l3⟩ := frameErr_0 he
  refine condF rfl ?_
  have hbt : BytesOk (l.take (l.length - 4)) := fun x hx => hb x (List.mem_of_mem_take hx)
  have f02 := f1.then0 f2
  have B1 := B1.fr f2 fun h => h
  have z2 := f2.size
  have tl : (l.take (l.length - 4)).length ≤ 4096 := by rw [List.length_take]; omega
  have bad : ∀ {u : World}, Fr None w u → Blk u w.heap.size 30 [.int .u8 0, .int .u8 0, .int .u32 0, .int .u32 0, .int .u32 0] → (∀ hd now, ¬ OpenR l was hd now) → (stoL ⟨w.heap.size, 0, none⟩ [.int .u8 0, .int .u8 0, .int .u32 0, .int .u32 0, .int .u32 0] 0 <|
      ld (.agg headT) ⟨w.heap.size, 0, none⟩ fun (x : Head) => (retW (x, (⟨none, 0, 0⟩ : Sl), (4 : Int)) : W (Head × Sl × Int))) (fun r w => K r Q w) u := by
    intro u f B hn
    refine stoAll B rfl rfl fun w8 B8 f8 z8 => aggI B8 (x := ((0, 0, 0, 0, 0) : Head)) rfl ?_
    exact h1 he hn w8 (f.newer f8 fun k e => by omega)
  refine spec_packet_front o2.sl hbt (by omega) (fun hn p w3 f3 => ?_) fun hd L' hh hok hE0 b w3 hr f3 => ?_
  · refine newI fun w4 B4 f4 z4 => newI fun w5 B5 f5 z5 => stoAll (B4.fr f5 fun h => h) rfl rfl fun w6 B6 f6 z6 => stoAll (B5.fr f6 fun e => by omega) rfl rfl fun w7 B7 f7 z7 => condT rfl ?_
    have g37 : Fr None w3 w7 := ((f4.then0 f5).newer f6 fun k e => by omega).newer f7 fun k e => by omega
    exact bad ((f02.then0 f3).then0 g37) ((B1.fr f3 fun h => h).fr g37 fun h => h) fun hd now ⟨L', h, _⟩ => by rw [hn] at h; cases h
  refine newI fun w4 B4 f4 z4 => newI fun w5 B5 f5 z5 => stoAll (B4.fr f5 fun h => h) rfl rfl fun w6 B6 f6 z6 => stoAll (B5.fr f6 fun e => by omega) rfl rfl fun w7 B7 f7 z7 => condF rfl ?_
  have g37 : Fr None w3 w7 := ((f4.then0 f5).newer f6 fun k e => by omega).newer f7 fun k e => by omega
  have z3 := f3.size
  have b2 : w2.heap.size ≤ b := hr.1
  have b3 : b < w3.heap.size := by obtain ⟨cs, B, _⟩ := hr.blk; exact B.lt
  have hr7 : RD b L' (fun k => w2.heap.size ≤ k ∧ k < w3.heap.size) w7 := RD.st hr g37 fun k hk (e : w2.heap.size ≤ k) => ⟨fun h => h, e, hk⟩
  have B67 := B6.fr f7 (show ¬ w3.heap.size = w4.heap.size by omega)
  have f07 := (f02.then0 f3).then0 g37
  have B17 := (B1.fr f3 fun h => h).fr g37 fun h => h
  have hW' : SlT (fun k => k < w.heap.size) w7 entT sw raws := (hW.mono fun k hk _ => hk).fr0 f07
  have hE' : EntsR (fun k => k < w.heap.size) w7 raws was := (hE.mono fun k hk _ => hk).fr f07 fun _ _ h => h
  refine joinI (fun z v => z = decide (hd.1 = 2 ∧ formM 0 was ≠ 0) ∧ Fr None w7 v) ?_ ?_
  · refine fldI B67 (i := 0) (x := hd.1) rfl (condE (fun k2 => ?_) fun k2 => ⟨(decide_eq_false fun h => k2 h.1).symm, Fr.refl _ _⟩)
    refine spec_snap_Form hW' hE' (by omega) (fun e he => (hL e he).idOk) fun w8 f8 => ⟨?_, f8⟩
    by_cases hfm : formM 0 was = 0
    · rw [hfm, decide_eq_false fun h => h.2 rfl]; rfl
    · rw [decide_eq_true ⟨k2, hfm⟩]
      simpa using hfm
  rintro _ w8 ⟨rfl, f8⟩
  have B18 := B17.fr f8 fun h => h
  have f08 := f07.then0 f8
  refine condD (fun hbad => ?_) fun hgood => ?_
  · refine bad f08 B18 fun hd' now ⟨L2, h2, h3, _⟩ => ?_
    rw [hh] at h2
    cases h2
    exact hbad.2 (formOk.2 (h3 hbad.1))
  have hf2 : hd.1 = 2 → FormOk was := fun k2 => Classical.byContradiction fun h => hgood ⟨k2, fun h2 => h (formOk.1 h2)⟩
  have B68 := B67.fr f8 fun h => h
  have z7s := g37.size
  have z8 := f8.size
  have ltb : ∀ k, k < w.heap.size → k ≠ b := fun k e e2 => by omega
  refine aggI B68 (x := hd) rfl (aggI (B7.fr f8 fun h => h) (x := some ⟨b, 0, none⟩) rfl ?_)
  refine spec_packet_rest (RD.st.fr0 hr7 f8) (fun k e => by omega) (hW'.fr0 f8) (hE'.fr f8 fun _ _ h => h) hL hwl ltb hf2 (fun hn w9 f9 => ?_) fun now hR hfit hnl r9 raws9 w9 S9 E9 f9 => ?_
  · have f09 : Fr None w w9 := f08.newer f9 fun k e => by omega
    refine condT rfl (bad f09 (B18.fr f9 fun e => by omega) fun hd' now ⟨L2, h2, _, h4, _⟩ => ?_)
    rw [hh] at h2
    cases h2
    exact hn now h4
  have f09 : Fr None w w9 := f08.newer f9 fun k e => by omega
  have B19 := B18.fr f9 (show ¬ w.heap.size = b by omega)
  have B69 := B68.fr f9 (show ¬ w3.heap.size = b by omega)
  refine condF rfl (aggI B69 (x := hd) rfl ?_)
  have W9 := (hW'.fr0 f8).fr f9 ltb
  have WE9 := (hE'.fr f8 fun _ _ h => h).fr f9 ltb
  have no : sealE hd was now ≠ 0 ∨ sealB hd was now ≠ l → ∀ hd' now', ¬ OpenR l was hd' now' := by
    rintro hne hd' now' ⟨L2, c1, c2, c3, c4, c5⟩
    rw [hh] at c1
    cases c1
    have := RestR.uniq c2 c3 hR
    subst this
    exact hne.elim (fun h => h c4) fun h => h c5
  refine spec_packet_Seal hok W9 WE9 S9 E9 (by omega) hnl hL hfit (fun hbad w10 f10 => ?_) fun hse r10 w10 o10 f10 => ?_
  · refine joinI (fun z v => z = true ∧ v = w10) (condT (by simpa using hbad) ⟨rfl, rfl⟩) ?_
    rintro z v ⟨rfl, rfl⟩
    exact condT rfl (bad (f09.then0 f10) (B19.fr f10 fun h => h) (no (.inl hbad)))
  have hbs : BytesOk (sealB hd was now) := sealF_ok (packM_ok _)
  refine joinI (fun z v => z = !decide (sealB hd was now = l) ∧ v = w10) (condF rfl ?_) ?_
  · exact spec_bytes_Equal o10.sl (hS.fr0 (f09.then0 f10)) hbs hb ⟨rfl, rfl⟩
  rintro z v ⟨rfl, rfl⟩
  refine condI (fun hz => ?_) fun hz => ?_
  · have hz : sealB hd was now ≠ l := by simpa using hz
    exact bad (f09.then0 f10) (B19.fr f10 fun h => h) (no (.inr hz))
  · have hz : sealB hd was now = l := by simpa using hz
    refine aggI (B69.fr f10 fun h => h) (x := hd) rfl (stoAll (B19.fr f10 fun h => h) rfl rfl fun w11 B11 f11 z11 => aggI B11 (x := hd) rfl ?_)
    have f1011 : Fr (fun k => k = w.heap.size) w9 w11 := f10.any.then f11
    exact hk he hd now ⟨L', hh, hf2, hR, hse, hz⟩ hok hfit hnl r9 raws9 w11 ((S9.fr f1011 fun k (e : w8.heap.size ≤ k) e2 => by omega).mono fun k _ (e : w8.heap.size ≤ k) => by show w.heap.size ≤ k; omega) ((E9.fr f1011 fun k (e : w8.heap.size ≤ k) e2 => by omega).mono fun k _ (e : w8.heap.size ≤ k) => by show w.heap.size ≤ k; omega) (f09.newer f1011 fun k e => by omega)
end Go.Proofs.YtchhhjlpnecjkaaGreat
namespace Go.Proofs.YtchhhjlpnecjkaaGreat
open Go Go.RowKit Go.Proofs.YtchhhjlpnecjkaaGreat.Den
theorem in_fwd {s : WS} {n lo hi : Int} (hs : s.2 = 0) (h1 : lo ≤ n) (h2 : n ≤ hi) (h3 : hi - lo ≤ 18446744073709551615) (hl : s.1.length + (inB n lo hi).length ≤ 1048576) : inM s n lo hi = (s.1 ++ inB n lo hi, 0) := by
  have hw := width_lt h1 h2 h3
  have h64 := width_le h3
  unfold inB at hl
  rw [bitsOf_len] at hl
  unfold inM doM putInM
  rw [if_neg (by omega), if_neg (by omega)]
  unfold putB keepM
  rw [if_neg (by omega), if_neg (by rw [Int.toNat_natCast, Nat.div_eq_of_lt hw]; simp), if_neg (by omega), if_pos hs]
  unfold inB
  rw [Int.toNat_natCast]
theorem varB_fwd {s : WS} {v : Nat} (hs : s.2 = 0) (hl : s.1.length + (varB v).length ≤ 1048576) : varM s v = (s.1 ++ varB v, 0) := var_fwd hs (by rw [varB_len] at hl; exact hl)
theorem head_kinds {h : Head} (he : headE h = 0) : (1 ≤ h.1 ∧ h.1 ≤ 5) ∧ h.2.1 ≤ 15 := by
  unfold headE at he
  split at he
  · cases he
  · omega
theorem head_fwd {s : WS} {h : Head} (hok : HeadOk h) (he : headE h = 0) (hs : s.2 = 0) (hl : s.1.length + (headB h).length ≤ 1048576) : headM s h = (s.1 ++ headB h, 0) := by
  obtain ⟨hk, hc⟩ := head_kinds he
  obtain ⟨_, ⟨c0, _⟩, _, ⟨t0, t1⟩, _⟩ := hok
  unfold headB at hl ⊢
  simp only [List.length_append] at hl
  unfold headM
  rw [in_fwd hs hk.1 hk.2 (by omega) (by omega)]
  rw [in_fwd rfl c0 hc (by omega) (by simp only [List.length_append]; omega)]
  rw [varB_fwd rfl (by simp only [List.length_append]; omega)]
  dsimp only
  by_cases k3 : h.1 ≤ 3
  · rw [if_pos k3] at hl ⊢
    rw [if_pos k3]
    rw [bitsOf_len] at hl
    rw [plain_fwd rfl (by omega) (by show h.2.2.2.1.toNat < 4294967296; omega) (by simp only [List.length_append]; omega)]
    by_cases k2 : h.1 = 2
    · rw [if_pos k2] at hl ⊢
      rw [if_pos k2, varB_fwd rfl (by simp only [List.length_append]; rw [bitsOf_len]; show _ + 32 + _ ≤ _; omega)]
      simp only [List.append_assoc]
      rfl
    · rw [if_neg k2, if_neg k2]
      simp only [List.append_assoc, List.append_nil]
      rfl
  · have k2 : ¬ h.1 = 2 := by omega
    rw [if_neg k3, if_neg k3, if_neg k2, if_neg k2]
    simp only [List.append_assoc, List.append_nil]
theorem putP_fwd {s : WS} {l : List Part} (hs : s.2 = 0) (hl : s.1.length + (partsB l).length ≤ 1048576) : doM s (putP s.1 l) = (s.1 ++ partsB l, 0) := by
  unfold doM putP keepM
  rw [if_neg (by omega), if_pos hs]
theorem fold_fwd {α : Type} {f : WS → α → WS} {enc : α → List Bool} {P : α → Prop} (hf : ∀ s a, P a → s.2 = 0 → s.1.length + (enc a).length ≤ 1048576 → f s a = (s.1 ++ enc a, 0)) : ∀ (l : List α) (s : WS), (∀ a ∈ l, P a) → s.2 = 0 → s.1.length + (l.flatMap enc).length ≤ 1048576 → l.foldl f s = (s.1 ++ l.flatMap enc, 0)
  | [], s, _, hs, _ => by rw [List.flatMap_nil, List.append_nil]; exact Prod.ext rfl hs
  | a :: r, s, hp, hs, hl => by
    rw [List.flatMap_cons, List.length_append] at hl
    rw [List.foldl_cons, hf s a (hp a List.mem_cons_self) hs (by omega), fold_fwd hf r _ (fun x hx => hp x (List.mem_cons_of_mem _ hx)) rfl (by simp only [List.length_append]; omega), List.flatMap_cons, List.append_assoc]
theorem fold_last_fwd {α : Type} {f : WS × Int → α → WS × Int} {enc : Int → α → List Bool} {id : α → Int} {P : α → Prop} (hf : ∀ p a, P a → p.1.2 = 0 → p.1.1.length + (enc p.2 a).length ≤ 1048576 → f p a = ((p.1.1 ++ enc p.2 a, 0), id a)) :
    ∀ (l : List α) (p : WS × Int), (∀ a ∈ l, P a) → p.1.2 = 0 → p.1.1.length + (encs enc id p.2 l).length ≤ 1048576 → (l.foldl f p).1 = (p.1.1 ++ encs enc id p.2 l, 0)
  | [], p, _, hs, _ => by rw [encs, List.append_nil]; exact Prod.ext rfl hs
  | a :: r, p, hp, hs, hl => by
    rw [encs, List.length_append] at hl
    rw [List.foldl_cons, hf p a (hp a List.mem_cons_self) hs (by omega), fold_last_fwd hf r _ (fun x hx => hp x (List.mem_cons_of_mem _ hx)) rfl (by simp only [List.length_append]; omega), encs, List.append_assoc]
theorem comps_fwd {s : WS} {l : List Comp} (hc : ∀ c ∈ l, checkM c = 0) (hs : s.2 = 0) (hl : s.1.length + (compsB l).length ≤ 1048576) : compsM s l = (s.1 ++ compsB l, 0) :=
  fold_fwd (enc := compB) (P := fun c => checkM c = 0) (fun s a ha hs hl => by unfold putC; rw [if_neg (by rw [ha]; simp)]; exact putP_fwd hs hl) l s hc hs hl
theorem sets_fwd {was : List Ent} {id : Int} {s : WS} {l : List Comp} (hc : ∀ c ∈ l, pairM (oldM was id c.1) c = 0) (hs : s.2 = 0) (hl : s.1.length + (setsB was id l).length ≤ 1048576) : setsM was id s l = (s.1 ++ setsB was id l, 0) := by
  have hf : ∀ (s : WS) (a : Comp), pairM (oldM was id a.1) a = 0 → s.2 = 0 → s.1.length + (stepB2 (oldM was id a.1) a).length ≤ 1048576 → doM s (putS s.1 (oldM was id a.1) a) = (s.1 ++ stepB2 (oldM was id a.1) a, 0) := by
    intro s a ha hs hl
    have e : putS s.1 (oldM was id a.1) a = putP s.1 (stepP (oldM was id a.1) a) := if_neg (by rw [ha]; simp)
    rw [e]
    exact putP_fwd hs hl
  generalize hg : (fun (s : WS) (a : Comp) => doM s (putS s.1 (oldM was id a.1) a)) = g at *
  generalize he : (fun c : Comp => stepB2 (oldM was id c.1) c) = enc at *
  have h1 : setsM was id s l = l.foldl g s := by rw [← hg]; rfl
  have h2 : setsB was id l = l.flatMap enc := by rw [← he]; rfl
  rw [h1, h2]
  rw [h2] at hl
  exact fold_fwd (f := g) (enc := enc) (P := fun c => pairM (oldM was id c.1) c = 0) (fun s a ha hs hl => by rw [← hg, ← he]; rw [← he] at hl; exact hf s a ha hs hl) l s hc hs hl
theorem ents_fwd {s : WS} {l : List Ent} (hc : ∀ e ∈ l, maskN e.2 < 32 ∧ ∀ c ∈ e.2, checkM c = 0) (hs : s.2 = 0) (hl : s.1.length + (entsB l).length ≤ 1048576) : entsW s l = (s.1 ++ entsB l, 0) := by
  unfold entsB at hl ⊢
  rw [List.length_append] at hl
  unfold entsW
  rw [varB_fwd hs (by omega), fold_last_fwd (enc := entB) (id := fun e : Ent => e.1) (P := fun e => maskN e.2 < 32 ∧ ∀ c ∈ e.2, checkM c = 0) ?_ l _ hc rfl (by simp only [List.length_append]; omega)]
  · dsimp only; rw [List.append_assoc]
  · intro p a ha hs hl
    unfold entB idBits at hl ⊢
    simp only [List.length_append, bitsOf_len] at hl
    unfold entM
    rw [varB_fwd hs (by omega), plain_fwd rfl (by omega) (by rw [Int.toNat_natCast]; exact ha.1) (by simp only [List.length_append]; omega)]
    have t5 : Int.toNat 5 = 5 := rfl
    rw [comps_fwd ha.2 rfl (by simp only [List.length_append, bitsOf_len, t5]; omega)]
    simp only [List.append_assoc, Int.toNat_natCast, t5]
theorem gone_fwd {s : WS} {l : List Int} (hs : s.2 = 0) (hl : s.1.length + (goneB l).length ≤ 1048576) : goneW s l = (s.1 ++ goneB l, 0) := by
  unfold goneB at hl ⊢
  rw [List.length_append] at hl
  unfold goneW
  rw [varB_fwd hs (by omega), fold_last_fwd (enc := idBits) (id := fun e : Int => e) (P := fun _ => True) ?_ l _ (fun _ _ => trivial) rfl (by simp only [List.length_append]; omega)]
  · dsimp only; rw [List.append_assoc]
  · intro p a _ hs hl
    unfold idBits at hl ⊢
    unfold idM
    rw [varB_fwd hs hl]
theorem chgs_fwd {was : List Ent} {s : WS} {l : List Chg} (hc : ∀ d ∈ l, ChgTold was d) (hs : s.2 = 0) (hl : s.1.length + (chgsB was l).length ≤ 1048576) : chgsW was s l = (s.1 ++ chgsB was l, 0) := by
  unfold chgsB at hl ⊢
  rw [List.length_append] at hl
  unfold chgsW
  rw [varB_fwd hs (by omega), fold_last_fwd (enc := chgB was) (id := fun d : Chg => d.1) (P := ChgTold was) ?_ l _ hc rfl (by simp only [List.length_append]; omega)]
  · dsimp only; rw [List.append_assoc]
  · intro p a ha hs hl
    obtain ⟨_, ⟨a1, a2⟩, a3, a4, a5, a6, i, e, _, _, a7⟩ := ha
    unfold chgB idBits at hl ⊢
    simp only [List.length_append, bitsOf_len] at hl
    have t5 : Int.toNat 5 = 5 := rfl
    unfold chgM1
    rw [varB_fwd hs (by omega), plain_fwd (v := a.2.1) rfl (by omega) (by show a.2.1.toNat < 32; omega) (by simp only [List.length_append]; omega)]
    rw [plain_fwd (v := (maskN a.2.2.1 : Int)) rfl (by omega) (by rw [Int.toNat_natCast]; exact a4) (by simp only [List.length_append, bitsOf_len, t5]; omega), plain_fwd (v := (maskN a.2.2.2 : Int)) rfl (by omega) (by rw [Int.toNat_natCast]; exact a5) (by simp only [List.length_append, bitsOf_len, t5]; omega)]
    rw [comps_fwd (fun c hc => (a3 c hc).1) rfl (by simp only [List.length_append, bitsOf_len, t5]; omega)]
    rw [sets_fwd (fun c hc => by obtain ⟨_, q, y, _, _, _, h1, h2⟩ := a7 c hc; rw [h2]; exact h1) rfl (by simp only [List.length_append, bitsOf_len, t5]; omega)]
    simp only [List.append_assoc, Int.toNat_natCast, t5]
theorem refBits_le {h : Head} {was now : List Ent} (hok : HeadOk h) (h1 : h.1 = 1 → formM 0 now = 0 → now.length ≤ 400) (h2 : h.1 = 2 → diffE was now = 0 → was.length ≤ 400 ∧ now.length ≤ 400) (hf : formE h was now = 0) (hs1 : h.1 = 1 → FormOk now) (hs2 : h.1 = 2 → FormOk was ∧ FormOk now) (hT : ∀ d ∈ chgsM was now, h.1 = 2 → ChgTold was d) : (refBits h was now).length ≤ 700000 := by
  have hb := headB_le hok
  unfold refBits
  rw [List.length_append]
  unfold formE at hf
  by_cases k1 : h.1 = 1
  · rw [if_pos k1] at hf ⊢
    have := h1 k1 hf
    have := entsB_le (l := now) (by omega) fun e he => (hs1 k1).six he
    omega
  · rw [if_neg k1] at hf ⊢
    by_cases k2 : h.1 = 2
    · rw [if_pos k2] at hf ⊢
      obtain ⟨n1, n2⟩ := h2 k2 hf
      obtain ⟨_, fn⟩ := hs2 k2
      have gl : (goneM was now).length ≤ was.length := by unfold goneM; rw [List.length_map]; exact List.length_filter_le _ _
      have cc := come_chg_le was now
      have g := goneB_le (l := goneM was now) (by omega)
      have c := entsB_le (l := comeM was now) (by omega) fun e he => fn.six (List.mem_filter.1 he).1
      have d := chgsB_le was (l := chgsM was now) (by omega) fun d hd => (hT d hd k2).six
      unfold deltaB
      simp only [List.length_append]
      omega
    · rw [if_neg k2]
      simp
      omega
theorem seal_ref {h : Head} {was now : List Ent} (hok : HeadOk h) (hL1 : ∀ e ∈ was, EntFit e) (hL2 : ∀ e ∈ now, EntFit e) (h1 : h.1 = 1 → formM 0 now = 0 → now.length ≤ 400) (h2 : h.1 = 2 → diffE was now = 0 → was.length ≤ 400 ∧ now.length ≤ 400) :
    sealE h was now = refE h was now ∧ (sealE h was now = 0 → sealB h was now = refB h was now) := by
  by_cases he : headE h = 0
  rotate_left
  · have e1 : sealE h was now = headE h := by unfold sealE; rw [if_pos he]
    have e2 : refE h was now = headE h := by unfold refE; rw [if_pos he]
    exact ⟨by rw [e1, e2], fun h => absurd (e1.symm.trans h) he⟩
  have hb := headB_le hok
  have hd : headM ([], 0) h = (headB h, 0) := by rw [head_fwd hok he rfl (by simp; omega)]; rfl
  by_cases hf : formE h was now = 0
  rotate_left
  · have e2 : refE h was now = formE h was now := by unfold refE; rw [if_neg (by rw [he]; simp), if_pos hf]
    have ew : (sealW h was now).2 = formE h was now := by
      unfold sealW
      rw [hd]
      unfold formE at hf ⊢
      dsimp only
      by_cases k1 : h.1 = 1
      · rw [if_pos k1] at hf ⊢
        rw [if_pos k1]
        have : keepM 0 (formM 0 now) = formM 0 now := rfl
        rw [this, if_neg hf]
      · rw [if_neg k1] at hf ⊢
        rw [if_neg k1]
        by_cases k2 : h.1 = 2
        · rw [if_pos k2] at hf ⊢
          rw [if_pos k2, if_neg hf]
          rfl
        · rw [if_neg k2] at hf ⊢
          rw [if_neg k2]
          split
          · rfl
          · rename_i hn
            exact absurd (if_neg hn) hf
    have e1 : sealE h was now = formE h was now := by unfold sealE; rw [if_neg (by rw [he]; simp), if_pos (by rw [ew]; exact hf), ew]
    exact ⟨by rw [e1, e2], fun h => absurd (e1.symm.trans h) hf⟩
  have hs1 : h.1 = 1 → FormOk now := fun k => formOk.1 (by unfold formE at hf; rw [if_pos k] at hf; exact hf)
  have hs2 : h.1 = 2 → FormOk was ∧ FormOk now := fun k => by
    have : diffE was now = 0 := by unfold formE at hf; rw [if_neg (by omega), if_pos k] at hf; exact hf
    refine ⟨formOk.1 ?_, diffE_form this⟩
    unfold diffE at this
    split at this
    · exact absurd this (by assumption)
    · rename_i hn
      exact Classical.byContradiction hn
  have hT : ∀ d ∈ chgsM was now, h.1 = 2 → ChgTold was d := fun d hd k => chgs_told (hs2 k).1 (hs2 k).2 hL1 hL2 d hd
  have hle := refBits_le hok h1 h2 hf hs1 hs2 hT
  have hW : sealW h was now = (refBits h was now, 0) := by
    unfold refBits at hle ⊢
    rw [List.length_append] at hle
    unfold sealW
    rw [hd]
    unfold formE at hf
    dsimp only
    by_cases k1 : h.1 = 1
    · rw [if_pos k1] at hf hle ⊢
      rw [if_pos k1, hf]
      have : keepM 0 0 = 0 := rfl
      rw [this, if_pos rfl]
      exact ents_fwd (fun e he => ⟨(hs1 k1).mask he fun _ hc => hc, (listE_0.1 ((hs1 k1).list he)).1⟩) rfl (by dsimp only; omega)
    · rw [if_neg k1] at hf hle ⊢
      rw [if_neg k1]
      by_cases k2 : h.1 = 2
      · rw [if_pos k2] at hf hle ⊢
        rw [if_pos k2, if_pos hf, hf]
        have : keepM 0 0 = 0 := rfl
        rw [this]
        unfold deltaB at hle ⊢
        simp only [List.length_append] at hle
        unfold deltaW
        obtain ⟨_, fn⟩ := hs2 k2
        rw [gone_fwd rfl (by dsimp only; omega)]
        rw [ents_fwd (fun e he => by have hm := (List.mem_filter.1 he).1; exact ⟨fn.mask hm fun _ hc => hc, (listE_0.1 (fn.list hm)).1⟩) rfl (by simp only [List.length_append]; omega)]
        rw [chgs_fwd (fun d hd => hT d hd k2) rfl (by simp only [List.length_append]; omega)]
        simp only [List.append_assoc]
      · rw [if_neg k2] at hf hle ⊢
        rw [if_neg k2, if_neg (by intro hn; rw [if_pos hn] at hf; cases hf), List.append_nil]
  refine ⟨?_, fun _ => by unfold sealB refB; rw [hW]⟩
  have e1 : sealE h was now = if 4096 < (packM (refBits h was now)).length then 3 else 0 := by unfold sealE; rw [if_neg (by rw [he]; simp), hW, if_neg (by simp)]
  have e2 : refE h was now = if 4096 < (packM (refBits h was now)).length then 3 else 0 := by unfold refE; rw [if_neg (by rw [he]; simp), if_neg (by rw [hf]; simp)]
  rw [e1, e2]
theorem open_seal {h : Head} {was now : List Ent} (hok : HeadOk h) (hm1 : was.length ≤ 1048576) (hm2 : now.length ≤ 1048576) (hL1 : ∀ e ∈ was, EntFit e) (hL2 : ∀ e ∈ now, EntFit e) (he : sealE h was now = 0) : frameErr (sealB h was now) = 0 ∧ OpenR (sealB h was now) was h now := by
  obtain ⟨so, hput⟩ := seal_put hok hm1 hm2 hL1 hL2 he
  have hlen : (packM (sealW h was now).1).length ≤ 4096 := by
    unfold sealE at he
    split at he
    · exact absurd he (by assumption)
    · split at he
      · exact absurd he (by assumption)
      · split at he
        · cases he
        · omega
  have ht : (sealB h was now).take ((sealB h was now).length - 4) = packM (sealW h was now).1 := by
    unfold sealB
    rw [sealF_len, Nat.add_sub_cancel]
    unfold sealF
    exact List.take_left' rfl
  have hl : (sealB h was now).length = (packM (sealW h was now).1).length + 4 := by unfold sealB; exact sealF_len _
  refine ⟨frameErr_of (by omega) (by omega) (by rw [ht]; rfl), ?_⟩
  unfold OpenR
  rw [ht, bits_pack]
  have hb := hput (List.replicate (8 * (((sealW h was now).1.length + 7) / 8) - (sealW h was now).1.length) false)
  unfold bodyD at hb
  cases h1 : headD ((sealW h was now).1 ++ List.replicate (8 * (((sealW h was now).1.length + 7) / 8) - (sealW h was now).1.length) false) with
  | none => rw [h1] at hb; cases hb
  | some p =>
    obtain ⟨h', L1⟩ := p
    rw [h1] at hb
    dsimp only at hb
    cases h2 : resD h'.1 was L1 with
    | none => rw [h2] at hb; cases hb
    | some q =>
      obtain ⟨r, L2⟩ := q
      rw [h2] at hb
      cases hb
      refine ⟨L1, rfl, fun k => (so.two k).1, ?_, he, rfl⟩
      unfold resD at h2
      unfold resM at h2
      by_cases k1 : h.1 = 1
      · rw [if_pos k1] at h2
        rw [if_pos k1] at h2
        cases h3 : entsD L1 with
        | none => rw [h3] at h2; cases h2
        | some p =>
          obtain ⟨l, M⟩ := p
          rw [h3] at h2
          cases h2
          exact .inl ⟨k1, L2, h3⟩
      · rw [if_neg k1] at h2
        rw [if_neg k1] at h2
        by_cases k2 : h.1 = 2
        · rw [if_pos k2] at h2
          rw [if_pos k2] at h2
          cases h3 : deltaD was L1 with
          | none => rw [h3] at h2; cases h2
          | some p =>
            obtain ⟨d, M⟩ := p
            rw [h3] at h2
            cases h2
            exact .inr (.inl ⟨k2, _, L2, h3, (so.two k2).2, rfl, rfl, rfl⟩)
        · exact .inr (.inr ⟨k1, k2, so.rest k1 k2⟩)
end Go.Proofs.YtchhhjlpnecjkaaGreat
namespace Go.Proofs.YtchhhjlpnecjkaaGreat
open Go Go.RowKit Go.ChangeShapes Go.WideShapes Go.ChangeAt Go.Proofs.YtchhhjlpnecjkaaGreat.Den
variable {R : Type} {Q : R → World → Prop} {w : World} {H : Type} {enc : TypeId × Value → H}
abbrev Old (W : World) : Nat → Prop := fun k => k < W.heap.size
end Go.Proofs.YtchhhjlpnecjkaaGreat
namespace Go.Proofs.YtchhhjlpnecjkaaGreat
open Go Go.RowKit Go.ChangeShapes Go.WideShapes Go.ChangeAt Go.Proofs.YtchhhjlpnecjkaaGreat.Den
variable {R : Type} {Q : R → World → Prop} {w : World} {H : Type} {enc : TypeId × Value → H}
theorem u32_und : Tryz.prog.underlying 28 = some (.int .u32) := by kernel_rfl
structure EntIn (W : World) (r : Int × Sl) (e : Ent) : Prop where
  id : r.1 = e.1
  sl : SlT (Old W) W compT r.2 e.2
  ok : IdOk e.1
  comps : ∀ c ∈ e.2, CompOk c
  cap : r.2.c ≤ maxLen
theorem EntIn.ents {raws : List (Int × Sl)} {L : List Ent} (h : All2 (EntIn w) raws L) : EntsR (Old w) w raws L := ⟨h.len, fun i r e h1 h2 => ⟨(h.at_ i r e h1 h2).id, (h.at_ i r e h1 h2).sl⟩⟩
end Go.Proofs.YtchhhjlpnecjkaaGreat
namespace Go.Proofs.YtchhhjlpnecjkaaGreat
open Go Go.RowKit Go.ChangeShapes Go.WideShapes Go.ChangeAt Go.Deep Go.Proofs.YtchhhjlpnecjkaaGreat.Den
variable {w : World} {H : Type} {enc : TypeId × Value → H}
end Go.Proofs.YtchhhjlpnecjkaaGreat
set_option linter.unusedVariables false
namespace Go.Proofs.YtchhhjlpnecjkaaGreat
open Go Go.Proofs.YtchhhjlpnecjkaaGreat.Den
def F_pinnacelaw20_PacketHeads (h0 : (Int × Int × Int × Int × Int)) : W (Bool) :=
  newW 30 [.int .u8 h0.1, .int .u8 h0.2.1, .int .u32 h0.2.2.1, .int .u32 h0.2.2.2.1, .int .u32 h0.2.2.2.2] fun h_1 =>
  callW Tryz.prog k_pinnacelaw20_awake [] [.sc .bool] fun (x_2 : Bool) =>
  cond (!x_2)
    (retW false)
    (ld (.agg [.int .u8, .int .u8, .int .u32, .int .u32, .int .u32]) h_1 fun (x_3 : (Int × Int × Int × Int × Int)) =>
  callW Tryz.prog k_packet_Seal [.agg ⟨[.int .u8 x_3.1, .int .u8 x_3.2.1, .int .u32 x_3.2.2.1, .int .u32 x_3.2.2.2.1, .int .u32 x_3.2.2.2.2]⟩, .slice none 0 0, .slice none 0 0] [.sc .sl, .sc (.int .i64)] fun (x_4 : Sl × Int) =>
  cond (x_4.2 != 0)
    (ld (.agg [.int .u8, .int .u8, .int .u32, .int .u32, .int .u32]) h_1 fun (x_5 : (Int × Int × Int × Int × Int)) =>
    callW Tryz.prog k_pinnaceref20_Check [.agg ⟨[.int .u8 x_5.1, .int .u8 x_5.2.1, .int .u32 x_5.2.2.1, .int .u32 x_5.2.2.2.1, .int .u32 x_5.2.2.2.2]⟩] [.sc (.int .i64)] fun (x_6 : Int) =>
    retW (x_4.2 == x_6))
    (callW Tryz.prog k_packet_Open [.slice x_4.1.a x_4.1.n x_4.1.c, .slice none 0 0] [.agg [.int .u8, .int .u8, .int .u32, .int .u32, .int .u32], .sc .sl, .sc (.int .i64)] fun (x_7 : (Int × Int × Int × Int × Int) × Sl × Int) =>
  newW 30 [.int .u8 0, .int .u8 0, .int .u32 0, .int .u32 0, .int .u32 0] fun x_8 =>
  stoL x_8 [.int .u8 x_7.1.1, .int .u8 x_7.1.2.1, .int .u32 x_7.1.2.2.1, .int .u32 x_7.1.2.2.2.1, .int .u32 x_7.1.2.2.2.2] 0 <|
  joinW (σ := Bool) (fun J_9 =>
    cond (decide ((x_4.1.n : Int) ≤ 22))
      (ld (.agg [.int .u8, .int .u8, .int .u32, .int .u32, .int .u32]) x_8 fun (x_10 : (Int × Int × Int × Int × Int)) =>
      ld (.agg [.int .u8, .int .u8, .int .u32, .int .u32, .int .u32]) h_1 fun (x_11 : (Int × Int × Int × Int × Int)) =>
        rawQ Tryz.prog (do Go.eqGuard .eql 30 (.tmp 31) (.tmp 32) (.agg ⟨[.int .u8 x_10.1, .int .u8 x_10.2.1, .int .u32 x_10.2.2.1, .int .u32 x_10.2.2.2.1, .int .u32 x_10.2.2.2.2]⟩) (.agg ⟨[.int .u8 x_11.1, .int .u8 x_11.2.1, .int .u32 x_11.2.2.1, .int .u32 x_11.2.2.2.1, .int .u32 x_11.2.2.2.2]⟩); Go.binOp .eql 30 (.agg ⟨[.int .u8 x_10.1, .int .u8 x_10.2.1, .int .u32 x_10.2.2.1, .int .u32 x_10.2.2.2.1, .int .u32 x_10.2.2.2.2]⟩) (.agg ⟨[.int .u8 x_11.1, .int .u8 x_11.2.1, .int .u32 x_11.2.2.1, .int .u32 x_11.2.2.2.1, .int .u32 x_11.2.2.2.2]⟩)) [.sc .bool] fun (x_12 : Bool) =>
          cond x_12
            (cond ((x_7.2.1.n : Int) == 0)
                  (J_9 (x_7.2.2 == 0))
                  (J_9 false))
            (J_9 false))
      (J_9 false))
  <| fun s_13 =>
  retW s_13))
def H_pinnacelaw20_PacketHeads : Hints := { reg := [(7, [(2, .sc .bool)])] }
theorem E_pinnacelaw20_PacketHeads (h0 : (Int × Int × Int × Int × Int)) : denF Tryz.prog H_pinnacelaw20_PacketHeads Tryz.f4 [.sc .bool] [.agg ⟨[.int .u8 h0.1, .int .u8 h0.2.1, .int .u32 h0.2.2.1, .int .u32 h0.2.2.2.1, .int .u32 h0.2.2.2.2]⟩] = F_pinnacelaw20_PacketHeads h0 := by kernel_rfl
theorem C_pinnacelaw20_PacketHeads {R : Type} (h0 : (Int × Int × Int × Int × Int)) (K : Res [.sc .bool] → W R) (Q : R → World → Prop) (w : World) (h : F_pinnacelaw20_PacketHeads h0 (fun r w => K r Q w) w) : callW Tryz.prog k_pinnacelaw20_PacketHeads [.agg ⟨[.int .u8 h0.1, .int .u8 h0.2.1, .int .u32 h0.2.2.1, .int .u32 h0.2.2.2.1, .int .u32 h0.2.2.2.2]⟩] [.sc .bool] K Q w :=
  den_calls mix Tryz.func4 H_pinnacelaw20_PacketHeads (ts := [.sc .bool]) trivial (by rw [Tryz.ntmps4]; simp) (by rw [E_pinnacelaw20_PacketHeads]; exact h)
def F_pinnacelaw20_awake  : W (Bool) :=
  callW Tryz.prog k_packet_Seal [.agg ⟨[.int .u8 3, .int .u8 2, .int .u32 1, .int .u32 5, .int .u32 0]⟩, .slice none 0 0, .slice none 0 0] [.sc .sl, .sc (.int .i64)] fun (x_1 : Sl × Int) =>
  callW Tryz.prog k_pinnaceref03_Open [.slice x_1.1.a x_1.1.n x_1.1.c] [.sc .sl, .sc (.int .i64)] fun (x_2 : Sl × Int) =>
  joinW (σ := Bool) (fun J_3 =>
    cond (x_1.2 == 0)
      (cond (x_2.2 == 0)
          (newW 5 [.int .u8 146, .int .u8 80, .int .u8 0, .int .u8 0, .int .u8 0, .int .u8 0] fun x_4 =>
            callW Tryz.prog k_pinnaceref01_Same [.slice x_2.1.a x_2.1.n x_2.1.c, .slice (some x_4) 6 6] [.sc .bool] fun (x_5 : Bool) =>
              J_3 x_5)
          (J_3 false))
      (J_3 false))
  <| fun s_6 =>
  retW s_6
def H_pinnacelaw20_awake : Hints := { reg := [(3, [(0, .sc .bool)])] }
theorem E_pinnacelaw20_awake  : denF Tryz.prog H_pinnacelaw20_awake Tryz.f8 [.sc .bool] [] = F_pinnacelaw20_awake := by kernel_rfl
theorem C_pinnacelaw20_awake {R : Type}  (K : Res [.sc .bool] → W R) (Q : R → World → Prop) (w : World) (h : F_pinnacelaw20_awake (fun r w => K r Q w) w) : callW Tryz.prog k_pinnacelaw20_awake [] [.sc .bool] K Q w :=
  den_calls mix Tryz.func8 H_pinnacelaw20_awake (ts := [.sc .bool]) trivial (by rw [Tryz.ntmps8]; simp) (by rw [E_pinnacelaw20_awake]; exact h)
end Go.Proofs.YtchhhjlpnecjkaaGreat
namespace Go.Proofs.YtchhhjlpnecjkaaGreat
open Go Go.RowKit
theorem band {a b : Bool} (h1 : a = true) (h2 : b = true) : (a && b) = true := by rw [h1, h2]; rfl
theorem maps_rowed : mapsRowed Tryz.prog = true := by kernel_rfl
theorem may_enter : Tryz.prog.mayEnter = true := by kernel_rfl
end Go.Proofs.YtchhhjlpnecjkaaGreat
namespace Go.Proofs.YtchhhjlpnecjkaaGreat
open Go Go.RowKit Go.ChangeShapes Go.WideShapes Go.ChangeAt Go.Proofs.YtchhhjlpnecjkaaGreat.Den
variable {R : Type} {Q : R → World → Prop} {w : World}
abbrev awH : Head := (3, 2, 1, 5, 0)
theorem aw_err : sealE awH [] [] = 0 := by decide +kernel
theorem aw_body : packM (sealW awH [] []).1 = [146, 80, 0, 0, 0, 0] := by decide +kernel
theorem spec_l20_awake {K : Res [.sc .bool] → W R} (hk : ∀ w', Fr None w w' → K true Q w') : callW Tryz.prog k_pinnacelaw20_awake [] [.sc .bool] K Q w := by
  refine C_pinnacelaw20_awake K Q w ?_
  unfold F_pinnacelaw20_awake
  refine spec_packet_Seal (ok1 := None) (ok2 := None) (h := awH) (by unfold HeadOk; decide) (s1 := ⟨none, 0, 0⟩) (s2 := ⟨none, 0, 0⟩) (SlT.nil _) (EntsR.nil _ _) (SlT.nil _) (EntsR.nil _ _) (by decide) (by decide) (fun e h => by cases h) (fun e h => by cases h) (fun h => absurd aw_err h) fun _ r w1 o1 f1 => ?_
  unfold sealB at o1
  rw [aw_body] at o1
  have ok : BytesOk [146, 80, 0, 0, 0, 0] := by decide
  have hl : (sealF [146, 80, 0, 0, 0, 0]).length = 10 := by rw [sealF_len]; rfl
  have ht : (sealF [146, 80, 0, 0, 0, 0]).take ((sealF [146, 80, 0, 0, 0, 0]).length - 4) = [146, 80, 0, 0, 0, 0] := by
    rw [hl]
    exact List.take_left (l₁ := [146, 80, 0, 0, 0, 0])
  refine spec_r3_Open o1.sl (sealF_ok ok) (by omega) (fun w' _ => ⟨fun h => by omega, fun h => by omega, fun _ _ h => absurd (by rw [ht]) h⟩) fun _ _ _ r2 w2 o2 f2 => ?_
  rw [ht] at o2
  refine joinI (fun z v => z = true ∧ Fr None w v) ?_ fun z v ⟨hz, f⟩ => by subst hz; exact hk v f
  refine condT rfl (condT rfl ?_)
  refine newI fun w3 B3 f3 t3 => ?_
  have hS3 := blkSl (t := u8T) (l := [146, 80, 0, 0, 0, 0]) (n := 6) B3 rfl rfl
  refine spec_r1_Same (o2.none f3).sl hS3 ok ok ?_
  exact ⟨by decide, (f1.then0 f2).then0 f3⟩
end Go.Proofs.YtchhhjlpnecjkaaGreat
namespace Go.Proofs.YtchhhjlpnecjkaaGreat
open Go Go.RowKit Go.ChangeShapes Go.WideShapes Go.ChangeAt Go.Proofs.YtchhhjlpnecjkaaGreat.Den
variable {R : Type} {Q : R → World → Prop} {w : World} {H : Type} {enc : TypeId × Value → H}
theorem head_eq {x y : Head} : (x.1 == y.1 && (x.2.1 == y.2.1 && (x.2.2.1 == y.2.2.1 && (x.2.2.2.1 == y.2.2.2.1 && (x.2.2.2.2 == y.2.2.2.2 && true))))) = decide (x = y) := by
  rw [Bool.eq_iff_iff]
  simp [Prod.ext_iff]
abbrev headC (x : Head) : List Value := [.int .u8 x.1, .int .u8 x.2.1, .int .u32 x.2.2.1, .int .u32 x.2.2.2.1, .int .u32 x.2.2.2.2]
theorem eqV_head (x y : Head) : eqV Tryz.prog 9 30 (.agg ⟨headC x⟩) (.agg ⟨headC y⟩) = some (decide (x = y)) := by
  rw [← head_eq]
  kernel_rfl
theorem eqG_head : Tryz.prog.eqGuardType Tryz.prog.depth 30 = false := by kernel_rfl
theorem head_arg : AggArg Tryz.prog 30 [.int .u8, .int .u8, .int .u32, .int .u32, .int .u32] [5, 5, 28, 28, 28] := ⟨by kernel_rfl, by kernel_rfl, by kernel_rfl⟩
theorem head_in {x : Head} (h : AllLeaf enc Tryz.prog w [5, 5, 28, 28, 28] (headC x)) : HeadOk x := by
  obtain ⟨_, h⟩ := h
  obtain ⟨_, e, h0⟩ := (h 0 _ _ rfl rfl).int u8_und
  cases e
  obtain ⟨_, e, h1⟩ := (h 1 _ _ rfl rfl).int u8_und
  cases e
  obtain ⟨_, e, h2⟩ := (h 2 _ _ rfl rfl).int u32_und
  cases e
  obtain ⟨_, e, h3⟩ := (h 3 _ _ rfl rfl).int u32_und
  cases e
  obtain ⟨_, e, h4⟩ := (h 4 _ _ rfl rfl).int u32_und
  cases e
  exact ⟨wf_u8 h0, wf_u8 h1, wf_u32 h2, wf_u32 h3, wf_u32 h4⟩
theorem EntIn.fit {W : World} {raws : List (Int × Sl)} {L : List Ent} (h : All2 (EntIn W) raws L) (hb : (raws.map fun r => r.2.n + 1).sum ≤ 1048576) : L.length ≤ 1048576 ∧ ∀ e ∈ L, EntFit e := by
  have h1 : ∀ (l : List (Int × Sl)), l.length ≤ (l.map fun r => r.2.n + 1).sum := by
    intro l
    induction l with
    | nil => simp
    | cons a r ih => simp only [List.length_cons, List.map_cons, List.sum_cons]; omega
  have h2 : ∀ (l : List (Int × Sl)) r, r ∈ l → r.2.n ≤ (l.map fun r => r.2.n + 1).sum := by
    intro l
    induction l with
    | nil => intro r h; cases h
    | cons a q ih =>
      intro r hr
      simp only [List.map_cons, List.sum_cons]
      rcases List.mem_cons.1 hr with rfl | hr
      · omega
      · have := ih r hr; omega
  refine ⟨by have := h1 raws; have := h.len; omega, fun e he => ?_⟩
  obtain ⟨i, hi⟩ := List.mem_iff_getElem?.1 he
  obtain ⟨r, hr, hin⟩ := h.get hi
  have := h2 raws r (List.mem_of_getElem? hr)
  have := hin.sl.len
  exact ⟨hin.ok, by omega, hin.comps⟩
end Go.Proofs.YtchhhjlpnecjkaaGreat
namespace Go.Proofs.YtchhhjlpnecjkaaGreat
open Go Go.RowKit Go.ChangeShapes Go.WideShapes Go.ChangeAt Go.Proofs.YtchhhjlpnecjkaaGreat.Den
variable {R : Type} {Q : R → World → Prop} {w : World} {H : Type} {enc : TypeId × Value → H}
theorem bitAux_le : ∀ f x : Nat, Lib.bitLenAux f x ≤ f
  | 0, x => by rw [Lib.bitLenAux]; omega
  | f + 1, x => by
    rw [Lib.bitLenAux]
    have := bitAux_le f (x / 2)
    split <;> omega
theorem varB_40 {v : Nat} (h : v < 4294967296) : (varB v).length ≤ 40 := by
  have e : Lib.bitLen v = Lib.bitLenAux 32 v := Lib.bitLenAux_fuel 32 v h 64 (by decide)
  have := bitAux_le 32 v
  rw [varB_len]
  unfold groupsM
  omega
theorem head_short {h : Head} (hok : HeadOk h) (he : headE h = 0) : sealE h [] [] = 0 ∧ (sealB h [] []).length ≤ 22 := by
  obtain ⟨s1, s2⟩ := seal_ref (was := []) (now := []) hok (fun e h => by cases h) (fun e h => by cases h) (fun _ _ => by simp) fun _ _ => by simp
  have hf : formE h [] [] = 0 := by
    unfold formE
    split
    · rfl
    · split
      · rfl
      · rfl
  have hle : (refBits h [] []).length ≤ 134 := by
    obtain ⟨⟨k0, k1⟩, ⟨c0, c1⟩, ⟨e0, e1⟩, ⟨t0, t1⟩, ⟨b0, b1⟩⟩ := hok
    have w1 : (inB h.1 1 5).length = 3 := by unfold inB; rw [bitsOf_len]; decide +kernel
    have w2 : (inB h.2.1 0 15).length = 4 := by unfold inB; rw [bitsOf_len]; decide +kernel
    have l3 := varB_40 (v := h.2.2.1.toNat) (by omega)
    have l4 := varB_40 (v := idD h.2.2.2.2 h.2.2.2.1) (by unfold idD; omega)
    have v0 : (varB 0).length = 5 := by rw [varB_len]; decide +kernel
    have en : (entsB []).length = 5 := by unfold entsB; rw [List.length_append]; show (varB 0).length + 0 = 5; omega
    have eg : (goneB []).length = 5 := by unfold goneB; rw [List.length_append]; show (varB 0).length + 0 = 5; omega
    have ec : (chgsB [] []).length = 5 := by unfold chgsB; rw [List.length_append]; show (varB 0).length + 0 = 5; omega
    have ed : (deltaB [] (goneM [] []) (comeM [] []) (chgsM [] [])).length = 15 := by
      show (deltaB [] [] [] []).length = 15
      unfold deltaB
      simp only [List.length_append]
      omega
    unfold refBits headB
    simp only [List.length_append]
    have lt32 : (if h.1 ≤ 3 then bitsOf h.2.2.2.1.toNat 32 else []).length ≤ 32 := by split <;> simp [bitsOf_len]
    have lt33 : (if h.1 = 2 then varB (idD h.2.2.2.2 h.2.2.2.1) else []).length ≤ 40 := by
      split
      · exact l4
      · simp
    have lt34 : (if h.1 = 1 then entsB [] else if h.1 = 2 then deltaB [] (goneM [] []) (comeM [] []) (chgsM [] []) else []).length ≤ 15 := by
      split
      · omega
      · split
        · omega
        · simp
    omega
  have hr : refE h [] [] = 0 := by
    unfold refE
    rw [if_neg (by rw [he]; simp), if_neg (by rw [hf]; simp), if_neg (by rw [packM_len]; omega)]
  rw [hr] at s1
  refine ⟨s1, ?_⟩
  rw [s2 s1]
  unfold refB
  rw [sealF_len, packM_len]
  omega
theorem law_PacketHeads {W : World} {h : Head} (hok : HeadOk h) : Calls Tryz.prog 4 #[.agg ⟨headC h⟩] W (fun e w' => e = .returned (.bool true) ∧ Fr None W w') := by
  refine calls_of (C_pinnacelaw20_PacketHeads h _ _ W ?_)
  unfold F_pinnacelaw20_PacketHeads
  refine newI fun w1 B1 f1 z1 => spec_l20_awake fun w2 f2 => condF rfl ?_
  have f02 := f1.then0 f2
  have B2 := B1.fr f2 fun h => h
  refine aggI B2 (x := h) rfl ?_
  refine spec_packet_Seal (ok1 := None) (ok2 := None) hok (s1 := ⟨none, 0, 0⟩) (s2 := ⟨none, 0, 0⟩) (was := []) (now := []) (SlT.nil _) (EntsR.nil _ _) (SlT.nil _) (EntsR.nil _ _) (by simp) (by simp) (fun e h => by cases h) (fun e h => by cases h) (fun hbad w3 f3 => ?_) fun hgood r w3 o3 f3 => ?_
  · refine condT (by simpa using hbad) (aggI (B2.fr f3 fun h => h) (x := h) rfl (spec_r20_Check hok fun w4 f4 => ?_))
    have he : sealE h [] [] = headE h := by
      unfold sealE
      rw [if_pos fun e => hbad (head_short hok e).1]
    rw [he]
    exact ⟨by simp, (f02.then0 f3).then0 f4⟩
  refine condF rfl ?_
  have f03 := f02.then0 f3
  have he : headE h = 0 := Classical.byContradiction fun hn => hn (by unfold sealE at hgood; rw [if_pos hn] at hgood; exact hgood)
  obtain ⟨_, hlen⟩ := head_short hok he
  obtain ⟨g1, g2⟩ := open_seal (was := []) (now := []) hok (by simp) (by simp) (fun e h => by cases h) (fun e h => by cases h) hgood
  have hbs : BytesOk (sealB h [] []) := sealF_ok (packM_ok _)
  have hrn := o3.len
  refine spec_packet_Open (okw := None) (sw := ⟨none, 0, 0⟩) (was := []) o3.sl hbs (by omega) (SlT.nil _) (EntsR.nil _ _) (fun e h => by cases h) (by simp) (fun hn => absurd g1 hn) (fun _ hn => absurd g2 (hn h [])) fun _ hd now hR _ _ _ r4 raws4 w4 S4 E4 f4 => ?_
  obtain ⟨e1, rfl⟩ := g2.uniq hR
  have e1 := e1.symm
  subst e1
  have z4 : r4.n = 0 := S4.len.trans E4.len
  refine newI fun w5 B5 f5 z5 => stoAll B5 rfl rfl fun w6 B6 f6 z6 => ?_
  have f46 : Fr None w4 w6 := f5.newer f6 fun k e => by omega
  have f06 := (f03.then0 f4).then0 f46
  refine joinI (fun z v => z = true ∧ v = w6) ?_ fun z v ⟨hz, hv⟩ => by subst hz; subst hv; exact ⟨rfl, f06⟩
  refine condT (decide_eq_true (by show (r.n : Int) ≤ 22; omega)) (aggI B6 (x := h) rfl (aggI (((B2.fr f3 fun h => h).fr f4 fun h => h).fr f46 fun h => h) (x := h) rfl ?_))
  refine eqlI eqG_head (eqV_head h h) (condT (by simp) (condT (by rw [z4]; rfl) ⟨rfl, rfl⟩))
set_option maxRecDepth 100000 in
theorem packetHeads_lifted (os : Os) (started : os.Started) (H : Type) (enc : TypeId × Value → H) :
    ReturnsInHanded {} Tryz.checked os 4 .any (Rows.packetHeadsSpec.pre6 enc Tryz.prog Tryz.f4 Rows.packetHeadsRow.domain false) (Rows.packetHeadsSpec.post enc Tryz.prog Tryz.f4 false true false false) := by
  refine returnsInHanded_of_change (C := Tryz.checked) own_knob started (by kernel_rfl) Tryz.func4
    (ChangeSpec.witness6 (enc := enc) (C := Tryz.checked) false ⟨#[], #[.agg #[.int .u8 0, .int .u8 0, .int .u32 0, .int .u32 0, .int .u32 0]], []⟩ 8 (by kernel_rfl) (by kernel_rfl) (by kernel_rfl) (by kernel_rfl)) ?_
  intro W base args ds gs before hval0 hW hcnd _
  have hval : ∀ (j : Nat) t v, Tryz.f4.params[j]? = some t → args[j]? = some v → Value.okWide Tryz.prog W .any base t v := hval0
  have hW' := hW
  obtain ⟨p, q, hA0, hV, rfl, hfz, hnd⟩ := hW
  have hA : DataW.TrodAll enc Tryz.prog W 0 (fun _ => true) true Tryz.f4.params.toList args.toList ds p := hA0
  rw [Tryz.params4] at hA hval
  obtain ⟨v0, d0, rfl, rfl, h0⟩ := trodAll_one hA
  obtain ⟨x0, rfl, e0⟩ := arg_agg head_arg (hval 0 _ v0 rfl rfl) h0
  refine (law_PacketHeads (head_in e0)).mono fun e W' ⟨he, hf⟩ => ?_
  subst he
  exact ⟨_, rfl, law_post laid_out bool_und (by kernel_rfl) (by rw [Tryz.params4]; decide +kernel) rfl ⟨rfl, rfl, rfl⟩ hW' hf⟩
set_option maxHeartbeats 4000000 in
theorem packetHeads_holds : Rows.PacketHeadsSaid :=
  OpenClaim.holds_of_wide 4 Tryz.f4 rfl rfl rfl rfl rfl rfl rfl ⟨rfl, rfl, rfl, rfl, rfl⟩ rfl rfl rfl rfl rfl (by kernel_rfl) Tryz.func4
    (by unfold joinedFacts; repeat' (with_reducible refine band ?_ ?_)
        all_goals first | with_reducible exact laid_out | with_reducible exact maps_rowed | with_reducible exact may_enter | (as_aux_lemma => kernel_rfl))
    (of_decide_eq_true (by kernel_rfl)) (by unfold Func.isWrapper; first | (rw [if_pos (by decide +kernel)]; kernel_rfl) | (rw [if_neg (by decide +kernel)]; exact ⟨rfl, rfl⟩))
    (fun os started H enc _ => packetHeads_lifted os started H enc)
end Go.Proofs.YtchhhjlpnecjkaaGreat
