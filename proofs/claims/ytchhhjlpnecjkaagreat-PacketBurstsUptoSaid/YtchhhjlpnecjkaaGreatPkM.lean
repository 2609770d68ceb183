/-
  packet: what a writer has written (plainly).
-/
import Derived.Test.YtchhhjlpnecjkaaGreatSea
import Derived.Lib.ItoaNum
namespace Go.Proofs.YtchhhjlpnecjkaaGreat
open Go Go.RowKit Go.Proofs.YtchhhjlpnecjkaaGreat.Den

/-! ### steps that go well -/
theorem doM_ok {s : WS} {p : Int × List Bool} (h : (doM s p).2 = 0) : s.2 = 0 ∧ p.1 = 0 := by
  unfold doM keepM at h
  dsimp only at h
  split at h
  · exact ⟨by assumption, h⟩
  · exact absurd h (by assumption)
theorem plain_fwd {s : WS} {v n : Int} (hs : s.2 = 0) (hn : 0 ≤ n ∧ n ≤ 64) (hv : v.toNat < 2 ^ n.toNat) (hl : (s.1.length : Int) + n ≤ 1048576) : plainM s v n = (s.1 ++ bitsOf v.toNat n.toNat, 0) := by
  unfold plainM doM putB keepM
  rw [if_neg (by omega), if_neg (by rw [Nat.div_eq_of_lt hv]; simp), if_neg (by omega), if_pos hs]
theorem var_fwd {s : WS} {v : Nat} (hs : s.2 = 0) (hl : s.1.length + 5 * groupsM v ≤ 1048576) : varM s v = (s.1 ++ varB v, 0) := by
  unfold varM doM putVarM keepM
  rw [if_neg (by omega), if_pos hs]

theorem packM_ok (L : List Bool) : ∀ x ∈ packM L, 0 ≤ x ∧ x ≤ 255 := fun x hx => by
  unfold packM at hx
  obtain ⟨j, _, rfl⟩ := List.mem_map.1 hx
  have := byteAt_le L j
  omega

/-! ### nothing has changed -/
theorem rising_lt {l : List Comp} (h : Rising (l.map (·.1))) {p q : Nat} {a b : Comp} (hpq : p < q) (ha : l[p]? = some a) (hb : l[q]? = some b) : a.1 < b.1 := by
  have h : (l.map (·.1)).Pairwise (· < ·) := h
  obtain ⟨h1, rfl⟩ := List.getElem?_eq_some_iff.1 ha
  obtain ⟨h2, rfl⟩ := List.getElem?_eq_some_iff.1 hb
  have := List.pairwise_iff_getElem.1 h p q (by simpa using h1) (by simpa using h2) hpq
  simpa using this
theorem diff_self {was : List Ent} (h : FormOk was) (hL : ∀ e ∈ was, e.2.length ≤ 1048576) : diffE was was = 0 ∧ goneM was was = [] ∧ comeM was was = [] ∧ chgsM was was = [] := by
  have h0 := formOk.2 h
  have hhas : ∀ e ∈ was, hasE was e.1 = true := fun e he => hasE_iff.2 ⟨e, he, rfl⟩
  refine ⟨by unfold diffE; rw [if_neg (by rw [h0]; simp)]; exact h0, ?_, ?_, ?_⟩
  · unfold goneM
    rw [List.map_eq_nil_iff, List.filter_eq_nil_iff]
    intro e he
    rw [hhas e he]; simp
  · unfold comeM
    rw [List.filter_eq_nil_iff]
    intro e he
    rw [hhas e he]; simp
  · unfold chgsM
    rw [List.filterMap_eq_nil_iff]
    intro e he
    obtain ⟨i, hi⟩ := List.mem_iff_getElem?.1 he
    unfold chgOne
    rw [find_at h.rise hi]
    have hrise := (listE_0.1 (h.list he)).2
    have hfind : ∀ c ∈ e.2, findC e.2 c.1 = (c, true) := by
      intro c hc
      obtain ⟨q, hq⟩ := List.mem_iff_getElem?.1 hc
      have : e.2.findIdx? (fun x => x.1 == c.1) = some q := by
        rw [List.findIdx?_eq_some_iff_getElem]
        obtain ⟨hl, hg⟩ := List.getElem?_eq_some_iff.1 hq
        refine ⟨hl, by rw [hg]; simp, fun p hp => ?_⟩
        have := rising_lt hrise hp (List.getElem?_eq_getElem (by omega)) hq
        simp; omega
      unfold findC
      rw [this]
      dsimp only
      rw [hq]
      rfl
    have hn : newM e.2 e.2 = [] := by
      unfold newM
      rw [List.filter_eq_nil_iff]
      intro c hc
      rw [hfind c hc]; simp
    have hs : chM e.2 e.2 = [] := by
      unfold chM
      rw [List.filter_eq_nil_iff]
      intro c hc
      rw [hfind c hc]; simp
    have hlost : lostM e.2 e.2 = 0 := by
      unfold lostM bNot
      rw [show (BitVec.ofInt (IntKind.bits .u8) (maskN e.2 : Int) &&& ~~~BitVec.ofInt (IntKind.bits .u8) (maskN e.2 : Int)) = 0#_ by simp]
      rfl
    have : nothingM (changeM e e) = true := by
      unfold nothingM changeM
      rw [hn, hs, hlost]
      rfl
    dsimp only
    rw [if_pos this]
theorem delta_nil (was : List Ent) (s : WS) : deltaW was s [] [] [] = varM (varM (varM s 0) 0) 0 := rfl

end Go.Proofs.YtchhhjlpnecjkaaGreat

namespace Go.Proofs.YtchhhjlpnecjkaaGreat
open Go Go.RowKit Go.Proofs.YtchhhjlpnecjkaaGreat.Den

/-! ### so many bits -/
def valB : List Bool → Nat
  | [] => 0
  | b :: r => bitN b + 2 * valB r
def getN (n : Nat) (L : List Bool) : Option (Nat × List Bool) := if n ≤ L.length then some (valB (L.take n), L.drop n) else none
theorem front_bits (v : Nat) : ∀ n, bitsOf v (n + 1) = v.testBit 0 :: bitsOf (v / 2) n
  | 0 => rfl
  | n + 1 => by
    rw [bitsOf, front_bits v n, bitsOf, List.cons_append]
    congr 3
    rw [Nat.testBit_succ]
theorem valB_bits : ∀ (n v : Nat), v < 2 ^ n → valB (bitsOf v n) = v
  | 0, v, h => by simp [bitsOf, valB]; omega
  | n + 1, v, h => by
    rw [front_bits, valB, valB_bits n (v / 2) (by omega), Nat.testBit_zero]
    unfold bitN
    by_cases h1 : v % 2 = 1
    · simp [h1]; omega
    · simp [h1]; omega
theorem getN_put {v n : Nat} (h : v < 2 ^ n) (s : List Bool) : getN n (bitsOf v n ++ s) = some (v, s) := by
  have hl := bitsOf_len v n
  unfold getN
  rw [if_pos (by rw [List.length_append]; omega), List.take_left' hl, List.drop_left' hl, valB_bits n v h]

/-! ### numbers from 0 on -/
def varD : Nat → Nat → Nat → List Bool → Option (Nat × List Bool)
  | 0, _, _, _ => none
  | k + 1, i, v, L => match getN 5 L with
    | none => none
    | some (x, r) => if x / 16 = 0 then (if groupsM (v + x % 16 * 2 ^ (4 * i)) = i + 1 then some (v + x % 16 * 2 ^ (4 * i), r) else none) else varD k (i + 1) (v + x % 16 * 2 ^ (4 * i)) r
def getVar (L : List Bool) : Option (Nat × List Bool) := varD 16 0 0 L
/-- the last k groups. -/
def varR (v n : Nat) : Nat → List Bool
  | 0 => []
  | k + 1 => bitsOf (grpV v n (n - (k + 1))) 5 ++ varR v n k
theorem varL_R (v n : Nat) : ∀ k, k ≤ n → varL v n (n - k) ++ varR v n k = varL v n n
  | 0, _ => by simp [varR]
  | k + 1, h => by
    rw [varR, ← List.append_assoc]
    have : varL v n (n - (k + 1)) ++ bitsOf (grpV v n (n - (k + 1))) 5 = varL v n (n - k) := by
      rw [show n - k = (n - (k + 1)) + 1 by omega, varL]
    rw [this]
    exact varL_R v n k (by omega)
theorem bitLen_lt {v : Nat} (h : v < 18446744073709551616) : v < 2 ^ Lib.bitLen v := by
  rcases Nat.eq_zero_or_pos v with rfl | hp
  · exact Nat.two_pow_pos _
  · exact (Lib.bitLenAux_bounds 64 v h (by omega)).2.2
theorem groups_lt {v : Nat} (h : v < 18446744073709551616) : v < 2 ^ (4 * groupsM v) := by
  refine Nat.lt_of_lt_of_le (bitLen_lt h) (Nat.pow_le_pow_right (by decide) ?_)
  unfold groupsM
  omega
theorem varD_put {v n : Nat} (hn : groupsM v = n) (hv : v < 2 ^ (4 * n)) (s : List Bool) : ∀ (k i f : Nat), 1 ≤ k → i + k = n → k ≤ f → varD f i (v % 2 ^ (4 * i)) (varR v n k ++ s) = some (v, s)
  | 0, _, _, h, _, _ => by omega
  | k + 1, i, f, _, hi, hf => by
    obtain ⟨f, rfl⟩ : ∃ g, f = g + 1 := ⟨f - 1, by omega⟩
    rw [varR, List.append_assoc, varD, show n - (k + 1) = i by omega, getN_put (grpV_lt v n i)]
    have hg : grpV v n i % 16 = v / 2 ^ (4 * i) % 16 := by unfold grpV; split <;> omega
    have hq : grpV v n i / 16 = if i + 1 < n then 1 else 0 := by unfold grpV; split <;> omega
    have hacc : v % 2 ^ (4 * i) + v / 2 ^ (4 * i) % 16 * 2 ^ (4 * i) = v % 2 ^ (4 * (i + 1)) := by
      rw [show 4 * (i + 1) = 4 * i + 4 by omega, Nat.pow_add, Nat.mod_mul, Nat.mul_comm (v / 2 ^ (4 * i) % 16)]
    simp only
    rw [hg, hq, hacc]
    by_cases h1 : i + 1 < n
    · rw [if_pos h1, if_neg (by decide)]
      exact varD_put hn hv s k (i + 1) f (by omega) (by omega) (by omega)
    · have : i + 1 = n := by omega
      rw [if_neg h1, if_pos rfl, this, Nat.mod_eq_of_lt hv, if_pos hn]
      have : k = 0 := by omega
      subst this
      rfl
theorem getVar_put {v : Nat} (h : v < 18446744073709551616) (s : List Bool) : getVar (varB v ++ s) = some (v, s) := by
  have hg := groupsM_le (v := (v : Int)) (by omega) (by omega)
  rw [Int.toNat_natCast] at hg
  have := varD_put rfl (groups_lt h) s (groupsM v) 0 16 (by omega) (by omega) (by omega)
  rw [Nat.mul_zero, Nat.pow_zero, Nat.mod_one] at this
  have e := varL_R v (groupsM v) (groupsM v) (Nat.le_refl _)
  rw [Nat.sub_self] at e
  have e : varR v (groupsM v) (groupsM v) = varB v := e
  rw [← e]
  exact this

/-! ### numbers of a range -/
def getIn (lo hi : Int) (L : List Bool) : Option (Int × List Bool) := match getN (widthM lo hi) L with
  | none => none
  | some (v, r) => if (v : Int) ≤ hi - lo then some (lo + (v : Int), r) else none
def inB (n lo hi : Int) : List Bool := bitsOf (n - lo).toNat (widthM lo hi)
theorem getIn_put {n lo hi : Int} (h1 : lo ≤ n) (h2 : n ≤ hi) (h3 : hi - lo ≤ 18446744073709551615) (s : List Bool) : getIn lo hi (inB n lo hi ++ s) = some (n, s) := by
  unfold getIn inB
  rw [getN_put (width_lt h1 h2 h3)]
  simp only
  rw [if_pos (by omega)]
  congr 2
  omega

/-! ### components -/
def partB (p : Part) : List Bool := bitsOf p.1.toNat p.2.toNat
theorem fieldB {c : Comp} {i : Nat} (h1 : (rangeM c.1 (i : Int)).1 ≤ fl c i) (h2 : fl c i ≤ (rangeM c.1 (i : Int)).2.1) : partB (fieldP c i) = inB (fl c i) (rangeM c.1 (i : Int)).1 (rangeM c.1 (i : Int)).2.1 := by
  obtain ⟨r1, r2⟩ := rangeM_i32 c.1 (i : Int)
  unfold partB fieldP inB
  rw [wU64 (by omega), Int.toNat_natCast]
def readF (k : Int) : List Nat → List Bool → Option (List Int × List Bool)
  | [], L => some ([], L)
  | i :: r, L => match getIn (rangeM k (i : Int)).1 (rangeM k (i : Int)).2.1 L with
    | none => none
    | some (v, L2) => match readF k r L2 with
      | none => none
      | some (vs, L3) => some (v :: vs, L3)
theorem readF_put {c : Comp} (h : checkM c = 0) (s : List Bool) : ∀ is : List Nat, (∀ i ∈ is, i < cntM c.1) → readF c.1 is (is.flatMap (fun i => partB (fieldP c i)) ++ s) = some (is.map (fl c), s)
  | [], _ => rfl
  | i :: r, hi => by
    obtain ⟨h1, h2⟩ := check_at h (hi i List.mem_cons_self)
    obtain ⟨r1, r2⟩ := rangeM_i32 c.1 (i : Int)
    rw [List.flatMap_cons, List.append_assoc, readF, fieldB h1 h2, getIn_put h1 h2 (by omega)]
    simp only
    rw [readF_put h s r fun j hj => hi j (List.mem_cons_of_mem _ hj)]
    rfl
def mkC (k : Int) (vs : List Int) : Comp := (k, vs.getD 0 0, vs.getD 1 0, vs.getD 2 0)
def compD (k : Int) (L : List Bool) : Option (Comp × List Bool) := if cntM k = 0 then none else match readF k (List.range (cntM k)) L with
  | none => none
  | some (vs, r) => some (mkC k vs, r)
theorem fl_zero {c : Comp} (h : checkM c = 0) {i : Nat} (hi : i < 3) (hc : cntM c.1 ≤ i) : fl c i = 0 := by
  have hall : (List.range 3).all (inR c) = true := by
    unfold checkM at h
    split at h
    · cases h
    · split at h
      · cases h
      · split at h
        · assumption
        · cases h
  have := List.all_eq_true.1 hall i (List.mem_range.2 hi)
  unfold inR at this
  rw [List.getElem?_eq_none (by exact hc)] at this
  simpa using this
theorem mkC_fl {c : Comp} (h : checkM c = 0) : mkC c.1 ((List.range (cntM c.1)).map (fl c)) = c := by
  have hg : ∀ i, i < 3 → ((List.range (cntM c.1)).map (fl c)).getD i 0 = fl c i := fun i hi => by
    by_cases hc : i < cntM c.1
    · simp [List.getD, hc]
    · rw [fl_zero h hi (by omega)]
      simp [List.getD, hc]
  unfold mkC
  rw [hg 0 (by decide), hg 1 (by decide), hg 2 (by decide)]
  rfl
theorem cnt_pos {c : Comp} (h : checkM c = 0) : cntM c.1 ≠ 0 := fun hc => by
  unfold checkM at h
  rw [if_pos hc] at h
  cases h
def compB (c : Comp) : List Bool := partsB (wholeP c)
theorem compB_eq (c : Comp) : compB c = (List.range (cntM c.1)).flatMap fun i => partB (fieldP c i) := by
  unfold compB partsB wholeP
  rw [List.flatMap_map]
  rfl
theorem compD_put {c : Comp} (h : checkM c = 0) (s : List Bool) : compD c.1 (compB c ++ s) = some (c, s) := by
  unfold compD
  rw [if_neg (cnt_pos h), compB_eq, readF_put h s _ fun i hi => List.mem_range.1 hi]
  simp only
  rw [mkC_fl h]
/-- .. behind what they were. -/
def zagM (v : Int) : Int := if v % 2 = 1 then -1 - v / 2 else v / 2
theorem zag_zig (n : Int) : zagM (zigM n) = n := by
  unfold zagM zigM
  split <;> split <;> omega
theorem zigM_0 {n : Int} : zigM n = 0 ↔ n = 0 := by unfold zigM; split <;> omega
theorem zigM_nn (n : Int) : 0 ≤ zigM n := by unfold zigM; split <;> omega
def movedD (was : Comp) (i : Nat) (L : List Bool) : Option (Int × List Bool) := match getN 1 L with
  | none => none
  | some (b, L1) => if b = 0 then some (fl was i, L1) else match getN 1 L1 with
    | none => none
    | some (b2, L2) => if b2 = 0 then (match getIn (rangeM was.1 (i : Int)).1 (rangeM was.1 (i : Int)).2.1 L2 with
        | none => none
        | some (n, L3) => if zigM (n - fl was i) ≤ 16 then none else some (n, L3))
      else match getN 4 L2 with
        | none => none
        | some (z, L3) => if fl was i + zagM ((z : Int) + 1) < (rangeM was.1 (i : Int)).1 ∨ (rangeM was.1 (i : Int)).2.1 < fl was i + zagM ((z : Int) + 1) then none else some (fl was i + zagM ((z : Int) + 1), L3)
theorem movedD_put {was c : Comp} (hk : was.1 = c.1) (h : checkM c = 0) {i : Nat} (hi : i < cntM c.1) (s : List Bool) : movedD was i ((oneP was c i).flatMap partB ++ s) = some (fl c i, s) := by
  obtain ⟨h1, h2⟩ := check_at h hi
  obtain ⟨r1, r2⟩ := rangeM_i32 c.1 (i : Int)
  have hzn := zigM_nn (fl c i - fl was i)
  have e1 : ∀ s, getN 1 (partB (1, 1) ++ s) = some (1, s) := fun s => getN_put (v := 1) (n := 1) (by decide) s
  have e0 : ∀ s, getN 1 (partB (0, 1) ++ s) = some (0, s) := fun s => getN_put (v := 0) (n := 1) (by decide) s
  unfold oneP movedD
  by_cases hz : zigM (fl c i - fl was i) = 0
  · rw [if_pos hz]
    have := zigM_0.1 hz
    rw [List.flatMap_cons, List.flatMap_nil, List.append_nil, e0]
    simp only
    rw [if_pos trivial]
    congr 2
    omega
  · rw [if_neg hz]
    by_cases hn : zigM (fl c i - fl was i) ≤ 16
    · rw [if_pos hn]
      simp only [List.flatMap_cons, List.flatMap_nil, List.append_nil, List.append_assoc]
      rw [e1]
      simp only
      rw [if_neg (by decide), e1]
      simp only
      rw [if_neg (by decide)]
      have e4 : getN 4 (partB (zigM (fl c i - fl was i) - 1, 4) ++ s) = some ((zigM (fl c i - fl was i) - 1).toNat, s) := getN_put (n := 4) (by show _ < 16; omega) s
      rw [e4]
      simp only
      have ez : (((zigM (fl c i - fl was i) - 1).toNat : Nat) : Int) + 1 = zigM (fl c i - fl was i) := by omega
      rw [ez, zag_zig, hk, if_neg (by omega)]
      congr 2
      omega
    · rw [if_neg hn]
      simp only [List.flatMap_cons, List.flatMap_nil, List.append_nil, List.append_assoc]
      rw [e1]
      simp only
      rw [if_neg (by decide), e0]
      simp only
      rw [if_pos trivial, hk, fieldB h1 h2, getIn_put h1 h2 (by omega)]
      simp only
      rw [if_neg hn]
def readS (was : Comp) : List Nat → List Bool → Option (List Int × List Bool)
  | [], L => some ([], L)
  | i :: r, L => match movedD was i L with
    | none => none
    | some (v, L2) => match readS was r L2 with
      | none => none
      | some (vs, L3) => some (v :: vs, L3)
theorem readS_put {was c : Comp} (hk : was.1 = c.1) (h : checkM c = 0) (s : List Bool) : ∀ is : List Nat, (∀ i ∈ is, i < cntM c.1) → readS was is (is.flatMap (fun i => (oneP was c i).flatMap partB) ++ s) = some (is.map (fl c), s)
  | [], _ => rfl
  | i :: r, hi => by
    rw [List.flatMap_cons, List.append_assoc, readS, movedD_put hk h (hi i List.mem_cons_self)]
    simp only
    rw [readS_put hk h s r fun j hj => hi j (List.mem_cons_of_mem _ hj)]
    rfl
def stepDec (was : Comp) (L : List Bool) : Option (Comp × List Bool) := if checkM was ≠ 0 then none else match readS was (List.range (cntM was.1)) L with
  | none => none
  | some (vs, r) => some (mkC was.1 vs, r)
def stepB2 (was c : Comp) : List Bool := partsB (stepP was c)
theorem stepDec_put {was c : Comp} (h : pairM was c = 0) (s : List Bool) : stepDec was (stepB2 was c ++ s) = some (c, s) := by
  have hw : checkM was = 0 := by unfold pairM at h; split at h <;> omega
  have hc : checkM c = 0 := by
    unfold pairM at h
    rw [if_neg (by omega)] at h
    split at h <;> omega
  have hk : was.1 = c.1 := by
    unfold pairM at h
    rw [if_neg (by omega), if_neg (by omega)] at h
    split at h
    · assumption
    · omega
  have e : stepB2 was c = (List.range (cntM c.1)).flatMap fun i => (oneP was c i).flatMap partB := by
    unfold stepB2 partsB stepP
    rw [List.flatMap_assoc]
    rfl
  unfold stepDec
  rw [if_neg (by omega), e, hk, readS_put hk hc s _ fun i hi => List.mem_range.1 hi]
  simp only
  rw [mkC_fl hc]

end Go.Proofs.YtchhhjlpnecjkaaGreat

namespace Go.Proofs.YtchhhjlpnecjkaaGreat
open Go Go.RowKit Go.Proofs.YtchhhjlpnecjkaaGreat.Den

/-! ### what a step that goes well has written -/
theorem plain_bits {s : WS} {v n : Int} (h : (plainM s v n).2 = 0) : s.2 = 0 ∧ (plainM s v n).1 = s.1 ++ bitsOf v.toNat n.toNat ∧ (n < 64 → v.toNat < 2 ^ n.toNat) := by
  obtain ⟨h1, h2⟩ := doM_ok h
  unfold plainM doM
  unfold putB at h2 ⊢
  split at h2
  · cases h2
  · split at h2
    · cases h2
    · rename_i hn
      split at h2
      · cases h2
      · rename_i a b
        rw [if_neg a, if_neg hn, if_neg b]
        refine ⟨h1, rfl, fun h64 => ?_⟩
        have : v.toNat / 2 ^ n.toNat = 0 := Classical.byContradiction fun hc => hn ⟨h64, hc⟩
        rcases Nat.div_eq_zero_iff.1 this with hz | hz
        · have := Nat.two_pow_pos n.toNat; omega
        · exact hz
theorem var_bits {s : WS} {v : Nat} (h : (varM s v).2 = 0) : s.2 = 0 ∧ (varM s v).1 = s.1 ++ varB v := by
  obtain ⟨h1, h2⟩ := doM_ok h
  unfold varM doM
  unfold putVarM at h2 ⊢
  split at h2
  · cases h2
  · rename_i a
    rw [if_neg a]
    exact ⟨h1, rfl⟩
theorem in_bits {s : WS} {n lo hi : Int} (h : (inM s n lo hi).2 = 0) : s.2 = 0 ∧ (inM s n lo hi).1 = s.1 ++ inB n lo hi ∧ lo ≤ n ∧ n ≤ hi := by
  have h' : (doM s (putInM s.1 n lo hi)).2 = 0 := h
  obtain ⟨h1, h2⟩ := doM_ok h'
  unfold putInM at h2
  split at h2
  · cases h2
  · rename_i a
    split at h2
    · cases h2
    · rename_i b
      have e : inM s n lo hi = plainM s (n - lo) (widthM lo hi) := by
        unfold inM plainM putInM
        rw [if_neg a, if_neg b]
      have := plain_bits (s := s) (v := n - lo) (n := (widthM lo hi : Int)) (by rw [← e]; exact h)
      rw [e]
      refine ⟨h1, ?_, by omega, by omega⟩
      rw [this.2.1]
      unfold inB
      rw [Int.toNat_natCast]
theorem putP_bits {s : WS} {l : List Part} (h : (doM s (putP s.1 l)).2 = 0) : s.2 = 0 ∧ (doM s (putP s.1 l)).1 = s.1 ++ partsB l := by
  obtain ⟨h1, h2⟩ := doM_ok h
  unfold doM
  unfold putP at h2 ⊢
  split at h2
  · cases h2
  · rename_i a
    rw [if_neg a]
    exact ⟨h1, rfl⟩
theorem putC_bits {s : WS} {c : Comp} (h : (doM s (putC s.1 c)).2 = 0) : s.2 = 0 ∧ (doM s (putC s.1 c)).1 = s.1 ++ compB c ∧ checkM c = 0 := by
  have h2 := (doM_ok h).2
  unfold putC at h h2 ⊢
  by_cases hc : checkM c = 0
  · rw [if_neg (by omega)] at h ⊢
    obtain ⟨a, b⟩ := putP_bits h
    exact ⟨a, b, hc⟩
  · rw [if_pos hc] at h2
    exact absurd h2 hc
theorem putS_bits {s : WS} {was c : Comp} (h : (doM s (putS s.1 was c)).2 = 0) : s.2 = 0 ∧ (doM s (putS s.1 was c)).1 = s.1 ++ stepB2 was c ∧ pairM was c = 0 := by
  have h2 := (doM_ok h).2
  unfold putS at h h2 ⊢
  by_cases hc : pairM was c = 0
  · rw [if_neg (by omega)] at h ⊢
    obtain ⟨a, b⟩ := putP_bits h
    exact ⟨a, b, hc⟩
  · rw [if_pos hc] at h2
    exact absurd h2 hc
/-- steps one by one: each writes its bits. -/
theorem fold_bits {α : Type} (f : WS → α → WS) (enc : α → List Bool) (P : α → Prop) (hf : ∀ s a, (f s a).2 = 0 → s.2 = 0 ∧ (f s a).1 = s.1 ++ enc a ∧ P a) : ∀ (l : List α) (s : WS), (l.foldl f s).2 = 0 → s.2 = 0 ∧ (l.foldl f s).1 = s.1 ++ l.flatMap enc ∧ ∀ a ∈ l, P a
  | [], s, h => ⟨h, by simp, fun a ha => by cases ha⟩
  | a :: r, s, h => by
    rw [List.foldl_cons] at h ⊢
    obtain ⟨h1, h2, h3⟩ := fold_bits f enc P hf r (f s a) h
    obtain ⟨g1, g2, g3⟩ := hf s a h1
    refine ⟨g1, by rw [h2, g2, List.flatMap_cons, List.append_assoc], fun x hx => ?_⟩
    rcases List.mem_cons.1 hx with rfl | hx
    · exact g3
    · exact h3 x hx
/-- .. with what came last. -/
def encs {α : Type} (enc : Int → α → List Bool) (id : α → Int) : Int → List α → List Bool
  | _, [] => []
  | last, a :: r => enc last a ++ encs enc id (id a) r
theorem fold_last {α : Type} (f : WS × Int → α → WS × Int) (enc : Int → α → List Bool) (id : α → Int) (P : Int → α → Prop) (hid : ∀ p a, (f p a).2 = id a) (hf : ∀ p a, (f p a).1.2 = 0 → p.1.2 = 0 ∧ (f p a).1.1 = p.1.1 ++ enc p.2 a ∧ P p.2 a) :
    ∀ (l : List α) (p : WS × Int), (l.foldl f p).1.2 = 0 → p.1.2 = 0 ∧ (l.foldl f p).1.1 = p.1.1 ++ encs enc id p.2 l ∧ ∀ a ∈ l, ∃ last, P last a
  | [], p, h => ⟨h, by simp [encs], fun a ha => by cases ha⟩
  | a :: r, p, h => by
    rw [List.foldl_cons] at h ⊢
    obtain ⟨h1, h2, h3⟩ := fold_last f enc id P hid hf r (f p a) h
    obtain ⟨g1, g2, g3⟩ := hf p a h1
    refine ⟨g1, by rw [h2, g2, hid, encs, List.append_assoc], fun x hx => ?_⟩
    rcases List.mem_cons.1 hx with rfl | hx
    · exact ⟨_, g3⟩
    · exact h3 x hx

/-! ### so many, one behind another -/
def repD {β : Type} (f : Int → List Bool → Option (β × List Bool)) (id : β → Int) : Nat → Int → List Bool → Option (List β × List Bool)
  | 0, _, L => some ([], L)
  | n + 1, last, L => match f last L with
    | none => none
    | some (b, r) => match repD f id n (id b) r with
      | none => none
      | some (bs, r2) => some (b :: bs, r2)
theorem repD_put {β : Type} {f : Int → List Bool → Option (β × List Bool)} {id : β → Int} {enc : Int → β → List Bool} {ok : Int → β → Prop} (hf : ∀ last b s, ok last b → f last (enc last b ++ s) = some (b, s)) (s : List Bool) :
    ∀ (l : List β) (last : Int), (∀ (i : Nat) b, l[i]? = some b → ok (if i = 0 then last else ((l[i - 1]?).map id).getD 0) b) → repD f id l.length last (encs enc id last l ++ s) = some (l, s)
  | [], _, _ => rfl
  | b :: r, last, h => by
    rw [List.length_cons, encs, List.append_assoc, repD, hf last b _ (h 0 b rfl)]
    simp only
    rw [repD_put hf s r (id b) fun i x hx => ?_]
    have := h (i + 1) x (by simpa using hx)
    rw [if_neg (by omega)] at this
    rcases i with _ | i
    · simpa using this
    · rw [if_neg (by omega)]
      simpa using this

/-! ### a head -/
def headB (h : Head) : List Bool :=
  inB h.1 1 5 ++ (inB h.2.1 0 15 ++ (varB h.2.2.1.toNat ++ ((if h.1 ≤ 3 then bitsOf h.2.2.2.1.toNat 32 else []) ++ (if h.1 = 2 then varB (idD h.2.2.2.2 h.2.2.2.1) else []))))
def headD (L : List Bool) : Option (Head × List Bool) := match getIn 1 5 L with
  | none => none
  | some (k, L) => match getIn 0 15 L with
    | none => none
    | some (c, L) => match getVar L with
      | none => none
      | some (e, L) => match (if k ≤ 3 then getN 32 L else some (0, L)) with
        | none => none
        | some (t, L) => match (if k = 2 then (match getVar L with
            | none => none
            | some (b, L) => if t ≤ b then none else some (((t - b - 1 : Nat) : Int), L)) else some (0, L)) with
          | none => none
          | some (b, L) => if e ≤ 4294967295 ∧ headE (k, c, (e : Int), (t : Int), b) = 0 then some ((k, c, (e : Int), (t : Int), b), L) else none
theorem headD_put {h : Head} (hok : HeadOk h) (he : headE h = 0) (s : List Bool) : headD (headB h ++ s) = some (h, s) := by
  obtain ⟨k, c, e, t, b⟩ := h
  obtain ⟨⟨k0, k1⟩, ⟨c0, c1⟩, ⟨e0, e1⟩, ⟨t0, t1⟩, ⟨b0, b1⟩⟩ := hok
  have he' := he
  unfold headE at he
  dsimp only at k0 k1 c0 c1 e0 e1 t0 t1 b0 b1 he
  split at he
  · cases he
  rename_i g1
  split at he
  · cases he
  rename_i g2
  have z1 : e ≠ 0 := fun x => g2 (.inl x)
  have z2 : ¬ (3 < k ∧ t ≠ 0) := fun x => g2 (.inr (.inl x))
  have z3 : ¬ (k ≠ 2 ∧ b ≠ 0) := fun x => g2 (.inr (.inr (.inl x)))
  have z4 : ¬ (k = 2 ∧ t ≤ b) := fun x => g2 (.inr (.inr (.inr x)))
  unfold headB headD
  dsimp only
  rw [List.append_assoc, getIn_put (by omega) (by omega) (by omega)]
  simp only
  rw [List.append_assoc, getIn_put (by omega) (by omega) (by omega)]
  simp only
  rw [List.append_assoc, getVar_put (by omega)]
  simp only
  have ht : (if k ≤ 3 then getN 32 (((if k ≤ 3 then bitsOf t.toNat 32 else []) ++ (if k = 2 then varB (idD b t) else [])) ++ s) else some (0, ((if k ≤ 3 then bitsOf t.toNat 32 else []) ++ (if k = 2 then varB (idD b t) else [])) ++ s)) = some (t.toNat, (if k = 2 then varB (idD b t) else []) ++ s) := by
    by_cases h3 : k ≤ 3
    · rw [if_pos h3, if_pos h3, List.append_assoc, getN_put (by omega)]
    · have : t = 0 := Classical.byContradiction fun x => z2 ⟨by omega, x⟩
      rw [if_neg h3, if_neg h3, this]
      rfl
  rw [ht]
  simp only
  have hb : (if k = 2 then (match getVar ((if k = 2 then varB (idD b t) else []) ++ s) with
            | none => none
            | some (b, L) => if t.toNat ≤ b then none else some (((t.toNat - b - 1 : Nat) : Int), L)) else some (0, (if k = 2 then varB (idD b t) else []) ++ s)) = some (b, s) := by
    by_cases h2 : k = 2
    · have hlt : b < t := by
        refine Classical.byContradiction fun x => z4 ⟨h2, by omega⟩
      have hi : idD b t = (t - b - 1).toNat := by unfold idD; rw [Int.emod_eq_of_lt (by omega) (by omega)]
      rw [if_pos h2, if_pos h2, hi, getVar_put (by omega)]
      simp only
      rw [if_neg (by omega)]
      congr 2
      omega
    · have : b = 0 := Classical.byContradiction fun x => z3 ⟨h2, x⟩
      rw [if_neg h2, if_neg h2, this]
      rfl
  rw [hb]
  simp only
  have e1' : ((e.toNat : Nat) : Int) = e := by omega
  have e2' : ((t.toNat : Nat) : Int) = t := by omega
  rw [e1', e2', if_pos ⟨by omega, he'⟩]
theorem head_bits {s : WS} {h : Head} (hh : (headM s h).2 = 0) : s.2 = 0 ∧ (headM s h).1 = s.1 ++ headB h := by
  unfold headM at hh ⊢
  dsimp only at hh ⊢
  have key : ∀ (s3 : WS), (if h.1 = 2 then varM (if h.1 ≤ 3 then plainM s3 h.2.2.2.1 32 else s3) (idD h.2.2.2.2 h.2.2.2.1) else (if h.1 ≤ 3 then plainM s3 h.2.2.2.1 32 else s3)).2 = 0 →
      s3.2 = 0 ∧ (if h.1 = 2 then varM (if h.1 ≤ 3 then plainM s3 h.2.2.2.1 32 else s3) (idD h.2.2.2.2 h.2.2.2.1) else (if h.1 ≤ 3 then plainM s3 h.2.2.2.1 32 else s3)).1 = s3.1 ++ ((if h.1 ≤ 3 then bitsOf h.2.2.2.1.toNat 32 else []) ++ (if h.1 = 2 then varB (idD h.2.2.2.2 h.2.2.2.1) else [])) := by
    intro s3 hs
    have k1 : ∀ (s4 : WS), (if h.1 = 2 then varM s4 (idD h.2.2.2.2 h.2.2.2.1) else s4).2 = 0 → s4.2 = 0 ∧ (if h.1 = 2 then varM s4 (idD h.2.2.2.2 h.2.2.2.1) else s4).1 = s4.1 ++ (if h.1 = 2 then varB (idD h.2.2.2.2 h.2.2.2.1) else []) := by
      intro s4 h4
      split at h4
      · rename_i h2
        rw [if_pos h2, if_pos h2]
        exact var_bits h4
      · rename_i h2
        rw [if_neg h2, if_neg h2]
        exact ⟨h4, by simp⟩
    obtain ⟨a, b⟩ := k1 _ hs
    rw [b]
    split at a
    · rename_i h3
      rw [if_pos h3]
      obtain ⟨c, d, _⟩ := plain_bits a
      rw [if_pos h3, d, List.append_assoc]
      exact ⟨c, rfl⟩
    · rename_i h3
      rw [if_neg h3, if_neg h3]
      exact ⟨a, by simp⟩
  obtain ⟨a, b⟩ := key _ hh
  rw [b]
  obtain ⟨c, d⟩ := var_bits a
  obtain ⟨e, f, _⟩ := in_bits c
  obtain ⟨i, j, _⟩ := in_bits e
  rw [d, f, j]
  refine ⟨i, ?_⟩
  unfold headB
  simp only [List.append_assoc]

end Go.Proofs.YtchhhjlpnecjkaaGreat

namespace Go.Proofs.YtchhhjlpnecjkaaGreat
open Go Go.RowKit Go.Proofs.YtchhhjlpnecjkaaGreat.Den

/-! ### components of some kinds -/
def compsB (l : List Comp) : List Bool := l.flatMap compB
def compsD : List Int → List Bool → Option (List Comp × List Bool)
  | [], L => some ([], L)
  | k :: r, L => match compD k L with
    | none => none
    | some (c, L2) => match compsD r L2 with
      | none => none
      | some (cs, L3) => some (c :: cs, L3)
theorem compsD_put (s : List Bool) : ∀ l : List Comp, (∀ c ∈ l, checkM c = 0) → compsD (l.map (·.1)) (compsB l ++ s) = some (l, s)
  | [], _ => rfl
  | c :: r, h => by
    have e : compsB (c :: r) = compB c ++ compsB r := rfl
    rw [List.map_cons, e, List.append_assoc, compsD, compD_put (h c List.mem_cons_self)]
    simp only
    rw [compsD_put s r fun x hx => h x (List.mem_cons_of_mem _ hx)]
theorem comps_bits {s : WS} {l : List Comp} (h : (compsM s l).2 = 0) : s.2 = 0 ∧ (compsM s l).1 = s.1 ++ compsB l ∧ ∀ c ∈ l, checkM c = 0 :=
  fold_bits (fun s c => doM s (putC s.1 c)) compB (fun c => checkM c = 0) (fun _ _ h => putC_bits h) l s h
/-- a list of components that can be told by its kinds' mask. -/
structure Masked (l : List Comp) : Prop where
  list : listE l = 0
  mask : maskN l < 32
theorem Masked.kinds {l : List Comp} (h : Masked l) : kindsOf (maskN l) = l.map (·.1) := (Valid.kinds ⟨h.list, rfl⟩).symm
theorem Masked.check {l : List Comp} (h : Masked l) : ∀ c ∈ l, checkM c = 0 := (listE_0.1 h.list).1

/-! ### IDs -/
def idBits (last id : Int) : List Bool := varB (idD last id)
def idDec (last : Int) (L : List Bool) : Option (Int × List Bool) := match getVar L with
  | none => none
  | some (v, r) => if 4294967296 ≤ v then none else some ((last + (v : Int) + 1) % 4294967296, r)
theorem idDec_put {last id : Int} (hid : IdOk id) (s : List Bool) : idDec last (idBits last id ++ s) = some (id, s) := by
  obtain ⟨h0, h1⟩ := hid
  have hv : idD last id < 4294967296 := by unfold idD; omega
  unfold idDec idBits
  rw [getVar_put (by omega)]
  simp only
  rw [if_neg (by omega)]
  congr 2
  unfold idD
  omega

/-! ### entities -/
def entB (last : Int) (e : Ent) : List Bool := idBits last e.1 ++ (bitsOf (maskN e.2) 5 ++ compsB e.2)
def entD (last : Int) (L : List Bool) : Option (Ent × List Bool) := match idDec last L with
  | none => none
  | some (id, L) => match getN 5 L with
    | none => none
    | some (m, L) => match compsD (kindsOf m) L with
      | none => none
      | some (cs, L) => some ((id, cs), L)
theorem entD_put {last : Int} {e : Ent} (hid : IdOk e.1) (h : Masked e.2) (s : List Bool) : entD last (entB last e ++ s) = some (e, s) := by
  unfold entD entB
  rw [List.append_assoc, idDec_put hid]
  simp only
  rw [List.append_assoc, getN_put (by have := h.mask; omega)]
  simp only
  rw [h.kinds, compsD_put s _ h.check]
def entsB (l : List Ent) : List Bool := varB l.length ++ encs entB (fun e : Ent => e.1) 0 l
def entsD (L : List Bool) : Option (List Ent × List Bool) := match getVar L with
  | none => none
  | some (n, L) => repD entD (fun e : Ent => e.1) n 0 L
theorem entsD_put {l : List Ent} (hl : l.length < 18446744073709551616) (h : ∀ e ∈ l, IdOk e.1 ∧ Masked e.2) (s : List Bool) : entsD (entsB l ++ s) = some (l, s) := by
  unfold entsD entsB
  rw [List.append_assoc, getVar_put hl]
  simp only
  exact repD_put (f := entD) (id := fun e : Ent => e.1) (enc := entB) (ok := fun _ e => IdOk e.1 ∧ Masked e.2) (fun last b s hb => entD_put hb.1 hb.2 s) s l 0 fun i b hb => h b (List.mem_of_getElem? hb)
theorem ents_bits {s : WS} {l : List Ent} (h : (entsW s l).2 = 0) : s.2 = 0 ∧ (entsW s l).1 = s.1 ++ entsB l ∧ ∀ e ∈ l, maskN e.2 < 32 ∧ ∀ c ∈ e.2, checkM c = 0 := by
  unfold entsW at h ⊢
  obtain ⟨h1, h2, h3⟩ := fold_last entM entB (fun e => e.1) (fun _ e => maskN e.2 < 32 ∧ ∀ c ∈ e.2, checkM c = 0) (fun _ _ => rfl) (fun p e h => by
    unfold entM at h ⊢
    dsimp only at h ⊢
    obtain ⟨a1, a2, a3⟩ := comps_bits h
    obtain ⟨b1, b2, b3⟩ := plain_bits a1
    obtain ⟨c1, c2⟩ := var_bits b1
    refine ⟨c1, ?_, ?_, a3⟩
    · rw [a2, b2, c2]
      unfold entB idBits
      rw [Int.toNat_natCast, show Int.toNat 5 = 5 from rfl]
      simp only [List.append_assoc]
    · have := b3 (by decide)
      rw [Int.toNat_natCast] at this
      exact this) l (varM s l.length, 0) h
  obtain ⟨g1, g2⟩ := var_bits h1
  refine ⟨g1, ?_, fun e he => ?_⟩
  · rw [h2, g2]
    unfold entsB
    simp only [List.append_assoc]
  · obtain ⟨_, h⟩ := h3 e he
    exact h

/-! ### deltas -/
def goneB (l : List Int) : List Bool := varB l.length ++ encs idBits (fun i : Int => i) 0 l
def goneD (L : List Bool) : Option (List Int × List Bool) := match getVar L with
  | none => none
  | some (n, L) => repD idDec (fun i : Int => i) n 0 L
theorem goneD_put {l : List Int} (hl : l.length < 18446744073709551616) (h : ∀ i ∈ l, IdOk i) (s : List Bool) : goneD (goneB l ++ s) = some (l, s) := by
  unfold goneD goneB
  rw [List.append_assoc, getVar_put hl]
  simp only
  exact repD_put (f := idDec) (id := fun i : Int => i) (enc := idBits) (ok := fun _ e => IdOk e) (fun last b s hb => idDec_put hb s) s l 0 fun i b hb => h b (List.mem_of_getElem? hb)
theorem gone_bits {s : WS} {l : List Int} (h : (goneW s l).2 = 0) : s.2 = 0 ∧ (goneW s l).1 = s.1 ++ goneB l := by
  unfold goneW at h ⊢
  obtain ⟨h1, h2, _⟩ := fold_last idM idBits (fun i => i) (fun _ _ => True) (fun _ _ => rfl) (fun p e h => by
    unfold idM at h ⊢
    obtain ⟨c1, c2⟩ := var_bits h
    exact ⟨c1, c2, trivial⟩) l (varM s l.length, 0) h
  obtain ⟨g1, g2⟩ := var_bits h1
  refine ⟨g1, ?_⟩
  rw [h2, g2]
  unfold goneB
  simp only [List.append_assoc]
def setsB (was : List Ent) (id : Int) (l : List Comp) : List Bool := l.flatMap fun c => stepB2 (oldM was id c.1) c
def setsD (was : List Ent) (id : Int) : List Int → List Bool → Option (List Comp × List Bool)
  | [], L => some ([], L)
  | k :: r, L => if (oldM was id k).1 ≠ k then none else match stepDec (oldM was id k) L with
    | none => none
    | some (c, L2) => match setsD was id r L2 with
      | none => none
      | some (cs, L3) => some (c :: cs, L3)
theorem pair_kind {was c : Comp} (h : pairM was c = 0) : was.1 = c.1 ∧ checkM c = 0 := by
  unfold pairM at h
  split at h
  · omega
  · split at h
    · omega
    · split at h
      · exact ⟨by assumption, by omega⟩
      · omega
theorem setsD_put (was : List Ent) (id : Int) (s : List Bool) : ∀ l : List Comp, (∀ c ∈ l, pairM (oldM was id c.1) c = 0) → setsD was id (l.map (·.1)) (setsB was id l ++ s) = some (l, s)
  | [], _ => rfl
  | c :: r, h => by
    have hc := h c List.mem_cons_self
    have e : setsB was id (c :: r) = stepB2 (oldM was id c.1) c ++ setsB was id r := rfl
    rw [List.map_cons, e, List.append_assoc, setsD, if_neg (fun x => x (pair_kind hc).1), stepDec_put hc]
    simp only
    rw [setsD_put was id s r fun x hx => h x (List.mem_cons_of_mem _ hx)]
theorem sets_bits {was : List Ent} {id : Int} : ∀ {l : List Comp} {s : WS}, (setsM was id s l).2 = 0 → s.2 = 0 ∧ (setsM was id s l).1 = s.1 ++ setsB was id l ∧ ∀ c ∈ l, pairM (oldM was id c.1) c = 0
  | [], s, h => ⟨h, (List.append_nil _).symm, fun a ha => by cases ha⟩
  | a :: r, s, h => by
    have e : setsM was id s (a :: r) = setsM was id (doM s (putS s.1 (oldM was id a.1) a)) r := by unfold setsM; rw [List.foldl_cons]
    have e2 : setsB was id (a :: r) = stepB2 (oldM was id a.1) a ++ setsB was id r := by unfold setsB; rw [List.flatMap_cons]
    rw [e] at h
    obtain ⟨h1, h2, h3⟩ := sets_bits h
    obtain ⟨g1, g2, g3⟩ := putS_bits h1
    rw [e]
    refine ⟨g1, by rw [h2, g2, e2, List.append_assoc], fun x hx => ?_⟩
    rcases List.mem_cons.1 hx with rfl | hx
    · exact g3
    · exact h3 x hx
def chgB (was : List Ent) (last : Int) (d : Chg) : List Bool :=
  idBits last d.1 ++ (bitsOf d.2.1.toNat 5 ++ (bitsOf (maskN d.2.2.1) 5 ++ (bitsOf (maskN d.2.2.2) 5 ++ (compsB d.2.2.1 ++ setsB was d.1 d.2.2.2))))
def chgD (was : List Ent) (last : Int) (L : List Bool) : Option (Chg × List Bool) := match idDec last L with
  | none => none
  | some (id, L) => match getN 5 L with
    | none => none
    | some (lost, L) => match getN 5 L with
      | none => none
      | some (fresh, L) => match getN 5 L with
        | none => none
        | some (set, L) => match compsD (kindsOf fresh) L with
          | none => none
          | some (ns, L) => match setsD was id (kindsOf set) L with
            | none => none
            | some (ss, L) => some ((id, (lost : Int), ns, ss), L)
structure ChgMk (was : List Ent) (d : Chg) : Prop where
  id : IdOk d.1
  lost : 0 ≤ d.2.1 ∧ d.2.1.toNat < 32
  new : Masked d.2.2.1
  set : Masked d.2.2.2
  pair : ∀ c ∈ d.2.2.2, pairM (oldM was d.1 c.1) c = 0
theorem chgD_put {was : List Ent} {last : Int} {d : Chg} (h : ChgMk was d) (s : List Bool) : chgD was last (chgB was last d ++ s) = some (d, s) := by
  obtain ⟨h1, ⟨h2, h3⟩, h4, h5, h6⟩ := h
  unfold chgD chgB
  rw [List.append_assoc, idDec_put h1]
  simp only
  rw [List.append_assoc, getN_put (by omega)]
  simp only
  rw [List.append_assoc, getN_put (by have := h4.mask; omega)]
  simp only
  rw [List.append_assoc, getN_put (by have := h5.mask; omega)]
  simp only
  rw [List.append_assoc, h4.kinds, compsD_put _ _ h4.check]
  simp only
  rw [h5.kinds, setsD_put was d.1 s _ h6]
  simp only
  have : ((d.2.1.toNat : Nat) : Int) = d.2.1 := by omega
  rw [this]
def chgsB (was : List Ent) (l : List Chg) : List Bool := varB l.length ++ encs (chgB was) (fun d : Chg => d.1) 0 l
def chgsD (was : List Ent) (L : List Bool) : Option (List Chg × List Bool) := match getVar L with
  | none => none
  | some (n, L) => repD (chgD was) (fun d : Chg => d.1) n 0 L
theorem chgsD_put {was : List Ent} {l : List Chg} (hl : l.length < 18446744073709551616) (h : ∀ d ∈ l, ChgMk was d) (s : List Bool) : chgsD was (chgsB was l ++ s) = some (l, s) := by
  unfold chgsD chgsB
  rw [List.append_assoc, getVar_put hl]
  simp only
  exact repD_put (f := chgD was) (id := fun d : Chg => d.1) (enc := chgB was) (ok := fun _ d => ChgMk was d) (fun last b s hb => chgD_put hb s) s l 0 fun i b hb => h b (List.mem_of_getElem? hb)
theorem chgs_bits {was : List Ent} {s : WS} {l : List Chg} (h : (chgsW was s l).2 = 0) : s.2 = 0 ∧ (chgsW was s l).1 = s.1 ++ chgsB was l ∧ ∀ d ∈ l, d.2.1.toNat < 32 ∧ maskN d.2.2.1 < 32 ∧ maskN d.2.2.2 < 32 ∧ (∀ c ∈ d.2.2.1, checkM c = 0) ∧ ∀ c ∈ d.2.2.2, pairM (oldM was d.1 c.1) c = 0 := by
  unfold chgsW at h ⊢
  obtain ⟨h1, h2, h3⟩ := fold_last (chgM1 was) (chgB was) (fun d => d.1) (fun _ d => d.2.1.toNat < 32 ∧ maskN d.2.2.1 < 32 ∧ maskN d.2.2.2 < 32 ∧ (∀ c ∈ d.2.2.1, checkM c = 0) ∧ ∀ c ∈ d.2.2.2, pairM (oldM was d.1 c.1) c = 0) (fun _ _ => rfl) (fun p d h => by
    unfold chgM1 at h ⊢
    dsimp only at h ⊢
    obtain ⟨a1, a2, a3⟩ := sets_bits h
    obtain ⟨b1, b2, b3⟩ := comps_bits a1
    obtain ⟨c1, c2, c3⟩ := plain_bits b1
    obtain ⟨d1, d2, d3⟩ := plain_bits c1
    obtain ⟨e1, e2, e3⟩ := plain_bits d1
    obtain ⟨f1, f2⟩ := var_bits e1
    have c3 := c3 (by decide)
    have d3 := d3 (by decide)
    have e3 := e3 (by decide)
    rw [Int.toNat_natCast] at c3 d3
    refine ⟨f1, ?_, e3, d3, c3, b3, a3⟩
    rw [a2, b2, c2, d2, e2, f2]
    unfold chgB idBits
    rw [Int.toNat_natCast, Int.toNat_natCast, show Int.toNat 5 = 5 from rfl]
    simp only [List.append_assoc]) l (varM s l.length, 0) h
  obtain ⟨g1, g2⟩ := var_bits h1
  refine ⟨g1, ?_, fun e he => ?_⟩
  · rw [h2, g2]
    unfold chgsB
    simp only [List.append_assoc]
  · obtain ⟨_, h⟩ := h3 e he
    exact h
def deltaB (was : List Ent) (gone : List Int) (come : List Ent) (chg : List Chg) : List Bool := goneB gone ++ (entsB come ++ chgsB was chg)
abbrev Delta := List Int × List Ent × List Chg
def deltaD (was : List Ent) (L : List Bool) : Option (Delta × List Bool) := match goneD L with
  | none => none
  | some (g, L) => match entsD L with
    | none => none
    | some (c, L) => match chgsD was L with
      | none => none
      | some (d, L) => some ((g, c, d), L)
theorem deltaD_put {was : List Ent} {gone : List Int} {come : List Ent} {chg : List Chg} (hg : gone.length < 18446744073709551616 ∧ ∀ i ∈ gone, IdOk i) (hc : come.length < 18446744073709551616 ∧ ∀ e ∈ come, IdOk e.1 ∧ Masked e.2) (hd : chg.length < 18446744073709551616 ∧ ∀ d ∈ chg, ChgMk was d) (s : List Bool) :
    deltaD was (deltaB was gone come chg ++ s) = some ((gone, come, chg), s) := by
  unfold deltaD deltaB
  rw [List.append_assoc, goneD_put hg.1 hg.2]
  simp only
  rw [List.append_assoc, entsD_put hc.1 hc.2]
  simp only
  rw [chgsD_put hd.1 hd.2]

end Go.Proofs.YtchhhjlpnecjkaaGreat

namespace Go.Proofs.YtchhhjlpnecjkaaGreat
open Go Go.RowKit Go.Proofs.YtchhhjlpnecjkaaGreat.Den

/-! ### few -/
theorem rise_at {L : List Ent} (h : L.Pairwise fun a b => a.1 < b.1) (h0 : ∀ e ∈ L, 0 ≤ e.1) : ∀ (i : Nat) e, L[i]? = some e → (i : Int) ≤ e.1
  | 0, e, he => h0 e (List.mem_of_getElem? he)
  | i + 1, e, he => by
    have hl := (List.getElem?_eq_some_iff.1 he).1
    have := rise_at h h0 i _ (List.getElem?_eq_getElem (by omega))
    have := ids_lt h (Nat.lt_succ_self i) (List.getElem?_eq_getElem (by omega)) he
    omega
theorem rise_len {L : List Ent} (h : L.Pairwise fun a b => a.1 < b.1) (h0 : ∀ e ∈ L, IdOk e.1) : L.length ≤ 4294967296 := by
  rcases Nat.eq_zero_or_pos L.length with hz | hp
  · omega
  · have hl := List.getElem?_eq_getElem (l := L) (i := L.length - 1) (by omega)
    have h1 := rise_at h (fun e he => (h0 e he).1) _ _ hl
    have h2 := (h0 _ (List.mem_of_getElem? hl)).2
    omega
theorem few_ge : ∀ (L : List Ent) (n : Int), 0 ≤ n → (∀ e ∈ L, e.2.length ≤ 6) → n + 6 * (L.length : Int) ≤ 9223372036854775807 → n ≤ L.foldl (fun n e => IntKind.wrap .i64 (n + (e.2.length : Int))) n
  | [], _, _, _, _ => Int.le_refl _
  | e :: r, n, h0, h6, hb => by
    have he := h6 e List.mem_cons_self
    rw [List.length_cons] at hb
    rw [List.foldl_cons, w64 (by omega)]
    have := few_ge r (n + (e.2.length : Int)) (by omega) (fun x hx => h6 x (List.mem_cons_of_mem _ hx)) (by omega)
    omega
theorem FormOk.six {L : List Ent} (h : FormOk L) {e : Ent} (he : e ∈ L) : e.2.length ≤ 6 := (Valid.mk (h.list he) rfl : Valid (maskN e.2) e.2).small
theorem FormOk.few {L : List Ent} (h : FormOk L) (h0 : ∀ e ∈ L, IdOk e.1) (hf : fewM L ≤ 400) : L.length ≤ 400 := by
  have hl := rise_len h.rise h0
  have := few_ge L (L.length : Int) (by omega) (fun e he => h.six he) (by omega)
  unfold fewM at hf
  omega

end Go.Proofs.YtchhhjlpnecjkaaGreat
