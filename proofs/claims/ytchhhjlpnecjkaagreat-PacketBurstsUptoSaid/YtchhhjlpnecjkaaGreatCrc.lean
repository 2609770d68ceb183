/-
  The sum, bit by bit in a register, is the sum by division (plainly).
-/
import Derived.Test.YtchhhjlpnecjkaaGreatApZ
namespace Go.Proofs.YtchhhjlpnecjkaaGreat
open Go Go.RowKit Go.Proofs.YtchhhjlpnecjkaaGreat.Den

def polyB : BitVec 32 := 3988292384#32
def stepB (c : BitVec 32) : BitVec 32 := if c.getLsbD 0 = true then (c >>> 1) ^^^ polyB else c >>> 1
def oneB (b : Bool) : BitVec 32 := if b = true then 1#32 else 0#32
def bitB (c : BitVec 32) (m : Bool) : BitVec 32 := stepB (c ^^^ oneB m)
def stepsB : Nat → BitVec 32 → BitVec 32
  | 0, c => c
  | n + 1, c => stepB (stepsB n c)
def toI (c : BitVec 32) : Int := (c.toNat : Int)
theorem toI_ofInt (c : BitVec 32) : BitVec.ofInt 32 (toI c) = c := by
  apply BitVec.eq_of_toNat_eq
  have := c.isLt
  simp [toI]
theorem wrap_toNat (c : BitVec 32) : IntKind.wrap .u32 (c.toNat : Int) = toI c := by
  have := c.isLt
  rw [wu32 (by omega)]
  rfl
theorem bXor_toI (c d : BitVec 32) : bXor .u32 (toI c) (toI d) = toI (c ^^^ d) := by
  unfold bXor
  show IntKind.wrap .u32 (((BitVec.ofInt 32 (toI c)) ^^^ (BitVec.ofInt 32 (toI d))).toNat : Int) = _
  rw [toI_ofInt, toI_ofInt, wrap_toNat]
theorem stepF_toI (c : BitVec 32) : stepF (toI c) = toI (stepB c) := by
  unfold stepF stepB
  have h1 : bAnd .u32 (toI c) 1 = toI (c &&& 1#32) := by
    unfold bAnd
    show IntKind.wrap .u32 (((BitVec.ofInt 32 (toI c)) &&& (BitVec.ofInt 32 1)).toNat : Int) = _
    rw [toI_ofInt, wrap_toNat]
    rfl
  have h2 : shR .u32 (toI c) 1 = toI (c >>> 1) := by
    unfold shR
    rw [show min (Int.toNat 1) (IntKind.bits .u32) = 1 from rfl, Int.fdiv_eq_ediv_of_nonneg _ (by decide)]
    unfold toI
    rw [BitVec.toNat_ushiftRight, Nat.shiftRight_eq_div_pow]
    simp
  have h3 : toI (c &&& 1#32) ≠ 0 ↔ c.getLsbD 0 = true := by
    have e : (c &&& 1#32).toNat = c.toNat % 2 := by
      rw [BitVec.toNat_and]
      show c.toNat &&& 1 = _
      rw [Nat.and_one_is_mod]
    unfold toI
    rw [e, BitVec.getLsbD, Nat.testBit_zero]
    simp only [decide_eq_true_eq]
    omega
  rw [h1, h2]
  by_cases h : c.getLsbD 0 = true
  · rw [if_pos (h3.2 h), if_pos h]
    exact bXor_toI (c >>> 1) polyB
  · rw [if_neg (fun x => h (h3.1 x)), if_neg h]
theorem stepsF_toI (n : Nat) (c : BitVec 32) : stepsF n (toI c) = toI (stepsB n c) := by
  induction n with
  | zero => rfl
  | succ n ih => rw [stepsF, stepsB, ih, stepF_toI]
theorem stepsB_front (n : Nat) (c : BitVec 32) : stepsB (n + 1) c = stepsB n (stepB c) := by
  induction n with
  | zero => rfl
  | succ n ih => rw [stepsB, ih, stepsB]
theorem stepB_at (c : BitVec 32) (p : Nat) : (stepB c).getLsbD p = (c.getLsbD (p + 1) ^^ (c.getLsbD 0 && polyB.getLsbD p)) := by
  unfold stepB
  split
  · rename_i h
    rw [BitVec.getLsbD_xor, BitVec.getLsbD_ushiftRight, h, Nat.add_comm]
    simp
  · rename_i h
    have h : c.getLsbD 0 = false := by simpa using h
    rw [BitVec.getLsbD_ushiftRight, h, Nat.add_comm]
    simp
theorem oneB_at (b : Bool) (p : Nat) : (oneB b).getLsbD p = (decide (p = 0) && b) := by
  unfold oneB
  cases b
  · simp
  · rw [if_pos rfl]
    rcases p with _ | p
    · rfl
    · simp [BitVec.getLsbD, Nat.testBit_succ]
theorem stepB_xor (c d : BitVec 32) : stepB (c ^^^ d) = bitB c (d.getLsbD 0) ^^^ (d >>> 1) := by
  apply BitVec.eq_of_getLsbD_eq
  intro p _
  rw [bitB, BitVec.getLsbD_xor, stepB_at, stepB_at, BitVec.getLsbD_ushiftRight, BitVec.getLsbD_xor, BitVec.getLsbD_xor, BitVec.getLsbD_xor, BitVec.getLsbD_xor, oneB_at, oneB_at, Nat.add_comm 1 p]
  simp only [Nat.add_eq_zero_iff, Nat.one_ne_zero, and_false, decide_false, Bool.false_and, Bool.xor_false, decide_true, Bool.true_and]
  cases c.getLsbD (p + 1) <;> cases d.getLsbD (p + 1) <;> simp
theorem bitsOf_front (v : Nat) : ∀ n, bitsOf v (n + 1) = v.testBit 0 :: bitsOf (v / 2) n
  | 0 => rfl
  | n + 1 => by
    rw [bitsOf, bitsOf_front v n, bitsOf, List.cons_append]
    congr 3
    rw [Nat.testBit_succ]
theorem stepsB_bits : ∀ (n : Nat) (c d : BitVec 32), d.toNat < 2 ^ n → stepsB n (c ^^^ d) = (bitsOf d.toNat n).foldl bitB c
  | 0, c, d, h => by
    have : d = 0#32 := BitVec.eq_of_toNat_eq (by simp at h ⊢; omega)
    subst this
    show c ^^^ 0#32 = c
    simp
  | n + 1, c, d, h => by
    have hd : (d >>> 1).toNat = d.toNat / 2 := by rw [BitVec.toNat_ushiftRight, Nat.shiftRight_eq_div_pow]
    rw [stepsB_front, stepB_xor, stepsB_bits n _ _ (by rw [hd]; omega), hd, bitsOf_front, List.foldl_cons]
    rfl
theorem byteF_toI (c : BitVec 32) {x : Int} (hx : 0 ≤ x ∧ x ≤ 255) : byteF (toI c) x = toI ((bitsOf x.toNat 8).foldl bitB c) := by
  have hw : IntKind.wrap .u32 x = toI (BitVec.ofNat 32 x.toNat) := by
    rw [wu32 (by omega)]
    unfold toI
    rw [BitVec.toNat_ofNat, Nat.mod_eq_of_lt (by omega)]
    omega
  have hn : (BitVec.ofNat 32 x.toNat).toNat = x.toNat := by rw [BitVec.toNat_ofNat, Nat.mod_eq_of_lt (by omega)]
  unfold byteF
  rw [hw, bXor_toI, stepsF_toI, stepsB_bits 8 _ _ (by rw [hn]; omega), hn]
def regB (m : List Bool) : BitVec 32 := m.foldl bitB 4294967295#32
theorem regF : ∀ (l : List Int) (c : BitVec 32), BytesOk l → l.foldl byteF (toI c) = toI ((bitsU l).foldl bitB c)
  | [], _, _ => rfl
  | x :: r, c, h => by
    have e : bitsU (x :: r) = bitsOf x.toNat 8 ++ bitsU r := rfl
    rw [List.foldl_cons, byteF_toI c (h x List.mem_cons_self), regF r _ fun y hy => h y (List.mem_cons_of_mem _ hy), e, List.foldl_append]
theorem sumF_reg {l : List Int} (h : BytesOk l) : sumF l = toI (4294967295#32 ^^^ regB (bitsU l)) := by
  unfold sumF
  have e : (4294967295 : Int) = toI 4294967295#32 := rfl
  rw [e, regF l _ h, bXor_toI]
  rfl

/-! ### the division -/
theorem flipAt_at (L : List Bool) (i k : Nat) : bitAt (flipAt L i) k = if k = i ∧ i < L.length then !bitAt L k else bitAt L k := by
  unfold bitAt flipAt
  rw [List.getElem?_set]
  by_cases h : i = k
  · subst h
    by_cases hl : i < L.length
    · rw [if_pos rfl, if_pos hl, if_pos ⟨rfl, hl⟩]; rfl
    · rw [if_pos rfl, if_neg hl, if_neg (fun x => hl x.2), List.getElem?_eq_none (by omega)]
  · rw [if_neg h, if_neg (fun x => h x.1.symm)]
theorem taps_at (j : Nat) : ∀ (ks : List Nat) (L : List Bool), ks.Nodup → (∀ k ∈ ks, k ≤ 32) → j + 32 < L.length → ∀ q, bitAt (ks.foldl (tapD j) L) q = (bitAt L q ^^ decide (∃ k ∈ ks, q = j + 32 - k))
  | [], L, _, _, _, q => by simp
  | k :: ks, L, hn, hk, hl, q => by
    have hn' := List.nodup_cons.1 hn
    have hk0 := hk k List.mem_cons_self
    rw [List.foldl_cons, taps_at j ks (tapD j L k) hn'.2 (fun x hx => hk x (List.mem_cons_of_mem _ hx)) (by unfold tapD; rw [flipAt_len]; exact hl) q]
    unfold tapD
    rw [flipAt_at]
    by_cases hq : q = j + 32 - k
    · rw [if_pos ⟨hq, by omega⟩]
      have h1 : ¬ ∃ k' ∈ ks, q = j + 32 - k' := by
        rintro ⟨k', hk', e⟩
        have := hk k' (List.mem_cons_of_mem _ hk')
        have : k' = k := by omega
        subst this
        exact hn'.1 hk'
      have h2 : ∃ k' ∈ k :: ks, q = j + 32 - k' := ⟨k, List.mem_cons_self, hq⟩
      rw [decide_eq_false h1, decide_eq_true h2]
      simp
    · rw [if_neg (fun x => hq x.1)]
      congr 1
      rw [decide_eq_decide]
      constructor
      · rintro ⟨k', hk', e⟩; exact ⟨k', List.mem_cons_of_mem _ hk', e⟩
      · rintro ⟨k', hk', e⟩
        rcases List.mem_cons.1 hk' with rfl | hk'
        · exact absurd e hq
        · exact ⟨k', hk', e⟩
theorem poly_at : ∀ p : Fin 32, polyB.getLsbD p.val = decide (∃ k ∈ tapsD, p.val + k = 31) := by decide +kernel
theorem stepD_at {L : List Bool} {j : Nat} (hl : j + 32 < L.length) (q : Nat) : bitAt (stepD L j) q = (bitAt L q ^^ (bitAt L j && decide (∃ k ∈ tapsD, q = j + 32 - k))) := by
  unfold stepD
  show bitAt (if bitAt L j = true then _ else _) q = _
  by_cases h : bitAt L j = true
  · rw [if_pos h, taps_at j tapsD L (by decide) (by decide) hl, h, Bool.true_and]
  · rw [if_neg h]
    have h : bitAt L j = false := by simpa using h
    rw [h]; simp
theorem range_flips (m : List Bool) : ∀ (n : Nat), n ≤ m.length → ∀ q, bitAt ((List.range n).foldl flipAt m) q = (bitAt m q ^^ decide (q < n))
  | 0, _, q => by simp
  | n + 1, h, q => by
    rw [List.range_succ, List.foldl_append]
    show bitAt (flipAt _ n) q = _
    have hl : ((List.range n).foldl flipAt m).length = m.length := foldl_len _ flipAt_len _ _
    rw [flipAt_at, range_flips m n (by omega) q, hl]
    by_cases hq : q = n
    · subst hq
      rw [if_pos ⟨rfl, by omega⟩]
      simp
    · rw [if_neg (fun x => hq x.1)]
      congr 1
      rw [decide_eq_decide]
      omega
theorem bitAt_append (m r : List Bool) (q : Nat) : bitAt (m ++ r) q = if q < m.length then bitAt m q else bitAt r (q - m.length) := by
  unfold bitAt
  split
  · rename_i h; rw [List.getElem?_append_left h]
  · rename_i h; rw [List.getElem?_append_right (by omega)]
theorem bitAt_false (n q : Nat) : bitAt (List.replicate n false) q = false := by
  unfold bitAt
  rw [List.getElem?_replicate]
  split <;> rfl
theorem initD_at (m : List Bool) (q : Nat) : bitAt (initD m) q = (bitAt m q ^^ decide (q < 32)) := by
  unfold initD
  rw [range_flips _ 32 (by simp), bitAt_append, bitAt_false]
  congr 1
  split
  · rfl
  · rw [bitAt_ge (by omega)]
theorem regB_take {m : List Bool} {j : Nat} (h : j < m.length) : regB (m.take (j + 1)) = bitB (regB (m.take j)) (bitAt m j) := by
  have hj : m[j]? = some (bitAt m j) := by unfold bitAt; rw [List.getElem?_eq_getElem h]; rfl
  unfold regB
  rw [take_at hj, List.foldl_append]
  rfl
theorem ones_at : ∀ p : Fin 32, (4294967295#32).getLsbD p.val = true := by decide +kernel
theorem div_reg (m : List Bool) : ∀ j, j ≤ m.length → ∀ p, bitAt (divD m j) (j + p) = ((regB (m.take j)).getLsbD p ^^ bitAt m (j + p))
  | 0, _, p => by
    have e : divD m 0 = initD m := by unfold divD; rw [List.range_zero, List.foldl_nil]
    have hr : (regB (m.take 0)).getLsbD p = decide (p < 32) := by
      have : regB (m.take 0) = 4294967295#32 := by unfold regB; rw [List.take_zero, List.foldl_nil]
      rw [this]
      by_cases hp : p < 32
      · rw [ones_at ⟨p, hp⟩]; simp [hp]
      · rw [BitVec.getLsbD_of_ge _ _ (by omega)]; simp [hp]
    rw [e, initD_at, Nat.zero_add, hr, Bool.xor_comm]
  | j + 1, hj, p => by
    have ih := div_reg m j (by omega)
    have e : divD m (j + 1) = stepD (divD m j) j := by unfold divD; rw [List.range_succ, List.foldl_append]; rfl
    have hb : bitAt (divD m j) j = ((regB (m.take j)).getLsbD 0 ^^ bitAt m j) := ih 0
    rw [e, stepD_at (by rw [divD_len]; omega), show j + 1 + p = j + (p + 1) by omega, ih (p + 1), regB_take (by omega), bitB, stepB_at, BitVec.getLsbD_xor, BitVec.getLsbD_xor, oneB_at, oneB_at, hb]
    have ht : decide (∃ k ∈ tapsD, j + (p + 1) = j + 32 - k) = polyB.getLsbD p := by
      by_cases hp : p < 32
      · rw [poly_at ⟨p, hp⟩, decide_eq_decide]
        constructor
        · rintro ⟨k, hk, e⟩; exact ⟨k, hk, by have := tapsD_le k hk; show p + k = 31; omega⟩
        · rintro ⟨k, hk, e⟩; exact ⟨k, hk, by have : p + k = 31 := e; omega⟩
      · rw [BitVec.getLsbD_of_ge _ _ (by omega)]
        apply decide_eq_false
        rintro ⟨k, hk, e⟩
        omega
    rw [ht]
    simp only [Nat.add_eq_zero_iff, Nat.one_ne_zero, and_false, decide_false, Bool.false_and, Bool.xor_false, decide_true, Bool.true_and]
    cases (regB (List.take j m)).getLsbD (p + 1) <;> cases bitAt m (j + (p + 1)) <;> simp
theorem numD_reg (c : BitVec 32) {left : List Bool} (hl : left.length = 32) (h : ∀ p, p < 32 → bitAt left p = !c.getLsbD p) : ∀ k, k ≤ 32 → numD left k = ((c.toNat / 2 ^ (32 - k) : Nat) : Int)
  | 0, _ => by
    have := c.isLt
    show (0 : Int) = _
    rw [Nat.div_eq_of_lt (by simpa using this)]
    rfl
  | k + 1, hk => by
    have ih := numD_reg c hl h k (by omega)
    have hb : (left[31 - k]?).getD false = !c.getLsbD (31 - k) := h (31 - k) (by omega)
    rw [numD, ih, hb]
    have hlt := c.isLt
    have e1 : 32 - k = (31 - k) + 1 := by omega
    have e2 : 32 - (k + 1) = 31 - k := by omega
    rw [e1, e2, Nat.pow_succ, ← Nat.div_div_eq_div_mul]
    have ht : c.getLsbD (31 - k) = decide (c.toNat / 2 ^ (31 - k) % 2 = 1) := by rw [BitVec.getLsbD, Nat.testBit_eq_decide_div_mod_eq]
    rw [ht]
    have hv : c.toNat / 2 ^ (31 - k) ≤ 4294967295 := Nat.le_trans (Nat.div_le_self _ _) (by omega)
    generalize c.toNat / 2 ^ (31 - k) = v at hv ⊢
    have ew : IntKind.wrap .u32 (((v / 2 : Nat) : Int) * 2) = ((v / 2 * 2 : Nat) : Int) := by rw [wu32 (by omega)]; omega
    rw [ew]
    by_cases h1 : v % 2 = 1
    · rw [if_pos (by simp [h1]), wu32 (by omega)]
      omega
    · rw [if_neg (by simp [h1])]
      omega
theorem sum_same {l : List Int} (h : BytesOk l) : sumD l = sumF l := by
  rw [sumF_reg h]
  unfold sumD
  have hlen := bitsU_len l
  generalize bitsU l = m
  have hd := divD_len m m.length
  rw [numD_reg (4294967295#32 ^^^ regB m) (by rw [List.length_drop, hd]; omega) (fun p hp => ?_) 32 (Nat.le_refl _)]
  · simp [toI]
  · have := div_reg m m.length (Nat.le_refl _) p
    rw [List.take_length, bitAt_ge (L := m) (by omega), Bool.xor_false] at this
    have e : bitAt ((divD m m.length).drop m.length) p = bitAt (divD m m.length) (m.length + p) := by unfold bitAt; rw [List.getElem?_drop]
    rw [e, this, BitVec.getLsbD_xor]
    rw [ones_at ⟨p, hp⟩]
    simp

end Go.Proofs.YtchhhjlpnecjkaaGreat

namespace Go.Proofs.YtchhhjlpnecjkaaGreat
open Go Go.RowKit Go.Proofs.YtchhhjlpnecjkaaGreat.Den
variable {R : Type} {Q : R → World → Prop} {w : World}

theorem sumF_range {l : List Int} (h : BytesOk l) : 0 ≤ sumF l ∧ sumF l ≤ 4294967295 := by
  rw [sumF_reg h]
  have := (4294967295#32 ^^^ regB (bitsU l)).isLt
  unfold toI
  omega
theorem tailF_eq {s : Int} (h : 0 ≤ s ∧ s ≤ 4294967295) : tailF s = [IntKind.wrap .u8 s, IntKind.wrap .u8 (IntKind.wrap .u32 (Int.tdiv s 256)), IntKind.wrap .u8 (IntKind.wrap .u32 (Int.tdiv s 65536)), IntKind.wrap .u8 (IntKind.wrap .u32 (Int.tdiv s 16777216))] := by
  have sh : ∀ i : Nat, i < 4 → shR .u32 s (8 * (i : Int)) = s / 2 ^ (8 * i) := fun i hi => by
    unfold shR
    have : min (8 * (i : Int)).toNat (IntKind.bits .u32) = 8 * i := by
      show min (8 * (i : Int)).toNat 32 = 8 * i
      omega
    rw [this, Int.fdiv_eq_ediv_of_nonneg _ (by exact_mod_cast Nat.zero_le (2 ^ (8 * i)))]
  unfold tailF
  show [IntKind.wrap .u8 (shR .u32 s (8 * ((0 : Nat) : Int))), IntKind.wrap .u8 (shR .u32 s (8 * ((1 : Nat) : Int))), IntKind.wrap .u8 (shR .u32 s (8 * ((2 : Nat) : Int))), IntKind.wrap .u8 (shR .u32 s (8 * ((3 : Nat) : Int)))] = _
  rw [sh 0 (by decide), sh 1 (by decide), sh 2 (by decide), sh 3 (by decide), Int.tdiv_eq_ediv_of_nonneg h.1, Int.tdiv_eq_ediv_of_nonneg h.1, Int.tdiv_eq_ediv_of_nonneg h.1, wu32 (x := s / 256) (by omega), wu32 (x := s / 65536) (by omega), wu32 (x := s / 16777216) (by omega)]
  simp
theorem tailF_ok (s : Int) : BytesOk (tailF s) := fun x hx => by
  unfold tailF at hx
  obtain ⟨i, _, rfl⟩ := List.mem_map.1 hx
  rw [IntKind.wrap_u8]
  omega
theorem tailF_len (s : Int) : (tailF s).length = 4 := by simp [tailF]
theorem sealF_ok {l : List Int} (h : BytesOk l) : BytesOk (sealF l) := fun x hx => by
  rcases List.mem_append.1 hx with hx | hx
  · exact h x hx
  · exact tailF_ok _ x hx
theorem sealF_len (l : List Int) : (sealF l).length = l.length + 4 := by unfold sealF; rw [List.length_append, tailF_len]
theorem blkSl {b : Nat} {T : TypeId} {cs : List Value} {t : Ty} {l : List t.T} (B : Blk w b T cs) (hc : cs = l.flatMap t.cells) {n : Nat} (hn : n = l.length) : SlT (fun k => k = b) w t ⟨some ⟨b, 0, none⟩, n, n⟩ l :=
  ⟨hn, Nat.le_refl _, .inr ⟨b, 0, rfl, rfl, B.lt, fun i x hx => Rd.cells.2 (B.cells _ _ fun j u hj => by rw [hc, Nat.zero_add]; exact flat_at hx j u hj)⟩⟩
/-- append([]byte{}, l...). -/
theorem freshB {ok : Nat → Prop} {s : Sl} {l : List Int} (hS : SlT ok w u8T s l) (hm : l.length ≤ 140737488355328) {K : Sl → W R} (hk : ∀ r w', Own (Up w.heap.size) w' 5 u8T r l → Fr None w w' → K r Q w') :
    newW 5 [] (fun x => rawW Tryz.prog (Builtin.append_ #[22, 22] 22 #[.slice (some x) 0 0, .slice s.a s.n s.c]) [.sc .sl] K) Q w := by
  refine newI fun w1 B1 f1 s1 => ?_
  have own := Own.mk' (S := Up w.heap.size) (w := w1) (E := 5) (t := u8T) (l := []) (g := w.heap.size) (c := 0) (cur := ⟨[]⟩) (Nat.le_refl _) B1 (Nat.le_refl _) (Nat.zero_le _) (by simp) (by simp)
  refine appI (s := ⟨some ⟨w.heap.size, 0, none⟩, 0, 0⟩) (s2 := s) (S' := Up w.heap.size) bytes_ty own (hS.fr0 f1) (by simp; omega) (by rw [maxLen_eq]; simp; omega) (fun _ h => h) (by show _ ≤ _; omega) fun r w2 o2 f2 s2 => hk r w2 (by simpa using o2) (f1.newer f2 (fun x e => own.own x e))
theorem spec_r3_Seal {ok : Nat → Prop} {s : Sl} {l : List Int} (hS : SlT ok w u8T s l) (hb : BytesOk l) (hm : l.length ≤ 140737488355000) {K : Res [.sc .sl, .sc (.int .i64)] → W R} (h1 : 4096 < l.length → K (⟨none, 0, 0⟩, 3) Q w) (hk : l.length ≤ 4096 → ∀ r w', Own (Up w.heap.size) w' 5 u8T r (sealF l) → Fr None w w' → K (r, 0) Q w') :
    callW Tryz.prog k_pinnaceref03_Seal [.slice s.a s.n s.c] [.sc .sl, .sc (.int .i64)] K Q w := by
  refine C_pinnaceref03_Seal s K Q w ?_
  unfold F_pinnaceref03_Seal
  have hlen := hS.len
  refine condD (fun h => h1 (by omega)) fun h => ?_
  refine spec_r3_Sum hS hb (by omega) fun w1 f1 => ?_
  rw [sum_same hb]
  have hr := sumF_range hb
  refine freshB (hS.fr0 f1) (by omega) fun x w2 o2 f2 => ?_
  have z1 := f1.size
  have z2 := f2.size
  refine newI fun w3 B3 f3 t3 => ?_
  have hS3 := blkSl (t := u8T) (l := tailF (sumF l)) (n := 4) B3 (by rw [tailF_eq hr]; rfl) (by rw [tailF_len])
  refine appI bytes_ty (S' := Up w.heap.size) (s2 := ⟨some ⟨w2.heap.size, 0, none⟩, 4, 4⟩) (o2.none f3) hS3 (by rw [tailF_len]; omega) (by rw [maxLen_eq, tailF_len]; omega) (fun k h => by have h : w1.heap.size ≤ k := h; show w.heap.size ≤ k; omega) (by show w.heap.size ≤ _; omega) fun r w4 o4 f4 _ => ?_
  exact hk (by omega) r w4 o4 (((f1.then0 f2).then0 f3).newer f4 fun k e => by have := o2.own k e; have : w1.heap.size ≤ k := this; omega)
theorem spec_r3_Open {ok : Nat → Prop} {s : Sl} {l : List Int} (hS : SlT ok w u8T s l) (hb : BytesOk l) (hm : l.length ≤ 140737488355000) {K : Res [.sc .sl, .sc (.int .i64)] → W R} (h1 : ∀ w', Fr None w w' → (l.length < 4 → K (⟨none, 0, 0⟩, 2) Q w') ∧ (4100 < l.length → K (⟨none, 0, 0⟩, 3) Q w') ∧ (4 ≤ l.length → l.length ≤ 4100 → sealF (l.take (l.length - 4)) ≠ l → K (⟨none, 0, 0⟩, 6) Q w'))
    (hk : 4 ≤ l.length → l.length ≤ 4100 → sealF (l.take (l.length - 4)) = l → ∀ r w', Own (Up w.heap.size) w' 5 u8T r (l.take (l.length - 4)) → Fr None w w' → K (r, 0) Q w') :
    callW Tryz.prog k_pinnaceref03_Open [.slice s.a s.n s.c] [.sc .sl, .sc (.int .i64)] K Q w := by
  refine C_pinnaceref03_Open s K Q w ?_
  unfold F_pinnaceref03_Open
  have hlen := hS.len
  refine condD (fun h => (h1 w (Fr.refl _ _)).1 (by omega)) fun ha => ?_
  refine condD (fun h => (h1 w (Fr.refl _ _)).2.1 (by omega)) fun hc => ?_
  refine hS.cutI (n := l.length - 4) (by rw [w64 (by omega)]; omega) (by omega) fun s' _ hs' => ?_
  have hS' := hs' ok w hS
  have hbt : BytesOk (l.take (l.length - 4)) := fun x hx => hb x (List.mem_of_mem_take hx)
  have hlt : (l.take (l.length - 4)).length = l.length - 4 := by rw [List.length_take]; omega
  refine spec_r3_Seal hS' hbt (by omega) (fun h => by omega) fun _ r w1 o1 f1 => ?_
  refine spec_r1_Same o1.sl (hS.fr0 f1) (sealF_ok hbt) hb ?_
  refine condI (fun h => ?_) fun h => ?_
  · exact (h1 w1 f1).2.2 (by omega) (by omega) (by simpa using h)
  · refine freshB (hS'.fr0 f1) (by omega) fun r2 w2 o2 f2 => ?_
    exact hk (by omega) (by omega) (by simpa using h) r2 w2 (o2.up f1.size) (f1.then0 f2)

end Go.Proofs.YtchhhjlpnecjkaaGreat
