/-
  Plain law: bits in bytes.
-/
import Derived.Test.YtchhhjlpnecjkaaGreatRul
import Derived.Test.YtchhhjlpnecjkaaGreatSl2
import Derived.Test.YtchhhjlpnecjkaaGreatF2
import Derived.Shelf.Lays
import Derived.Shelf.Small.Bits
namespace Go.Proofs.YtchhhjlpnecjkaaGreat
open Go Go.RowKit Go.Proofs.YtchhhjlpnecjkaaGreat.Den

def bitN (b : Bool) : Nat := if b = true then 1 else 0
theorem bitN_lt (b : Bool) : bitN b ≤ 1 := by cases b <;> decide
/-- the n lowest bits of a number, the least one first. -/
def bitsOf (v : Nat) : Nat → List Bool
  | 0 => []
  | n + 1 => bitsOf v n ++ [v.testBit n]
theorem bitsOf_len (v : Nat) : ∀ n, (bitsOf v n).length = n
  | 0 => rfl
  | n + 1 => by simp [bitsOf, bitsOf_len v n]
def bitAt (L : List Bool) (k : Nat) : Bool := (L[k]?).getD false
def byteAt (L : List Bool) (j : Nat) : Nat :=
  bitN (bitAt L (8 * j)) + 2 * bitN (bitAt L (8 * j + 1)) + 4 * bitN (bitAt L (8 * j + 2)) + 8 * bitN (bitAt L (8 * j + 3)) + 16 * bitN (bitAt L (8 * j + 4)) + 32 * bitN (bitAt L (8 * j + 5)) + 64 * bitN (bitAt L (8 * j + 6)) + 128 * bitN (bitAt L (8 * j + 7))
/-- as few bytes as have them. -/
def packM (L : List Bool) : List Int := (List.range ((L.length + 7) / 8)).map fun j => (byteAt L j : Int)
/-- .. with room for one bit more. -/
def packP (L : List Bool) : List Int := (List.range (L.length / 8 + 1)).map fun j => (byteAt L j : Int)
theorem bitAt_ge {L : List Bool} {k : Nat} (h : L.length ≤ k) : bitAt L k = false := by
  unfold bitAt
  rw [List.getElem?_eq_none h]
  rfl
theorem bitAt_snoc (L : List Bool) (b : Bool) (k : Nat) : bitAt (L ++ [b]) k = if k = L.length then b else bitAt L k := by
  unfold bitAt
  rcases Nat.lt_trichotomy k L.length with h | h | h
  · rw [List.getElem?_append_left h, if_neg (by omega)]
  · subst h
    rw [List.getElem?_append_right (Nat.le_refl _), if_pos rfl, Nat.sub_self]
    rfl
  · rw [if_neg (by omega), List.getElem?_eq_none (by simp; omega), List.getElem?_eq_none (by omega)]
theorem byteAt_other {L : List Bool} {b : Bool} {j : Nat} (h : j ≠ L.length / 8) : byteAt (L ++ [b]) j = byteAt L j := by
  unfold byteAt
  simp only [bitAt_snoc]
  rw [if_neg (by omega), if_neg (by omega), if_neg (by omega), if_neg (by omega), if_neg (by omega), if_neg (by omega), if_neg (by omega), if_neg (by omega)]
theorem byteAt_here {L : List Bool} {b : Bool} : byteAt (L ++ [b]) (L.length / 8) = byteAt L (L.length / 8) + bitN b * 2 ^ (L.length % 8) ∧ byteAt L (L.length / 8) < 2 ^ (L.length % 8) := by
  obtain ⟨j, r, hr, hL, h1, h2⟩ : ∃ j r, r < 8 ∧ L.length = 8 * j + r ∧ L.length / 8 = j ∧ L.length % 8 = r := ⟨L.length / 8, L.length % 8, Nat.mod_lt _ (by decide), by omega, rfl, rfl⟩
  rw [h1, h2]
  have ge : ∀ k, 8 * j + r ≤ k → bitAt L k = false := fun k hk => bitAt_ge (by omega)
  have l0 := bitN_lt (bitAt L (8 * j))
  have l1 := bitN_lt (bitAt L (8 * j + 1))
  have l2 := bitN_lt (bitAt L (8 * j + 2))
  have l3 := bitN_lt (bitAt L (8 * j + 3))
  have l4 := bitN_lt (bitAt L (8 * j + 4))
  have l5 := bitN_lt (bitAt L (8 * j + 5))
  have l6 := bitN_lt (bitAt L (8 * j + 6))
  have z : bitN false = 0 := rfl
  unfold byteAt
  simp only [bitAt_snoc, hL]
  have : r = 0 ∨ r = 1 ∨ r = 2 ∨ r = 3 ∨ r = 4 ∨ r = 5 ∨ r = 6 ∨ r = 7 := by omega
  rcases this with rfl | rfl | rfl | rfl | rfl | rfl | rfl | rfl
  · rw [ge (8 * j) (by omega), ge (8 * j + 1) (by omega), ge (8 * j + 2) (by omega), ge (8 * j + 3) (by omega), ge (8 * j + 4) (by omega), ge (8 * j + 5) (by omega), ge (8 * j + 6) (by omega), ge (8 * j + 7) (by omega), z]
    simp [z]
  · rw [ge (8 * j + 1) (by omega), ge (8 * j + 2) (by omega), ge (8 * j + 3) (by omega), ge (8 * j + 4) (by omega), ge (8 * j + 5) (by omega), ge (8 * j + 6) (by omega), ge (8 * j + 7) (by omega), z]
    simp [z]; omega
  · rw [ge (8 * j + 2) (by omega), ge (8 * j + 3) (by omega), ge (8 * j + 4) (by omega), ge (8 * j + 5) (by omega), ge (8 * j + 6) (by omega), ge (8 * j + 7) (by omega), z]
    simp [z]; omega
  · rw [ge (8 * j + 3) (by omega), ge (8 * j + 4) (by omega), ge (8 * j + 5) (by omega), ge (8 * j + 6) (by omega), ge (8 * j + 7) (by omega), z]
    simp [z]; omega
  · rw [ge (8 * j + 4) (by omega), ge (8 * j + 5) (by omega), ge (8 * j + 6) (by omega), ge (8 * j + 7) (by omega), z]
    simp [z]; omega
  · rw [ge (8 * j + 5) (by omega), ge (8 * j + 6) (by omega), ge (8 * j + 7) (by omega), z]
    simp [z]; omega
  · rw [ge (8 * j + 6) (by omega), ge (8 * j + 7) (by omega), z]
    simp [z]; omega
  · rw [ge (8 * j + 7) (by omega), z]
    simp [z]; omega
theorem packM_len (L : List Bool) : (packM L).length = (L.length + 7) / 8 := by simp [packM]
theorem packP_len (L : List Bool) : (packP L).length = L.length / 8 + 1 := by simp [packP]
theorem packP_at (L : List Bool) : (packP L)[L.length / 8]? = some (byteAt L (L.length / 8) : Int) := by
  simp [packP]
theorem packM_snoc (L : List Bool) (b : Bool) : packM (L ++ [b]) = (packP L).set (L.length / 8) ((byteAt L (L.length / 8) + bitN b * 2 ^ (L.length % 8) : Nat) : Int) := by
  refine List.ext_getElem? fun i => ?_
  rw [List.getElem?_set]
  unfold packM packP
  simp only [List.length_append, List.length_cons, List.length_nil, List.length_map, List.length_range, List.getElem?_map]
  have e : (L.length + (0 + 1) + 7) / 8 = L.length / 8 + 1 := by omega
  rw [e]
  split
  · rename_i h
    subst h
    rw [if_pos (by omega), List.getElem?_range (by omega)]
    simp only [Option.map_some]
    rw [byteAt_here.1]
  · rename_i h
    rcases Nat.lt_or_ge i (L.length / 8 + 1) with hi | hi
    · rw [List.getElem?_range hi]
      simp only [Option.map_some]
      rw [byteAt_other (fun h2 => h h2.symm)]
    · rw [List.getElem?_eq_none (by simpa using hi)]
      rfl
theorem packP_0 {L : List Bool} (h : L.length % 8 = 0) : packP L = packM L ++ [0] := by
  unfold packP packM
  have e : (L.length + 7) / 8 = L.length / 8 := by omega
  rw [e, List.range_succ, List.map_append]
  have : byteAt L (L.length / 8) = 0 := by
    have := (byteAt_here (L := L) (b := false)).2
    rw [h] at this
    omega
  simp [this]
theorem packP_n {L : List Bool} (h : L.length % 8 ≠ 0) : packP L = packM L := by
  unfold packP packM
  have e : (L.length + 7) / 8 = L.length / 8 + 1 := by omega
  rw [e]
theorem byteAt_le (L : List Bool) (j : Nat) : byteAt L j ≤ 255 := by
  have l0 := bitN_lt (bitAt L (8 * j))
  have l1 := bitN_lt (bitAt L (8 * j + 1))
  have l2 := bitN_lt (bitAt L (8 * j + 2))
  have l3 := bitN_lt (bitAt L (8 * j + 3))
  have l4 := bitN_lt (bitAt L (8 * j + 4))
  have l5 := bitN_lt (bitAt L (8 * j + 5))
  have l6 := bitN_lt (bitAt L (8 * j + 6))
  have l7 := bitN_lt (bitAt L (8 * j + 7))
  unfold byteAt
  omega

/-! ### the operations on numbers -/
theorem or_byte : ∀ r : Fin 8, ∀ b : Fin 2, ∀ x : Fin 128, x.val < 2 ^ r.val → bOr .u8 ((x.val : Nat) : Int) (shL .u8 ((b.val : Nat) : Int) ((r.val : Nat) : Int)) = ((x.val + b.val * 2 ^ r.val : Nat) : Int) := by decide +kernel
theorem shR_div {v : Int} {i : Nat} (h0 : 0 ≤ v) (hi : i ≤ 64) : shR .u64 v (i : Int) = ((v.toNat / 2 ^ i : Nat) : Int) := by
  unfold shR
  rw [Int.toNat_natCast, show min i (IntKind.bits .u64) = i from Nat.min_eq_left hi]
  obtain ⟨n, rfl⟩ := Int.eq_ofNat_of_zero_le h0
  rw [Int.fdiv_eq_ediv_of_nonneg _ (by exact_mod_cast Nat.zero_le (2 ^ i))]
  simp
theorem and_one {x : Int} (h0 : 0 ≤ x) (h1 : x ≤ 18446744073709551615) : bAnd .u64 x 1 = x % 2 := by
  unfold bAnd
  rw [BitVec.toNat_and, BitVec.toNat_ofInt, BitVec.toNat_ofInt]
  have e1 : (1 % ((2 ^ IntKind.bits .u64 : Nat) : Int)).toNat = 1 := by decide
  have e2 : (x % ((2 ^ IntKind.bits .u64 : Nat) : Int)).toNat = x.toNat := by
    have : ((2 ^ IntKind.bits .u64 : Nat) : Int) = 18446744073709551616 := by decide
    rw [this]; omega
  rw [e1, e2, Nat.and_one_is_mod]
  rw [IntKind.wrap_u64]
  omega
theorem bit_at {v : Int} {i : Nat} (h0 : 0 ≤ v) (h1 : v ≤ 18446744073709551615) (hi : i ≤ 64) : IntKind.wrap .u8 (bAnd .u64 (shR .u64 v (i : Int)) 1) = (bitN (v.toNat.testBit i) : Int) := by
  have hd : v.toNat / 2 ^ i ≤ v.toNat := Nat.div_le_self _ _
  rw [shR_div h0 hi, Nat.testBit_eq_decide_div_mod_eq]
  generalize v.toNat / 2 ^ i = q at hd
  rw [and_one (by omega) (by omega)]
  have : q % 2 = 0 ∨ q % 2 = 1 := by omega
  rcases this with h | h
  · have e : (q : Int) % 2 = 0 := by omega
    rw [e, h]; decide
  · have e : (q : Int) % 2 = 1 := by omega
    rw [e, h]; decide

end Go.Proofs.YtchhhjlpnecjkaaGreat

namespace Go.Proofs.YtchhhjlpnecjkaaGreat
open Go Go.RowKit Go.Proofs.YtchhhjlpnecjkaaGreat.Den
variable {R : Type} {Q : R → World → Prop} {w : World}

theorem bytes_ty : SlTy Tryz.prog 22 5 u8T 1 := slTy (by kernel_rfl)
/-- a writer that has the bits L. -/
def Wr (b : Nat) (L : List Bool) : OB := fun F w => L.length ≤ 1048576 ∧ F b ∧ ∃ s : Sl, Blk w b 154 [.slice s.a s.n s.c, .int .i64 (L.length : Int)] ∧ Own (fun k => F k ∧ k ≠ b) w 5 u8T s (packM L)
theorem Wr.st {b : Nat} {L : List Bool} : St (Wr b L) := fun ⟨h1, h2, s, h3, h4⟩ f hs =>
  ⟨h1, (hs b h3.lt h2).2, s, h3.fr f (hs b h3.lt h2).1, Own.st h4 f fun k hk e => ⟨(hs k hk e.1).1, (hs k hk e.1).2, e.2⟩⟩
theorem spec_bits_New {K : Res [.sc .ptr] → W R} (hk : ∀ b w', Wr b [] (Up w.heap.size) w' → Fr None w w' → K (some ⟨b, 0, none⟩) Q w') : callW Tryz.prog k_bits_New [] [.sc .ptr] K Q w := by
  refine C_bits_New K Q w ?_
  unfold F_bits_New
  refine newI fun w1 B1 f1 s1 => ?_
  exact hk _ w1 ⟨by simp, Nat.le_refl _, ⟨none, 0, 0⟩, B1, Own.nil _ _ _ _⟩ f1

def putB (L : List Bool) (v n : Int) : Int × List Bool :=
  if n < 0 ∨ 64 < n then (1, L) else if n < 64 ∧ v.toNat / 2 ^ n.toNat ≠ 0 then (5, L) else if 1048576 < (L.length : Int) + n then (3, L) else (0, L ++ bitsOf v.toNat n.toNat)
theorem spec_bits_Put {b : Nat} {L : List Bool} {F : Nat → Prop} (h : Wr b L F w) {v n : Int} (hv : 0 ≤ v ∧ v ≤ 18446744073709551615) (hn : -9223372036854775808 ≤ n ∧ n ≤ 9223372036854775807) {K : Res [.sc (.int .i64)] → W R} (hk : ∀ w', Wr b (putB L v n).2 (Ex F w) w' → Fr F w w' → K (putB L v n).1 Q w') :
    callW Tryz.prog k_bits_Writer_Put [.pointer (some ⟨b, 0, none⟩), .int .u64 v, .int .i64 n] [.sc (.int .i64)] K Q w := by
  refine C_bits_Writer_Put _ _ _ K Q w ?_
  unfold F_bits_Writer_Put
  have same : Wr b L (Ex F w) w := Wr.st.mono h fun k _ e => .inl e
  have hlen := h.1
  obtain ⟨_, hb, s0, B0, _⟩ := h
  refine condF rfl ?_
  refine joinI (fun z w' => z = decide (n < 0 ∨ 64 < n) ∧ w' = w) ?_ ?_
  · refine condD (fun h => ⟨by simp [h], rfl⟩) fun h => ⟨?_, rfl⟩
    simp only [h, false_or]
  rintro z w1 ⟨rfl, rfl⟩
  refine condD (fun h1 => ?_) fun h1 => ?_
  · have e : putB L v n = (1, L) := by rw [putB, if_pos h1]
    rw [e] at hk
    exact hk _ same (Fr.refl _ _)
  have e1 : putB L v n = if n < 64 ∧ v.toNat / 2 ^ n.toNat ≠ 0 then (5, L) else if 1048576 < (L.length : Int) + n then (3, L) else (0, L ++ bitsOf v.toNat n.toNat) := by rw [putB, if_neg h1]
  rw [e1] at hk
  clear e1
  have hn0 : 0 ≤ n ∧ n ≤ 64 := by omega
  clear hn
  obtain ⟨m, rfl⟩ := Int.eq_ofNat_of_zero_le hn0.1
  rw [Int.toNat_natCast] at hk
  refine joinI (fun z w' => z = decide ((m : Int) < 64 ∧ v.toNat / 2 ^ m ≠ 0) ∧ w' = w1) ?_ ?_
  · refine condD (fun h => chkI hn0.1 ⟨?_, rfl⟩) fun h => ⟨by simp [h], rfl⟩
    rw [shR_div hv.1 (by omega)]
    generalize v.toNat / 2 ^ m = q
    by_cases hq : q = 0
    · simp [hq]
    · have : ¬ (q : Int) = 0 := by omega
      simp [hq, h]
  rintro z w2 ⟨rfl, rfl⟩
  refine condD (fun h2 => ?_) fun h2 => ?_
  · rw [if_pos h2] at hk
    exact hk _ same (Fr.refl _ _)
  rw [if_neg h2] at hk
  refine ptrI (fldI B0 (i := 1) (x := (L.length : Int)) rfl ?_)
  rw [w64 (by omega)]
  refine condD (fun h3 => ?_) fun h3 => ?_
  · rw [if_pos h3] at hk
    exact hk _ same (Fr.refl _ _)
  have h3 : ¬ (1048576 : Int) < (L.length : Int) + m := h3
  rw [if_neg h3] at hk
  refine forI (N := m) (fun s : Int => s) (fun j i w' => i = (j : Int) ∧ Wr b (L ++ bitsOf v.toNat j) (Ex F w2) w' ∧ Fr F w2 w') ⟨rfl, by rw [bitsOf, List.append_nil]; exact same, Fr.refl _ _⟩ (fun j s w' h => h.1) ?_ ?_
  · rintro j i w3 K' hj ⟨rfl, hw, f3⟩ - hK
    have hs3 := f3.size
    obtain ⟨L1, hL1⟩ : ∃ L1, L ++ bitsOf v.toNat j = L1 := ⟨_, rfl⟩
    have hl1 : L1.length = L.length + j := by rw [← hL1, List.length_append, bitsOf_len]
    have hnext : L ++ bitsOf v.toNat (j + 1) = L1 ++ [v.toNat.testBit j] := by rw [bitsOf, ← List.append_assoc, hL1]
    rw [hL1] at hw
    obtain ⟨_, hb3, s3, B3, o3⟩ := hw
    refine ptrI (fldI B3 (i := 1) (x := (L1.length : Int)) rfl ?_)
    have hmod : Int.tmod (L1.length : Int) 8 = ((L1.length % 8 : Nat) : Int) := by rw [Int.tmod_eq_emod_of_nonneg (by omega)]; omega
    have hdiv : Int.tdiv (L1.length : Int) 8 = ((L1.length / 8 : Nat) : Int) := by rw [Int.tdiv_eq_ediv_of_nonneg (by omega)]; omega
    refine joinI (fun (_ : Unit) w' => ∃ s4 : Sl, Blk w' b 154 [.slice s4.a s4.n s4.c, .int .i64 (L1.length : Int)] ∧ Own (fun k => Ex F w2 k ∧ k ≠ b) w' 5 u8T s4 (packP L1) ∧ Fr F w2 w') ?_ ?_
    · rw [hmod]
      refine condI (fun hz => ?_) fun hz => ?_
      · have hz : L1.length % 8 = 0 := by
          have : ((L1.length % 8 : Nat) : Int) = 0 := by simpa using hz
          omega
        refine ptrI (fldI B3 (i := 0) (x := s3) rfl ?_)
        have hpl := packM_len L1
        refine appP (x := (0 : Int)) bytes_ty rfl o3 (fun k e => ⟨.inr (by omega), fun e2 => by have := B3.lt; omega⟩) (by omega) (by omega) fun r w4 o4 f4 => ?_
        have B4 := B3.fr f4 fun e => (o3.own b e).2 rfl
        have f24 : Fr F w2 w4 := f3.exS f4 fun k e => (o3.own k e).1
        refine ptrI ?_
        rw [add_lit]
        refine setI (i := 0) B4 (Nat.zero_lt_succ _) rfl fun w5 B5 f5 s5 => ?_
        refine ⟨r, B5, ?_, f24.exS f5 fun k e => by rw [e]; exact .inl hb⟩
        rw [packP_0 hz]
        exact o4.fr f5 fun k e e2 => e.2 e2
      · have hz : L1.length % 8 ≠ 0 := by
          intro e
          rw [e] at hz
          simp at hz
        exact ⟨s3, B3, by rw [packP_n hz]; exact o3, f3⟩
    · rintro _ w4 ⟨s4, B4, o4, f4⟩
      have fd : Fr None w4 w4.drew := (Fr.refl _ _).drew
      have B4 := B4.fr fd fun h => h
      have o4 := o4.none fd
      have f4 := f4.then0 fd
      have hpl := packP_len L1
      refine ptrI (fldI B4 (i := 0) (x := s4) rfl (ptrI (fldI B4 (i := 1) (x := (L1.length : Int)) rfl ?_)))
      rw [hdiv, w64 (by omega)]
      refine o4.idx rfl (by omega) (by omega) fun g x hg hx hrd => ldI x hrd ?_
      rw [Int.toNat_natCast, packP_at] at hx
      cases hx
      refine chkI (by omega) (ptrI (fldI B4 (i := 1) (x := (L1.length : Int)) rfl ?_))
      rw [hmod]
      refine chkI (by omega) (o4.idx rfl (by omega) (by omega) fun g2 x2 hg2 _ _ => ?_)
      rw [hg] at hg2
      cases hg2
      have hbit := bit_at (i := j) hv.1 hv.2 (by omega)
      rw [hbit]
      have hlt := byteAt_here (L := L1) (b := false)
      have hor : bOr .u8 (byteAt L1 (L1.length / 8) : Int) (shL .u8 (bitN (v.toNat.testBit j) : Int) ((L1.length % 8 : Nat) : Int)) = ((byteAt L1 (L1.length / 8) + bitN (v.toNat.testBit j) * 2 ^ (L1.length % 8) : Nat) : Int) :=
        or_byte ⟨L1.length % 8, Nat.mod_lt _ (by decide)⟩ ⟨bitN (v.toNat.testBit j), by have := bitN_lt (v.toNat.testBit j); omega⟩ ⟨byteAt L1 (L1.length / 8), by
          have h1 := hlt.2
          have h2 : (2 : Nat) ^ (L1.length % 8) ≤ 2 ^ 7 := Nat.pow_le_pow_right (by decide) (by omega)
          omega⟩ hlt.2
      rw [hor, Int.toNat_natCast]
      refine o4.set rfl (i := L1.length / 8) (by omega) hg _ fun w5 o5 f5 s5 => ?_
      rw [← packM_snoc, ← hnext] at o5
      have B5 := B4.fr f5 fun e => (o4.own b e).2 rfl
      refine ptrI (fldI B5 (i := 1) (x := (L1.length : Int)) rfl (ptrI ?_))
      rw [add_lit]
      refine setI (i := 1) B5 (by simp) rfl fun w6 B6 f6 s6 => ?_
      refine hK _ _ ⟨wsucc hj (by omega), ⟨?_, .inl hb, s4, ?_, o5.fr f6 fun k e e2 => e.2 e2⟩, (f4.exS f5 fun k e => (o4.own k e).1).exS f6 fun k e => by rw [e]; exact .inl hb⟩
      · rw [hnext, List.length_append, hl1]; simp; omega
      · rw [hnext, List.length_append]
        have : IntKind.wrap .i64 ((L1.length : Int) + 1) = ((L1.length + 1 : Nat) : Int) := by rw [w64 (by omega)]; rfl
        rw [this] at B6
        exact B6
  · rintro i w3 ⟨rfl, hw, f3⟩
    exact hk _ hw f3
theorem spec_bits_Len {b : Nat} {L : List Bool} {F : Nat → Prop} (h : Wr b L F w) {K : Res [.sc (.int .i64)] → W R} (hk : K (L.length : Int) Q w) : callW Tryz.prog k_bits_Writer_Len [.pointer (some ⟨b, 0, none⟩)] [.sc (.int .i64)] K Q w := by
  refine C_bits_Writer_Len _ K Q w ?_
  unfold F_bits_Writer_Len
  obtain ⟨_, _, s, B, _⟩ := h
  exact condF rfl (ptrI (fldI B (i := 1) (x := (L.length : Int)) rfl hk))

end Go.Proofs.YtchhhjlpnecjkaaGreat

namespace Go.Proofs.YtchhhjlpnecjkaaGreat
open Go Go.RowKit Go.Shelf Go.Proofs.YtchhhjlpnecjkaaGreat.Den
variable {R : Type} {Q : R → World → Prop} {w : World}

def len64Ren : Ren where
  f := fun x => match x with
    | 129 => 163
    | n => n
  t := fun x => match x with
    | 46 => 122
    | 3 => 3
    | 53 => 81
    | 4 => 4
    | 5 => 5
    | 9 => 9
    | n => n
  g := fun n => n
theorem len64Lays : Lays.n129 Tryz.prog len64Ren :=
  { mixed := rfl, f129 := Eq.trans Tryz.func163 rfl, t3 := Tryz.underlying3,
    a3 := Tryz.isAgg3, z3 := Tryz.sizeOf3, v3 := Tryz.zeroValue3, t4 := Tryz.underlying4, a4 := Tryz.isAgg4, z4 := Tryz.sizeOf4,
    v4 := Tryz.zeroValue4, t5 := Tryz.underlying5, a5 := Tryz.isAgg5, z5 := Tryz.sizeOf5, v5 := Tryz.zeroValue5,
    t9 := Tryz.underlying9, a9 := Tryz.isAgg9, z9 := Tryz.sizeOf9, v9 := Tryz.zeroValue9, t46 := Tryz.underlying122,
    a46 := Tryz.isAgg122, z46 := Tryz.sizeOf122, v46 := Tryz.zeroValue122, t53 := Tryz.underlying81, a53 := Tryz.isAgg81, z53 := Tryz.sizeOf81,
    v53 := Tryz.zeroValue81 }
theorem spec_Len64 {x : Int} (h0 : 0 ≤ x) (h1 : x ≤ 18446744073709551615) {K : Res [.sc (.int .i64)] → W R} (hk : K (Lib.bitLen x.toNat : Int) Q w) : callW Tryz.prog k_math_bits_Len64 [.int .u64 x] [.sc (.int .i64)] K Q w :=
  (Any.bits_Len64 len64Lays x w h0 h1).mono fun e w' ⟨h1, h2⟩ => by
    subst h2
    exact ⟨_, h1, hk⟩
theorem wU64 {x : Int} (h : 0 ≤ x ∧ x ≤ 18446744073709551615) : IntKind.wrap .u64 x = x := by rw [IntKind.wrap_u64]; omega

/-! ### numbers from 0 on -/
def groupsM (v : Nat) : Nat := max 1 ((Lib.bitLen v + 3) / 4)
theorem groupsM_le {v : Int} (h0 : 0 ≤ v) (h1 : v ≤ 18446744073709551615) : 1 ≤ groupsM v.toNat ∧ groupsM v.toNat ≤ 16 := by
  have := Any.bitLen_le64 v h0 h1
  unfold groupsM
  omega
theorem spec_nums_groups {v : Int} (h0 : 0 ≤ v) (h1 : v ≤ 18446744073709551615) {K : Res [.sc (.int .i64)] → W R} (hk : K (groupsM v.toNat : Int) Q w) : callW Tryz.prog k_nums_groups [.int .u64 v] [.sc (.int .i64)] K Q w := by
  refine C_nums_groups _ K Q w ?_
  unfold F_nums_groups
  refine spec_Len64 h0 h1 ?_
  have hb := Any.bitLen_le64 v h0 h1
  have e : (if IntKind.wrap .i64 (Int.tdiv (IntKind.wrap .i64 (IntKind.wrap .i64 ((Lib.bitLen v.toNat : Int) + 4) - 1)) 4) > 1 then IntKind.wrap .i64 (Int.tdiv (IntKind.wrap .i64 (IntKind.wrap .i64 ((Lib.bitLen v.toNat : Int) + 4) - 1)) 4) else 1) = (groupsM v.toNat : Int) := by
    rw [w64 (x := (Lib.bitLen v.toNat : Int) + 4) (by omega), w64 (x := (Lib.bitLen v.toNat : Int) + 4 - 1) (by omega), Int.tdiv_eq_ediv_of_nonneg (by omega), w64 (by omega)]
    unfold groupsM
    split <;> omega
  rw [← e] at hk
  exact hk
def grpV (v n j : Nat) : Nat := v / 2 ^ (4 * j) % 16 + if j + 1 < n then 16 else 0
def varL (v n : Nat) : Nat → List Bool
  | 0 => []
  | j + 1 => varL v n j ++ bitsOf (grpV v n j) 5
theorem varL_len (v n : Nat) : ∀ j, (varL v n j).length = 5 * j
  | 0 => rfl
  | j + 1 => by rw [varL, List.length_append, varL_len v n j, bitsOf_len]; omega
/-- a number's bits. -/
def varB (v : Nat) : List Bool := varL v (groupsM v) (groupsM v)
theorem varB_len (v : Nat) : (varB v).length = 5 * groupsM v := varL_len _ _ _
def putVarM (L : List Bool) (v : Nat) : Int × List Bool := if 1048576 < L.length + 5 * groupsM v then (3, L) else (0, L ++ varB v)
theorem and_15 {x : Int} (h0 : 0 ≤ x) (h1 : x ≤ 18446744073709551615) : bAnd .u64 x 15 = x % 16 := by
  unfold bAnd
  rw [BitVec.toNat_and, BitVec.toNat_ofInt, BitVec.toNat_ofInt]
  have e1 : (15 % ((2 ^ IntKind.bits .u64 : Nat) : Int)).toNat = 2 ^ 4 - 1 := by decide
  have e2 : (x % ((2 ^ IntKind.bits .u64 : Nat) : Int)).toNat = x.toNat := by
    have : ((2 ^ IntKind.bits .u64 : Nat) : Int) = 18446744073709551616 := by decide
    rw [this]; omega
  rw [e1, e2, Nat.and_two_pow_sub_one_eq_mod]
  rw [IntKind.wrap_u64]
  omega
theorem or_16 : ∀ x : Fin 16, bOr .u64 ((x.val : Nat) : Int) 16 = ((x.val + 16 : Nat) : Int) := by decide +kernel
theorem grpV_lt (v n j : Nat) : grpV v n j < 32 := by unfold grpV; split <;> omega
theorem spec_nums_PutVar {b : Nat} {L : List Bool} {F : Nat → Prop} (h : Wr b L F w) {v : Int} (hv : 0 ≤ v ∧ v ≤ 18446744073709551615) {K : Res [.sc (.int .i64)] → W R} (hk : ∀ w', Wr b (putVarM L v.toNat).2 (Ex F w) w' → Fr F w w' → K (putVarM L v.toNat).1 Q w') :
    callW Tryz.prog k_nums_PutVar [.pointer (some ⟨b, 0, none⟩), .int .u64 v] [.sc (.int .i64)] K Q w := by
  refine C_nums_PutVar _ _ K Q w ?_
  unfold F_nums_PutVar
  obtain ⟨hg1, hg2⟩ := groupsM_le hv.1 hv.2
  have hlen := h.1
  refine spec_nums_groups hv.1 hv.2 (condF rfl (spec_bits_Len h ?_))
  obtain ⟨g, hg⟩ : ∃ g, groupsM v.toNat = g := ⟨_, rfl⟩
  unfold putVarM varB at hk
  rw [hg] at hg1 hg2 hk ⊢
  rw [w64 (x := (g : Int) * 5) (by omega), w64 (by omega)]
  refine condD (fun h3 => ?_) fun h3 => ?_
  · have h3 : (1048576 : Int) < (L.length : Int) + (g : Int) * 5 := h3
    rw [if_pos (by omega)] at hk
    exact hk w (Wr.st.mono h fun k _ e => .inl e) (Fr.refl _ _)
  have h3 : ¬ (1048576 : Int) < (L.length : Int) + (g : Int) * 5 := h3
  rw [if_neg (by omega)] at hk
  refine forI (N := g) (fun s : Int => s) (fun j i w' => i = (j : Int) ∧ Wr b (L ++ varL v.toNat g j) (Ex F w) w' ∧ Fr F w w') ⟨rfl, by rw [varL, List.append_nil]; exact Wr.st.mono h fun k _ e => .inl e, Fr.refl _ _⟩ (fun j s w' h => h.1) ?_ ?_
  · rintro j i w3 K' hj ⟨rfl, hw, f3⟩ - hK
    have hs3 := f3.size
    rw [w64 (x := 4 * (j : Int)) (by omega), w64 (x := (g : Int) - 1) (by omega)]
    refine chkI (by omega) ?_
    have e4 : (4 * (j : Int)) = ((4 * j : Nat) : Int) := by omega
    have hd : v.toNat / 2 ^ (4 * j) ≤ v.toNat := Nat.div_le_self _ _
    have ea : bAnd .u64 (shR .u64 v (4 * (j : Int))) 15 = ((v.toNat / 2 ^ (4 * j) % 16 : Nat) : Int) := by
      rw [e4, shR_div hv.1 (by omega)]
      generalize v.toNat / 2 ^ (4 * j) = q at hd
      rw [and_15 (by omega) (by omega)]
      omega
    refine joinI (fun z w' => z = (grpV v.toNat g j : Int) ∧ w' = w3) ?_ ?_
    · refine condD (fun h => ⟨?_, rfl⟩) fun h => ⟨?_, rfl⟩
      · rw [ea, or_16 ⟨v.toNat / 2 ^ (4 * j) % 16, Nat.mod_lt _ (by decide)⟩]
        unfold grpV
        rw [if_pos (by omega)]
      · rw [ea]
        unfold grpV
        rw [if_neg (by omega), Nat.add_zero]
    rintro z w4 ⟨rfl, rfl⟩
    have hlt := grpV_lt v.toNat g j
    have hll := varL_len v.toNat g j
    have ep : putB (L ++ varL v.toNat g j) (grpV v.toNat g j : Int) 5 = (0, L ++ varL v.toNat g (j + 1)) := by
      rw [putB, if_neg (by omega), if_neg, if_neg (by rw [List.length_append, hll]; omega)]
      · rw [Int.toNat_natCast, show (5 : Int).toNat = 5 from rfl, varL, List.append_assoc]
      · rintro ⟨_, h⟩
        apply h
        rw [Int.toNat_natCast, show (5 : Int).toNat = 5 from rfl]
        exact Nat.div_eq_of_lt (by omega)
    refine spec_bits_Put hw (v := (grpV v.toNat g j : Int)) (n := 5) (by omega) (by omega) fun w5 hw5 f5 => ?_
    rw [ep] at hw5
    have hs5 := f5.size
    refine hK _ _ ⟨wsucc hj (by omega), Wr.st.mono hw5 fun k _ e => ?_, f3.exS f5 fun k e => e⟩
    rcases e with e | e
    · exact e
    · exact .inr (by omega)
  · rintro i w3 ⟨rfl, hw, f3⟩
    exact hk _ hw f3

/-! ### numbers of a range -/
def widthM (lo hi : Int) : Nat := if hi < lo then 0 else Lib.bitLen (hi - lo).toNat
theorem w64_range {lo hi : Int} (h1 : -9223372036854775808 ≤ lo) (h2 : lo ≤ hi) (h3 : hi ≤ 9223372036854775807) : IntKind.wrap .u64 (IntKind.wrap .u64 hi - IntKind.wrap .u64 lo) = hi - lo := by
  rw [IntKind.wrap_u64, IntKind.wrap_u64, IntKind.wrap_u64]
  omega
theorem spec_nums_Width {lo hi : Int} (h1 : -9223372036854775808 ≤ lo ∧ lo ≤ 9223372036854775807) (h2 : -9223372036854775808 ≤ hi ∧ hi ≤ 9223372036854775807) {K : Res [.sc (.int .i64)] → W R} (hk : K (widthM lo hi : Int) Q w) : callW Tryz.prog k_nums_Width [.int .i64 lo, .int .i64 hi] [.sc (.int .i64)] K Q w := by
  refine C_nums_Width _ _ K Q w ?_
  unfold F_nums_Width
  unfold widthM at hk
  refine condD (fun h => ?_) fun h => ?_
  · rw [if_pos h] at hk
    exact hk
  · rw [if_neg h] at hk
    rw [w64_range h1.1 (by omega) h2.2]
    exact spec_Len64 (by omega) (by omega) hk
def putInM (L : List Bool) (n lo hi : Int) : Int × List Bool := if hi < lo then (1, L) else if n < lo ∨ hi < n then (5, L) else putB L (n - lo) (widthM lo hi)
theorem spec_nums_PutIn {b : Nat} {L : List Bool} {F : Nat → Prop} (h : Wr b L F w) {n lo hi : Int} (h1 : -9223372036854775808 ≤ lo ∧ lo ≤ 9223372036854775807) (h2 : -9223372036854775808 ≤ hi ∧ hi ≤ 9223372036854775807) {K : Res [.sc (.int .i64)] → W R}
    (hk : ∀ w', Wr b (putInM L n lo hi).2 (Ex F w) w' → Fr F w w' → K (putInM L n lo hi).1 Q w') :
    callW Tryz.prog k_nums_PutIn [.pointer (some ⟨b, 0, none⟩), .int .i64 n, .int .i64 lo, .int .i64 hi] [.sc (.int .i64)] K Q w := by
  refine C_nums_PutIn _ _ _ _ K Q w ?_
  unfold F_nums_PutIn
  unfold putInM at hk
  have same : Wr b L (Ex F w) w := Wr.st.mono h fun k _ e => .inl e
  refine condF rfl (condD (fun h3 => ?_) fun h3 => ?_)
  · rw [if_pos h3] at hk
    exact hk _ same (Fr.refl _ _)
  rw [if_neg h3] at hk
  refine joinI (fun z w' => z = decide (n < lo ∨ hi < n) ∧ w' = w) ?_ ?_
  · refine condD (fun h => ⟨by simp [h], rfl⟩) fun h => ⟨?_, rfl⟩
    simp [h]
  rintro z w1 ⟨rfl, rfl⟩
  refine condD (fun h4 => ?_) fun h4 => ?_
  · rw [if_pos h4] at hk
    exact hk _ same (Fr.refl _ _)
  rw [if_neg h4] at hk
  refine spec_nums_Width h1 h2 ?_
  rw [w64_range (lo := lo) (hi := n) h1.1 (by omega) (by omega)]
  have hw : (widthM lo hi : Int) ≤ 64 := by
    unfold widthM
    split
    · decide
    · have := Any.bitLen_le64 (hi - lo) (by omega) (by omega)
      omega
  exact spec_bits_Put h (by omega) (by omega) hk

end Go.Proofs.YtchhhjlpnecjkaaGreat
