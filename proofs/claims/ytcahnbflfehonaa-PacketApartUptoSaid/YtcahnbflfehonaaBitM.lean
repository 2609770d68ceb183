/-
  Plain law: bits in bytes.
-/
import Derived.Test.YtcahnbflfehonaaRul
namespace Go.Proofs.Ytcahnbflfehonaa
open Go Go.RowKit Go.Proofs.Ytcahnbflfehonaa.Den

def bitN (b : Bool) : Nat := if b = true then 1 else 0
theorem bitN_lt (b : Bool) : bitN b ≤ 1 := by cases b <;> decide
/-- the n lowest bits of a number, the least one first. -/
def bitsOf (v : Nat) : Nat → List Bool
  | 0 => []
  | n + 1 => bitsOf v n ++ [v.testBit n]
theorem bitsOf_len (v : Nat) : ∀ n, (bitsOf v n).length = n
  | 0 => rfl
  | n + 1 => by simp [bitsOf, bitsOf_len v n]
def bitAt (L : List Bool) (k : Nat) : Bool := (L[k]?).getD false
def byteAt (L : List Bool) (j : Nat) : Nat :=
  bitN (bitAt L (8 * j)) + 2 * bitN (bitAt L (8 * j + 1)) + 4 * bitN (bitAt L (8 * j + 2)) + 8 * bitN (bitAt L (8 * j + 3)) + 16 * bitN (bitAt L (8 * j + 4)) + 32 * bitN (bitAt L (8 * j + 5)) + 64 * bitN (bitAt L (8 * j + 6)) + 128 * bitN (bitAt L (8 * j + 7))
/-- as few bytes as have them. -/
def packM (L : List Bool) : List Int := (List.range ((L.length + 7) / 8)).map fun j => (byteAt L j : Int)
/-- .. with room for one bit more. -/
def packP (L : List Bool) : List Int := (List.range (L.length / 8 + 1)).map fun j => (byteAt L j : Int)
theorem bitAt_ge {L : List Bool} {k : Nat} (h : L.length ≤ k) : bitAt L k = false := by
  unfold bitAt
  rw [List.getElem?_eq_none h]
  rfl
theorem bitAt_snoc (L : List Bool) (b : Bool) (k : Nat) : bitAt (L ++ [b]) k = if k = L.length then b else bitAt L k := by
  unfold bitAt
  rcases Nat.lt_trichotomy k L.length with h | h | h
  · rw [List.getElem?_append_left h, if_neg (by omega)]
  · subst h
    rw [List.getElem?_append_right (Nat.le_refl _), if_pos rfl, Nat.sub_self]
    rfl
  · rw [if_neg (by omega), List.getElem?_eq_none (by simp; omega), List.getElem?_eq_none (by omega)]
theorem byteAt_other {L : List Bool} {b : Bool} {j : Nat} (h : j ≠ L.length / 8) : byteAt (L ++ [b]) j = byteAt L j := by
  unfold byteAt
  simp only [bitAt_snoc]
  rw [if_neg (by omega), if_neg (by omega), if_neg (by omega), if_neg (by omega), if_neg (by omega), if_neg (by omega), if_neg (by omega), if_neg (by omega)]
theorem byteAt_here {L : List Bool} {b : Bool} : byteAt (L ++ [b]) (L.length / 8) = byteAt L (L.length / 8) + bitN b * 2 ^ (L.length % 8) ∧ byteAt L (L.length / 8) < 2 ^ (L.length % 8) := by
  obtain ⟨j, r, hr, hL, h1, h2⟩ : ∃ j r, r < 8 ∧ L.length = 8 * j + r ∧ L.length / 8 = j ∧ L.length % 8 = r := ⟨L.length / 8, L.length % 8, Nat.mod_lt _ (by decide), by omega, rfl, rfl⟩
  rw [h1, h2]
  have ge : ∀ k, 8 * j + r ≤ k → bitAt L k = false := fun k hk => bitAt_ge (by omega)
  have l0 := bitN_lt (bitAt L (8 * j))
  have l1 := bitN_lt (bitAt L (8 * j + 1))
  have l2 := bitN_lt (bitAt L (8 * j + 2))
  have l3 := bitN_lt (bitAt L (8 * j + 3))
  have l4 := bitN_lt (bitAt L (8 * j + 4))
  have l5 := bitN_lt (bitAt L (8 * j + 5))
  have l6 := bitN_lt (bitAt L (8 * j + 6))
  have z : bitN false = 0 := rfl
  unfold byteAt
  simp only [bitAt_snoc, hL]
  have : r = 0 ∨ r = 1 ∨ r = 2 ∨ r = 3 ∨ r = 4 ∨ r = 5 ∨ r = 6 ∨ r = 7 := by omega
  rcases this with rfl | rfl | rfl | rfl | rfl | rfl | rfl | rfl
  · rw [ge (8 * j) (by omega), ge (8 * j + 1) (by omega), ge (8 * j + 2) (by omega), ge (8 * j + 3) (by omega), ge (8 * j + 4) (by omega), ge (8 * j + 5) (by omega), ge (8 * j + 6) (by omega), ge (8 * j + 7) (by omega), z]
    simp [z]
  · rw [ge (8 * j + 1) (by omega), ge (8 * j + 2) (by omega), ge (8 * j + 3) (by omega), ge (8 * j + 4) (by omega), ge (8 * j + 5) (by omega), ge (8 * j + 6) (by omega), ge (8 * j + 7) (by omega), z]
    simp [z]; omega
  · rw [ge (8 * j + 2) (by omega), ge (8 * j + 3) (by omega), ge (8 * j + 4) (by omega), ge (8 * j + 5) (by omega), ge (8 * j + 6) (by omega), ge (8 * j + 7) (by omega), z]
    simp [z]; omega
  · rw [ge (8 * j + 3) (by omega), ge (8 * j + 4) (by omega), ge (8 * j + 5) (by omega), ge (8 * j + 6) (by omega), ge (8 * j + 7) (by omega), z]
    simp [z]; omega
  · rw [ge (8 * j + 4) (by omega), ge (8 * j + 5) (by omega), ge (8 * j + 6) (by omega), ge (8 * j + 7) (by omega), z]
    simp [z]; omega
  · rw [ge (8 * j + 5) (by omega), ge (8 * j + 6) (by omega), ge (8 * j + 7) (by omega), z]
    simp [z]; omega
  · rw [ge (8 * j + 6) (by omega), ge (8 * j + 7) (by omega), z]
    simp [z]; omega
  · rw [ge (8 * j + 7) (by omega), z]
    simp [z]; omega
theorem packM_len (L : List Bool) : (packM L).length = (L.length + 7) / 8 := by simp [packM]
theorem packP_len (L : List Bool) : (packP L).length = L.length / 8 + 1 := by simp [packP]
theorem packP_at (L : List Bool) : (packP L)[L.length / 8]? = some (byteAt L (L.length / 8) : Int) := by
  simp [packP]
theorem packM_snoc (L : List Bool) (b : Bool) : packM (L ++ [b]) = (packP L).set (L.length / 8) ((byteAt L (L.length / 8) + bitN b * 2 ^ (L.length % 8) : Nat) : Int) := by
  refine List.ext_getElem? fun i => ?_
  rw [List.getElem?_set]
  unfold packM packP
  simp only [List.length_append, List.length_cons, List.length_nil, List.length_map, List.length_range, List.getElem?_map]
  have e : (L.length + (0 + 1) + 7) / 8 = L.length / 8 + 1 := by omega
  rw [e]
  split
  · rename_i h
    subst h
    rw [if_pos (by omega), List.getElem?_range (by omega)]
    simp only [Option.map_some]
    rw [byteAt_here.1]
  · rename_i h
    rcases Nat.lt_or_ge i (L.length / 8 + 1) with hi | hi
    · rw [List.getElem?_range hi]
      simp only [Option.map_some]
      rw [byteAt_other (fun h2 => h h2.symm)]
    · rw [List.getElem?_eq_none (by simpa using hi)]
      rfl
theorem packP_0 {L : List Bool} (h : L.length % 8 = 0) : packP L = packM L ++ [0] := by
  unfold packP packM
  have e : (L.length + 7) / 8 = L.length / 8 := by omega
  rw [e, List.range_succ, List.map_append]
  have : byteAt L (L.length / 8) = 0 := by
    have := (byteAt_here (L := L) (b := false)).2
    rw [h] at this
    omega
  simp [this]
theorem packP_n {L : List Bool} (h : L.length % 8 ≠ 0) : packP L = packM L := by
  unfold packP packM
  have e : (L.length + 7) / 8 = L.length / 8 + 1 := by omega
  rw [e]
theorem byteAt_le (L : List Bool) (j : Nat) : byteAt L j ≤ 255 := by
  have l0 := bitN_lt (bitAt L (8 * j))
  have l1 := bitN_lt (bitAt L (8 * j + 1))
  have l2 := bitN_lt (bitAt L (8 * j + 2))
  have l3 := bitN_lt (bitAt L (8 * j + 3))
  have l4 := bitN_lt (bitAt L (8 * j + 4))
  have l5 := bitN_lt (bitAt L (8 * j + 5))
  have l6 := bitN_lt (bitAt L (8 * j + 6))
  have l7 := bitN_lt (bitAt L (8 * j + 7))
  unfold byteAt
  omega

/-! ### the operations on numbers -/
theorem or_byte : ∀ r : Fin 8, ∀ b : Fin 2, ∀ x : Fin 128, x.val < 2 ^ r.val → bOr .u8 ((x.val : Nat) : Int) (shL .u8 ((b.val : Nat) : Int) ((r.val : Nat) : Int)) = ((x.val + b.val * 2 ^ r.val : Nat) : Int) := by decide +kernel
theorem shR_div {v : Int} {i : Nat} (h0 : 0 ≤ v) (hi : i ≤ 64) : shR .u64 v (i : Int) = ((v.toNat / 2 ^ i : Nat) : Int) := by
  unfold shR
  rw [Int.toNat_natCast, show min i (IntKind.bits .u64) = i from Nat.min_eq_left hi]
  obtain ⟨n, rfl⟩ := Int.eq_ofNat_of_zero_le h0
  rw [Int.fdiv_eq_ediv_of_nonneg _ (by exact_mod_cast Nat.zero_le (2 ^ i))]
  simp
theorem and_one {x : Int} (h0 : 0 ≤ x) (h1 : x ≤ 18446744073709551615) : bAnd .u64 x 1 = x % 2 := by
  unfold bAnd
  rw [BitVec.toNat_and, BitVec.toNat_ofInt, BitVec.toNat_ofInt]
  have e1 : (1 % ((2 ^ IntKind.bits .u64 : Nat) : Int)).toNat = 1 := by decide
  have e2 : (x % ((2 ^ IntKind.bits .u64 : Nat) : Int)).toNat = x.toNat := by
    have : ((2 ^ IntKind.bits .u64 : Nat) : Int) = 18446744073709551616 := by decide
    rw [this]; omega
  rw [e1, e2, Nat.and_one_is_mod]
  rw [IntKind.wrap_u64]
  omega
theorem bit_at {v : Int} {i : Nat} (h0 : 0 ≤ v) (h1 : v ≤ 18446744073709551615) (hi : i ≤ 64) : IntKind.wrap .u8 (bAnd .u64 (shR .u64 v (i : Int)) 1) = (bitN (v.toNat.testBit i) : Int) := by
  have hd : v.toNat / 2 ^ i ≤ v.toNat := Nat.div_le_self _ _
  rw [shR_div h0 hi, Nat.testBit_eq_decide_div_mod_eq]
  generalize v.toNat / 2 ^ i = q at hd
  rw [and_one (by omega) (by omega)]
  have : q % 2 = 0 ∨ q % 2 = 1 := by omega
  rcases this with h | h
  · have e : (q : Int) % 2 = 0 := by omega
    rw [e, h]; decide
  · have e : (q : Int) % 2 = 1 := by omega
    rw [e, h]; decide

end Go.Proofs.Ytcahnbflfehonaa
