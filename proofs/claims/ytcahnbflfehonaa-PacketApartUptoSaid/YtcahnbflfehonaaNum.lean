/-
  nums: numbers as few bits.
-/
import Derived.Shelf.Lays
import Derived.Shelf.Small.Bits
import Derived.Test.YtcahnbflfehonaaBit
namespace Go.Proofs.Ytcahnbflfehonaa
open Go Go.RowKit Go.Shelf Go.Proofs.Ytcahnbflfehonaa.Den
variable {R : Type} {Q : R → World → Prop} {w : World}

def len64Ren : Ren where
  f := fun x => match x with
    | 129 => 69
    | n => n
  t := fun x => match x with
    | 46 => 135
    | 3 => 3
    | 53 => 76
    | 4 => 4
    | 5 => 5
    | 9 => 9
    | n => n
  g := fun n => n
theorem len64Lays : Lays.n129 Try.prog len64Ren :=
  { mixed := rfl, f129 := Eq.trans Try.func69 rfl, t3 := Try.underlying3,
    a3 := Try.isAgg3, z3 := Try.sizeOf3, v3 := Try.zeroValue3, t4 := Try.underlying4, a4 := Try.isAgg4, z4 := Try.sizeOf4,
    v4 := Try.zeroValue4, t5 := Try.underlying5, a5 := Try.isAgg5, z5 := Try.sizeOf5, v5 := Try.zeroValue5,
    t9 := Try.underlying9, a9 := Try.isAgg9, z9 := Try.sizeOf9, v9 := Try.zeroValue9, t46 := Try.underlying135,
    a46 := Try.isAgg135, z46 := Try.sizeOf135, v46 := Try.zeroValue135, t53 := Try.underlying76, a53 := Try.isAgg76, z53 := Try.sizeOf76,
    v53 := Try.zeroValue76 }
theorem spec_Len64 {x : Int} (h0 : 0 ≤ x) (h1 : x ≤ 18446744073709551615) {K : Res [.sc (.int .i64)] → W R} (hk : K (Lib.bitLen x.toNat : Int) Q w) : callW Try.prog k_math_bits_Len64 [.int .u64 x] [.sc (.int .i64)] K Q w :=
  (Any.bits_Len64 len64Lays x w h0 h1).mono fun e w' ⟨h1, h2⟩ => by
    subst h2
    exact ⟨_, h1, hk⟩
theorem wU64 {x : Int} (h : 0 ≤ x ∧ x ≤ 18446744073709551615) : IntKind.wrap .u64 x = x := by rw [IntKind.wrap_u64]; omega

/-! ### numbers from 0 on -/
def groupsM (v : Nat) : Nat := max 1 ((Lib.bitLen v + 3) / 4)
theorem groupsM_le {v : Int} (h0 : 0 ≤ v) (h1 : v ≤ 18446744073709551615) : 1 ≤ groupsM v.toNat ∧ groupsM v.toNat ≤ 16 := by
  have := Any.bitLen_le64 v h0 h1
  unfold groupsM
  omega
theorem spec_nums_groups {v : Int} (h0 : 0 ≤ v) (h1 : v ≤ 18446744073709551615) {K : Res [.sc (.int .i64)] → W R} (hk : K (groupsM v.toNat : Int) Q w) : callW Try.prog k_nums_groups [.int .u64 v] [.sc (.int .i64)] K Q w := by
  refine C_nums_groups _ K Q w ?_
  unfold F_nums_groups
  refine spec_Len64 h0 h1 ?_
  have hb := Any.bitLen_le64 v h0 h1
  have e : (if IntKind.wrap .i64 (Int.tdiv (IntKind.wrap .i64 (IntKind.wrap .i64 ((Lib.bitLen v.toNat : Int) + 4) - 1)) 4) > 1 then IntKind.wrap .i64 (Int.tdiv (IntKind.wrap .i64 (IntKind.wrap .i64 ((Lib.bitLen v.toNat : Int) + 4) - 1)) 4) else 1) = (groupsM v.toNat : Int) := by
    rw [w64 (x := (Lib.bitLen v.toNat : Int) + 4) (by omega), w64 (x := (Lib.bitLen v.toNat : Int) + 4 - 1) (by omega), Int.tdiv_eq_ediv_of_nonneg (by omega), w64 (by omega)]
    unfold groupsM
    split <;> omega
  rw [← e] at hk
  exact hk
def grpV (v n j : Nat) : Nat := v / 2 ^ (4 * j) % 16 + if j + 1 < n then 16 else 0
def varL (v n : Nat) : Nat → List Bool
  | 0 => []
  | j + 1 => varL v n j ++ bitsOf (grpV v n j) 5
theorem varL_len (v n : Nat) : ∀ j, (varL v n j).length = 5 * j
  | 0 => rfl
  | j + 1 => by rw [varL, List.length_append, varL_len v n j, bitsOf_len]; omega
/-- a number's bits. -/
def varB (v : Nat) : List Bool := varL v (groupsM v) (groupsM v)
theorem varB_len (v : Nat) : (varB v).length = 5 * groupsM v := varL_len _ _ _
def putVarM (L : List Bool) (v : Nat) : Int × List Bool := if 1048576 < L.length + 5 * groupsM v then (3, L) else (0, L ++ varB v)
theorem and_15 {x : Int} (h0 : 0 ≤ x) (h1 : x ≤ 18446744073709551615) : bAnd .u64 x 15 = x % 16 := by
  unfold bAnd
  rw [BitVec.toNat_and, BitVec.toNat_ofInt, BitVec.toNat_ofInt]
  have e1 : (15 % ((2 ^ IntKind.bits .u64 : Nat) : Int)).toNat = 2 ^ 4 - 1 := by decide
  have e2 : (x % ((2 ^ IntKind.bits .u64 : Nat) : Int)).toNat = x.toNat := by
    have : ((2 ^ IntKind.bits .u64 : Nat) : Int) = 18446744073709551616 := by decide
    rw [this]; omega
  rw [e1, e2, Nat.and_two_pow_sub_one_eq_mod]
  rw [IntKind.wrap_u64]
  omega
theorem or_16 : ∀ x : Fin 16, bOr .u64 ((x.val : Nat) : Int) 16 = ((x.val + 16 : Nat) : Int) := by decide +kernel
theorem grpV_lt (v n j : Nat) : grpV v n j < 32 := by unfold grpV; split <;> omega
theorem spec_nums_PutVar {b : Nat} {L : List Bool} {F : Nat → Prop} (h : Wr b L F w) {v : Int} (hv : 0 ≤ v ∧ v ≤ 18446744073709551615) {K : Res [.sc (.int .i64)] → W R} (hk : ∀ w', Wr b (putVarM L v.toNat).2 (Ex F w) w' → Fr F w w' → K (putVarM L v.toNat).1 Q w') :
    callW Try.prog k_nums_PutVar [.pointer (some ⟨b, 0, none⟩), .int .u64 v] [.sc (.int .i64)] K Q w := by
  refine C_nums_PutVar _ _ K Q w ?_
  unfold F_nums_PutVar
  obtain ⟨hg1, hg2⟩ := groupsM_le hv.1 hv.2
  have hlen := h.1
  refine spec_nums_groups hv.1 hv.2 (condF rfl (spec_bits_Len h ?_))
  obtain ⟨g, hg⟩ : ∃ g, groupsM v.toNat = g := ⟨_, rfl⟩
  unfold putVarM varB at hk
  rw [hg] at hg1 hg2 hk ⊢
  rw [w64 (x := (g : Int) * 5) (by omega), w64 (by omega)]
  refine condD (fun h3 => ?_) fun h3 => ?_
  · have h3 : (1048576 : Int) < (L.length : Int) + (g : Int) * 5 := h3
    rw [if_pos (by omega)] at hk
    exact hk w (Wr.st.mono h fun k _ e => .inl e) (Fr.refl _ _)
  have h3 : ¬ (1048576 : Int) < (L.length : Int) + (g : Int) * 5 := h3
  rw [if_neg (by omega)] at hk
  refine forI (N := g) (fun s : Int => s) (fun j i w' => i = (j : Int) ∧ Wr b (L ++ varL v.toNat g j) (Ex F w) w' ∧ Fr F w w') ⟨rfl, by rw [varL, List.append_nil]; exact Wr.st.mono h fun k _ e => .inl e, Fr.refl _ _⟩ (fun j s w' h => h.1) ?_ ?_
  · rintro j i w3 K' hj ⟨rfl, hw, f3⟩ - hK
    have hs3 := f3.size
    rw [w64 (x := 4 * (j : Int)) (by omega), w64 (x := (g : Int) - 1) (by omega)]
    refine chkI (by omega) ?_
    have e4 : (4 * (j : Int)) = ((4 * j : Nat) : Int) := by omega
    have hd : v.toNat / 2 ^ (4 * j) ≤ v.toNat := Nat.div_le_self _ _
    have ea : bAnd .u64 (shR .u64 v (4 * (j : Int))) 15 = ((v.toNat / 2 ^ (4 * j) % 16 : Nat) : Int) := by
      rw [e4, shR_div hv.1 (by omega)]
      generalize v.toNat / 2 ^ (4 * j) = q at hd
      rw [and_15 (by omega) (by omega)]
      omega
    refine joinI (fun z w' => z = (grpV v.toNat g j : Int) ∧ w' = w3) ?_ ?_
    · refine condD (fun h => ⟨?_, rfl⟩) fun h => ⟨?_, rfl⟩
      · rw [ea, or_16 ⟨v.toNat / 2 ^ (4 * j) % 16, Nat.mod_lt _ (by decide)⟩]
        unfold grpV
        rw [if_pos (by omega)]
      · rw [ea]
        unfold grpV
        rw [if_neg (by omega), Nat.add_zero]
    rintro z w4 ⟨rfl, rfl⟩
    have hlt := grpV_lt v.toNat g j
    have hll := varL_len v.toNat g j
    have ep : putB (L ++ varL v.toNat g j) (grpV v.toNat g j : Int) 5 = (0, L ++ varL v.toNat g (j + 1)) := by
      rw [putB, if_neg (by omega), if_neg, if_neg (by rw [List.length_append, hll]; omega)]
      · rw [Int.toNat_natCast, show (5 : Int).toNat = 5 from rfl, varL, List.append_assoc]
      · rintro ⟨_, h⟩
        apply h
        rw [Int.toNat_natCast, show (5 : Int).toNat = 5 from rfl]
        exact Nat.div_eq_of_lt (by omega)
    refine spec_bits_Put hw (v := (grpV v.toNat g j : Int)) (n := 5) (by omega) (by omega) fun w5 hw5 f5 => ?_
    rw [ep] at hw5
    have hs5 := f5.size
    refine hK _ _ ⟨wsucc hj (by omega), Wr.st.mono hw5 fun k _ e => ?_, f3.exS f5 fun k e => e⟩
    rcases e with e | e
    · exact e
    · exact .inr (by omega)
  · rintro i w3 ⟨rfl, hw, f3⟩
    exact hk _ hw f3

/-! ### numbers of a range -/
def widthM (lo hi : Int) : Nat := if hi < lo then 0 else Lib.bitLen (hi - lo).toNat
theorem w64_range {lo hi : Int} (h1 : -9223372036854775808 ≤ lo) (h2 : lo ≤ hi) (h3 : hi ≤ 9223372036854775807) : IntKind.wrap .u64 (IntKind.wrap .u64 hi - IntKind.wrap .u64 lo) = hi - lo := by
  rw [IntKind.wrap_u64, IntKind.wrap_u64, IntKind.wrap_u64]
  omega
theorem spec_nums_Width {lo hi : Int} (h1 : -9223372036854775808 ≤ lo ∧ lo ≤ 9223372036854775807) (h2 : -9223372036854775808 ≤ hi ∧ hi ≤ 9223372036854775807) {K : Res [.sc (.int .i64)] → W R} (hk : K (widthM lo hi : Int) Q w) : callW Try.prog k_nums_Width [.int .i64 lo, .int .i64 hi] [.sc (.int .i64)] K Q w := by
  refine C_nums_Width _ _ K Q w ?_
  unfold F_nums_Width
  unfold widthM at hk
  refine condD (fun h => ?_) fun h => ?_
  · rw [if_pos h] at hk
    exact hk
  · rw [if_neg h] at hk
    rw [w64_range h1.1 (by omega) h2.2]
    exact spec_Len64 (by omega) (by omega) hk
def putInM (L : List Bool) (n lo hi : Int) : Int × List Bool := if hi < lo then (1, L) else if n < lo ∨ hi < n then (5, L) else putB L (n - lo) (widthM lo hi)
theorem spec_nums_PutIn {b : Nat} {L : List Bool} {F : Nat → Prop} (h : Wr b L F w) {n lo hi : Int} (h1 : -9223372036854775808 ≤ lo ∧ lo ≤ 9223372036854775807) (h2 : -9223372036854775808 ≤ hi ∧ hi ≤ 9223372036854775807) {K : Res [.sc (.int .i64)] → W R}
    (hk : ∀ w', Wr b (putInM L n lo hi).2 (Ex F w) w' → Fr F w w' → K (putInM L n lo hi).1 Q w') :
    callW Try.prog k_nums_PutIn [.pointer (some ⟨b, 0, none⟩), .int .i64 n, .int .i64 lo, .int .i64 hi] [.sc (.int .i64)] K Q w := by
  refine C_nums_PutIn _ _ _ _ K Q w ?_
  unfold F_nums_PutIn
  unfold putInM at hk
  have same : Wr b L (Ex F w) w := Wr.st.mono h fun k _ e => .inl e
  refine condF rfl (condD (fun h3 => ?_) fun h3 => ?_)
  · rw [if_pos h3] at hk
    exact hk _ same (Fr.refl _ _)
  rw [if_neg h3] at hk
  refine joinI (fun z w' => z = decide (n < lo ∨ hi < n) ∧ w' = w) ?_ ?_
  · refine condD (fun h => ⟨by simp [h], rfl⟩) fun h => ⟨?_, rfl⟩
    simp [h]
  rintro z w1 ⟨rfl, rfl⟩
  refine condD (fun h4 => ?_) fun h4 => ?_
  · rw [if_pos h4] at hk
    exact hk _ same (Fr.refl _ _)
  rw [if_neg h4] at hk
  refine spec_nums_Width h1 h2 ?_
  rw [w64_range (lo := lo) (hi := n) h1.1 (by omega) (by omega)]
  have hw : (widthM lo hi : Int) ≤ 64 := by
    unfold widthM
    split
    · decide
    · have := Any.bitLen_le64 (hi - lo) (by omega) (by omega)
      omega
  exact spec_bits_Put h (by omega) (by omega) hk

end Go.Proofs.Ytcahnbflfehonaa
