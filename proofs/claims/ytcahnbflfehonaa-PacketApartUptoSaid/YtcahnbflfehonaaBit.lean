/-
  bits.Writer: bits, one behind the other.
-/
import Derived.Test.YtcahnbflfehonaaBitM
import Derived.Test.YtcahnbflfehonaaSl2
import Derived.Test.YtcahnbflfehonaaF2
namespace Go.Proofs.Ytcahnbflfehonaa
open Go Go.RowKit Go.Proofs.Ytcahnbflfehonaa.Den
variable {R : Type} {Q : R → World → Prop} {w : World}

theorem bytes_ty : SlTy Try.prog 29 5 u8T 1 := slTy (by kernel_rfl)
/-- a writer that has the bits L. -/
def Wr (b : Nat) (L : List Bool) : OB := fun F w => L.length ≤ 1048576 ∧ F b ∧ ∃ s : Sl, Blk w b 73 [.slice s.a s.n s.c, .int .i64 (L.length : Int)] ∧ Own (fun k => F k ∧ k ≠ b) w 5 u8T s (packM L)
theorem Wr.st {b : Nat} {L : List Bool} : St (Wr b L) := fun ⟨h1, h2, s, h3, h4⟩ f hs =>
  ⟨h1, (hs b h3.lt h2).2, s, h3.fr f (hs b h3.lt h2).1, Own.st h4 f fun k hk e => ⟨(hs k hk e.1).1, (hs k hk e.1).2, e.2⟩⟩
theorem spec_bits_New {K : Res [.sc .ptr] → W R} (hk : ∀ b w', Wr b [] (Up w.heap.size) w' → Fr None w w' → K (some ⟨b, 0, none⟩) Q w') : callW Try.prog k_bits_New [] [.sc .ptr] K Q w := by
  refine C_bits_New K Q w ?_
  unfold F_bits_New
  refine newI fun w1 B1 f1 s1 => ?_
  exact hk _ w1 ⟨by simp, Nat.le_refl _, ⟨none, 0, 0⟩, B1, Own.nil _ _ _ _⟩ f1

def putB (L : List Bool) (v n : Int) : Int × List Bool :=
  if n < 0 ∨ 64 < n then (1, L) else if n < 64 ∧ v.toNat / 2 ^ n.toNat ≠ 0 then (5, L) else if 1048576 < (L.length : Int) + n then (3, L) else (0, L ++ bitsOf v.toNat n.toNat)
theorem spec_bits_Put {b : Nat} {L : List Bool} {F : Nat → Prop} (h : Wr b L F w) {v n : Int} (hv : 0 ≤ v ∧ v ≤ 18446744073709551615) (hn : -9223372036854775808 ≤ n ∧ n ≤ 9223372036854775807) {K : Res [.sc (.int .i64)] → W R} (hk : ∀ w', Wr b (putB L v n).2 (Ex F w) w' → Fr F w w' → K (putB L v n).1 Q w') :
    callW Try.prog k_bits_Writer_Put [.pointer (some ⟨b, 0, none⟩), .int .u64 v, .int .i64 n] [.sc (.int .i64)] K Q w := by
  refine C_bits_Writer_Put _ _ _ K Q w ?_
  unfold F_bits_Writer_Put
  have same : Wr b L (Ex F w) w := Wr.st.mono h fun k _ e => .inl e
  have hlen := h.1
  obtain ⟨_, hb, s0, B0, _⟩ := h
  refine condF rfl ?_
  refine joinI (fun z w' => z = decide (n < 0 ∨ 64 < n) ∧ w' = w) ?_ ?_
  · refine condD (fun h => ⟨by simp [h], rfl⟩) fun h => ⟨?_, rfl⟩
    simp only [h, false_or]
  rintro z w1 ⟨rfl, rfl⟩
  refine condD (fun h1 => ?_) fun h1 => ?_
  · have e : putB L v n = (1, L) := by rw [putB, if_pos h1]
    rw [e] at hk
    exact hk _ same (Fr.refl _ _)
  have e1 : putB L v n = if n < 64 ∧ v.toNat / 2 ^ n.toNat ≠ 0 then (5, L) else if 1048576 < (L.length : Int) + n then (3, L) else (0, L ++ bitsOf v.toNat n.toNat) := by rw [putB, if_neg h1]
  rw [e1] at hk
  clear e1
  have hn0 : 0 ≤ n ∧ n ≤ 64 := by omega
  clear hn
  obtain ⟨m, rfl⟩ := Int.eq_ofNat_of_zero_le hn0.1
  rw [Int.toNat_natCast] at hk
  refine joinI (fun z w' => z = decide ((m : Int) < 64 ∧ v.toNat / 2 ^ m ≠ 0) ∧ w' = w1) ?_ ?_
  · refine condD (fun h => chkI hn0.1 ⟨?_, rfl⟩) fun h => ⟨by simp [h], rfl⟩
    rw [shR_div hv.1 (by omega)]
    generalize v.toNat / 2 ^ m = q
    by_cases hq : q = 0
    · simp [hq]
    · have : ¬ (q : Int) = 0 := by omega
      simp [hq, h]
  rintro z w2 ⟨rfl, rfl⟩
  refine condD (fun h2 => ?_) fun h2 => ?_
  · rw [if_pos h2] at hk
    exact hk _ same (Fr.refl _ _)
  rw [if_neg h2] at hk
  refine ptrI (fldI B0 (i := 1) (x := (L.length : Int)) rfl ?_)
  rw [w64 (by omega)]
  refine condD (fun h3 => ?_) fun h3 => ?_
  · rw [if_pos h3] at hk
    exact hk _ same (Fr.refl _ _)
  have h3 : ¬ (1048576 : Int) < (L.length : Int) + m := h3
  rw [if_neg h3] at hk
  refine forI (N := m) (fun s : Int => s) (fun j i w' => i = (j : Int) ∧ Wr b (L ++ bitsOf v.toNat j) (Ex F w2) w' ∧ Fr F w2 w') ⟨rfl, by rw [bitsOf, List.append_nil]; exact same, Fr.refl _ _⟩ (fun j s w' h => h.1) ?_ ?_
  · rintro j i w3 K' hj ⟨rfl, hw, f3⟩ - hK
    have hs3 := f3.size
    obtain ⟨L1, hL1⟩ : ∃ L1, L ++ bitsOf v.toNat j = L1 := ⟨_, rfl⟩
    have hl1 : L1.length = L.length + j := by rw [← hL1, List.length_append, bitsOf_len]
    have hnext : L ++ bitsOf v.toNat (j + 1) = L1 ++ [v.toNat.testBit j] := by rw [bitsOf, ← List.append_assoc, hL1]
    rw [hL1] at hw
    obtain ⟨_, hb3, s3, B3, o3⟩ := hw
    refine ptrI (fldI B3 (i := 1) (x := (L1.length : Int)) rfl ?_)
    have hmod : Int.tmod (L1.length : Int) 8 = ((L1.length % 8 : Nat) : Int) := by rw [Int.tmod_eq_emod_of_nonneg (by omega)]; omega
    have hdiv : Int.tdiv (L1.length : Int) 8 = ((L1.length / 8 : Nat) : Int) := by rw [Int.tdiv_eq_ediv_of_nonneg (by omega)]; omega
    refine joinI (fun (_ : Unit) w' => ∃ s4 : Sl, Blk w' b 73 [.slice s4.a s4.n s4.c, .int .i64 (L1.length : Int)] ∧ Own (fun k => Ex F w2 k ∧ k ≠ b) w' 5 u8T s4 (packP L1) ∧ Fr F w2 w') ?_ ?_
    · rw [hmod]
      refine condI (fun hz => ?_) fun hz => ?_
      · have hz : L1.length % 8 = 0 := by
          have : ((L1.length % 8 : Nat) : Int) = 0 := by simpa using hz
          omega
        refine ptrI (fldI B3 (i := 0) (x := s3) rfl ?_)
        have hpl := packM_len L1
        refine appP (x := (0 : Int)) bytes_ty rfl o3 (fun k e => ⟨.inr (by omega), fun e2 => by have := B3.lt; omega⟩) (by omega) (by omega) fun r w4 o4 f4 => ?_
        have B4 := B3.fr f4 fun e => (o3.own b e).2 rfl
        have f24 : Fr F w2 w4 := f3.exS f4 fun k e => (o3.own k e).1
        refine ptrI ?_
        rw [add_lit]
        refine setI (i := 0) B4 (Nat.zero_lt_succ _) rfl fun w5 B5 f5 s5 => ?_
        refine ⟨r, B5, ?_, f24.exS f5 fun k e => by rw [e]; exact .inl hb⟩
        rw [packP_0 hz]
        exact o4.fr f5 fun k e e2 => e.2 e2
      · have hz : L1.length % 8 ≠ 0 := by
          intro e
          rw [e] at hz
          simp at hz
        exact ⟨s3, B3, by rw [packP_n hz]; exact o3, f3⟩
    · rintro _ w4 ⟨s4, B4, o4, f4⟩
      have fd : Fr None w4 w4.drew := (Fr.refl _ _).drew
      have B4 := B4.fr fd fun h => h
      have o4 := o4.none fd
      have f4 := f4.then0 fd
      have hpl := packP_len L1
      refine ptrI (fldI B4 (i := 0) (x := s4) rfl (ptrI (fldI B4 (i := 1) (x := (L1.length : Int)) rfl ?_)))
      rw [hdiv, w64 (by omega)]
      refine o4.idx rfl (by omega) (by omega) fun g x hg hx hrd => ldI x hrd ?_
      rw [Int.toNat_natCast, packP_at] at hx
      cases hx
      refine chkI (by omega) (ptrI (fldI B4 (i := 1) (x := (L1.length : Int)) rfl ?_))
      rw [hmod]
      refine chkI (by omega) (o4.idx rfl (by omega) (by omega) fun g2 x2 hg2 _ _ => ?_)
      rw [hg] at hg2
      cases hg2
      have hbit := bit_at (i := j) hv.1 hv.2 (by omega)
      rw [hbit]
      have hlt := byteAt_here (L := L1) (b := false)
      have hor : bOr .u8 (byteAt L1 (L1.length / 8) : Int) (shL .u8 (bitN (v.toNat.testBit j) : Int) ((L1.length % 8 : Nat) : Int)) = ((byteAt L1 (L1.length / 8) + bitN (v.toNat.testBit j) * 2 ^ (L1.length % 8) : Nat) : Int) :=
        or_byte ⟨L1.length % 8, Nat.mod_lt _ (by decide)⟩ ⟨bitN (v.toNat.testBit j), by have := bitN_lt (v.toNat.testBit j); omega⟩ ⟨byteAt L1 (L1.length / 8), by
          have h1 := hlt.2
          have h2 : (2 : Nat) ^ (L1.length % 8) ≤ 2 ^ 7 := Nat.pow_le_pow_right (by decide) (by omega)
          omega⟩ hlt.2
      rw [hor, Int.toNat_natCast]
      refine o4.set rfl (i := L1.length / 8) (by omega) hg _ fun w5 o5 f5 s5 => ?_
      rw [← packM_snoc, ← hnext] at o5
      have B5 := B4.fr f5 fun e => (o4.own b e).2 rfl
      refine ptrI (fldI B5 (i := 1) (x := (L1.length : Int)) rfl (ptrI ?_))
      rw [add_lit]
      refine setI (i := 1) B5 (by simp) rfl fun w6 B6 f6 s6 => ?_
      refine hK _ _ ⟨wsucc hj (by omega), ⟨?_, .inl hb, s4, ?_, o5.fr f6 fun k e e2 => e.2 e2⟩, (f4.exS f5 fun k e => (o4.own k e).1).exS f6 fun k e => by rw [e]; exact .inl hb⟩
      · rw [hnext, List.length_append, hl1]; simp; omega
      · rw [hnext, List.length_append]
        have : IntKind.wrap .i64 ((L1.length : Int) + 1) = ((L1.length + 1 : Nat) : Int) := by rw [w64 (by omega)]; rfl
        rw [this] at B6
        exact B6
  · rintro i w3 ⟨rfl, hw, f3⟩
    exact hk _ hw f3
theorem spec_bits_Len {b : Nat} {L : List Bool} {F : Nat → Prop} (h : Wr b L F w) {K : Res [.sc (.int .i64)] → W R} (hk : K (L.length : Int) Q w) : callW Try.prog k_bits_Writer_Len [.pointer (some ⟨b, 0, none⟩)] [.sc (.int .i64)] K Q w := by
  refine C_bits_Writer_Len _ K Q w ?_
  unfold F_bits_Writer_Len
  obtain ⟨_, _, s, B, _⟩ := h
  exact condF rfl (ptrI (fldI B (i := 1) (x := (L.length : Int)) rfl hk))

end Go.Proofs.Ytcahnbflfehonaa
