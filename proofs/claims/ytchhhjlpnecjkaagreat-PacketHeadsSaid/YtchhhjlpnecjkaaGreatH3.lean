/-
  What the proof of packetHeads_holds leans on, laid together by a program of this session (wip/pack.py) out of its own texts; the last of these texts holds packetHeads_holds.
-/
import Derived.Test.YtchhhjlpnecjkaaGreatH2
set_option linter.unusedVariables false
namespace Go.Proofs.YtchhhjlpnecjkaaGreat.Den
open Go Go.RowKit
variable {R : Type} {Q : R → World → Prop} {w : World} {P : Program} {T E ty : TypeId} {t : Ty} {bytes : Nat} {ok S : Nat → Prop} {s : Sl} {l : List t.T}
theorem SlT.from (h : SlT ok w t s l) {sz : Nat} (hsz : sz = t.size) {i : Int} {n : Nat} (hi : i = (n : Int)) (hl : n ≤ l.length) {K : Sl → W R} (hk : ∀ r, SlT ok w t r (l.drop n) → r.c = s.c - n → K r Q w) : slcW s.a s.n s.c sz (some i) none K Q w := by
  subst hi; subst hsz
  have hlen := h.len
  have hcap := h.cap
  refine chkI (by simp only [Option.getD_some, Option.getD_none]; omega) ?_
  simp only [Option.getD_some, Option.getD_none, Int.toNat_natCast]
  refine hk _ ⟨by simp; omega, by simp; omega, ?_⟩ rfl
  rcases h.at_ with rfl | ⟨b, o, ha, h1, h2, h3⟩
  · left; simp
  · by_cases hc : s.c = n
    · left
      exact List.drop_eq_nil_of_le (by omega)
    · right
      refine ⟨b, o + n * t.size, by simp only [if_neg hc, ha, Option.map_some, add_lit], h1, h2, fun i x hx => ?_⟩
      rw [List.getElem?_drop] at hx
      have := h3 (n + i) x hx
      rwa [Nat.add_mul, ← Nat.add_assoc] at this
theorem SlT.cutI (h : SlT ok w t s l) {sz : Nat} {hi : Int} {n : Nat} (hn : hi = (n : Int)) (hl : n ≤ l.length) {K : Sl → W R} (hk : ∀ s', s'.c = s.c → (∀ ok' w', SlT ok' w' t s l → SlT ok' w' t s' (l.take n)) → K s' Q w) : slcW s.a s.n s.c sz none (some hi) K Q w := by
  subst hn
  have hlen := h.len
  have hcap := h.cap
  refine chkI (by simp only [Option.getD_some, Option.getD_none]; omega) ?_
  simp only [Option.getD_some, Option.getD_none]
  refine hk _ (by simp) fun ok' w' h' => ⟨by simp; omega, by simp; omega, ?_⟩
  rcases h'.at_ with rfl | ⟨b, o, ha, h1, h2, h3⟩
  · left; simp
  · right
    refine ⟨b, o, ?_, h1, h2, fun i x hx => ?_⟩
    · rw [ha]
      split
      · rfl
      · simp [Addr.add]
    · rw [List.getElem?_take] at hx
      split at hx
      · exact h3 i x hx
      · cases hx
theorem cloneI (H : SlTy P T E t bytes) (h : SlT ok w t s l) (hb : l.length * bytes ≤ 140737488355328) (hm : l.length ≤ 9223372036854775807) {K : Sl → W R} (hk : ∀ r w', Own (Up w.heap.size) w' E t r l → Fr None w w' → K r Q w') :
    newW E [] (fun a => rawW P (Builtin.append_ #[T, T] ty #[.slice (some a) 0 0, .slice s.a s.n s.c]) [.sc .sl] K) Q w := by
  refine newI fun w1 B1 f1 s1 => ?_
  have own := Own.mk' (S := Up w.heap.size) (w := w1) (E := E) (t := t) (l := []) (g := w.heap.size) (c := 0) (cur := ⟨[]⟩) (Nat.le_refl _) B1 (Nat.le_refl _) (Nat.zero_le _) (by simp) (by simp)
  refine appI (s := ⟨some ⟨w.heap.size, 0, none⟩, 0, 0⟩) (s2 := s) (S' := Up w.heap.size) H own (h.fr0 f1) (by simpa using hb) (by rw [maxLen_eq]; simpa using hm) (fun _ h => h) (by show _ ≤ _; omega) fun r w2 o2 f2 s2 => ?_
  rw [List.nil_append] at o2
  exact hk r w2 o2 (f1.newer f2 (fun x e => own.own x e))
theorem run_append_zeros_grow (w : World) (tn : TypeId) (i : TypeInfo) (z : Value) (k kn : IntKind) (ht : P.underlying T = some (.slice E)) (htn : P.underlying tn = some (.int kn)) (hi : P.info? E = some i) (hz : i.zero = some z)
    (b : Addr) (sLen sCap : Nat) (olds : List Value) (hlo : olds.length = sLen * i.size) (holds : ∀ j v, olds[j]? = some v → w.cell? (b.add j) = some v) (n : Nat) (h0 : 0 < n * i.size)
    (hg : sCap < sLen + n) (h63 : ((sLen + n : Nat) : Int) ≤ 9223372036854775807) (hfit : Builtin.nextslicecap (sLen + n) sCap * i.bytes ≤ 281474976710656) (h48 : n * i.bytes ≤ 281474976710656) :
    (Builtin.append_ #[T, tn] ty #[.slice (some b) sLen sCap, .int k n]).run P w =
      .ok (.slice (some ⟨w.heap.size, 0, none⟩) (sLen + n) (grownCap w (sLen + n) sCap E))
        (w.drew.alloc (.cells (olds.toArray ++ Builtin.zeroCells z.cells n ++ Builtin.zeroCells z.cells (grownCap w (sLen + n) sCap E - (sLen + n))) E)) := by
  have hn : ¬ (sLen + n ≤ sCap) := by omega
  have hw : IntKind.i64.wrap (n : Int) = n := by rw [IntKind.wrap_i64]; omega
  have h63' : ¬ (9223372036854775807 < ((sLen : Int) + (n : Int))) := by omega
  have h48' : ¬ (281474976710656 < Builtin.nextslicecap (sLen + n) sCap * i.bytes) := by omega
  have h48i : ¬ (281474976710656 < (n : Int) * (i.bytes : Int)) := by rw [← Int.natCast_mul]; omega
  have hns : ¬ (n * i.size = 0) := by omega
  have hns' : ¬ (n = 0 ∨ i.size = 0) := by
    rintro (h | h)
    · rw [h] at h0; simp at h0
    · rw [h] at h0; simp at h0
  have hfo := run_firstCells_some (P := P) w.drew i.size sLen b sLen sCap olds hlo (by simpa using holds)
  simp [Builtin.append_, run_underlying ht, run_underlying htn, sizeOf, typeInfo, zeroValue, hi, hz, asInt, asIntOf, hw, hn, h63', h48', h48i, hns, show ¬ ((n : Int) < 0) by omega, Question.forced, hfo, newRow, grownCap]
end Go.Proofs.YtchhhjlpnecjkaaGreat.Den
namespace Go.Proofs.YtchhhjlpnecjkaaGreat
open Go Go.RowKit Go.Proofs.YtchhhjlpnecjkaaGreat.Den
def bitN (b : Bool) : Nat := if b = true then 1 else 0
theorem bitN_lt (b : Bool) : bitN b ≤ 1 := by cases b <;> decide
def bitsOf (v : Nat) : Nat → List Bool
  | 0 => []
  | n + 1 => bitsOf v n ++ [v.testBit n]
theorem bitsOf_len (v : Nat) : ∀ n, (bitsOf v n).length = n
  | 0 => rfl
  | n + 1 => by simp [bitsOf, bitsOf_len v n]
def bitAt (L : List Bool) (k : Nat) : Bool := (L[k]?).getD false
def byteAt (L : List Bool) (j : Nat) : Nat :=
  bitN (bitAt L (8 * j)) + 2 * bitN (bitAt L (8 * j + 1)) + 4 * bitN (bitAt L (8 * j + 2)) + 8 * bitN (bitAt L (8 * j + 3)) + 16 * bitN (bitAt L (8 * j + 4)) + 32 * bitN (bitAt L (8 * j + 5)) + 64 * bitN (bitAt L (8 * j + 6)) + 128 * bitN (bitAt L (8 * j + 7))
def packM (L : List Bool) : List Int := (List.range ((L.length + 7) / 8)).map fun j => (byteAt L j : Int)
def packP (L : List Bool) : List Int := (List.range (L.length / 8 + 1)).map fun j => (byteAt L j : Int)
theorem bitAt_ge {L : List Bool} {k : Nat} (h : L.length ≤ k) : bitAt L k = false := by
  unfold bitAt
  rw [List.getElem?_eq_none h]
  rfl
theorem bitAt_snoc (L : List Bool) (b : Bool) (k : Nat) : bitAt (L ++ [b]) k = if k = L.length then b else bitAt L k := by
  unfold bitAt
  rcases Nat.lt_trichotomy k L.length with h | h | h
  · rw [List.getElem?_append_left h, if_neg (by omega)]
  · subst h
    rw [List.getElem?_append_right (Nat.le_refl _), if_pos rfl, Nat.sub_self]
    rfl
  · rw [if_neg (by omega), List.getElem?_eq_none (by simp; omega), List.getElem?_eq_none (by omega)]
theorem byteAt_other {L : List Bool} {b : Bool} {j : Nat} (h : j ≠ L.length / 8) : byteAt (L ++ [b]) j = byteAt L j := by
  unfold byteAt
  simp only [bitAt_snoc]
  rw [if_neg (by omega), if_neg (by omega), if_neg (by omega), if_neg (by omega), if_neg (by omega), if_neg (by omega), if_neg (by omega), if_neg (by omega)]
theorem byteAt_here {L : List Bool} {b : Bool} : byteAt (L ++ [b]) (L.length / 8) = byteAt L (L.length / 8) + bitN b * 2 ^ (L.length % 8) ∧ byteAt L (L.length / 8) < 2 ^ (L.length % 8) := by
  obtain ⟨j, r, hr, hL, h1, h2⟩ : ∃ j r, r < 8 ∧ L.length = 8 * j + r ∧ L.length / 8 = j ∧ L.length % 8 = r := ⟨L.length / 8, L.length % 8, Nat.mod_lt _ (by decide), by omega, rfl, rfl⟩
  rw [h1, h2]
  have ge : ∀ k, 8 * j + r ≤ k → bitAt L k = false := fun k hk => bitAt_ge (by omega)
  have l0 := bitN_lt (bitAt L (8 * j))
  have l1 := bitN_lt (bitAt L (8 * j + 1))
  have l2 := bitN_lt (bitAt L (8 * j + 2))
  have l3 := bitN_lt (bitAt L (8 * j + 3))
  have l4 := bitN_lt (bitAt L (8 * j + 4))
  have l5 := bitN_lt (bitAt L (8 * j + 5))
  have l6 := bitN_lt (bitAt L (8 * j + 6))
  have z : bitN false = 0 := rfl
  unfold byteAt
  simp only [bitAt_snoc, hL]
  have : r = 0 ∨ r = 1 ∨ r = 2 ∨ r = 3 ∨ r = 4 ∨ r = 5 ∨ r = 6 ∨ r = 7 := by omega
  rcases this with rfl | rfl | rfl | rfl | rfl | rfl | rfl | rfl
  · rw [ge (8 * j) (by omega), ge (8 * j + 1) (by omega), ge (8 * j + 2) (by omega), ge (8 * j + 3) (by omega), ge (8 * j + 4) (by omega), ge (8 * j + 5) (by omega), ge (8 * j + 6) (by omega), ge (8 * j + 7) (by omega), z]
    simp [z]
  · rw [ge (8 * j + 1) (by omega), ge (8 * j + 2) (by omega), ge (8 * j + 3) (by omega), ge (8 * j + 4) (by omega), ge (8 * j + 5) (by omega), ge (8 * j + 6) (by omega), ge (8 * j + 7) (by omega), z]
    simp [z]; omega
  · rw [ge (8 * j + 2) (by omega), ge (8 * j + 3) (by omega), ge (8 * j + 4) (by omega), ge (8 * j + 5) (by omega), ge (8 * j + 6) (by omega), ge (8 * j + 7) (by omega), z]
    simp [z]; omega
  · rw [ge (8 * j + 3) (by omega), ge (8 * j + 4) (by omega), ge (8 * j + 5) (by omega), ge (8 * j + 6) (by omega), ge (8 * j + 7) (by omega), z]
    simp [z]; omega
  · rw [ge (8 * j + 4) (by omega), ge (8 * j + 5) (by omega), ge (8 * j + 6) (by omega), ge (8 * j + 7) (by omega), z]
    simp [z]; omega
  · rw [ge (8 * j + 5) (by omega), ge (8 * j + 6) (by omega), ge (8 * j + 7) (by omega), z]
    simp [z]; omega
  · rw [ge (8 * j + 6) (by omega), ge (8 * j + 7) (by omega), z]
    simp [z]; omega
  · rw [ge (8 * j + 7) (by omega), z]
    simp [z]; omega
theorem packM_len (L : List Bool) : (packM L).length = (L.length + 7) / 8 := by simp [packM]
theorem packP_len (L : List Bool) : (packP L).length = L.length / 8 + 1 := by simp [packP]
theorem packP_at (L : List Bool) : (packP L)[L.length / 8]? = some (byteAt L (L.length / 8) : Int) := by
  simp [packP]
theorem packM_snoc (L : List Bool) (b : Bool) : packM (L ++ [b]) = (packP L).set (L.length / 8) ((byteAt L (L.length / 8) + bitN b * 2 ^ (L.length % 8) : Nat) : Int) := by
  refine List.ext_getElem? fun i => ?_
  rw [List.getElem?_set]
  unfold packM packP
  simp only [List.length_append, List.length_cons, List.length_nil, List.length_map, List.length_range, List.getElem?_map]
  have e : (L.length + (0 + 1) + 7) / 8 = L.length / 8 + 1 := by omega
  rw [e]
  split
  · rename_i h
    subst h
    rw [if_pos (by omega), List.getElem?_range (by omega)]
    simp only [Option.map_some]
    rw [byteAt_here.1]
  · rename_i h
    rcases Nat.lt_or_ge i (L.length / 8 + 1) with hi | hi
    · rw [List.getElem?_range hi]
      simp only [Option.map_some]
      rw [byteAt_other (fun h2 => h h2.symm)]
    · rw [List.getElem?_eq_none (by simpa using hi)]
      rfl
theorem packP_0 {L : List Bool} (h : L.length % 8 = 0) : packP L = packM L ++ [0] := by
  unfold packP packM
  have e : (L.length + 7) / 8 = L.length / 8 := by omega
  rw [e, List.range_succ, List.map_append]
  have : byteAt L (L.length / 8) = 0 := by
    have := (byteAt_here (L := L) (b := false)).2
    rw [h] at this
    omega
  simp [this]
theorem packP_n {L : List Bool} (h : L.length % 8 ≠ 0) : packP L = packM L := by
  unfold packP packM
  have e : (L.length + 7) / 8 = L.length / 8 + 1 := by omega
  rw [e]
theorem byteAt_le (L : List Bool) (j : Nat) : byteAt L j ≤ 255 := by
  have l0 := bitN_lt (bitAt L (8 * j))
  have l1 := bitN_lt (bitAt L (8 * j + 1))
  have l2 := bitN_lt (bitAt L (8 * j + 2))
  have l3 := bitN_lt (bitAt L (8 * j + 3))
  have l4 := bitN_lt (bitAt L (8 * j + 4))
  have l5 := bitN_lt (bitAt L (8 * j + 5))
  have l6 := bitN_lt (bitAt L (8 * j + 6))
  have l7 := bitN_lt (bitAt L (8 * j + 7))
  unfold byteAt
  omega
theorem or_byte : ∀ r : Fin 8, ∀ b : Fin 2, ∀ x : Fin 128, x.val < 2 ^ r.val → bOr .u8 ((x.val : Nat) : Int) (shL .u8 ((b.val : Nat) : Int) ((r.val : Nat) : Int)) = ((x.val + b.val * 2 ^ r.val : Nat) : Int) := by decide +kernel
theorem shR_div {v : Int} {i : Nat} (h0 : 0 ≤ v) (hi : i ≤ 64) : shR .u64 v (i : Int) = ((v.toNat / 2 ^ i : Nat) : Int) := by
  unfold shR
  rw [Int.toNat_natCast, show min i (IntKind.bits .u64) = i from Nat.min_eq_left hi]
  obtain ⟨n, rfl⟩ := Int.eq_ofNat_of_zero_le h0
  rw [Int.fdiv_eq_ediv_of_nonneg _ (by exact_mod_cast Nat.zero_le (2 ^ i))]
  simp
theorem and_one {x : Int} (h0 : 0 ≤ x) (h1 : x ≤ 18446744073709551615) : bAnd .u64 x 1 = x % 2 := by
  unfold bAnd
  rw [BitVec.toNat_and, BitVec.toNat_ofInt, BitVec.toNat_ofInt]
  have e1 : (1 % ((2 ^ IntKind.bits .u64 : Nat) : Int)).toNat = 1 := by decide
  have e2 : (x % ((2 ^ IntKind.bits .u64 : Nat) : Int)).toNat = x.toNat := by
    have : ((2 ^ IntKind.bits .u64 : Nat) : Int) = 18446744073709551616 := by decide
    rw [this]; omega
  rw [e1, e2, Nat.and_one_is_mod]
  rw [IntKind.wrap_u64]
  omega
theorem bit_at {v : Int} {i : Nat} (h0 : 0 ≤ v) (h1 : v ≤ 18446744073709551615) (hi : i ≤ 64) : IntKind.wrap .u8 (bAnd .u64 (shR .u64 v (i : Int)) 1) = (bitN (v.toNat.testBit i) : Int) := by
  have hd : v.toNat / 2 ^ i ≤ v.toNat := Nat.div_le_self _ _
  rw [shR_div h0 hi, Nat.testBit_eq_decide_div_mod_eq]
  generalize v.toNat / 2 ^ i = q at hd
  rw [and_one (by omega) (by omega)]
  have : q % 2 = 0 ∨ q % 2 = 1 := by omega
  rcases this with h | h
  · have e : (q : Int) % 2 = 0 := by omega
    rw [e, h]; decide
  · have e : (q : Int) % 2 = 1 := by omega
    rw [e, h]; decide
end Go.Proofs.YtchhhjlpnecjkaaGreat
namespace Go.Proofs.YtchhhjlpnecjkaaGreat
open Go Go.RowKit Go.Proofs.YtchhhjlpnecjkaaGreat.Den
variable {R : Type} {Q : R → World → Prop} {w : World}
theorem bytes_ty : SlTy Tryz.prog 22 5 u8T 1 := slTy (by kernel_rfl)
def Wr (b : Nat) (L : List Bool) : OB := fun F w => L.length ≤ 1048576 ∧ F b ∧ ∃ s : Sl, Blk w b 154 [.slice s.a s.n s.c, .int .i64 (L.length : Int)] ∧ Own (fun k => F k ∧ k ≠ b) w 5 u8T s (packM L)
theorem Wr.st {b : Nat} {L : List Bool} : St (Wr b L) := fun ⟨h1, h2, s, h3, h4⟩ f hs =>
  ⟨h1, (hs b h3.lt h2).2, s, h3.fr f (hs b h3.lt h2).1, Own.st h4 f fun k hk e => ⟨(hs k hk e.1).1, (hs k hk e.1).2, e.2⟩⟩
theorem spec_bits_New {K : Res [.sc .ptr] → W R} (hk : ∀ b w', Wr b [] (Up w.heap.size) w' → Fr None w w' → K (some ⟨b, 0, none⟩) Q w') : callW Tryz.prog k_bits_New [] [.sc .ptr] K Q w := by
  refine C_bits_New K Q w ?_
  unfold F_bits_New
  refine newI fun w1 B1 f1 s1 => ?_
  exact hk _ w1 ⟨by simp, Nat.le_refl _, ⟨none, 0, 0⟩, B1, Own.nil _ _ _ _⟩ f1
def putB (L : List Bool) (v n : Int) : Int × List Bool :=
  if n < 0 ∨ 64 < n then (1, L) else if n < 64 ∧ v.toNat / 2 ^ n.toNat ≠ 0 then (5, L) else if 1048576 < (L.length : Int) + n then (3, L) else (0, L ++ bitsOf v.toNat n.toNat)
theorem spec_bits_Put {b : Nat} {L : List Bool} {F : Nat → Prop} (h : Wr b L F w) {v n : Int} (hv : 0 ≤ v ∧ v ≤ 18446744073709551615) (hn : -9223372036854775808 ≤ n ∧ n ≤ 9223372036854775807) {K : Res [.sc (.int .i64)] → W R} (hk : ∀ w', Wr b (putB L v n).2 (Ex F w) w' → Fr F w w' → K (putB L v n).1 Q w') :
    callW Tryz.prog k_bits_Writer_Put [.pointer (some ⟨b, 0, none⟩), .int .u64 v, .int .i64 n] [.sc (.int .i64)] K Q w := by
  refine C_bits_Writer_Put _ _ _ K Q w ?_
  unfold F_bits_Writer_Put
  have same : Wr b L (Ex F w) w := Wr.st.mono h fun k _ e => .inl e
  have hlen := h.1
  obtain ⟨_, hb, s0, B0, _⟩ := h
  refine condF rfl ?_
  refine joinI (fun z w' => z = decide (n < 0 ∨ 64 < n) ∧ w' = w) ?_ ?_
  · refine condD (fun h => ⟨by simp [h], rfl⟩) fun h => ⟨?_, rfl⟩
    simp only [h, false_or]
  rintro z w1 ⟨rfl, rfl⟩
  refine condD (fun h1 => ?_) fun h1 => ?_
  · have e : putB L v n = (1, L) := by rw [putB, if_pos h1]
    rw [e] at hk
    exact hk _ same (Fr.refl _ _)
  have e1 : putB L v n = if n < 64 ∧ v.toNat / 2 ^ n.toNat ≠ 0 then (5, L) else if 1048576 < (L.length : Int) + n then (3, L) else (0, L ++ bitsOf v.toNat n.toNat) := by rw [putB, if_neg h1]
  rw [e1] at hk
  clear e1
  have hn0 : 0 ≤ n ∧ n ≤ 64 := by omega
  clear hn
  obtain ⟨m, rfl⟩ := Int.eq_ofNat_of_zero_le hn0.1
  rw [Int.toNat_natCast] at hk
  refine joinI (fun z w' => z = decide ((m : Int) < 64 ∧ v.toNat / 2 ^ m ≠ 0) ∧ w' = w1) ?_ ?_
  · refine condD (fun h => chkI hn0.1 ⟨?_, rfl⟩) fun h => ⟨by simp [h], rfl⟩
    rw [shR_div hv.1 (by omega)]
    generalize v.toNat / 2 ^ m = q
    by_cases hq : q = 0
    · simp [hq]
    · have : ¬ (q : Int) = 0 := by omega
      simp [hq, h]
  rintro z w2 ⟨rfl, rfl⟩
  refine condD (fun h2 => ?_) fun h2 => ?_
  · rw [if_pos h2] at hk
    exact hk _ same (Fr.refl _ _)
  rw [if_neg h2] at hk
  refine ptrI (fldI B0 (i := 1) (x := (L.length : Int)) rfl ?_)
  rw [w64 (by omega)]
  refine condD (fun h3 => ?_) fun h3 => ?_
  · rw [if_pos h3] at hk
    exact hk _ same (Fr.refl _ _)
  have h3 : ¬ (1048576 : Int) < (L.length : Int) + m := h3
  rw [if_neg h3] at hk
  refine forI (N := m) (fun s : Int => s) (fun j i w' => i = (j : Int) ∧ Wr b (L ++ bitsOf v.toNat j) (Ex F w2) w' ∧ Fr F w2 w') ⟨rfl, by rw [bitsOf, List.append_nil]; exact same, Fr.refl _ _⟩ (fun j s w' h => h.1) ?_ ?_
  · rintro j i w3 K' hj ⟨rfl, hw, f3⟩ - hK
    have hs3 := f3.size
    obtain ⟨L1, hL1⟩ : ∃ L1, L ++ bitsOf v.toNat j = L1 := ⟨_, rfl⟩
    have hl1 : L1.length = L.length + j := by rw [← hL1, List.length_append, bitsOf_len]
    have hnext : L ++ bitsOf v.toNat (j + 1) = L1 ++ [v.toNat.testBit j] := by rw [bitsOf, ← List.append_assoc, hL1]
    rw [hL1] at hw
    obtain ⟨_, hb3, s3, B3, o3⟩ := hw
    refine ptrI (fldI B3 (i := 1) (x := (L1.length : Int)) rfl ?_)
    have hmod : Int.tmod (L1.length : Int) 8 = ((L1.length % 8 : Nat) : Int) := by rw [Int.tmod_eq_emod_of_nonneg (by omega)]; omega
    have hdiv : Int.tdiv (L1.length : Int) 8 = ((L1.length / 8 : Nat) : Int) := by rw [Int.tdiv_eq_ediv_of_nonneg (by omega)]; omega
    refine joinI (fun (_ : Unit) w' => ∃ s4 : Sl, Blk w' b 154 [.slice s4.a s4.n s4.c, .int .i64 (L1.length : Int)] ∧ Own (fun k => Ex F w2 k ∧ k ≠ b) w' 5 u8T s4 (packP L1) ∧ Fr F w2 w') ?_ ?_
    · rw [hmod]
      refine condI (fun hz => ?_) fun hz => ?_
      · have hz : L1.length % 8 = 0 := by
          have : ((L1.length % 8 : Nat) : Int) = 0 := by simpa using hz
          omega
        refine ptrI (fldI B3 (i := 0) (x := s3) rfl ?_)
        have hpl := packM_len L1
        refine appP (x := (0 : Int)) bytes_ty rfl o3 (fun k e => ⟨.inr (by omega), fun e2 => by have := B3.lt; omega⟩) (by omega) (by omega) fun r w4 o4 f4 => ?_
        have B4 := B3.fr f4 fun e => (o3.own b e).2 rfl
        have f24 : Fr F w2 w4 := f3.exS f4 fun k e => (o3.own k e).1
        refine ptrI ?_
        rw [add_lit]
        refine setI (i := 0) B4 (Nat.zero_lt_succ _) rfl fun w5 B5 f5 s5 => ?_
        refine ⟨r, B5, ?_, f24.exS f5 fun k e => by rw [e]; exact .inl hb⟩
        rw [packP_0 hz]
        exact o4.fr f5 fun k e e2 => e.2 e2
      · have hz : L1.length % 8 ≠ 0 := by
          intro e
          rw [e] at hz
          simp at hz
        exact ⟨s3, B3, by rw [packP_n hz]; exact o3, f3⟩
    · rintro _ w4 ⟨s4, B4, o4, f4⟩
      have fd : Fr None w4 w4.drew := (Fr.refl _ _).drew
      have B4 := B4.fr fd fun h => h
      have o4 := o4.none fd
      have f4 := f4.then0 fd
      have hpl := packP_len L1
      refine ptrI (fldI B4 (i := 0) (x := s4) rfl (ptrI (fldI B4 (i := 1) (x := (L1.length : Int)) rfl ?_)))
      rw [hdiv, w64 (by omega)]
      refine o4.idx rfl (by omega) (by omega) fun g x hg hx hrd => ldI x hrd ?_
      rw [Int.toNat_natCast, packP_at] at hx
      cases hx
      refine chkI (by omega) (ptrI (fldI B4 (i := 1) (x := (L1.length : Int)) rfl ?_))
      rw [hmod]
      refine chkI (by omega) (o4.idx rfl (by omega) (by omega) fun g2 x2 hg2 _ _ => ?_)
      rw [hg] at hg2
      cases hg2
      have hbit := bit_at (i := j) hv.1 hv.2 (by omega)
      rw [hbit]
      have hlt := byteAt_here (L := L1) (b := false)
      have hor : bOr .u8 (byteAt L1 (L1.length / 8) : Int) (shL .u8 (bitN (v.toNat.testBit j) : Int) ((L1.length % 8 : Nat) : Int)) = ((byteAt L1 (L1.length / 8) + bitN (v.toNat.testBit j) * 2 ^ (L1.length % 8) : Nat) : Int) :=
        or_byte ⟨L1.length % 8, Nat.mod_lt _ (by decide)⟩ ⟨bitN (v.toNat.testBit j), by have := bitN_lt (v.toNat.testBit j); omega⟩ ⟨byteAt L1 (L1.length / 8), by
          have h1 := hlt.2
          have h2 : (2 : Nat) ^ (L1.length % 8) ≤ 2 ^ 7 := Nat.pow_le_pow_right (by decide) (by omega)
          omega⟩ hlt.2
      rw [hor, Int.toNat_natCast]
      refine o4.set rfl (i := L1.length / 8) (by omega) hg _ fun w5 o5 f5 s5 => ?_
      rw [← packM_snoc, ← hnext] at o5
      have B5 := B4.fr f5 fun e => (o4.own b e).2 rfl
      refine ptrI (fldI B5 (i := 1) (x := (L1.length : Int)) rfl (ptrI ?_))
      rw [add_lit]
      refine setI (i := 1) B5 (by simp) rfl fun w6 B6 f6 s6 => ?_
      refine hK _ _ ⟨wsucc hj (by omega), ⟨?_, .inl hb, s4, ?_, o5.fr f6 fun k e e2 => e.2 e2⟩, (f4.exS f5 fun k e => (o4.own k e).1).exS f6 fun k e => by rw [e]; exact .inl hb⟩
      · rw [hnext, List.length_append, hl1]; simp; omega
      · rw [hnext, List.length_append]
        have : IntKind.wrap .i64 ((L1.length : Int) + 1) = ((L1.length + 1 : Nat) : Int) := by rw [w64 (by omega)]; rfl
        rw [this] at B6
        exact B6
  · rintro i w3 ⟨rfl, hw, f3⟩
    exact hk _ hw f3
theorem spec_bits_Len {b : Nat} {L : List Bool} {F : Nat → Prop} (h : Wr b L F w) {K : Res [.sc (.int .i64)] → W R} (hk : K (L.length : Int) Q w) : callW Tryz.prog k_bits_Writer_Len [.pointer (some ⟨b, 0, none⟩)] [.sc (.int .i64)] K Q w := by
  refine C_bits_Writer_Len _ K Q w ?_
  unfold F_bits_Writer_Len
  obtain ⟨_, _, s, B, _⟩ := h
  exact condF rfl (ptrI (fldI B (i := 1) (x := (L.length : Int)) rfl hk))
end Go.Proofs.YtchhhjlpnecjkaaGreat
namespace Go.Proofs.YtchhhjlpnecjkaaGreat
open Go Go.RowKit Go.Shelf Go.Proofs.YtchhhjlpnecjkaaGreat.Den
variable {R : Type} {Q : R → World → Prop} {w : World}
def len64Ren : Ren where
  f := fun x => match x with
    | 129 => 163
    | n => n
  t := fun x => match x with
    | 46 => 122
    | 3 => 3
    | 53 => 81
    | 4 => 4
    | 5 => 5
    | 9 => 9
    | n => n
  g := fun n => n
theorem len64Lays : Lays.n129 Tryz.prog len64Ren :=
  { mixed := rfl, f129 := Eq.trans Tryz.func163 rfl, t3 := Tryz.underlying3,
    a3 := Tryz.isAgg3, z3 := Tryz.sizeOf3, v3 := Tryz.zeroValue3, t4 := Tryz.underlying4, a4 := Tryz.isAgg4, z4 := Tryz.sizeOf4,
    v4 := Tryz.zeroValue4, t5 := Tryz.underlying5, a5 := Tryz.isAgg5, z5 := Tryz.sizeOf5, v5 := Tryz.zeroValue5,
    t9 := Tryz.underlying9, a9 := Tryz.isAgg9, z9 := Tryz.sizeOf9, v9 := Tryz.zeroValue9, t46 := Tryz.underlying122,
    a46 := Tryz.isAgg122, z46 := Tryz.sizeOf122, v46 := Tryz.zeroValue122, t53 := Tryz.underlying81, a53 := Tryz.isAgg81, z53 := Tryz.sizeOf81,
    v53 := Tryz.zeroValue81 }
theorem spec_Len64 {x : Int} (h0 : 0 ≤ x) (h1 : x ≤ 18446744073709551615) {K : Res [.sc (.int .i64)] → W R} (hk : K (Lib.bitLen x.toNat : Int) Q w) : callW Tryz.prog k_math_bits_Len64 [.int .u64 x] [.sc (.int .i64)] K Q w :=
  (Any.bits_Len64 len64Lays x w h0 h1).mono fun e w' ⟨h1, h2⟩ => by
    subst h2
    exact ⟨_, h1, hk⟩
theorem wU64 {x : Int} (h : 0 ≤ x ∧ x ≤ 18446744073709551615) : IntKind.wrap .u64 x = x := by rw [IntKind.wrap_u64]; omega
def groupsM (v : Nat) : Nat := max 1 ((Lib.bitLen v + 3) / 4)
theorem groupsM_le {v : Int} (h0 : 0 ≤ v) (h1 : v ≤ 18446744073709551615) : 1 ≤ groupsM v.toNat ∧ groupsM v.toNat ≤ 16 := by
  have := Any.bitLen_le64 v h0 h1
  unfold groupsM
  omega
theorem spec_nums_groups {v : Int} (h0 : 0 ≤ v) (h1 : v ≤ 18446744073709551615) {K : Res [.sc (.int .i64)] → W R} (hk : K (groupsM v.toNat : Int) Q w) : callW Tryz.prog k_nums_groups [.int .u64 v] [.sc (.int .i64)] K Q w := by
  refine C_nums_groups _ K Q w ?_
  unfold F_nums_groups
  refine spec_Len64 h0 h1 ?_
  have hb := Any.bitLen_le64 v h0 h1
  have e : (if IntKind.wrap .i64 (Int.tdiv (IntKind.wrap .i64 (IntKind.wrap .i64 ((Lib.bitLen v.toNat : Int) + 4) - 1)) 4) > 1 then IntKind.wrap .i64 (Int.tdiv (IntKind.wrap .i64 (IntKind.wrap .i64 ((Lib.bitLen v.toNat : Int) + 4) - 1)) 4) else 1) = (groupsM v.toNat : Int) := by
    rw [w64 (x := (Lib.bitLen v.toNat : Int) + 4) (by omega), w64 (x := (Lib.bitLen v.toNat : Int) + 4 - 1) (by omega), Int.tdiv_eq_ediv_of_nonneg (by omega), w64 (by omega)]
    unfold groupsM
    split <;> omega
  rw [← e] at hk
  exact hk
def grpV (v n j : Nat) : Nat := v / 2 ^ (4 * j) % 16 + if j + 1 < n then 16 else 0
def varL (v n : Nat) : Nat → List Bool
  | 0 => []
  | j + 1 => varL v n j ++ bitsOf (grpV v n j) 5
theorem varL_len (v n : Nat) : ∀ j, (varL v n j).length = 5 * j
  | 0 => rfl
  | j + 1 => by rw [varL, List.length_append, varL_len v n j, bitsOf_len]; omega
def varB (v : Nat) : List Bool := varL v (groupsM v) (groupsM v)
theorem varB_len (v : Nat) : (varB v).length = 5 * groupsM v := varL_len _ _ _
def putVarM (L : List Bool) (v : Nat) : Int × List Bool := if 1048576 < L.length + 5 * groupsM v then (3, L) else (0, L ++ varB v)
theorem and_15 {x : Int} (h0 : 0 ≤ x) (h1 : x ≤ 18446744073709551615) : bAnd .u64 x 15 = x % 16 := by
  unfold bAnd
  rw [BitVec.toNat_and, BitVec.toNat_ofInt, BitVec.toNat_ofInt]
  have e1 : (15 % ((2 ^ IntKind.bits .u64 : Nat) : Int)).toNat = 2 ^ 4 - 1 := by decide
  have e2 : (x % ((2 ^ IntKind.bits .u64 : Nat) : Int)).toNat = x.toNat := by
    have : ((2 ^ IntKind.bits .u64 : Nat) : Int) = 18446744073709551616 := by decide
    rw [this]; omega
  rw [e1, e2, Nat.and_two_pow_sub_one_eq_mod]
  rw [IntKind.wrap_u64]
  omega
theorem or_16 : ∀ x : Fin 16, bOr .u64 ((x.val : Nat) : Int) 16 = ((x.val + 16 : Nat) : Int) := by decide +kernel
theorem grpV_lt (v n j : Nat) : grpV v n j < 32 := by unfold grpV; split <;> omega
theorem spec_nums_PutVar {b : Nat} {L : List Bool} {F : Nat → Prop} (h : Wr b L F w) {v : Int} (hv : 0 ≤ v ∧ v ≤ 18446744073709551615) {K : Res [.sc (.int .i64)] → W R} (hk : ∀ w', Wr b (putVarM L v.toNat).2 (Ex F w) w' → Fr F w w' → K (putVarM L v.toNat).1 Q w') :
    callW Tryz.prog k_nums_PutVar [.pointer (some ⟨b, 0, none⟩), .int .u64 v] [.sc (.int .i64)] K Q w := by
  refine C_nums_PutVar _ _ K Q w ?_
  unfold F_nums_PutVar
  obtain ⟨hg1, hg2⟩ := groupsM_le hv.1 hv.2
  have hlen := h.1
  refine spec_nums_groups hv.1 hv.2 (condF rfl (spec_bits_Len h ?_))
  obtain ⟨g, hg⟩ : ∃ g, groupsM v.toNat = g := ⟨_, rfl⟩
  unfold putVarM varB at hk
  rw [hg] at hg1 hg2 hk ⊢
  rw [w64 (x := (g : Int) * 5) (by omega), w64 (by omega)]
  refine condD (fun h3 => ?_) fun h3 => ?_
  · have h3 : (1048576 : Int) < (L.length : Int) + (g : Int) * 5 := h3
    rw [if_pos (by omega)] at hk
    exact hk w (Wr.st.mono h fun k _ e => .inl e) (Fr.refl _ _)
  have h3 : ¬ (1048576 : Int) < (L.length : Int) + (g : Int) * 5 := h3
  rw [if_neg (by omega)] at hk
  refine forI (N := g) (fun s : Int => s) (fun j i w' => i = (j : Int) ∧ Wr b (L ++ varL v.toNat g j) (Ex F w) w' ∧ Fr F w w') ⟨rfl, by rw [varL, List.append_nil]; exact Wr.st.mono h fun k _ e => .inl e, Fr.refl _ _⟩ (fun j s w' h => h.1) ?_ ?_
  · rintro j i w3 K' hj ⟨rfl, hw, f3⟩ - hK
    have hs3 := f3.size
    rw [w64 (x := 4 * (j : Int)) (by omega), w64 (x := (g : Int) - 1) (by omega)]
    refine chkI (by omega) ?_
    have e4 : (4 * (j : Int)) = ((4 * j : Nat) : Int) := by omega
    have hd : v.toNat / 2 ^ (4 * j) ≤ v.toNat := Nat.div_le_self _ _
    have ea : bAnd .u64 (shR .u64 v (4 * (j : Int))) 15 = ((v.toNat / 2 ^ (4 * j) % 16 : Nat) : Int) := by
      rw [e4, shR_div hv.1 (by omega)]
      generalize v.toNat / 2 ^ (4 * j) = q at hd
      rw [and_15 (by omega) (by omega)]
      omega
    refine joinI (fun z w' => z = (grpV v.toNat g j : Int) ∧ w' = w3) ?_ ?_
    · refine condD (fun h => ⟨?_, rfl⟩) fun h => ⟨?_, rfl⟩
      · rw [ea, or_16 ⟨v.toNat / 2 ^ (4 * j) % 16, Nat.mod_lt _ (by decide)⟩]
        unfold grpV
        rw [if_pos (by omega)]
      · rw [ea]
        unfold grpV
        rw [if_neg (by omega), Nat.add_zero]
    rintro z w4 ⟨rfl, rfl⟩
    have hlt := grpV_lt v.toNat g j
    have hll := varL_len v.toNat g j
    have ep : putB (L ++ varL v.toNat g j) (grpV v.toNat g j : Int) 5 = (0, L ++ varL v.toNat g (j + 1)) := by
      rw [putB, if_neg (by omega), if_neg, if_neg (by rw [List.length_append, hll]; omega)]
      · rw [Int.toNat_natCast, show (5 : Int).toNat = 5 from rfl, varL, List.append_assoc]
      · rintro ⟨_, h⟩
        apply h
        rw [Int.toNat_natCast, show (5 : Int).toNat = 5 from rfl]
        exact Nat.div_eq_of_lt (by omega)
    refine spec_bits_Put hw (v := (grpV v.toNat g j : Int)) (n := 5) (by omega) (by omega) fun w5 hw5 f5 => ?_
    rw [ep] at hw5
    have hs5 := f5.size
    refine hK _ _ ⟨wsucc hj (by omega), Wr.st.mono hw5 fun k _ e => ?_, f3.exS f5 fun k e => e⟩
    rcases e with e | e
    · exact e
    · exact .inr (by omega)
  · rintro i w3 ⟨rfl, hw, f3⟩
    exact hk _ hw f3
def widthM (lo hi : Int) : Nat := if hi < lo then 0 else Lib.bitLen (hi - lo).toNat
theorem w64_range {lo hi : Int} (h1 : -9223372036854775808 ≤ lo) (h2 : lo ≤ hi) (h3 : hi ≤ 9223372036854775807) : IntKind.wrap .u64 (IntKind.wrap .u64 hi - IntKind.wrap .u64 lo) = hi - lo := by
  rw [IntKind.wrap_u64, IntKind.wrap_u64, IntKind.wrap_u64]
  omega
theorem spec_nums_Width {lo hi : Int} (h1 : -9223372036854775808 ≤ lo ∧ lo ≤ 9223372036854775807) (h2 : -9223372036854775808 ≤ hi ∧ hi ≤ 9223372036854775807) {K : Res [.sc (.int .i64)] → W R} (hk : K (widthM lo hi : Int) Q w) : callW Tryz.prog k_nums_Width [.int .i64 lo, .int .i64 hi] [.sc (.int .i64)] K Q w := by
  refine C_nums_Width _ _ K Q w ?_
  unfold F_nums_Width
  unfold widthM at hk
  refine condD (fun h => ?_) fun h => ?_
  · rw [if_pos h] at hk
    exact hk
  · rw [if_neg h] at hk
    rw [w64_range h1.1 (by omega) h2.2]
    exact spec_Len64 (by omega) (by omega) hk
def putInM (L : List Bool) (n lo hi : Int) : Int × List Bool := if hi < lo then (1, L) else if n < lo ∨ hi < n then (5, L) else putB L (n - lo) (widthM lo hi)
theorem spec_nums_PutIn {b : Nat} {L : List Bool} {F : Nat → Prop} (h : Wr b L F w) {n lo hi : Int} (h1 : -9223372036854775808 ≤ lo ∧ lo ≤ 9223372036854775807) (h2 : -9223372036854775808 ≤ hi ∧ hi ≤ 9223372036854775807) {K : Res [.sc (.int .i64)] → W R}
    (hk : ∀ w', Wr b (putInM L n lo hi).2 (Ex F w) w' → Fr F w w' → K (putInM L n lo hi).1 Q w') :
    callW Tryz.prog k_nums_PutIn [.pointer (some ⟨b, 0, none⟩), .int .i64 n, .int .i64 lo, .int .i64 hi] [.sc (.int .i64)] K Q w := by
  refine C_nums_PutIn _ _ _ _ K Q w ?_
  unfold F_nums_PutIn
  unfold putInM at hk
  have same : Wr b L (Ex F w) w := Wr.st.mono h fun k _ e => .inl e
  refine condF rfl (condD (fun h3 => ?_) fun h3 => ?_)
  · rw [if_pos h3] at hk
    exact hk _ same (Fr.refl _ _)
  rw [if_neg h3] at hk
  refine joinI (fun z w' => z = decide (n < lo ∨ hi < n) ∧ w' = w) ?_ ?_
  · refine condD (fun h => ⟨by simp [h], rfl⟩) fun h => ⟨?_, rfl⟩
    simp [h]
  rintro z w1 ⟨rfl, rfl⟩
  refine condD (fun h4 => ?_) fun h4 => ?_
  · rw [if_pos h4] at hk
    exact hk _ same (Fr.refl _ _)
  rw [if_neg h4] at hk
  refine spec_nums_Width h1 h2 ?_
  rw [w64_range (lo := lo) (hi := n) h1.1 (by omega) (by omega)]
  have hw : (widthM lo hi : Int) ≤ 64 := by
    unfold widthM
    split
    · decide
    · have := Any.bitLen_le64 (hi - lo) (by omega) (by omega)
      omega
  exact spec_bits_Put h (by omega) (by omega) hk
end Go.Proofs.YtchhhjlpnecjkaaGreat
namespace Go.Proofs.YtchhhjlpnecjkaaGreat
open Go Go.RowKit Go.Proofs.YtchhhjlpnecjkaaGreat.Den
variable {R : Type} {Q : R → World → Prop} {w : World}
theorem spec_bytes_Clone {ok : Nat → Prop} {s : Sl} {l : List Int} (hS : SlT ok w u8T s l) (hm : l.length ≤ 140737488355328) {K : Res [.sc .sl] → W R} (hk : ∀ r w', Own (Up w.heap.size) w' 5 u8T r l → Fr None w w' → K r Q w') :
    callW Tryz.prog k_bytes_Clone [.slice s.a s.n s.c] [.sc .sl] K Q w := by
  refine C_bytes_Clone s K Q w ?_
  unfold F_bytes_Clone
  refine condI (fun hn => ?_) fun _ => cloneI bytes_ty hS (by omega) (by omega) hk
  have : l = [] := by
    rcases hS.at_ with e | ⟨b, o, e, _⟩
    · exact e
    · rw [e] at hn; cases hn
  subst this
  exact hk ⟨none, 0, 0⟩ w (Own.nil _ _ _ _) (Fr.refl _ _)
theorem spec_bits_Bytes {b : Nat} {L : List Bool} {F : Nat → Prop} (h : Wr b L F w) {K : Res [.sc .sl] → W R} (hk : ∀ r w', Own (Up w.heap.size) w' 5 u8T r (packM L) → Fr None w w' → K r Q w') :
    callW Tryz.prog k_bits_Writer_Bytes [.pointer (some ⟨b, 0, none⟩)] [.sc .sl] K Q w := by
  refine C_bits_Writer_Bytes _ K Q w ?_
  unfold F_bits_Writer_Bytes
  obtain ⟨hl, _, s, B, o⟩ := h
  refine condF rfl (ptrI (fldI B (i := 0) (x := s) rfl (spec_bytes_Clone o.sl (by rw [packM_len]; omega) fun r w1 o1 f1 => hk r w1 o1 f1)))
def stepF (c : Int) : Int := if bAnd .u32 c 1 ≠ 0 then bXor .u32 (shR .u32 c 1) 3988292384 else shR .u32 c 1
theorem spec_frame_step {c : Int} {K : Res [.sc (.int .u32)] → W R} (hk : K (stepF c) Q w) : callW Tryz.prog k_frame_step [.int .u32 c] [.sc (.int .u32)] K Q w := by
  refine C_frame_step _ K Q w ?_
  unfold F_frame_step
  unfold stepF at hk
  refine condN (fun h => ?_) fun h => ?_
  · rw [if_pos h] at hk; exact hk
  · rw [if_neg (by omega)] at hk; exact hk
def stepsF : Nat → Int → Int
  | 0, c => c
  | n + 1, c => stepF (stepsF n c)
def byteF (c x : Int) : Int := stepsF 8 (bXor .u32 c (IntKind.wrap .u32 x))
def sumF (l : List Int) : Int := bXor .u32 4294967295 (l.foldl byteF 4294967295)
theorem spec_frame_Sum {ok : Nat → Prop} {s : Sl} {l : List Int} (hS : SlT ok w u8T s l) (hm : l.length ≤ 9223372036854775807) {K : Res [.sc (.int .u32)] → W R} (hk : K (sumF l) Q w) : callW Tryz.prog k_frame_Sum [.slice s.a s.n s.c] [.sc (.int .u32)] K Q w := by
  refine C_frame_Sum s K Q w ?_
  unfold F_frame_Sum
  have hlen := hS.len
  refine forI (N := s.n) (fun s : Int × Int => s.2) (fun j s w' => s = ((l.take j).foldl byteF 4294967295, (j : Int)) ∧ w' = w) ⟨rfl, rfl⟩ (fun j s w' h => by rw [h.1]) ?_ ?_
  · rintro j s1 w1 K' hj ⟨rfl, rfl⟩ - hK
    refine hS.get rfl rfl (by omega) fun x hx => ?_
    have e : (l.take (j + 1)).foldl byteF 4294967295 = byteF ((l.take j).foldl byteF 4294967295) x := by rw [take_at hx, List.foldl_append]; rfl
    generalize (l.take j).foldl byteF 4294967295 = c at e
    refine forI (N := 8) (fun s : Int × Int => s.2) (fun i s w' => s = (stepsF i (bXor .u32 c (IntKind.wrap .u32 x)), (i : Int)) ∧ w' = w1) ⟨rfl, rfl⟩ (fun j s w' h => by rw [h.1]) ?_ ?_
    · rintro i s2 w2 K2 hi ⟨rfl, rfl⟩ - hK2
      exact spec_frame_step (hK2 _ _ ⟨by rw [wsucc hi (by omega)]; rfl, rfl⟩)
    · rintro s2 w2 ⟨rfl, rfl⟩
      exact hK _ _ ⟨by rw [wsucc hj (by omega), e]; rfl, rfl⟩
  · rintro s1 w1 ⟨rfl, rfl⟩
    rw [List.take_of_length_le (by omega)]
    exact hk
theorem set_end {α : Type} (a : List α) (x y : α) (r : List α) {j : Nat} (h : j = a.length) : (a ++ x :: r).set j y = a ++ [y] ++ r := by
  subst h
  simp
def tailF (s : Int) : List Int := (List.range 4).map fun i : Nat => IntKind.wrap .u8 (shR .u32 s (8 * (i : Int)))
theorem spec_frame_tail {x : Int} {K : Res [.sc .sl] → W R} (hk : ∀ r w', Own (Up w.heap.size) w' 5 u8T r (tailF x) → Fr None w w' → K r Q w') :
    callW Tryz.prog k_frame_tail [.int .u32 x] [.sc .sl] K Q w := by
  refine C_frame_tail _ K Q w ?_
  unfold F_frame_tail
  refine makeI bytes_ty (z := (0 : Int)) (zv := .int .u8 0) (by kernel_rfl) rfl (n := 4) rfl (by decide) (by decide) fun w1 o1 f1 s1 => ?_
  refine forI (N := 4) (fun s : Int => s) (fun j i w' => i = (j : Int) ∧ Own (Up w.heap.size) w' 5 u8T ⟨some ⟨w.heap.size, 0, none⟩, 4, 4⟩ (((List.range j).map fun i : Nat => IntKind.wrap .u8 (shR .u32 x (8 * (i : Int)))) ++ List.replicate (4 - j) 0) ∧ Fr None w w') ⟨rfl, o1.mono fun k _ e => by show w.heap.size ≤ k; omega, f1⟩ (fun j s w' h => h.1) ?_ ?_
  · rintro j i w2 K' hj ⟨rfl, o2, f2⟩ - hK
    rw [w64 (x := 8 * (j : Int)) (by omega)]
    refine chkI (by omega) (o2.idx rfl (by omega) (by simp; omega) fun g y hg _ _ => ?_)
    rw [Int.toNat_natCast]
    refine o2.set rfl (i := j) (by simp; omega) hg _ fun w3 o3 f3 s3 => ?_
    refine hK _ _ ⟨wsucc hj (by decide), ?_, f2.newer f3 fun k e => o2.own k e⟩
    have e : ((List.range j).map (fun i : Nat => IntKind.wrap .u8 (shR .u32 x (8 * (i : Int)))) ++ List.replicate (4 - j) 0).set j (IntKind.wrap .u8 (shR .u32 x (8 * (j : Int)))) = (List.range (j + 1)).map (fun i : Nat => IntKind.wrap .u8 (shR .u32 x (8 * (i : Int)))) ++ List.replicate (4 - (j + 1)) 0 := by
      have : 4 - j = (4 - (j + 1)) + 1 := by omega
      rw [this, List.replicate_succ, List.range_succ, List.map_append]
      exact set_end _ _ _ _ (by simp)
    rw [e] at o3
    exact o3
  · rintro i w2 ⟨_, o2, f2⟩
    have e : ((List.range 4).map (fun i : Nat => IntKind.wrap .u8 (shR .u32 x (8 * (i : Int)))) ++ List.replicate (4 - 4) 0) = tailF x := by simp [tailF]
    rw [e] at o2
    exact hk _ w2 o2 f2
def sealF (l : List Int) : List Int := l ++ tailF (sumF l)
theorem spec_frame_Seal {ok : Nat → Prop} {s : Sl} {l : List Int} (hS : SlT ok w u8T s l) (hm : l.length ≤ 140737488355000) {K : Res [.sc .sl, .sc (.int .i64)] → W R} (h1 : 4096 < l.length → K (⟨none, 0, 0⟩, 3) Q w) (hk : l.length ≤ 4096 → ∀ r w', Own (Up w.heap.size) w' 5 u8T r (sealF l) → Fr None w w' → K (r, 0) Q w') :
    callW Tryz.prog k_frame_Seal [.slice s.a s.n s.c] [.sc .sl, .sc (.int .i64)] K Q w := by
  refine C_frame_Seal s K Q w ?_
  unfold F_frame_Seal
  have hlen := hS.len
  refine condD (fun h => h1 (by omega)) fun h => ?_
  refine spec_bytes_Clone hS (by omega) fun r w2 o2 f2 => spec_frame_Sum (hS.fr0 f2) (by omega) (spec_frame_tail fun t w3 o3 f3 => ?_)
  have hs2 := f2.size
  have hs3 := f3.size
  refine appI bytes_ty (S' := Up w.heap.size) (o2.none f3) o3.sl (by simp [tailF]; omega) (by rw [maxLen_eq]; simp [tailF]; omega) (fun _ h => h) (by show w.heap.size ≤ _; omega) fun r2 w4 o4 f4 _ => ?_
  exact hk (by omega) r2 w4 o4 ((f2.then0 f3).newer f4 fun k e => o2.own k e)
end Go.Proofs.YtchhhjlpnecjkaaGreat
namespace Go.Proofs.YtchhhjlpnecjkaaGreat
open Go Go.RowKit Go.Proofs.YtchhhjlpnecjkaaGreat.Den
abbrev Ent := Int × List Comp
def kindsOf (m : Nat) : List Int := ((List.range 6).filter (Nat.testBit m)).map fun (k : Nat) => (k : Int)
abbrev F3 := Int × Int × Int
def fieldsOf (l : List Comp) (k : Int) : F3 := match l.find? (fun c => c.1 == k) with
  | some c => c.2
  | none => (0, 0, 0)
structure Valid (m : Nat) (l : List Comp) : Prop where
  list : listE l = 0
  mask : maskN l = m
abbrev Rising (l : List Int) : Prop := l.Pairwise (· < ·)
theorem rising_ext : ∀ {l k : List Int}, Rising l → Rising k → (∀ x, x ∈ l ↔ x ∈ k) → l = k
  | [], [], _, _, _ => rfl
  | [], y :: k, _, _, h => by have := (h y).2 List.mem_cons_self; simp at this
  | x :: l, [], _, _, h => by have := (h x).1 List.mem_cons_self; simp at this
  | x :: l, y :: k, hl, hk, h => by
    rw [Rising, List.pairwise_cons] at hl hk
    have hxy : x = y := by
      rcases List.mem_cons.1 ((h x).1 List.mem_cons_self) with e | e
      · exact e
      · rcases List.mem_cons.1 ((h y).2 List.mem_cons_self) with e2 | e2
        · exact e2.symm
        · have h1 := hk.1 x e
          have h2 := hl.1 y e2
          omega
    subst hxy
    congr 1
    refine rising_ext hl.2 hk.2 fun z => ⟨fun hz => ?_, fun hz => ?_⟩
    · rcases List.mem_cons.1 ((h z).1 (List.mem_cons_of_mem _ hz)) with e | e
      · have := hl.1 z hz; omega
      · exact e
    · rcases List.mem_cons.1 ((h z).2 (List.mem_cons_of_mem _ hz)) with e | e
      · have := hk.1 z hz; omega
      · exact e
theorem listM_0 : ∀ {l : List Comp} {last : Int}, listM last l = 0 ↔ (∀ c ∈ l, checkM c = 0 ∧ last < c.1) ∧ Rising (l.map (·.1))
  | [], _ => by simp [listM]
  | c :: r, last => by
    rw [listM]
    by_cases h1 : checkM c = 0
    · rw [if_neg (by simpa using h1)]
      by_cases h2 : c.1 ≤ last
      · rw [if_pos h2]
        simp
        intro h3
        omega
      · rw [if_neg h2, listM_0, List.map_cons, Rising, Rising, List.pairwise_cons]
        constructor
        · rintro ⟨h3, h4⟩
          refine ⟨fun x hx => ?_, fun y hy => ?_, h4⟩
          · rcases List.mem_cons.1 hx with rfl | hx
            · exact ⟨h1, by omega⟩
            · have := h3 x hx; exact ⟨this.1, by omega⟩
          · obtain ⟨x, hx, rfl⟩ := List.mem_map.1 hy
            exact (h3 x hx).2
        · rintro ⟨h3, h4, h5⟩
          exact ⟨fun x hx => ⟨(h3 x (List.mem_cons_of_mem _ hx)).1, h4 _ (List.mem_map_of_mem hx)⟩, h5⟩
    · rw [if_pos (by simpa using h1)]
      constructor
      · intro h; exact absurd h h1
      · rintro ⟨h3, _⟩; exact absurd (h3 c List.mem_cons_self).1 h1
theorem listE_0 {l : List Comp} : listE l = 0 ↔ (∀ c ∈ l, checkM c = 0) ∧ Rising (l.map (·.1)) := by
  unfold listE
  rw [listM_0]
  constructor
  · rintro ⟨h1, h2⟩; exact ⟨fun c hc => (h1 c hc).1, h2⟩
  · rintro ⟨h1, h2⟩; exact ⟨fun c hc => ⟨h1 c hc, by have := checkM_kind (h1 c hc); omega⟩, h2⟩
theorem has_iff {l : List Comp} {k : Nat} : has l k = true ↔ (k : Int) ∈ l.map (·.1) := by
  simp [has]
theorem kindsOf_mem {m : Nat} {x : Int} : x ∈ kindsOf m ↔ ∃ k : Nat, k < 6 ∧ Nat.testBit m k = true ∧ x = (k : Int) := by
  simp only [kindsOf, List.mem_map, List.mem_filter, List.mem_range]
  constructor
  · rintro ⟨k, ⟨h1, h2⟩, rfl⟩; exact ⟨k, h1, h2, rfl⟩
  · rintro ⟨k, h1, h2, rfl⟩; exact ⟨k, ⟨h1, h2⟩, rfl⟩
theorem kindsOf_rising (m : Nat) : Rising (kindsOf m) := by
  unfold kindsOf Rising
  rw [List.pairwise_map]
  refine (List.Pairwise.filter _ List.pairwise_lt_range).imp fun h => ?_
  exact Int.ofNat_lt.2 h
theorem Valid.kinds {m : Nat} {l : List Comp} (h : Valid m l) : l.map (·.1) = kindsOf m := by
  obtain ⟨h1, h2⟩ := listE_0.1 h.list
  refine rising_ext h2 (kindsOf_rising m) fun x => ?_
  rw [kindsOf_mem]
  constructor
  · intro hx
    obtain ⟨c, hc, rfl⟩ := List.mem_map.1 hx
    have hk := checkM_kind (h1 c hc)
    refine ⟨c.1.toNat, by omega, ?_, by omega⟩
    rw [← h.mask, maskN_bit l (by omega), has_iff, show ((c.1.toNat : Nat) : Int) = c.1 by omega]
    exact List.mem_map_of_mem hc
  · rintro ⟨k, hk, hb, rfl⟩
    rw [← h.mask, maskN_bit l hk, has_iff] at hb
    exact hb
theorem fieldsOf_mem {l : List Comp} (hr : Rising (l.map (·.1))) {c : Comp} (hc : c ∈ l) : fieldsOf l c.1 = c.2 := by
  unfold fieldsOf
  have : l.find? (fun x => x.1 == c.1) = some c := by
    induction l with
    | nil => simp at hc
    | cons x r ih =>
      rw [List.map_cons, Rising, List.pairwise_cons] at hr
      rcases List.mem_cons.1 hc with h | h
      · subst h; simp
      · have := hr.1 c.1 (List.mem_map_of_mem h)
        rw [List.find?_cons_of_neg (by simp; omega)]
        exact ih hr.2 h
  rw [this]
theorem Valid.rising {m : Nat} {l : List Comp} (h : Valid m l) : Rising (l.map (·.1)) := (listE_0.1 h.list).2
theorem Valid.eq {m : Nat} {l : List Comp} (h : Valid m l) : l = (kindsOf m).map fun k => (k, fieldsOf l k) := by
  have e1 : (kindsOf m).map (fun k => (k, fieldsOf l k)) = l.map fun c => (c.1, fieldsOf l c.1) := by
    rw [← h.kinds, List.map_map]; rfl
  rw [e1]
  have : l.map (fun c => (c.1, fieldsOf l c.1)) = l.map id := List.map_congr_left fun c hc => by rw [fieldsOf_mem h.rising hc]; rfl
  rw [this, List.map_id]
theorem Valid.mk' {m : Nat} (hm : m < 64) {g : Int → F3} (hc : ∀ k ∈ kindsOf m, checkM (k, g k) = 0) : Valid m ((kindsOf m).map fun k => (k, g k)) := by
  have e : ((kindsOf m).map fun k => ((k, g k) : Comp)).map (·.1) = kindsOf m := by rw [List.map_map]; exact List.map_id _
  constructor
  · rw [listE_0, e]
    refine ⟨fun c hc' => ?_, kindsOf_rising m⟩
    obtain ⟨k, hk, rfl⟩ := List.mem_map.1 hc'
    exact hc k hk
  · refine mask_ext (maskN_lt _) hm fun k hk => ?_
    rw [maskN_bit _ hk, Bool.eq_iff_iff, has_iff, e, kindsOf_mem]
    constructor
    · rintro ⟨q, _, hb, he⟩
      have : q = k := by omega
      subst this; exact hb
    · intro hb; exact ⟨k, hk, hb, rfl⟩
theorem Valid.small {m : Nat} {l : List Comp} (h : Valid m l) : l.length ≤ 6 := by
  have : (l.map (·.1)).length = l.length := List.length_map _
  rw [← this, h.kinds, kindsOf, List.length_map]
  exact List.length_filter_le _ (List.range 6)
theorem withG_done {c : Comp} : ∀ {l : List Comp}, (∀ x ∈ l, x.1 ≠ c.1) → withG c true l = l
  | [], _ => rfl
  | x :: r, h => by
    rw [withG, Bool.true_or, withG_done fun y hy => h y (List.mem_cons_of_mem _ hy)]
    simp [h x List.mem_cons_self]
theorem withM_put {c : Comp} : ∀ {l : List Comp}, Rising (l.map (·.1)) → c.1 ∈ l.map (·.1) → withM l c = l.map fun x => if x.1 = c.1 then c else x
  | [], _, h => by simp at h
  | x :: r, hr, hm => by
    rw [List.map_cons, Rising, List.pairwise_cons] at hr
    rw [withM, withG]
    by_cases h : x.1 = c.1
    · have hno : ∀ y ∈ r, y.1 ≠ c.1 := fun y hy e => by have := hr.1 y.1 (List.mem_map_of_mem hy); omega
      rw [List.map_cons, if_pos h]
      have : r.map (fun x => if x.1 = c.1 then c else x) = r := by
        have e : r.map (fun x => if x.1 = c.1 then c else x) = r.map id := List.map_congr_left fun y hy => by rw [if_neg (hno y hy)]; rfl
        rw [e, List.map_id]
      rw [this]
      have hge : decide (x.1 ≥ c.1) = true := decide_eq_true (by omega)
      rw [hge, Bool.or_true, withG_done (by simpa using hno)]
      simp [h]
    · have hm' : c.1 ∈ r.map (·.1) := by
        rcases List.mem_cons.1 hm with e | e
        · exact absurd e.symm h
        · exact e
      have hlt := hr.1 c.1 hm'
      have hge : decide (x.1 ≥ c.1) = false := decide_eq_false (by omega)
      rw [hge, List.map_cons, if_neg h]
      have ih := withM_put hr.2 hm'
      rw [withM] at ih
      simp [h, ih]
theorem withM_valid {m : Nat} (hm : m < 64) {l : List Comp} {c : Comp} (h : Valid m l) (hc : checkM c = 0) (hk : c.1 ∈ kindsOf m) : Valid m (withM l c) ∧ ∀ k ∈ kindsOf m, fieldsOf (withM l c) k = if k = c.1 then c.2 else fieldsOf l k := by
  have e1 := withM_put h.rising (c := c) (by rw [h.kinds]; exact hk)
  have e2 : withM l c = (kindsOf m).map fun k => (k, if k = c.1 then c.2 else fieldsOf l k) := by
    rw [e1]
    conv => lhs; rw [h.eq]
    rw [List.map_map]
    refine List.map_congr_left fun k _ => ?_
    simp only [Function.comp]
    split
    · rename_i e; rw [e]
    · rfl
  have hv : Valid m ((kindsOf m).map fun k => (k, if k = c.1 then c.2 else fieldsOf l k)) := Valid.mk' hm fun k hk2 => by
    split
    · rename_i e; subst e; exact hc
    · have : ((k, fieldsOf l k) : Comp) ∈ l := by rw [h.eq]; exact List.mem_map.2 ⟨k, hk2, by rw [← h.eq]⟩
      exact (listE_0.1 h.list).1 _ this
  rw [e2]
  refine ⟨hv, fun k hk2 => ?_⟩
  exact fieldsOf_mem hv.rising (c := (k, if k = c.1 then c.2 else fieldsOf l k)) (List.mem_map.2 ⟨k, hk2, rfl⟩)
def rowM (L : List Ent) (id : Int) : Option Nat := L.findIdx? (fun e => e.1 == id)
theorem rowM_none {L : List Ent} {id : Int} : rowM L id = none ↔ ∀ e ∈ L, e.1 ≠ id := by
  unfold rowM
  rw [List.findIdx?_eq_none_iff]
  simp
def addM (m : Nat) (L : List Ent) (id : Int) (l : List Comp) : Int := if listE l ≠ 0 then listE l else if maskN l ≠ m then 4 else if (rowM L id).isSome then 9 else 0
def setL (L : List Ent) (i : Nat) (c : Comp) : List Ent := L.modify i fun e => (e.1, withM e.2 c)
def dropI {α : Type} (l : List α) (i : Nat) : List α := (match l[l.length - 1]? with
  | some z => l.set i z
  | none => l).take (l.length - 1)
theorem dropI_map {α β : Type} (f : α → β) (l : List α) (i : Nat) : (dropI l i).map f = dropI (l.map f) i := by
  unfold dropI
  rw [List.length_map, List.getElem?_map]
  cases l[l.length - 1]? <;> simp [List.map_take, List.map_set]
theorem dropI_eq {α : Type} {l : List α} {i : Nat} {z : α} (h : l[l.length - 1]? = some z) : dropI l i = (l.set i z).take (l.length - 1) := by rw [dropI, h]
theorem dropI_len {α : Type} (l : List α) (i : Nat) : (dropI l i).length = l.length - 1 := by
  unfold dropI
  cases l[l.length - 1]? <;> simp
structure TabOk (m : Nat) (L : List Ent) : Prop where
  mask : m < 64
  nodup : (L.map (·.1)).Nodup
  ids : ∀ e ∈ L, 0 ≤ e.1 ∧ e.1 ≤ 4294967295
  valid : ∀ e ∈ L, Valid m e.2
  small : L.length ≤ 1048576
theorem TabOk.nil {m : Nat} (h : m < 64) : TabOk m [] := ⟨h, by simp, by simp, by simp, by simp⟩
theorem TabOk.add {m : Nat} {L : List Ent} (h : TabOk m L) {id : Int} {l : List Comp} (hid : 0 ≤ id ∧ id ≤ 4294967295) (ha : addM m L id l = 0) (hs : L.length < 1048576) : TabOk m (L ++ [(id, l)]) := by
  unfold addM at ha
  split at ha
  · rename_i h1; exact absurd ha h1
  · rename_i h1
    split at ha
    · cases ha
    · rename_i h2
      split at ha
      · cases ha
      · rename_i h3
        have hr : rowM L id = none := by simpa using h3
        refine ⟨h.mask, ?_, ?_, ?_, by simp; omega⟩
        · rw [List.map_append, List.nodup_append]
          refine ⟨h.nodup, by simp, fun x hx y hy => ?_⟩
          simp at hy
          subst hy
          obtain ⟨e, he, rfl⟩ := List.mem_map.1 hx
          exact rowM_none.1 hr e he
        · intro e he
          rcases List.mem_append.1 he with he | he
          · exact h.ids e he
          · simp at he; subst he; exact hid
        · intro e he
          rcases List.mem_append.1 he with he | he
          · exact h.valid e he
          · simp at he; subst he; exact ⟨by simpa using h1, by simpa using h2⟩
theorem dropI_get {α : Type} {l : List α} {i q : Nat} {z : α} (hz : l[l.length - 1]? = some z) : (dropI l i)[q]? = if q < l.length - 1 then (if q = i then some z else l[q]?) else none := by
  rw [dropI_eq hz, List.getElem?_take]
  by_cases hq : q < l.length - 1
  · rw [if_pos hq, if_pos hq, List.getElem?_set]
    by_cases hi : i = q
    · subst hi
      rw [if_pos rfl, if_pos rfl, if_pos (by omega)]
    · rw [if_neg hi, if_neg (fun e => hi e.symm)]
  · rw [if_neg hq, if_neg hq]
theorem dropI_mem {α : Type} {l : List α} {i : Nat} {x : α} (h : x ∈ dropI l i) : x ∈ l := by
  unfold dropI at h
  split at h
  · rename_i z hz
    have := List.mem_of_mem_take h
    rcases List.mem_or_eq_of_mem_set this with h | h
    · exact h
    · subst h; exact List.mem_of_getElem? hz
  · exact List.mem_of_mem_take h
theorem dropI_nodup {α : Type} {l : List α} {i : Nat} (hn : l.Nodup) (hi : i < l.length) : (dropI l i).Nodup := by
  obtain ⟨z, hz⟩ : ∃ z, l[l.length - 1]? = some z := ⟨_, List.getElem?_eq_getElem (by omega)⟩
  have uniq : ∀ (a b : Nat) (x : α), l[a]? = some x → l[b]? = some x → a = b := by
    intro a b x ha hb
    obtain ⟨ha1, ha2⟩ := List.getElem?_eq_some_iff.1 ha
    obtain ⟨hb1, hb2⟩ := List.getElem?_eq_some_iff.1 hb
    rcases Nat.lt_trichotomy a b with h | h | h
    · exact absurd (ha2.trans hb2.symm) (List.pairwise_iff_getElem.1 hn a b ha1 hb1 h)
    · exact h
    · exact absurd (hb2.trans ha2.symm) (List.pairwise_iff_getElem.1 hn b a hb1 ha1 h)
  rw [List.Nodup, List.pairwise_iff_getElem]
  intro a b ha hb hab he
  have ha' := List.getElem?_eq_getElem ha
  have hb' := List.getElem?_eq_getElem hb
  rw [he] at ha'
  have hl := dropI_len l i
  rw [dropI_get hz, if_pos (by omega)] at ha' hb'
  by_cases h1 : a = i
  · rw [if_pos h1] at ha'
    rw [if_neg (by omega)] at hb'
    have := uniq b (l.length - 1) _ hb' (by rw [hz, ha'])
    omega
  · rw [if_neg h1] at ha'
    by_cases h2 : b = i
    · rw [if_pos h2] at hb'
      have := uniq a (l.length - 1) _ ha' (by rw [hz, hb'])
      omega
    · rw [if_neg h2] at hb'
      have := uniq a b _ ha' hb'
      omega
theorem TabOk.drop {m : Nat} {L : List Ent} (h : TabOk m L) {i : Nat} (hi : i < L.length) : TabOk m (dropI L i) :=
  ⟨h.mask, by rw [dropI_map]; exact dropI_nodup h.nodup (by simpa using hi), fun e he => h.ids e (dropI_mem he), fun e he => h.valid e (dropI_mem he), by rw [dropI_len]; have := h.small; omega⟩
theorem setL_eq {L : List Ent} {i : Nat} {e : Ent} {c : Comp} (h : L[i]? = some e) : setL L i c = L.set i (e.1, withM e.2 c) := by
  unfold setL
  apply List.ext_getElem?
  intro q
  rw [List.getElem?_modify, List.getElem?_set]
  by_cases hq : i = q
  · subst hq
    have := (List.getElem?_eq_some_iff.1 h).1
    have e2 := (List.getElem?_eq_some_iff.1 h).2
    simp [this, e2]
  · simp [hq]
theorem setL_ids {L : List Ent} {i : Nat} {e : Ent} {c : Comp} (h : L[i]? = some e) : (setL L i c).map (·.1) = L.map (·.1) := by
  rw [setL_eq h, List.map_set]
  apply List.ext_getElem?
  intro q
  rw [List.getElem?_set]
  by_cases hq : i = q
  · subst hq
    have := (List.getElem?_eq_some_iff.1 h).1
    have e2 := (List.getElem?_eq_some_iff.1 h).2
    simp [this, e2]
  · simp [hq]
theorem setL_len {L : List Ent} {i : Nat} {c : Comp} : (setL L i c).length = L.length := by simp [setL]
theorem TabOk.set {m : Nat} {L : List Ent} (h : TabOk m L) {i : Nat} {e : Ent} {c : Comp} (hi : L[i]? = some e) (hc : checkM c = 0) (hk : c.1 ∈ kindsOf m) : TabOk m (setL L i c) := by
  have hv := h.valid e (List.mem_of_getElem? hi)
  refine ⟨h.mask, by rw [setL_ids hi]; exact h.nodup, fun x hx => ?_, fun x hx => ?_, by rw [setL_len]; exact h.small⟩
  · rw [setL_eq hi] at hx
    rcases List.mem_or_eq_of_mem_set hx with hx | rfl
    · exact h.ids x hx
    · exact h.ids e (List.mem_of_getElem? hi)
  · rw [setL_eq hi] at hx
    rcases List.mem_or_eq_of_mem_set hx with hx | rfl
    · exact h.valid x hx
    · exact (withM_valid h.mask hv hc hk).1
end Go.Proofs.YtchhhjlpnecjkaaGreat
namespace Go.Proofs.YtchhhjlpnecjkaaGreat
open Go Go.RowKit Go.Proofs.YtchhhjlpnecjkaaGreat.Den
variable {R : Type} {Q : R → World → Prop} {w : World}
abbrev idT : Ty := .sc (.int .u32)
theorem ids_ty : SlTy Tryz.prog 77 54 idT 4 := slTy (by kernel_rfl)
def IdOk (i : Int) : Prop := 0 ≤ i ∧ i ≤ 4294967295
theorem Den.Own.relab {lab : Nat → Nat} {E : TypeId} {t : Ty} {s : Sl} {l : List t.T} {j : Nat} (h : Own (fun x => lab x = j) w E t s l) (n' c : Nat) : Own (fun x => relab lab w.heap.size n' c x = j) w E t s l :=
  h.mono fun k hk e => by rw [relab_lt hk]; exact e
end Go.Proofs.YtchhhjlpnecjkaaGreat
namespace Go.Proofs.YtchhhjlpnecjkaaGreat
open Go Go.RowKit Go.Proofs.YtchhhjlpnecjkaaGreat.Den
variable {R : Type} {Q : R → World → Prop} {w : World}
structure SM where
  first : Int
  gen : List Int
  used : List Bool
  free : List Int
  fresh : Nat
def idOf (slot gen : Int) : Int := gen * 1024 + slot
def genOf (id : Int) : Int := id / 1024
def SM.n (s : SM) : Nat := s.gen.length
def SM.count (s : SM) : Nat := s.used.countP (fun b => b)
def SM.new (n : Nat) (first : Int) : SM := ⟨first, List.replicate n 0, List.replicate n false, [], 0⟩
def SM.use (s : SM) (i : Nat) (g : Int) : SM := { s with gen := s.gen.set i g, used := s.used.set i true }
def SM.take (s : SM) : Option (Int × SM) := match s.free.getLast? with
  | some x => match s.gen[x.toNat]? with
    | some g => some (idOf x (g + 1), { s.use x.toNat (g + 1) with free := s.free.dropLast })
    | none => none
  | none => if s.fresh < s.n then some (idOf s.fresh s.first, { s.use s.fresh s.first with fresh := s.fresh + 1 }) else none
def SM.ids (s : SM) : Nat → List Int
  | 0 => []
  | j + 1 => s.ids j ++ (match s.used[j]?, s.gen[j]? with
    | some true, some g => [idOf j g]
    | _, _ => [])
def SM.list (s : SM) : List Int := s.ids s.n
structure SMOk (s : SM) : Prop where
  pos : 1 ≤ s.n
  le : s.n ≤ 1024
  len : s.used.length = s.n
  first : 1 ≤ s.first ∧ s.first ≤ 4194303
  fresh : s.fresh ≤ s.n
  old : ∀ i g, s.gen[i]? = some g → i < s.fresh → 1 ≤ g ∧ g ≤ 4194303
  new : ∀ i g, s.gen[i]? = some g → s.fresh ≤ i → g = 0
  unused : ∀ i, s.used[i]? = some true → i < s.fresh
  free : ∀ x, x ∈ s.free ↔ ∃ i : Nat, x = (i : Int) ∧ i < s.fresh ∧ s.used[i]? = some false ∧ ∃ g, s.gen[i]? = some g ∧ g < 4194303
  nodup : s.free.Nodup
theorem SMOk.use {s : SM} (h : SMOk s) {i : Nat} {g : Int} (hi : i < s.n) (hg : 1 ≤ g ∧ g ≤ 4194303) {fr : Nat} (hfr : fr ≤ s.n) (hge : s.fresh ≤ fr) (hif : i < fr) (hle : ∀ j, s.fresh ≤ j → j < fr → j = i) {free : List Int} (hfree : ∀ x, x ∈ free ↔ x ∈ s.free ∧ x ≠ (i : Int)) (hnd : free.Nodup) :
    SMOk { s.use i g with fresh := fr, free := free } := by
  refine ⟨?_, ?_, ?_, h.first, ?_, fun j g' h1 h2 => ?_, fun j g' h1 h2 => ?_, fun j h1 => ?_, fun x => ?_, hnd⟩
  · simpa [SM.n, SM.use] using h.pos
  · simpa [SM.n, SM.use] using h.le
  · simpa [SM.n, SM.use] using h.len
  · simpa [SM.n, SM.use] using hfr
  · simp only [SM.use, List.getElem?_set] at h1
    split at h1
    · split at h1
      · cases h1; exact hg
      · cases h1
    · rename_i hne
      rcases Nat.lt_or_ge j s.fresh with hj | hj
      · exact h.old j g' h1 hj
      · exact absurd (hle j hj h2).symm hne
  · simp only [SM.use, List.getElem?_set] at h1
    split at h1
    · rename_i e; subst e; simp only at h2; omega
    · exact h.new j g' h1 (Nat.le_trans hge h2)
  · simp only [SM.use, List.getElem?_set] at h1
    split at h1
    · rename_i e; subst e; exact hif
    · exact Nat.lt_of_lt_of_le (h.unused j h1) hge
  · rw [hfree, h.free]
    simp only [SM.use]
    constructor
    · rintro ⟨⟨j, rfl, h1, h2, h3⟩, hne⟩
      have hji : ¬ i = j := fun e => hne (by rw [e])
      exact ⟨j, rfl, Nat.lt_of_lt_of_le h1 hge, by rw [List.getElem?_set_ne hji]; exact h2, by rw [List.getElem?_set_ne hji]; exact h3⟩
    · rintro ⟨j, rfl, h1, h2, h3⟩
      have hji : ¬ i = j := fun e => by
        subst e
        rw [List.getElem?_set_self (by rw [h.len]; exact hi)] at h2
        cases h2
      rw [List.getElem?_set_ne hji] at h2 h3
      refine ⟨⟨j, rfl, ?_, h2, h3⟩, fun e => hji (by omega)⟩
      rcases Nat.lt_or_ge j s.fresh with hj | hj
      · exact hj
      · exact absurd (hle j hj h1).symm hji
theorem getLast_split {α : Type} {l : List α} {x : α} (h : l.getLast? = some x) : l = l.dropLast ++ [x] := by
  obtain ⟨ys, rfl⟩ := List.getLast?_eq_some_iff.1 h
  simp
theorem SMOk.freeGet {s : SM} (h : SMOk s) {x : Int} (hx : x ∈ s.free) : ∃ i : Nat, x = (i : Int) ∧ i < s.n ∧ s.used[i]? = some false ∧ ∃ g, s.gen[i]? = some g ∧ 1 ≤ g ∧ g < 4194303 := by
  obtain ⟨i, rfl, h1, h2, g, h3, h4⟩ := (h.free x).1 hx
  exact ⟨i, rfl, Nat.lt_of_lt_of_le h1 h.fresh, h2, g, h3, (h.old i g h3 h1).1, h4⟩
theorem SMOk.take {s s' : SM} {id : Int} (h : SMOk s) (ht : s.take = some (id, s')) : SMOk s' := by
  unfold SM.take at ht
  split at ht
  · rename_i x hx
    have hmem : x ∈ s.free := List.mem_of_getLast? hx
    obtain ⟨i, rfl, hi, hu, g, hg, h1, h2⟩ := h.freeGet hmem
    rw [Int.toNat_natCast, hg] at ht
    simp only [Option.some.injEq, Prod.mk.injEq] at ht
    obtain ⟨_, rfl⟩ := ht
    have hsp := getLast_split hx
    have hnd := h.nodup
    rw [hsp] at hnd
    have hif := (h.free _).1 hmem
    obtain ⟨i', e, hif, _⟩ := hif
    have : i' = i := by omega
    subst this
    refine h.use (fr := s.fresh) hi ⟨by omega, by omega⟩ h.fresh (Nat.le_refl _) hif (fun j h1 h2 => by omega) (fun y => ?_) (List.nodup_append.1 hnd).1
    conv => rhs; rw [hsp]
    rw [List.mem_append, List.mem_singleton]
    constructor
    · intro hy
      exact ⟨.inl hy, fun e => (List.nodup_append.1 hnd).2.2 y hy _ (by simp) e⟩
    · rintro ⟨hy | hy, hne⟩
      · exact hy
      · exact absurd hy hne
  · rename_i hn
    have hfe : s.free = [] := by simpa using hn
    split at ht
    · rename_i hlt
      simp only [Option.some.injEq, Prod.mk.injEq] at ht
      obtain ⟨_, rfl⟩ := ht
      refine h.use (fr := s.fresh + 1) (free := s.free) hlt h.first hlt (by omega) (by omega) (fun j h1 h2 => by omega) (fun y => ?_) h.nodup
      rw [hfe]; simp
    · cases ht
abbrev boolT : Ty := .sc .bool
theorem bools_ty : SlTy Tryz.prog 70 4 boolT 1 := slTy (by kernel_rfl)
theorem spec_slots_Gen {id : Int} (h : 0 ≤ id ∧ id ≤ 4294967295) {K : Res [.sc (.int .i64)] → W R} (hk : K (genOf id) Q w) : callW Tryz.prog k_slots_Gen [.int .u32 id] [.sc (.int .i64)] K Q w := by
  refine C_slots_Gen id K Q w ?_
  unfold F_slots_Gen
  have : IntKind.wrap .i64 (IntKind.wrap .u32 (Int.tdiv id 1024)) = genOf id := by rw [Int.tdiv_eq_ediv_of_nonneg h.1, wu32 (by omega), w64 (by omega)]; rfl
  rw [this]
  exact hk
end Go.Proofs.YtchhhjlpnecjkaaGreat
namespace Go.Proofs.YtchhhjlpnecjkaaGreat.Den
open Go Go.RowKit
variable {R : Type} {Q : R → World → Prop} {w : World} {P : Program} {T E ty : TypeId} {t : Ty} {bytes : Nat}
theorem zeroCells_flat {z' : Value} {z : t.T} (hzc : z'.cells.toList = t.cells z) (hpos : 0 < t.size) (n : Nat) : (Builtin.zeroCells z'.cells n).toList = (List.replicate n z).flatMap t.cells := by
  apply List.ext_getElem?
  intro j
  have hzs : z'.cells = ⟨t.cells z⟩ := by rw [← hzc]
  have hsz : (t.cells z).length = t.size := t.cells_len z
  by_cases hj : j < n * t.size
  · have hq : j / t.size < n := Nat.div_lt_of_lt_mul (by rw [Nat.mul_comm]; exact hj)
    have hml : j % t.size < (t.cells z).length := by rw [hsz]; exact Nat.mod_lt _ hpos
    have e1 := flat_at (l := List.replicate n z) (i := j / t.size) (x := z) (by simp [hq]) (j % t.size) _ (List.getElem?_eq_getElem hml)
    rw [Nat.mul_comm, Nat.div_add_mod] at e1
    rw [e1, hzs]
    have hj' : j < (Builtin.zeroCells ⟨t.cells z⟩ n).size := by rw [size_zeroCells]; simp [hsz]; exact hj
    rw [Array.getElem?_toList, Array.getElem?_eq_getElem hj']
    simp only [Builtin.zeroCells, Array.getElem_map, Array.getElem_range, List.size_toArray, hsz]
    congr 1
    rw [getElem!_pos (c := (⟨t.cells z⟩ : Array Value)) (i := j % t.size) (by simpa using hml)]
    simp
  · rw [List.getElem?_eq_none, List.getElem?_eq_none]
    · rw [flat_len]; simp; omega
    · rw [Array.length_toList, size_zeroCells, hzs]; simp [hsz]; omega
theorem run_append_zeros_room (w : World) (tn : TypeId) (i : TypeInfo) (z : Value) (k kn : IntKind) (ht : P.underlying T = some (.slice E)) (htn : P.underlying tn = some (.int kn)) (hi : P.info? E = some i) (hz : i.zero = some z)
    (g sLen sCap : Nat) (cur : Array Value) (hg : w.heap[g]? = some (.cells cur E (0, 0))) (n : Nat) (h0 : 0 < n * i.size) (hroom : sLen + n ≤ sCap) (h48 : n * i.bytes ≤ 281474976710656) (h63 : (n : Int) ≤ 9223372036854775807) (hfit : sLen * i.size + n * z.cells.size ≤ cur.size) (h1 : ∀ u ∈ (Builtin.zeroCells z.cells n).toList, u.oneCell' = true) :
    (Builtin.append_ #[T, tn] ty #[.slice (some ⟨g, 0, none⟩) sLen sCap, .int k n]).run P w =
      .ok (.slice (some ⟨g, 0, none⟩) (sLen + n) sCap) (w.setRow g (cur.toList.take (sLen * i.size) ++ (Builtin.zeroCells z.cells n).toList ++ cur.toList.drop (sLen * i.size + (Builtin.zeroCells z.cells n).toList.length)).toArray) := by
  have hw : IntKind.i64.wrap (n : Int) = n := by rw [IntKind.wrap_i64]; omega
  have h48i : ¬ (281474976710656 < (n : Int) * (i.bytes : Int)) := by rw [← Int.natCast_mul]; omega
  have hns' : ¬ (n = 0 ∨ i.size = 0) := by
    rintro (h | h)
    · rw [h] at h0; simp at h0
    · rw [h] at h0; simp at h0
  have hst := run_storeCells_at P g (sLen * i.size) E (Builtin.zeroCells z.cells n).toList 0 cur w hg (by rw [Array.length_toList, size_zeroCells]; simpa using hfit) h1
  simp only [Nat.add_zero] at hst
  simp [Builtin.append_, run_underlying ht, run_underlying htn, sizeOf, typeInfo, zeroValue, hi, hz, asInt, asIntOf, hw, h48i, show ¬ (n * i.size = 0) by omega, hroom, show ¬ ((n : Int) < 0) by omega, Addr.add_lit, hst]
theorem appZ (H : SlTy P T E t bytes) {z : t.T} {zv : Value} (hz : (P.info? E).bind (·.zero) = some zv) (hzc : zv.cells.toList = t.cells z) {tn : TypeId} {kn : IntKind} (htn : P.underlying tn = some (.int kn)) {S S' : Nat → Prop} {s : Sl} {l : List t.T} (h : Own S w E t s l) {n : Nat} (hn : 0 < n) {k : IntKind} {ni : Int} (hni : ni = (n : Int))
    (hb : (l.length + n) * bytes ≤ 140737488355328) (hm : l.length + n ≤ maxLen) (h1 : ∀ k, S k → S' k) (h1' : S' w.heap.size) {K : Sl → W R}
    (hk : ∀ r w', Own S' w' E t r (l ++ List.replicate n z) → Fr (fun k => s.v.ownBlock = some k) w w' → w'.heap.size ≤ w.heap.size + 1 → K r Q w') : rawW P (Builtin.append_ #[T, tn] ty #[.slice s.a s.n s.c, .int k ni]) [.sc .sl] K Q w := by
  subst hni
  obtain ⟨i, z', hi, hz', hs, hby, hzs⟩ := H.info
  rw [hi] at hz
  simp only [Option.bind_some, hz', Option.some.injEq] at hz
  subst hz
  have flat : (l ++ List.replicate n z).flatMap t.cells = l.flatMap t.cells ++ (List.replicate n z).flatMap t.cells := List.flatMap_append
  have hlen : (l ++ List.replicate n z).length = l.length + n := by simp
  have hmi : ((l.length + n : Nat) : Int) ≤ 9223372036854775807 := by simp only [maxLen] at hm; omega
  have hzf := zeroCells_flat (t := t) hzc H.pos
  have hns : 0 < n * i.size := by rw [hs]; exact Nat.mul_pos hn H.pos
  have hnb : n * i.bytes ≤ 140737488355328 := by
    rw [hby]
    exact Nat.le_trans (Nat.mul_le_mul_right _ (by omega)) hb
  have one : ∀ u ∈ (Builtin.zeroCells z'.cells n).toList, u.oneCell' = true := fun u hu => by
    rw [hzf] at hu
    obtain ⟨x, _, hx⟩ := List.mem_flatMap.1 hu
    exact t.one x H.fine u hx
  have grown : ∀ (old : Nat) {v : Value} {w' : World}, old < l.length + n → v = .slice (some ⟨w.heap.size, 0, none⟩) (l.length + n) (grownCap w (l.length + n) old E) →
      w' = w.drew.alloc (.cells ((l.flatMap t.cells).toArray ++ Builtin.zeroCells z'.cells n ++ Builtin.zeroCells z'.cells (grownCap w (l.length + n) old E - (l.length + n))) E) →
      ∃ r : Sl, v = r.v ∧ K r Q w' := by
    intro old v w' ho hv hw
    have hge := grownCap_ge w (l.length + n) old E
    have hcm := grownCap_le_maxLen w (l.length + n) old E hm
    generalize grownCap w (l.length + n) old E = G at hge hcm hv hw
    subst hv; subst hw
    refine ⟨⟨_, _, _⟩, rfl, hk _ _ ?_ ((Fr.refl _ w).drew.alloc _) (by simp)⟩
    rw [← hlen]
    refine Own.mk' h1' (heap_alloc_new w.drew _) (by rw [hlen]; exact hge) hcm ?_ ?_
    · simp only [Array.size_append, List.size_toArray, flat_len, size_zeroCells, hzs, ← Nat.add_mul]
      congr 1
      omega
    · simp only [Array.toList_append, List.append_assoc, hzf]
      rw [← List.append_assoc, flat, ← flat_len (l ++ List.replicate n z), flat]
      exact List.take_left
  have hsn := h.len
  rcases h.cases with ⟨rfl, rfl⟩ | ⟨g, c, cur, rfl, hS, h3, h4, h5, h6, h7⟩
  · have hr := Lib.run_append_nil_zeros (P := P) w T tn ty E i z' k kn H.under htn hi hz' n hn (by rw [hs]; exact H.pos) (by simpa using hmi) (by omega)
    obtain ⟨r, hv, hK⟩ := grown 0 (by simpa using hn) (v := .slice (some ⟨w.heap.size, 0, none⟩) n (grownCap w n 0 E))
      (w' := w.drew.alloc (.cells (Builtin.zeroCells z'.cells n ++ Builtin.zeroCells z'.cells (grownCap w n 0 E - n)) E)) (by simp) (by simp)
    refine ⟨r, _, ?_, hK⟩
    rw [hv] at hr
    exact hr
  · by_cases hroom : l.length + n ≤ c
    · have hfit : l.length * i.size + n * z'.cells.size ≤ cur.size := by rw [hzs, hs, h6, ← Nat.add_mul]; exact Nat.mul_le_mul_right _ hroom
      have hr := run_append_zeros_room (P := P) (T := T) (E := E) (ty := ty) w tn i z' k kn H.under htn hi hz' g l.length c cur h3 n hns hroom (by omega) (by omega) hfit one
      refine ⟨⟨some ⟨g, 0, none⟩, l.length + n, c⟩, _, hr, hk _ _ ?_ ?_ (by simp [World.setRow])⟩
      · rw [← hlen]
        have hzl : (Builtin.zeroCells z'.cells n).toList.length = n * t.size := by rw [Array.length_toList, size_zeroCells, hzs]
        refine Own.mk' (h1 g hS) (setRow_heap w g cur _ E _ h3) (by rw [hlen]; exact hroom) h5 ?_ ?_
        · rw [hzs, hs] at hfit
          have hcl : cur.toList.length = cur.size := Array.length_toList
          simp only [List.size_toArray, List.length_append, List.length_take, List.length_drop, hzl, hcl, hs]
          omega
        · rw [hs, h7, hzf, ← flat, ← flat_len (l ++ List.replicate n z)]
          exact List.take_left
      · exact ⟨rfl, rfl, rfl, by simp [World.setRow], fun k _ hk => setRow_other w g k _ (fun e => hk (by simp [Sl.v, Value.ownBlock, e]))⟩
    · have holds : ∀ j u, (l.flatMap t.cells)[j]? = some u → w.cell? ((⟨g, 0, none⟩ : Addr).add j) = some u := h.sl.cellsAt rfl
      have hr := run_append_zeros_grow (P := P) (T := T) (E := E) (ty := ty) w tn i z' k kn H.under htn hi hz' ⟨g, 0, none⟩ l.length c _ (by rw [flat_len, hs]) holds n hns (by omega) hmi (growslice_fits (by omega) (by rw [hby]; exact hb)) (by omega)
      obtain ⟨r, hv, hK⟩ := grown c (by omega) rfl rfl
      refine ⟨r, _, ?_, hK⟩
      rw [hv] at hr
      exact hr
end Go.Proofs.YtchhhjlpnecjkaaGreat.Den
namespace Go.Proofs.YtchhhjlpnecjkaaGreat
open Go Go.RowKit Go.Proofs.YtchhhjlpnecjkaaGreat.Den
variable {R : Type} {Q : R → World → Prop} {w : World}
abbrev BytesOk (l : List Int) : Prop := ∀ x ∈ l, 0 ≤ x ∧ x ≤ 255
theorem string_und : Tryz.prog.underlying 9 = some .string := by kernel_rfl
theorem strI {ok : Nat → Prop} {s : Sl} {l : List Int} (hS : SlT ok w u8T s l) {K : ByteArray → W R} (hk : K (strOfNums l) Q w) : rawQ Tryz.prog (Go.convert 22 9 (.slice s.a s.n s.c)) [.sc .str] K Q w := by
  refine ⟨strOfNums l, ?_, hk⟩
  have hlen := hS.len
  rcases hS.at_ with rfl | ⟨b, o, ha, h1, h2, h3⟩
  · rw [run_convert_bytes_string w _ _ _ _ _ _ bytes_ty.under u8_und string_und]
    have hn : s.n = 0 := hlen
    rw [hn]
    cases hsa : s.a with
    | none => simp [Conv.bytesToString]; rfl
    | some a =>
      have hl : (loadCells a 0).run Tryz.prog w = .ok #[] w := by have := run_loadCells_list (P := Tryz.prog) w a [] (fun j v h => by simp at h); simpa using this
      rw [run_bytesToString w a 0 s.c [] hl]
      rfl
  · rw [ha]
    refine run_convert_bytes_arg w _ _ bytes_ty.under u8_und b o s.n s.c l hlen.symm (fun i hi => ?_) _ string_und
    have hx : l[i]? = some l[i] := List.getElem?_eq_getElem (by omega)
    have := h3 i _ hx
    rw [show i * u8T.size = i from Nat.mul_one i] at this
    rw [this]
    simp [List.getD, hx]
theorem ofNat_inj {x y : Int} (hx : 0 ≤ x ∧ x ≤ 255) (hy : 0 ≤ y ∧ y ≤ 255) (h : UInt8.ofNat x.toNat = UInt8.ofNat y.toNat) : x = y := by
  have := congrArg UInt8.toNat h
  simp at this
  omega
theorem str_eq {l l2 : List Int} (h1 : BytesOk l) (h2 : BytesOk l2) : ((strOfNums l).toList == (strOfNums l2).toList) = decide (l = l2) := by
  rw [ByteArray.toList_eq, ByteArray.toList_eq, strOfNums_data, strOfNums_data, Bool.eq_iff_iff]
  simp only [beq_iff_eq, decide_eq_true_eq]
  refine ⟨fun h => ?_, fun h => by rw [h]⟩
  induction l generalizing l2 with
  | nil => cases l2 with
    | nil => rfl
    | cons y r => simp at h
  | cons x r ih => cases l2 with
    | nil => simp at h
    | cons y r2 =>
      rw [List.map_cons, List.map_cons, List.cons.injEq] at h
      rw [ofNat_inj (h1 x List.mem_cons_self) (h2 y List.mem_cons_self) h.1, ih (fun z hz => h1 z (List.mem_cons_of_mem _ hz)) (fun z hz => h2 z (List.mem_cons_of_mem _ hz)) h.2]
theorem spec_r1_Same {ok ok2 : Nat → Prop} {s s2 : Sl} {l l2 : List Int} (hS : SlT ok w u8T s l) (hS2 : SlT ok2 w u8T s2 l2) (h1 : BytesOk l) (h2 : BytesOk l2) {K : Res [.sc .bool] → W R} (hk : K (decide (l = l2)) Q w) :
    callW Tryz.prog k_pinnaceref01_Same [.slice s.a s.n s.c, .slice s2.a s2.n s2.c] [.sc .bool] K Q w := by
  refine C_pinnaceref01_Same s s2 K Q w ?_
  unfold F_pinnaceref01_Same
  refine strI hS (strI hS2 ?_)
  rw [str_eq h1 h2]
  exact hk
def bitsU (l : List Int) : List Bool := l.flatMap fun x => bitsOf x.toNat 8
theorem bitsU_len (l : List Int) : (bitsU l).length = 8 * l.length := by
  induction l with
  | nil => rfl
  | cons x r ih =>
    have : bitsU (x :: r) = bitsOf x.toNat 8 ++ bitsU r := rfl
    rw [this, List.length_append, ih, bitsOf_len, List.length_cons]
    omega
theorem spec_r1_Bits {ok : Nat → Prop} {s : Sl} {l : List Int} (hS : SlT ok w u8T s l) (hb : BytesOk l) (hm : l.length ≤ 1048576) {K : Res [.sc .sl] → W R} (hk : ∀ r w', Own (Up w.heap.size) w' 4 boolT r (bitsU l) → Fr None w w' → K r Q w') :
    callW Tryz.prog k_pinnaceref01_Bits [.slice s.a s.n s.c] [.sc .sl] K Q w := by
  refine C_pinnaceref01_Bits s K Q w ?_
  unfold F_pinnaceref01_Bits
  have hlen := hS.len
  refine forI (N := s.n) (fun s : Sl × Int => s.2) (fun j st v => st.2 = (j : Int) ∧ Own (Up w.heap.size) v 4 boolT st.1 (bitsU (l.take j)) ∧ Fr None w v) ⟨rfl, Own.nil _ _ _ _, Fr.refl _ _⟩ (fun j s w' h => h.1) ?_ ?_
  · rintro j ⟨z, _⟩ v K' hj ⟨rfl, o, fv⟩ - hK
    refine (hS.fr0 fv).get rfl rfl (by omega) fun x hx => ?_
    have hx1 := hb x (List.mem_of_getElem? hx)
    have e : bitsU (l.take (j + 1)) = bitsU (l.take j) ++ bitsOf x.toNat 8 := by unfold bitsU; rw [take_at hx, List.flatMap_append]; simp
    have hll : (bitsU (l.take j)).length ≤ 8 * 1048576 := by rw [bitsU_len]; simp; omega
    refine forI (N := 8) (fun s : Sl × Int × Int => s.2.2) (fun i st u => st.2.2 = (i : Int) ∧ st.2.1 = ((x.toNat / 2 ^ i : Nat) : Int) ∧ Own (Up w.heap.size) u 4 boolT st.1 (bitsU (l.take j) ++ bitsOf x.toNat i) ∧ Fr None w u) ⟨rfl, by simp; omega, by simpa [bitsOf] using o, fv⟩ (fun j s w' h => h.1) ?_ ?_
    · rintro i ⟨z2, b, _⟩ u K2 hi ⟨rfl, rfl, o2, fu⟩ - hK2
      have hz := fu.size
      have hbl := bitsOf_len x.toNat i
      have hd : x.toNat / 2 ^ i ≤ 255 := Nat.le_trans (Nat.div_le_self _ _) (by omega)
      refine appP (x := (Int.tmod ((x.toNat / 2 ^ i : Nat) : Int) 2 == 1)) bools_ty rfl o2 (fun k e => by show w.heap.size ≤ k; omega) (by simp only [List.length_append, hbl]; omega) (by simp only [List.length_append, hbl]; omega) fun r u2 o3 f3 => ?_
      refine hK2 _ _ ⟨wsucc hi (by omega), ?_, ?_, fu.newer f3 fun k e => o2.own k e⟩
      · show IntKind.wrap .u8 (Int.tdiv ((x.toNat / 2 ^ i : Nat) : Int) 2) = _
        rw [Nat.pow_succ, ← Nat.div_div_eq_div_mul]
        generalize x.toNat / 2 ^ i = q at hd ⊢
        rw [Int.tdiv_eq_ediv_of_nonneg (by omega), wu8 (by omega)]
        omega
      · show Own _ u2 _ boolT r (bitsU (l.take j) ++ (bitsOf x.toNat i ++ [x.toNat.testBit i]))
        have e : x.toNat.testBit i = (Int.tmod ((x.toNat / 2 ^ i : Nat) : Int) 2 == 1) := by
          rw [Nat.testBit_eq_decide_div_mod_eq]
          generalize x.toNat / 2 ^ i = q at hd ⊢
          rw [Int.tmod_eq_emod_of_nonneg (by omega), Bool.eq_iff_iff]
          simp only [decide_eq_true_eq, beq_iff_eq]
          omega
        rw [e, ← List.append_assoc]
        exact o3
    · rintro ⟨z2, b, _⟩ u ⟨rfl, _, o2, fu⟩
      refine hK _ _ ⟨wsucc hj (by omega), ?_, fu⟩
      rw [e]
      exact o2
  · rintro ⟨z, _⟩ v ⟨_, o, fv⟩
    rw [List.take_of_length_le (by omega)] at o
    exact hk z v o fv
def tapsD : List Nat := [0, 1, 2, 4, 5, 7, 8, 10, 11, 12, 16, 22, 23, 26]
def tapBlk : List Value := tapsD.map fun (k : Nat) => .int .i64 (k : Int)
theorem tapBlk_eq : tapBlk = [.int .i64 0, .int .i64 1, .int .i64 2, .int .i64 4, .int .i64 5, .int .i64 7, .int .i64 8, .int .i64 10, .int .i64 11, .int .i64 12, .int .i64 16, .int .i64 22, .int .i64 23, .int .i64 26] := rfl
theorem taps14 : tapsD.take 14 = tapsD := rfl
theorem tapsD_le : ∀ k ∈ tapsD, k ≤ 26 := by decide
def flipAt (L : List Bool) (i : Nat) : List Bool := L.set i (!((L[i]?).getD false))
theorem flipAt_len (L : List Bool) (i : Nat) : (flipAt L i).length = L.length := List.length_set
def tapD (i : Nat) (L : List Bool) (k : Nat) : List Bool := flipAt L (i + 32 - k)
def stepD (L : List Bool) (i : Nat) : List Bool := if (L[i]?).getD false = true then tapsD.foldl (tapD i) L else L
def initD (m : List Bool) : List Bool := (List.range 32).foldl flipAt (m ++ List.replicate 32 false)
def divD (m : List Bool) (j : Nat) : List Bool := (List.range j).foldl stepD (initD m)
def numD (left : List Bool) : Nat → Int
  | 0 => 0
  | k + 1 => if (left[31 - k]?).getD false = false then IntKind.wrap .u32 (IntKind.wrap .u32 (numD left k * 2) + 1) else IntKind.wrap .u32 (numD left k * 2)
def sumD (l : List Int) : Int := numD ((divD (bitsU l) (bitsU l).length).drop (bitsU l).length) 32
theorem foldl_len {α : Type} (f : List Bool → α → List Bool) (hf : ∀ L a, (f L a).length = L.length) : ∀ (l : List α) (L : List Bool), (l.foldl f L).length = L.length
  | [], _ => rfl
  | a :: r, L => by rw [List.foldl_cons, foldl_len f hf r, hf]
theorem stepD_len (L : List Bool) (i : Nat) : (stepD L i).length = L.length := by
  unfold stepD
  split
  · exact foldl_len _ (fun L a => flipAt_len L _) _ _
  · rfl
theorem initD_len (m : List Bool) : (initD m).length = m.length + 32 := by
  unfold initD
  rw [foldl_len _ flipAt_len]
  simp
theorem divD_len (m : List Bool) (j : Nat) : (divD m j).length = m.length + 32 := by
  unfold divD
  rw [foldl_len _ stepD_len, initD_len]
theorem divD_zero (m : List Bool) : divD m 0 = (List.range 32).foldl flipAt (m ++ List.replicate 32 false) := by unfold divD initD; rw [List.range_zero, List.foldl_nil]
theorem flipI {S : Nat → Prop} {s : Sl} {l : List Bool} (o : Own S w 4 boolT s l) {i : Nat} (hi : i < l.length) {i1 i2 : Int} (h1 : i1 = (i : Int)) (h2 : i2 = (i : Int)) {K : W R} (hk : ∀ w', Own S w' 4 boolT s (flipAt l i) → Fr (fun k => s.v.ownBlock = some k) w w' → w'.heap.size = w.heap.size → K Q w') :
    idxW s.a s.n 1 i1 (fun x => ld (.sc .bool) x fun b => idxW s.a s.n 1 i2 fun y => stoL y [.bool (!b)] 0 K) Q w := by
  subst h1; subst h2
  refine o.idx rfl (by omega) (by omega) fun g x hg hx hr => ?_
  rw [Int.toNat_natCast] at hx hr ⊢
  refine ldI x hr ?_
  refine o.idx rfl (by omega) (by omega) fun g2 x2 hg2 hx2 hr2 => ?_
  rw [hg] at hg2
  cases hg2
  rw [Int.toNat_natCast]
  refine o.set rfl hi hg (!x) fun w' o' f' s' => hk w' ?_ f' s'
  unfold flipAt
  rw [hx]
  exact o'
theorem spec_r3_Sum {ok : Nat → Prop} {s : Sl} {l : List Int} (hS : SlT ok w u8T s l) (hb : BytesOk l) (hm : l.length ≤ 1048576) {K : Res [.sc (.int .u32)] → W R} (hk : ∀ w', Fr None w w' → K (sumD l) Q w') :
    callW Tryz.prog k_pinnaceref03_Sum [.slice s.a s.n s.c] [.sc (.int .u32)] K Q w := by
  refine C_pinnaceref03_Sum s K Q w ?_
  unfold F_pinnaceref03_Sum
  refine spec_r1_Bits hS hb hm fun r w1 o1 f1 => ?_
  have hl := bitsU_len l
  generalize hB : bitsU l = B at o1 hl
  refine appZ bools_ty (z := false) (zv := .bool false) (by kernel_rfl) rfl (tn := 3) (kn := .i64) (by kernel_rfl) (S' := Up w.heap.size) (n := 32) o1 (by decide) rfl (by omega) (by rw [maxLen_eq]; omega) (fun _ h => h) (by have := f1.size; show w.heap.size ≤ _; omega) fun x w2 o2 f2 z2 => ?_
  have f02 : Fr None w w2 := f1.newer f2 fun k e => o1.own k e
  have upx : ∀ {a b c : World} {L : List Bool}, Fr None w a → Own (Up w.heap.size) c 4 boolT x L → Fr (fun k => x.v.ownBlock = some k) a b → Fr None w b := fun f o g => f.newer g fun k e => o.own k e
  refine forI (N := 32) (fun s : Int => s) (fun j i v => i = (j : Int) ∧ Own (Up w.heap.size) v 4 boolT x ((List.range j).foldl flipAt (B ++ List.replicate 32 false)) ∧ Fr None w v) ⟨rfl, o2, f02⟩ (fun j s w' h => h.1) ?_ ?_
  · rintro j i v K' hj ⟨rfl, o, fv⟩ - hK
    refine flipI o (i := j) (by rw [foldl_len _ flipAt_len]; simp; omega) rfl rfl fun v2 o' f' s' => hK _ _ ⟨wsucc hj (by omega), ?_, upx fv o f'⟩
    rw [List.range_succ, List.foldl_append]
    exact o'
  rintro i v ⟨_, o, fv⟩
  have hxn : x.n = B.length + 32 := by rw [o2.len]; simp
  rw [← tapBlk_eq]
  refine newI fun v1 B1 e1 t1 => ?_
  have hzv := fv.size
  have nx0 : ¬ x.v.ownBlock = some v.heap.size := fun e => by have := o.lt e; omega
  have o := o.none e1
  have fv1 := fv.then0 e1
  refine loopI (fun (st : Int) u => ∃ j : Nat, st = (j : Int) ∧ j ≤ B.length ∧ Own (Up w.heap.size) u 4 boolT x (divD B j) ∧ Blk u v.heap.size 3 tapBlk ∧ Fr None w u)
    (fun st _ => B.length - st.toNat) ⟨0, rfl, by omega, by rw [divD_zero]; exact o, B1, fv1⟩ ?_
  rintro st u ⟨j, rfl, hj, oj, Bj, fu⟩
  rw [w64 (x := (j : Int) + 32) (by omega)]
  refine condD (fun hlt => ?_) fun hge => ?_
  · have hlt : (j : Int) + 32 < (x.n : Int) := hlt
    have hjl : j < B.length := by omega
    have hdl := divD_len B j
    refine joinI (fun (_ : Unit) u' => Own (Up w.heap.size) u' 4 boolT x (divD B (j + 1)) ∧ Blk u' v.heap.size 3 tapBlk ∧ Fr None w u') ?_ ?_
    · have estep : divD B (j + 1) = stepD (divD B j) j := by unfold divD; rw [List.range_succ, List.foldl_append]; rfl
      refine oj.idx rfl (by omega) (by omega) fun g y hg hy hr => ?_
      rw [Int.toNat_natCast] at hy hr ⊢
      refine ldI y hr ?_
      refine condI (fun hn => ?_) fun hn => ?_
      · have hn : y = false := by simpa using hn
        have : divD B (j + 1) = divD B j := by rw [estep]; unfold stepD; rw [hy, hn]; rfl
        rw [this]
        exact ⟨oj, Bj, fu⟩
      · have hn : y = true := by simpa using hn
        have e2 : divD B (j + 1) = tapsD.foldl (tapD j) (divD B j) := by rw [estep]; unfold stepD; rw [hy, hn]; rfl
        rw [e2]
        refine forI (N := 14) (fun s : Int => s) (fun q i u' => i = (q : Int) ∧ Own (Up w.heap.size) u' 4 boolT x ((tapsD.take q).foldl (tapD j) (divD B j)) ∧ Blk u' v.heap.size 3 tapBlk ∧ Fr None w u') ⟨rfl, by rw [List.take_zero]; exact oj, Bj, fu⟩ (fun j s w' h => h.1) ?_ ?_
        · rintro q i u' K2 hq ⟨rfl, o', B', f'⟩ - hK2
          refine idxB (by omega) (by omega) ?_
          have go : ∀ {k : Nat}, tapsD[q]? = some k → k ≤ 26 → idxW x.a x.n 1 (IntKind.wrap .i64 ((j : Int) + 32 - (k : Int))) (fun x_18 => ld (.sc .bool) x_18 fun (x_19 : Bool) => idxW x.a x.n 1 (IntKind.wrap .i64 ((j : Int) + 32 - (k : Int))) fun x_20 => stoL x_20 [.bool (!x_19)] 0 <| K2 (IntKind.wrap .i64 ((q : Int) + 1))) (fun r w => K r Q w) u' := by
            intro k hk hk26
            have ew : IntKind.wrap .i64 ((j : Int) + 32 - (k : Int)) = ((j + 32 - k : Nat) : Int) := by rw [w64 (by omega)]; omega
            refine flipI o' (i := j + 32 - k) (by rw [foldl_len (tapD j) (fun L a => flipAt_len L _), hdl]; omega) ew ew fun u2 o2 g2 s2 => hK2 _ _ ⟨wsucc hq (by omega), ?_, B'.fr g2 nx0, upx f' o' g2⟩
            rw [take_at hk, List.foldl_append]
            exact o2
          obtain ⟨k, hk⟩ : ∃ k, tapsD[q]? = some k := ⟨_, List.getElem?_eq_getElem (show q < tapsD.length from hq)⟩
          refine fld0 B' (i := 0 + (q : Int).toNat * 1) (x := (k : Int)) ?_ (go hk (tapsD_le k (List.mem_of_getElem? hk)))
          rw [Int.toNat_natCast, Nat.zero_add, Nat.mul_one, tapBlk, List.getElem?_map, hk]
          rfl
        · rintro i u' ⟨_, o', B', f'⟩
          rw [taps14] at o'
          exact ⟨o', B', f'⟩
    · rintro _ u' ⟨o', B', f'⟩
      refine ⟨⟨j + 1, by rw [w64 (by omega)]; rfl, by omega, o', B', f'⟩, ?_⟩
      rw [w64 (by omega)]
      simp only [Int.toNat_natCast]
      omega
  · have hge : ¬ (j : Int) + 32 < (x.n : Int) := hge
    have hjl : j = B.length := by omega
    subst hjl
    have hdl := divD_len B B.length
    refine oj.sl.from (n := B.length) rfl (by rw [w64 (by omega)]; omega) (by omega) fun y hy _ => ?_
    have hyl : ((divD B B.length).drop B.length).length = 32 := by rw [List.length_drop, hdl]; omega
    have eS : sumD l = numD ((divD B B.length).drop B.length) 32 := by unfold sumD; rw [hB]
    generalize (divD B B.length).drop B.length = left at hy hyl eS
    refine loopI (fun (st : Int × Int) u' => ∃ k : Nat, k ≤ 32 ∧ st = (numD left k, 31 - (k : Int)) ∧ Fr None w u' ∧ SlT (Up w.heap.size) u' boolT y left) (fun st _ => (st.2 + 1).toNat) ⟨0, by omega, rfl, fu, hy⟩ ?_
    rintro st u2 ⟨k, hk32, rfl, fu2, hy2⟩
    dsimp only
    refine condD (fun hg => ?_) fun hg => ?_
    · have hg : (31 - (k : Int)) ≥ 0 := hg
      refine hy2.get (j := 31 - k) rfl (by omega) (by omega) fun b hb => ?_
      refine joinI (fun z u' => z = numD left (k + 1) ∧ u2 = u') ?_ ?_
      · refine condI (fun hbn => ⟨?_, rfl⟩) fun hbn => ⟨?_, rfl⟩
        · have hbn : b = false := by simpa using hbn
          rw [numD, hb, hbn]
          simp
        · have hbn : b = true := by simpa using hbn
          rw [numD, hb, hbn]
          simp
      · rintro z u3 ⟨rfl, rfl⟩
        refine ⟨⟨k + 1, by omega, ?_, fu2, hy2⟩, ?_⟩
        · rw [w64 (by omega)]
          congr 1
          omega
        · rw [w64 (by omega)]
          omega
    · have hg : ¬ (31 - (k : Int)) ≥ 0 := hg
      have hk' : k = 32 := by omega
      subst hk'
      have := hk u2 fu2
      rw [eS] at this
      exact this
end Go.Proofs.YtchhhjlpnecjkaaGreat
namespace Go.Proofs.YtchhhjlpnecjkaaGreat
open Go Go.RowKit Go.Proofs.YtchhhjlpnecjkaaGreat.Den
variable {R : Type} {Q : R → World → Prop} {w : World}
abbrev entT : Ty := .agg [.int .u32, .sl]
theorem ents_ty : SlTy Tryz.prog 23 57 entT 32 := slTy (by kernel_rfl)
structure EntsR (ok : Nat → Prop) (w : World) (raws : List (Int × Sl)) (L : List Ent) : Prop where
  len : raws.length = L.length
  at_ : ∀ (i : Nat) (r : Int × Sl) (e : Ent), raws[i]? = some r → L[i]? = some e → r.1 = e.1 ∧ SlT ok w compT r.2 e.2
theorem EntsR.fr {ok S : Nat → Prop} {w' : World} {raws : List (Int × Sl)} {L : List Ent} (h : EntsR ok w raws L) (f : Fr S w w') (hn : ∀ k, ok k → ¬ S k) : EntsR ok w' raws L :=
  ⟨h.len, fun i r e h1 h2 => ⟨(h.at_ i r e h1 h2).1, (h.at_ i r e h1 h2).2.fr f hn⟩⟩
theorem EntsR.mono {ok ok' : Nat → Prop} {raws : List (Int × Sl)} {L : List Ent} (h : EntsR ok w raws L) (hn : ∀ k, k < w.heap.size → ok k → ok' k) : EntsR ok' w raws L :=
  ⟨h.len, fun i r e h1 h2 => ⟨(h.at_ i r e h1 h2).1, (h.at_ i r e h1 h2).2.mono hn⟩⟩
theorem EntsR.get {ok : Nat → Prop} {raws : List (Int × Sl)} {L : List Ent} (h : EntsR ok w raws L) {i : Nat} {e : Ent} (he : L[i]? = some e) : ∃ r, raws[i]? = some r ∧ r.1 = e.1 ∧ SlT ok w compT r.2 e.2 := by
  obtain ⟨hl, _⟩ := List.getElem?_eq_some_iff.1 he
  have hr := List.getElem?_eq_getElem (l := raws) (i := i) (by rw [h.len]; exact hl)
  exact ⟨_, hr, h.at_ i _ e hr he⟩
theorem EntsR.nil (ok : Nat → Prop) (w : World) : EntsR ok w [] [] := ⟨rfl, fun i r e h => by simp at h⟩
section
variable {lab : Nat → Nat} {b m : Nat} {s : Sl} {raws : List (Int × Sl)} {L : List Ent}
theorem EntsR.relab (h : EntsR (fun k => lab k = 3) w raws L) (n' c : Nat) : EntsR (fun k => relab lab w.heap.size n' c k = 3) w raws L := h.mono fun k hk e => by rw [relab_lt hk]; exact e
end
section
variable {lab : Nat → Nat} {b m : Nat} {L : List Ent}
theorem EntsR.drop {ok : Nat → Prop} {raws : List (Int × Sl)} {L : List Ent} (h : EntsR ok w raws L) (i : Nat) : EntsR ok w (dropI raws i) (dropI L i) := by
  refine ⟨by rw [dropI_len, dropI_len, h.len], fun q r e h1 h2 => ?_⟩
  by_cases h0 : L = []
  · subst h0; simp [dropI] at h2
  · have hp : 0 < L.length := List.length_pos_iff.2 h0
    have hl := h.len
    obtain ⟨z, hz⟩ : ∃ z, raws[raws.length - 1]? = some z := ⟨_, List.getElem?_eq_getElem (by omega)⟩
    obtain ⟨y, hy⟩ : ∃ y, L[L.length - 1]? = some y := ⟨_, List.getElem?_eq_getElem (by omega)⟩
    rw [dropI_get hz] at h1
    rw [dropI_get hy] at h2
    rw [hl] at h1
    by_cases hq : q < L.length - 1
    · rw [if_pos hq] at h1 h2
      by_cases hqi : q = i
      · rw [if_pos hqi] at h1 h2
        cases h1; cases h2
        rw [hl] at hz
        exact h.at_ _ _ _ hz hy
      · rw [if_neg hqi] at h1 h2
        exact h.at_ q r e h1 h2
    · rw [if_neg hq] at h1; cases h1
end
end Go.Proofs.YtchhhjlpnecjkaaGreat
namespace Go.Proofs.YtchhhjlpnecjkaaGreat
open Go Go.RowKit Go.Proofs.YtchhhjlpnecjkaaGreat.Den
variable {R : Type} {Q : R → World → Prop} {w : World}
theorem fIdx {b : Nat} {i : Int} {j : Nat} (hi : i = (j : Int)) (hj : j < 3) {K : Addr → W R} (hk : K ⟨b, 1 + j, none⟩ Q w) : idxW (some (Addr.add ⟨b, 0, none⟩ 1)) 3 1 i K Q w := by
  subst hi
  refine idxA (by omega) (by omega) ?_
  rw [addA, add_lit]
  simpa using hk
theorem spec_schema_at {k i : Int} {K : Res [.agg [.str, .int .i32, .int .i32], .sc .bool] → W R} (h0 : (i < 0 ∨ ((fieldsM k).length : Int) ≤ i) → ∀ w', Fr None w w' → K ((⟨#[]⟩, 0, 0), false) Q w')
    (hk : ∀ p w', 0 ≤ i → (fieldsM k)[i.toNat]? = some p → Fr None w w' → K (p, true) Q w') : callW Tryz.prog k_schema_at [.int .u8 k, .int .i64 i] [.agg [.str, .int .i32, .int .i32], .sc .bool] K Q w := by
  refine C_schema_at _ _ K Q w ?_
  unfold F_schema_at
  refine newI fun w1 B1 f1 s1 => spec_schema_of fun s w2 hS f2 => ?_
  have B2 := B1.fr f2 fun h => h
  have hn : s.n = (fieldsM k).length := hS.len
  have f02 := f1.then0 f2
  refine joinI (fun z w' => z = decide (i < 0 ∨ ((fieldsM k).length : Int) ≤ i) ∧ w' = w2) ?_ ?_
  · refine condD (fun h => ⟨by simp [h], rfl⟩) fun h => ⟨?_, rfl⟩
    rw [hn]
    simp [h]
  · rintro z w' ⟨rfl, rfl⟩
    refine condD (fun h => ?_) fun h => ?_
    · refine stoAll B2 rfl rfl fun w3 B3 f3 s3 => aggI B3 (x := ((⟨#[]⟩ : ByteArray), (0 : Int), (0 : Int))) rfl ?_
      exact h0 h w3 (f02.newer f3 fun k e => by omega)
    · have hi0 : 0 ≤ i := by omega
      have hi1 : i < ((fieldsM k).length : Int) := by omega
      refine hS.get (j := i.toNat) rfl (by omega) (by omega) fun y hy => ?_
      refine stoAll B2 rfl rfl fun w3 B3 f3 s3 => aggI B3 (x := y) rfl ?_
      exact hk y w3 hi0 hy (f02.newer f3 fun k e => by omega)
theorem spec_schema_Range {k i : Int} {K : Res [.sc (.int .i32), .sc (.int .i32), .sc (.int .i64)] → W R} (hk : ∀ w', Fr None w w' → K (rangeM k i) Q w') :
    callW Tryz.prog k_schema_Range [.int .u8 k, .int .i64 i] [.sc (.int .i32), .sc (.int .i32), .sc (.int .i64)] K Q w := by
  refine C_schema_Range _ _ K Q w ?_
  unfold F_schema_Range
  refine spec_schema_at (fun h w1 f1 => ?_) fun p w1 h0 hp f1 => ?_
  · refine newI fun w2 B2 f2 s2 => stoAll B2 rfl rfl fun w3 B3 f3 s3 => condT rfl ?_
    have e : rangeM k i = (0, 0, 1) := by
      unfold rangeM
      split
      · rw [List.getElem?_eq_none (by omega)]
      · rfl
    have := hk w3 (f1.then0 (f2.newer f3 fun k e => by omega))
    rw [e] at this
    exact this
  · refine newI fun w2 B2 f2 s2 => stoAll B2 rfl rfl fun w3 B3 f3 s3 => condF rfl ?_
    have fd : Fr None w3 w3.drew := (Fr.refl _ _).drew
    have B3 := B3.fr fd fun h => h
    refine fldI B3 (i := 1) (x := p.2.1) rfl (fldI B3 (i := 2) (x := p.2.2) rfl ?_)
    have e : rangeM k i = (p.2.1, p.2.2, 0) := by
      unfold rangeM
      rw [if_pos h0, hp]
    have := hk _ ((f1.then0 (f2.newer f3 fun k e => by omega)).then0 fd)
    rw [e] at this
    exact this
theorem Den.SlT.readK {ok : Nat → Prop} {t : Ty} {s : Sl} {l : List t.T} (h : SlT ok w t s l) {sz : Nat} (hsz : sz = t.size) {i : Int} {j : Nat} (hi : i = j) {x : t.T} (hj : l[j]? = some x) {K : Addr → W R} (hk : ∀ a, (∀ w', SlT ok w' t s l → Rd w' a t x) → K a Q w) :
    (idxW s.a s.n sz i K) Q w := by
  subst hi; subst hsz
  have hjl := (List.getElem?_eq_some_iff.1 hj).1
  have hn := h.len
  rcases h.at_ with e | ⟨b, o, ha, _, _, hrd⟩
  · rw [e] at hjl; simp at hjl
  · rw [ha]
    refine ⟨_, rfl, by omega, by omega, hk _ fun w' h' => ?_⟩
    rw [add_lit, Int.toNat_natCast]
    rcases h'.at_ with e | ⟨b', o', ha', _, _, hrd'⟩
    · rw [e] at hjl; simp at hjl
    · rw [ha] at ha'
      cases ha'
      exact hrd' j x hj
end Go.Proofs.YtchhhjlpnecjkaaGreat
namespace Go.Proofs.YtchhhjlpnecjkaaGreat
open Go Go.RowKit Go.Proofs.YtchhhjlpnecjkaaGreat.Den
variable {R : Type} {Q : R → World → Prop} {w : World}
theorem spec_schema_Told {k : Int} {K : Res [.sc .bool] → W R} (hk : ∀ w', Fr None w w' → K (toldM k) Q w') : callW Tryz.prog k_schema_Told [.int .u8 k] [.sc .bool] K Q w := by
  refine C_schema_Told _ K Q w ?_
  unfold F_schema_Told
  exact spec_schema_of fun s w1 _ f1 => hk w1 f1
theorem spec_snap_secret {c : Comp} {K : Res [.sc .bool] → W R} (hk : ∀ w', Fr None w w' → K (!toldM c.1) Q w') : callW Tryz.prog k_snap_secret [.agg ⟨compC c⟩] [.sc .bool] K Q w := by
  refine C_snap_secret c K Q w ?_
  unfold F_snap_secret
  exact newI fun w1 B1 f1 s1 => fldI B1 (i := 0) (x := c.1) rfl (spec_schema_Told fun w2 f2 => hk w2 (f1.then0 f2))
def secretM (l : List Comp) : Bool := l.any fun c => !toldM c.1
theorem spec_snap_anySecret {ok : Nat → Prop} {s : Sl} {l : List Comp} (hS : SlT ok w compT s l) (hm : l.length ≤ 9223372036854775807) {K : Res [.sc .bool] → W R} (hk : ∀ w', Fr None w w' → K (secretM l) Q w') :
    callW Tryz.prog k_slices_ContainsFunc_Comp [.slice s.a s.n s.c, .func (.func 71) #[] #[]] [.sc .bool] K Q w := by
  refine C_slices_ContainsFunc_Comp__snap_secret s K Q w ?_
  unfold F_slices_ContainsFunc_Comp__snap_secret
  refine C_slices_IndexFunc_Comp__snap_secret s _ _ w ?_
  unfold F_slices_IndexFunc_Comp__snap_secret
  have hlen := hS.len
  refine forI (N := s.n) (fun s : Int => s) (fun j i w' => i = j ∧ Fr None w w' ∧ secretM (l.take j) = false) ⟨rfl, Fr.refl _ _, rfl⟩ (fun j s w' h => h.1) ?_ ?_
  · rintro j i w1 K' hj ⟨rfl, f1, hno⟩ - hK
    refine (hS.fr0 f1).get rfl rfl (by omega) fun c hc => spec_snap_secret fun w2 f2 => ?_
    have e : secretM (l.take (j + 1)) = (secretM (l.take j) || !toldM c.1) := by unfold secretM; rw [take_at hc, List.any_append]; simp
    refine condI (fun h => ?_) fun h => ?_
    · have : secretM l = true := by
        unfold secretM
        exact List.any_eq_true.2 ⟨c, List.mem_of_getElem? hc, h⟩
      have hk := hk w2 (f1.then0 f2)
      rw [this] at hk
      have e2 : decide ((j : Int) ≥ 0) = true := decide_eq_true (by omega)
      rw [← e2] at hk
      exact hk
    · exact hK _ _ ⟨wsucc hj (by omega), f1.then0 f2, by rw [e, hno, h]; rfl⟩
  · rintro i w1 ⟨rfl, f1, hno⟩
    rw [List.take_of_length_le (by omega)] at hno
    have hk := hk w1 f1
    rw [hno] at hk
    exact hk
def oneM (e : Ent) : Int := if genOf e.1 < 1 ∨ 4194303 < genOf e.1 then 4 else listE e.2
theorem spec_snap_one {ok : Nat → Prop} {r : Int × Sl} {e : Ent} (h1 : r.1 = e.1) (hS : SlT ok w compT r.2 e.2) (hm : Small e.2) (hid : IdOk e.1) {K : Res [.sc (.int .i64)] → W R} (hk : ∀ w', Fr None w w' → K (oneM e) Q w') :
    callW Tryz.prog k_snap_one [.agg ⟨[.int .u32 r.1, .slice r.2.a r.2.n r.2.c]⟩] [.sc (.int .i64)] K Q w := by
  refine C_snap_one r K Q w ?_
  unfold F_snap_one
  unfold oneM at hk
  refine newI fun w1 B1 f1 s1 => fldI B1 (i := 0) (x := r.1) rfl ?_
  rw [h1]
  refine spec_slots_Gen hid ?_
  refine joinI (fun z w' => z = decide (genOf e.1 < 1 ∨ 4194303 < genOf e.1) ∧ w' = w1) ?_ ?_
  · refine condD (fun h => ⟨by simp [h], rfl⟩) fun h => ⟨?_, rfl⟩
    simp [h]
  rintro z w2 ⟨rfl, rfl⟩
  refine condD (fun h => ?_) fun h => ?_
  · rw [if_pos h] at hk
    exact hk w2 f1
  · rw [if_neg h] at hk
    exact fldI B1 (i := 1) (x := r.2) rfl (spec_schema_List (hS.fr0 f1) hm fun w3 f3 => hk w3 (f1.then0 f3))
def formM : Int → List Ent → Int
  | _, [] => 0
  | last, e :: r => if e.1 ≤ last then 4 else if oneM e ≠ 0 then oneM e else if secretM e.2 = true then 4 else formM e.1 r
def lastE (l : List Ent) (j : Nat) : Int := match j with
  | 0 => 0
  | j + 1 => ((l[j]?).map (·.1)).getD 0
theorem spec_snap_Form {ok : Nat → Prop} {s : Sl} {raws : List (Int × Sl)} {L : List Ent} (hS : SlT ok w entT s raws) (hE : EntsR ok w raws L) (hm : L.length ≤ 9223372036854775807) (hL : ∀ e ∈ L, IdOk e.1 ∧ Small e.2) {K : Res [.sc (.int .i64)] → W R} (hk : ∀ w', Fr None w w' → K (formM 0 L) Q w') :
    callW Tryz.prog k_snap_Form [.slice s.a s.n s.c] [.sc (.int .i64)] K Q w := by
  refine C_snap_Form s K Q w ?_
  unfold F_snap_Form
  have hlen := hS.len
  have hel := hE.len
  refine forI (N := s.n) (fun s : Int × Int => s.2) (fun j s w' => s = (lastE L j, (j : Int)) ∧ Fr None w w' ∧ formM 0 L = formM (lastE L j) (L.drop j)) ⟨rfl, Fr.refl _ _, rfl⟩ (fun j s w' h => by rw [h.1]) ?_ ?_
  · rintro j s1 w1 K' hj ⟨rfl, f1, hf⟩ - hK
    obtain ⟨e, he⟩ : ∃ e, L[j]? = some e := ⟨_, List.getElem?_eq_getElem (by omega)⟩
    obtain ⟨r1, hr1, ha1, ha2⟩ := hE.get he
    obtain ⟨hid, hsm⟩ := hL e (List.mem_of_getElem? he)
    have hdrop : L.drop j = e :: L.drop (j + 1) := by
      obtain ⟨hl, hg⟩ := List.getElem?_eq_some_iff.1 he
      rw [List.drop_eq_getElem_cons hl, hg]
    rw [hdrop, formM] at hf
    rw [hf] at hk
    refine (hS.fr0 f1).get rfl rfl (by omega) fun y hy => ?_
    rw [hr1] at hy
    cases hy
    refine newI fun w2 B2 f2 s2 => stoAll B2 rfl rfl fun w3 B3 f3 s3 => fldI B3 (i := 0) (x := r1.1) rfl ?_
    have f13 : Fr None w1 w3 := f2.newer f3 fun k e => by omega
    have f03 := f1.then0 f13
    rw [ha1]
    refine condD (fun h => ?_) fun h => ?_
    · rw [if_pos h] at hk
      exact hk w3 f03
    rw [if_neg h] at hk hf
    refine fldI B3 (i := 0) (x := r1.1) rfl (aggI B3 (x := r1) rfl (spec_snap_one ha1 (ha2.fr0 f03) hsm hid fun w4 f4 => ?_))
    have f04 := f03.then0 f4
    refine condN (fun hne => ?_) fun heq => ?_
    · rw [if_pos hne] at hk
      exact hk w4 f04
    rw [if_neg (by omega)] at hk hf
    refine fldI (B3.fr f4 fun h => h) (i := 1) (x := r1.2) rfl (spec_snap_anySecret (ha2.fr0 f04) (Nat.le_trans hsm (by decide)) fun w5 f5 => ?_)
    have f05 := f04.then0 f5
    refine condI (fun h => ?_) fun h => ?_
    · rw [if_pos h] at hk
      exact hk w5 f05
    · rw [if_neg (by rw [h]; decide)] at hk hf
      have hlast : lastE L (j + 1) = e.1 := by
        show ((L[j]?).map (·.1)).getD 0 = e.1
        rw [he]; rfl
      refine hK _ _ ⟨?_, f05, by rw [hlast]; exact hf⟩
      rw [wsucc hj (by omega), hlast, ha1]
  · rintro s1 w1 ⟨rfl, f1, hf⟩
    rw [List.drop_of_length_le (by omega), formM] at hf
    have hk := hk w1 f1
    rw [hf] at hk
    exact hk
end Go.Proofs.YtchhhjlpnecjkaaGreat
namespace Go.Proofs.YtchhhjlpnecjkaaGreat
open Go Go.RowKit Go.Proofs.YtchhhjlpnecjkaaGreat.Den
variable {R : Type} {Q : R → World → Prop} {w : World}
def cmp3 (x y : Int) : Int := if x < y then -1 else if x > y then 1 else 0
theorem half {i j : Nat} (h : i + j ≤ 9223372036854775807) : IntKind.wrap .i64 (shR .u64 (IntKind.wrap .u64 (IntKind.wrap .i64 ((i : Int) + (j : Int)))) 1) = (((i + j) / 2 : Nat) : Int) := by
  have e : IntKind.wrap .u64 (IntKind.wrap .i64 ((i : Int) + (j : Int))) = ((i + j : Nat) : Int) := by
    rw [w64 (by omega), IntKind.wrap_u64]; omega
  rw [e, show (1 : Int) = ((1 : Nat) : Int) from rfl, shR_div (by omega) (by decide), Int.toNat_natCast, w64 (by omega)]
theorem spec_Compare_ID {x y : Int} {K : Res [.sc (.int .i64)] → W R} (hk : K (cmp3 x y) Q w) : callW Tryz.prog k_cmp_Compare_ID [.int .u32 x, .int .u32 y] [.sc (.int .i64)] K Q w := by
  refine C_cmp_Compare_ID _ _ K Q w ?_
  unfold F_cmp_Compare_ID
  refine C_cmp_isNaN_ID _ _ _ _ ?_
  unfold F_cmp_isNaN_ID
  refine C_cmp_isNaN_ID _ _ _ _ ?_
  unfold F_cmp_isNaN_ID
  unfold cmp3 at hk
  refine condF (by simp) (condF (by simp) (condD (fun h => ?_) fun h => condD (fun h2 => ?_) fun h2 => ?_))
  · rw [if_pos h] at hk; exact hk
  · rw [if_neg h, if_pos h2] at hk; exact hk
  · rw [if_neg h, if_neg h2] at hk; exact hk
theorem spec_snap_Find_c1 {r : Int × Sl} {id : Int} {K : Res [.sc (.int .i64)] → W R} (hk : ∀ w', Fr None w w' → K (cmp3 r.1 id) Q w') : callW Tryz.prog k_snap_Find_c1 [.agg ⟨[.int .u32 r.1, .slice r.2.a r.2.n r.2.c]⟩, .int .u32 id] [.sc (.int .i64)] K Q w := by
  refine C_snap_Find_c1 r _ K Q w ?_
  unfold F_snap_Find_c1
  exact newI fun w1 B1 f1 s1 => fldI B1 (i := 0) (x := r.1) rfl (spec_Compare_ID (hk w1 f1))
def findE (L : List Ent) (id : Int) : Int := match L.findIdx? (fun e => e.1 == id) with
  | some i => i
  | none => -1
theorem cmp3_lt {x y : Int} : cmp3 x y < 0 ↔ x < y := by
  unfold cmp3
  split
  · simp; assumption
  · split
    · simp; omega
    · simp; omega
theorem cmp3_0 {x y : Int} : cmp3 x y = 0 ↔ x = y := by
  unfold cmp3
  split
  · simp; omega
  · split
    · simp; omega
    · simp; omega
theorem ids_lt {L : List Ent} (hs : L.Pairwise fun a b => a.1 < b.1) {p q : Nat} {a b : Ent} (hpq : p < q) (ha : L[p]? = some a) (hb : L[q]? = some b) : a.1 < b.1 := by
  obtain ⟨h1, rfl⟩ := List.getElem?_eq_some_iff.1 ha
  obtain ⟨h2, rfl⟩ := List.getElem?_eq_some_iff.1 hb
  exact List.pairwise_iff_getElem.1 hs p q h1 h2 hpq
theorem findE_some {L : List Ent} (hs : L.Pairwise fun a b => a.1 < b.1) {i : Nat} {e : Ent} (he : L[i]? = some e) : findE L e.1 = (i : Int) := by
  have : L.findIdx? (fun x => x.1 == e.1) = some i := by
    rw [List.findIdx?_eq_some_iff_getElem]
    obtain ⟨hl, hg⟩ := List.getElem?_eq_some_iff.1 he
    refine ⟨hl, by rw [hg]; simp, fun q hq => ?_⟩
    have := ids_lt hs hq (List.getElem?_eq_getElem (by omega)) he
    simp; omega
  rw [findE, this]
theorem findE_none {L : List Ent} {id : Int} (h : ∀ (q : Nat) e, L[q]? = some e → e.1 ≠ id) : findE L id = -1 := by
  have : L.findIdx? (fun x => x.1 == id) = none := by
    rw [List.findIdx?_eq_none_iff]
    intro x hx
    obtain ⟨q, hq⟩ := List.mem_iff_getElem?.1 hx
    simpa using h q x hq
  rw [findE, this]
theorem spec_snap_Find {ok : Nat → Prop} {s : Sl} {raws : List (Int × Sl)} {L : List Ent} (hS : SlT ok w entT s raws) (hE : EntsR ok w raws L) (hs : L.Pairwise fun a b => a.1 < b.1) (hm : L.length ≤ 4611686018427387903) {id : Int} {K : Res [.sc (.int .i64)] → W R} (hk : ∀ w', Fr None w w' → K (findE L id) Q w') :
    callW Tryz.prog k_snap_Find [.slice s.a s.n s.c, .int .u32 id] [.sc (.int .i64)] K Q w := by
  refine C_snap_Find s _ K Q w ?_
  unfold F_snap_Find
  refine C_slices_BinarySearchFunc_Ent__snap_Find_c1 s _ _ _ w ?_
  unfold F_slices_BinarySearchFunc_Ent__snap_Find_c1
  have hlen := hS.len
  have hel := hE.len
  refine loopI (fun (st : Int × Int) w' => ∃ i j : Nat, st = ((i : Int), (j : Int)) ∧ i ≤ j ∧ j ≤ L.length ∧ (∀ (q : Nat) e, q < i → L[q]? = some e → e.1 < id) ∧ (∀ (q : Nat) e, j ≤ q → L[q]? = some e → id ≤ e.1) ∧ Fr None w w') (fun st _ => (st.2 - st.1).toNat)
    ⟨0, s.n, rfl, by omega, by omega, fun q e h => absurd h (by omega), fun q e h he => by have := (List.getElem?_eq_some_iff.1 he).1; omega, Fr.refl _ _⟩ ?_
  rintro st w1 ⟨i, j, rfl, hij, hj, hlo, hhi, f1⟩
  dsimp only
  rw [half (i := i) (j := j) (by omega)]
  refine condD (fun hlt => ?_) fun hge => ?_
  · have hlt : (i : Int) < j := hlt
    obtain ⟨h, hh⟩ : ∃ h, (i + j) / 2 = h := ⟨_, rfl⟩
    rw [hh]
    have h1 : i ≤ h := by omega
    have h2 : h < j := by omega
    obtain ⟨e, he⟩ : ∃ e, L[h]? = some e := ⟨_, List.getElem?_eq_getElem (by omega)⟩
    obtain ⟨r1, hr1, ha1, _⟩ := hE.get he
    refine (hS.fr0 f1).get (j := h) rfl rfl (by omega) fun y hy => ?_
    rw [hr1] at hy
    cases hy
    refine spec_snap_Find_c1 fun w2 f2 => ?_
    rw [ha1]
    refine joinI (fun (z : Int × Int) w' => z = (if e.1 < id then (((h + 1 : Nat) : Int), (j : Int)) else ((i : Int), (h : Int))) ∧ w' = w2) ?_ ?_
    · refine condD (fun hc => ⟨?_, rfl⟩) fun hc => ⟨?_, rfl⟩
      · rw [if_pos (cmp3_lt.1 hc), w64 (by omega)]; rfl
      · rw [if_neg fun hx => hc (cmp3_lt.2 hx)]
    rintro z w3 ⟨rfl, rfl⟩
    by_cases hc : e.1 < id
    · rw [if_pos hc]
      refine ⟨⟨h + 1, j, rfl, by omega, hj, fun q e' hq he' => ?_, hhi, f1.then0 f2⟩, by dsimp only; omega⟩
      rcases Nat.lt_succ_iff_lt_or_eq.1 hq with hq | rfl
      · have := ids_lt hs hq he' he; omega
      · rw [he] at he'; cases he'; exact hc
    · rw [if_neg hc]
      refine ⟨⟨i, h, rfl, h1, by omega, hlo, fun q e' hq he' => ?_, f1.then0 f2⟩, by dsimp only; omega⟩
      rcases Nat.lt_or_eq_of_le hq with hq | rfl
      · have := ids_lt hs hq he he'; omega
      · rw [he] at he'; cases he'; omega
  · have hge : ¬ (i : Int) < j := hge
    have : i = j := by omega
    subst this
    refine joinI (fun (z : Int × Bool) w' => z.1 = (i : Int) ∧ (if z.2 = true then z.1 else -1) = findE L id ∧ Fr None w w') ?_ ?_
    · refine condD (fun hin => ?_) fun hout => ?_
      · have hin : (i : Int) < s.n := hin
        obtain ⟨e, he⟩ : ∃ e, L[i]? = some e := ⟨_, List.getElem?_eq_getElem (by omega)⟩
        obtain ⟨r1, hr1, ha1, _⟩ := hE.get he
        refine (hS.fr0 f1).get (j := i) rfl rfl (by omega) fun y hy => ?_
        rw [hr1] at hy
        cases hy
        refine spec_snap_Find_c1 fun w2 f2 => ⟨rfl, ?_, f1.then0 f2⟩
        rw [ha1]
        by_cases hc : e.1 = id
        · subst hc
          have : (cmp3 e.1 e.1 == 0) = true := by simpa using cmp3_0.2 rfl
          dsimp only
          rw [if_pos this, findE_some hs he]
        · have : ¬ (cmp3 e.1 id == 0) = true := by simpa using fun x => hc (cmp3_0.1 x)
          dsimp only
          rw [if_neg this, findE_none fun q e' he' => ?_]
          rcases Nat.lt_trichotomy q i with h | h | h
          · have := hlo q e' h he'; omega
          · subst h; rw [he] at he'; cases he'; exact hc
          · have := ids_lt hs h he he'; have := hhi i e (Nat.le_refl _) he; omega
      · have hout : ¬ (i : Int) < s.n := hout
        refine ⟨rfl, ?_, f1⟩
        dsimp only
        rw [if_neg (by decide), findE_none fun q e' he' => ?_]
        have := hlo q e' (by have := (List.getElem?_eq_some_iff.1 he').1; omega) he'
        omega
    rintro ⟨z1, z2⟩ w2 ⟨h1, h2, f2⟩
    dsimp only at h1 h2
    cases z2 with
    | true =>
      rw [if_pos rfl] at h2
      subst h2
      exact hk w2 f2
    | false =>
      rw [if_neg (by decide)] at h2
      have := hk w2 f2
      rw [← h2] at this
      exact this
end Go.Proofs.YtchhhjlpnecjkaaGreat
namespace Go.Proofs.YtchhhjlpnecjkaaGreat
open Go Go.RowKit Go.Proofs.YtchhhjlpnecjkaaGreat.Den
variable {R : Type} {Q : R → World → Prop} {w : World}
def oldM (L : List Ent) (id k : Int) : Comp := match L.findIdx? (fun e => e.1 == id) with
  | some i => (((L[i]?).bind fun e => e.2.find? fun c => c.1 == k)).getD (0, 0, 0, 0)
  | none => (0, 0, 0, 0)
theorem spec_packet_old {ok : Nat → Prop} {s : Sl} {raws : List (Int × Sl)} {L : List Ent} (hS : SlT ok w entT s raws) (hE : EntsR ok w raws L) (hs : L.Pairwise fun a b => a.1 < b.1) (hm : L.length ≤ 4611686018427387903) (hL : ∀ e ∈ L, e.2.length ≤ 9223372036854775807) {id k : Int} {K : Res [.agg [.int .u8, .int .i32, .int .i32, .int .i32]] → W R} (hk : ∀ w', Fr None w w' → K (oldM L id k) Q w') :
    callW Tryz.prog k_packet_old [.slice s.a s.n s.c, .int .u32 id, .int .u8 k] [.agg [.int .u8, .int .i32, .int .i32, .int .i32]] K Q w := by
  refine C_packet_old s _ _ K Q w ?_
  unfold F_packet_old
  refine newI fun w1 B1 f1 s1 => spec_snap_Find (hS.fr0 f1) (hE.fr f1 fun _ _ h => h) hs hm fun w2 f2 => ?_
  have B2 := B1.fr f2 fun h => h
  have f02 := f1.then0 f2
  have hs2 := f02.size
  unfold oldM at hk
  unfold findE
  cases hf : L.findIdx? (fun e => e.1 == id) with
  | none =>
    rw [hf] at hk
    refine condT rfl (stoAll B2 rfl rfl fun w3 B3 f3 s3 => aggI B3 (x := ((0, 0, 0, 0) : Comp)) rfl ?_)
    exact hk w3 (f02.newer f3 fun k e => by omega)
  | some i =>
    rw [hf] at hk
    dsimp only at hk
    have hil : i < L.length := by
      rw [List.findIdx?_eq_some_iff_getElem] at hf
      exact hf.1
    obtain ⟨e, he⟩ : ∃ e, L[i]? = some e := ⟨_, List.getElem?_eq_getElem hil⟩
    obtain ⟨r1, hr1, ha1, ha2⟩ := hE.get he
    rw [he] at hk
    refine condF (decide_eq_false (by show ¬ ((i : Int) < 0); omega)) ?_
    refine (hS.fr0 f02).readK rfl rfl hr1 fun ad had => (had _ (hS.fr0 f02)).fld (i := 1) (s := .sl) (y := r1.2) rfl ?_
    have hcl := ha2.len
    have hle := hL e (List.mem_of_getElem? he)
    refine forI (N := r1.2.n) (fun s : Int => s) (fun j t v => t = (j : Int) ∧ Fr None w2 v ∧ (∀ (q : Nat) c, q < j → e.2[q]? = some c → c.1 ≠ k)) ⟨rfl, Fr.refl _ _, fun q c h => absurd h (by omega)⟩ (fun j s w' h => h.1) ?_ ?_
    · rintro j t v K' hj ⟨rfl, fv, hno⟩ - hK
      refine ((ha2.fr0 f02).fr0 fv).get rfl rfl (by omega) fun c hc => ?_
      refine newI fun v1 C1 g1 t1 => stoAll C1 rfl rfl fun v2 C2 g2 t2 => fldI C2 (i := 0) (x := c.1) rfl ?_
      have gv : Fr None v v2 := g1.newer g2 fun k e => by omega
      have hsv := (fv.then0 gv).size
      refine condE (fun h => ?_) fun h => ?_
      · refine aggI C2 (x := c) rfl (stoAll ((B2.fr fv fun h => h).fr gv fun h => h) rfl rfl fun v3 C3 g3 t3 => aggI C3 (x := c) rfl ?_)
        have hfd : e.2.find? (fun c => c.1 == k) = some c := by
          rw [List.find?_eq_some_iff_getElem]
          obtain ⟨hl, hg⟩ := List.getElem?_eq_some_iff.1 hc
          refine ⟨by simpa using h, j, hl, hg, fun q hq => ?_⟩
          have := hno q _ hq (List.getElem?_eq_getElem (by omega))
          simpa using this
        have := hk v3 (((f02.then0 fv).then0 gv).newer g3 fun k e => by omega)
        simp only [Option.bind_some, hfd, Option.getD_some] at this
        exact this
      · refine hK _ _ ⟨wsucc hj (by omega), fv.then0 gv, fun q c' hq hc' => ?_⟩
        rcases Nat.lt_succ_iff_lt_or_eq.1 hq with h1 | h1
        · exact hno q c' h1 hc'
        · subst h1; rw [hc] at hc'; cases hc'; exact h
    · rintro t v ⟨_, fv, hno⟩
      have hfd : e.2.find? (fun c => c.1 == k) = none := by
        rw [List.find?_eq_none]
        intro x hx
        obtain ⟨q, hq⟩ := List.mem_iff_getElem?.1 hx
        have := hno q x (by have := (List.getElem?_eq_some_iff.1 hq).1; omega) hq
        simpa using this
      have hsv := fv.size
      refine stoAll (B2.fr fv fun h => h) rfl rfl fun v3 C3 g3 t3 => aggI C3 (x := ((0, 0, 0, 0) : Comp)) rfl ?_
      have := hk v3 ((f02.then0 fv).newer g3 fun k e => by omega)
      simp only [Option.bind_some, hfd, Option.getD_none] at this
      exact this
end Go.Proofs.YtchhhjlpnecjkaaGreat
namespace Go.Proofs.YtchhhjlpnecjkaaGreat.Den
open Go Go.RowKit
variable {R : Type} {Q : R → World → Prop} {w : World} {α β : Type}
structure All2 (p : α → β → Prop) (l : List α) (k : List β) : Prop where
  len : l.length = k.length
  at_ : ∀ (i : Nat) (a : α) (b : β), l[i]? = some a → k[i]? = some b → p a b
theorem All2.nil (p : α → β → Prop) : All2 p [] [] := ⟨rfl, fun i a b h => by simp at h⟩
theorem All2.imp {p q : α → β → Prop} {l : List α} {k : List β} (h : All2 p l k) (hi : ∀ a b, p a b → q a b) : All2 q l k := ⟨h.len, fun i a b h1 h2 => hi a b (h.at_ i a b h1 h2)⟩
theorem All2.snoc {p : α → β → Prop} {l : List α} {k : List β} {a : α} {b : β} (h : All2 p l k) (hp : p a b) : All2 p (l ++ [a]) (k ++ [b]) := by
  refine ⟨by simp [h.len], fun i x y h1 h2 => ?_⟩
  have hl := h.len
  by_cases hi : i < l.length
  · rw [List.getElem?_append_left hi] at h1
    rw [List.getElem?_append_left (by omega)] at h2
    exact h.at_ i x y h1 h2
  · rw [List.getElem?_append_right (by omega)] at h1 h2
    have hz : i - l.length = 0 := by have := (List.getElem?_eq_some_iff.1 h1).1; simp at this; omega
    rw [hz] at h1
    rw [show i - k.length = 0 by omega] at h2
    simp at h1 h2
    subst h1; subst h2
    exact hp
theorem All2.get {p : α → β → Prop} {l : List α} {k : List β} (h : All2 p l k) {i : Nat} {b : β} (hb : k[i]? = some b) : ∃ a, l[i]? = some a ∧ p a b := by
  obtain ⟨hl, _⟩ := List.getElem?_eq_some_iff.1 hb
  have ha := List.getElem?_eq_getElem (l := l) (i := i) (by rw [h.len]; exact hl)
  exact ⟨_, ha, h.at_ i _ b ha hb⟩
theorem All2.getL {p : α → β → Prop} {l : List α} {k : List β} (h : All2 p l k) {i : Nat} {a : α} (ha : l[i]? = some a) : ∃ b, k[i]? = some b ∧ p a b := by
  obtain ⟨hl, _⟩ := List.getElem?_eq_some_iff.1 ha
  have hb := List.getElem?_eq_getElem (l := k) (i := i) (by rw [← h.len]; exact hl)
  exact ⟨_, hb, h.at_ i a _ ha hb⟩
theorem All2.take {p : α → β → Prop} {l : List α} {k : List β} (h : All2 p l k) (n : Nat) : All2 p (l.take n) (k.take n) := by
  refine ⟨by simp [h.len], fun i a b h1 h2 => ?_⟩
  rw [List.getElem?_take] at h1 h2
  split at h1
  · rename_i hi; rw [if_pos hi] at h2; exact h.at_ i a b h1 h2
  · cases h1
theorem All2.drop {p : α → β → Prop} {l : List α} {k : List β} (h : All2 p l k) (n : Nat) : All2 p (l.drop n) (k.drop n) := by
  refine ⟨by simp [h.len], fun i a b h1 h2 => ?_⟩
  rw [List.getElem?_drop] at h1 h2
  exact h.at_ _ a b h1 h2
abbrev Rel (α β : Type) := (Nat → Prop) → World → α → β → Prop
def Rel.st (ρ : Rel α β) : Prop := ∀ a b, St fun F w => ρ F w a b
structure DR {t : Ty} (ρ : Rel t.T β) (ok : Nat → Prop) (w : World) (s : Sl) (raws : List t.T) (L : List β) : Prop where
  sl : SlT ok w t s raws
  all : All2 (fun a b => ρ ok w a b) raws L
theorem DR.st {t : Ty} {ρ : Rel t.T β} (hρ : ρ.st) {s : Sl} {raws : List t.T} {L : List β} : St fun F w => DR ρ F w s raws L := fun {_F _F' _S _w _w'} h f hs =>
  ⟨SlT.st h.sl f hs, h.all.imp fun a b hab => hρ a b hab f hs⟩
structure DO {t : Ty} (ρ : Rel t.T β) (E : TypeId) (S : Nat → Prop) (w : World) (s : Sl) (raws : List t.T) (L : List β) (lab : Nat → Nat) : Prop where
  own : Own (fun k => S k ∧ lab k = 0) w E t s raws
  len : raws.length = L.length
  at_ : ∀ (i : Nat) (a : t.T) (b : β), raws[i]? = some a → L[i]? = some b → ρ (fun k => S k ∧ lab k = i + 1) w a b
section
variable {t : Ty} {ρ : Rel t.T β} {E : TypeId} {S : Nat → Prop} {s : Sl} {raws : List t.T} {L : List β} {lab : Nat → Nat}
theorem DO.nil (S : Nat → Prop) (w : World) : DO ρ E S w ⟨none, 0, 0⟩ [] [] (fun _ => 0) := ⟨Own.nil _ _ _ _, rfl, fun i a b h => by simp at h⟩
theorem DO.read (hρ : ρ.st) (h : DO ρ E S w s raws L lab) : DR ρ S w s raws L := ⟨SlT.st.mono h.own.sl fun _ _ e => e.1, h.len, fun i a b h1 h2 => St.mono (A := fun F w => ρ F w a b) (hρ a b) (h.at_ i a b h1 h2) fun _ _ e => e.1⟩
theorem DO.fr (hρ : ρ.st) (h : DO ρ E S w s raws L lab) {S' T : Nat → Prop} {w' : World} (f : Fr T w w') (hs : ∀ k, k < w.heap.size → S k → ¬ T k ∧ S' k) : DO ρ E S' w' s raws L lab :=
  ⟨Own.st h.own f fun k hk e => ⟨(hs k hk e.1).1, (hs k hk e.1).2, e.2⟩, h.len, fun i a b h1 h2 => hρ a b (h.at_ i a b h1 h2) f fun k hk e => ⟨(hs k hk e.1).1, (hs k hk e.1).2, e.2⟩⟩
theorem DO.fr0 (hρ : ρ.st) (h : DO ρ E S w s raws L lab) {w' : World} (f : Fr None w w') : DO ρ E S w' s raws L lab := h.fr hρ f fun _ _ e => ⟨fun h => h, e⟩
theorem DO.app {P : Program} {T ty : TypeId} {bytes : Nat} (H : SlTy P T E t bytes) (hρ : ρ.st) {w1 : World} (h : DO ρ E S w1 s raws L lab) (f : Fr None w1 w) (hS : ∀ k, w1.heap.size ≤ k → S k) {a : t.T} {b : β} (hab : ρ (fun k => w1.heap.size ≤ k) w a b)
    {cs : List Value} (hc : cs = t.cells a) (hb : (L.length + 1) * bytes ≤ 140737488355328) (hm : L.length + 1 ≤ 9223372036854775807) {K : Sl → W R}
    (hk : ∀ r lab' w', DO ρ E S w' r (raws ++ [a]) (L ++ [b]) lab' → Fr (fun k => s.v.ownBlock = some k) w w' → K r Q w') :
    newW E cs (fun x => rawW P (Builtin.append_ #[T, T] ty #[.slice s.a s.n s.c, .slice (some x) 1 1]) [.sc .sl] K) Q w := by
  have hfs := f.size
  have hl := h.len
  have o1 : Own (fun k => (S k ∧ lab k = 0 ∧ k < w1.heap.size) ∨ w.heap.size ≤ k) w E t s raws := Own.st h.own f fun k hk e => ⟨fun h => h, .inl ⟨e.1, e.2, hk⟩⟩
  have own0 : ∀ k, s.v.ownBlock = some k → lab k = 0 ∧ k < w1.heap.size := fun k e => ⟨(h.own.own k e).2, h.own.lt e⟩
  refine appP H hc o1 (fun k e => .inr e) (by rw [hl]; exact hb) (by rw [hl]; exact hm) fun r w' o' f' => ?_
  have hfs' := f'.size
  refine hk r (fun k => if k < w1.heap.size then lab k else if k < w.heap.size then L.length + 1 else 0) w' ⟨?_, by simp [hl], fun i x y h1 h2 => ?_⟩ f'
  · refine o'.mono fun k _ e => ?_
    rcases e with e | e
    · exact ⟨e.1, by simp only [if_pos e.2.2]; exact e.2.1⟩
    · exact ⟨hS k (by omega), by simp only [if_neg (show ¬ k < w1.heap.size by omega), if_neg (show ¬ k < w.heap.size by omega)]⟩
  · by_cases hi : i < raws.length
    · rw [List.getElem?_append_left hi] at h1
      rw [List.getElem?_append_left (by omega)] at h2
      have h3 := h.at_ i x y h1 h2
      refine hρ x y h3 (f.any.then f') fun k hk e => ⟨fun e2 => ?_, e.1, ?_⟩
      · have := (own0 k e2).1; omega
      · simp only [if_pos hk]; exact e.2
    · rw [List.getElem?_append_right (by omega)] at h1 h2
      have hz : i - raws.length = 0 := by have := (List.getElem?_eq_some_iff.1 h1).1; simp at this; omega
      rw [hz] at h1
      rw [show i - L.length = 0 by omega] at h2
      simp at h1 h2
      subst h1; subst h2
      refine hρ a b hab f' fun k hk e => ⟨fun e2 => ?_, hS k e, ?_⟩
      · have := (own0 k e2).2; omega
      · have e : w1.heap.size ≤ k := e
        simp only [if_neg (show ¬ k < w1.heap.size by omega), if_pos hk]
        omega
end
end Go.Proofs.YtchhhjlpnecjkaaGreat.Den
namespace Go.Proofs.YtchhhjlpnecjkaaGreat
open Go Go.RowKit Go.Proofs.YtchhhjlpnecjkaaGreat.Den
variable {R : Type} {Q : R → World → Prop} {w : World}
theorem spec_diff_find_c1 {c : Comp} {k : Int} {bk : Nat} {T : TypeId} (B : Blk w bk T [.int .u8 k]) {K : Res [.sc .bool] → W R} (hk : ∀ w', Fr None w w' → K (c.1 == k) Q w') :
    callW Tryz.prog k_diff_find_c1 [.agg ⟨compC c⟩, .pointer (some ⟨bk, 0, none⟩)] [.sc .bool] K Q w := by
  refine C_diff_find_c1 c _ K Q w ?_
  unfold F_diff_find_c1
  refine newI fun w1 B1 f1 s1 => fldI B1 (i := 0) (x := c.1) rfl (ptrI (fld0 (B.fr f1 fun h => h) (i := 0) (x := k) rfl (hk w1 f1)))
theorem spec_IndexFunc_kind {ok : Nat → Prop} {s : Sl} {l : List Comp} (hS : SlT ok w compT s l) (hm : l.length ≤ 9223372036854775807) {k : Int} {bk : Nat} {T : TypeId} (B : Blk w bk T [.int .u8 k]) {K : Res [.sc (.int .i64)] → W R} (hk : ∀ w', Fr None w w' → K (findM l k) Q w') :
    callW Tryz.prog k_slices_IndexFunc_Comp [.slice s.a s.n s.c, .func (.func 165) #[] #[.pointer (some ⟨bk, 0, none⟩)]] [.sc (.int .i64)] K Q w := by
  refine C_slices_IndexFunc_Comp__diff_find_c1 s _ K Q w ?_
  unfold F_slices_IndexFunc_Comp__diff_find_c1
  have hlen := hS.len
  refine forI (N := s.n) (fun s : Int => s) (fun j i w' => i = j ∧ Fr None w w' ∧ ∀ q y, q < j → l[q]? = some y → y.1 ≠ k) ⟨rfl, Fr.refl _ _, by omega⟩ (fun j s w' h => h.1) ?_ ?_
  · rintro j i w1 K' hj ⟨rfl, f1, hno⟩ - hK
    refine (hS.fr0 f1).get rfl rfl (by omega) fun x hx => spec_diff_find_c1 (B.fr f1 fun h => h) fun w2 f2 => ?_
    refine condE (fun h => ?_) fun h => ?_
    · have : l.findIdx? (fun c => c.1 == k) = some j := by
        rw [List.findIdx?_eq_some_iff_getElem]
        obtain ⟨hl, he⟩ := List.getElem?_eq_some_iff.1 hx
        refine ⟨hl, by rw [he]; simpa using h, fun q hq => ?_⟩
        have := hno q _ hq (List.getElem?_eq_getElem (by omega))
        simpa using this
      have e := hk w2 (f1.then0 f2)
      rw [findM, this] at e
      exact e
    · refine hK _ _ ⟨wsucc hj (by omega), f1.then0 f2, fun q y hq hy => ?_⟩
      rcases Nat.lt_succ_iff_lt_or_eq.1 hq with h1 | h1
      · exact hno q y h1 hy
      · subst h1; rw [hx] at hy; cases hy; exact h
  · rintro i w1 ⟨rfl, f1, hno⟩
    have : l.findIdx? (fun c => c.1 == k) = none := by
      rw [List.findIdx?_eq_none_iff]
      intro x hx
      obtain ⟨q, hq⟩ := List.mem_iff_getElem?.1 hx
      have := hno q x (by rw [hlen]; exact (List.getElem?_eq_some_iff.1 hq).1) hq
      simpa using this
    have e := hk w1 f1
    rw [findM, this] at e
    exact e
def findC (l : List Comp) (k : Int) : Comp × Bool := match l.findIdx? (fun c => c.1 == k) with
  | some i => ((l[i]?).getD (0, 0, 0, 0), true)
  | none => ((0, 0, 0, 0), false)
theorem spec_diff_find {ok : Nat → Prop} {s : Sl} {l : List Comp} (hS : SlT ok w compT s l) (hm : l.length ≤ 9223372036854775807) {k : Int} {K : Res [.agg [.int .u8, .int .i32, .int .i32, .int .i32], .sc .bool] → W R} (hk : ∀ w', Fr None w w' → K (findC l k) Q w') :
    callW Tryz.prog k_diff_find [.slice s.a s.n s.c, .int .u8 k] [.agg [.int .u8, .int .i32, .int .i32, .int .i32], .sc .bool] K Q w := by
  refine C_diff_find s _ K Q w ?_
  unfold F_diff_find
  refine newI fun w1 B1 f1 s1 => newI fun w2 B2 f2 s2 => ?_
  have f02 := f1.then0 f2
  refine spec_IndexFunc_kind (hS.fr0 f02) hm (B1.fr f2 fun h => h) fun w3 f3 => ?_
  have B3 := B2.fr f3 fun h => h
  have f03 := f02.then0 f3
  have hs := f03.size
  unfold findC at hk
  unfold findM
  cases hf : l.findIdx? (fun c => c.1 == k) with
  | none =>
    rw [hf] at hk
    refine condT rfl (stoAll B3 rfl rfl fun w4 B4 f4 s4 => aggI B4 (x := ((0, 0, 0, 0) : Comp)) rfl ?_)
    exact hk w4 (f03.newer f4 fun k e => by omega)
  | some i =>
    rw [hf] at hk
    dsimp only at hk
    have hil : i < l.length := by
      rw [List.findIdx?_eq_some_iff_getElem] at hf
      exact hf.1
    refine condF (decide_eq_false (by show ¬ ((i : Int) < 0); omega)) ?_
    refine (hS.fr0 f03).get (j := i) rfl rfl hil fun y hy => ?_
    rw [hy] at hk
    refine stoAll B3 rfl rfl fun w4 B4 f4 s4 => aggI B4 (x := y) rfl ?_
    exact hk w4 (f03.newer f4 fun k e => by omega)
end Go.Proofs.YtchhhjlpnecjkaaGreat
namespace Go.Proofs.YtchhhjlpnecjkaaGreat
open Go Go.RowKit Go.Proofs.YtchhhjlpnecjkaaGreat.Den
variable {R : Type} {Q : R → World → Prop} {w : World}
abbrev ChgRaw := Int × Int × Sl × Sl
theorem spec_diff_nothing {r : ChgRaw} {K : Res [.sc .bool] → W R} (hk : ∀ w', Fr None w w' → K (decide (r.2.1 = 0 ∧ r.2.2.1.n = 0 ∧ r.2.2.2.n = 0)) Q w') :
    callW Tryz.prog k_diff_nothing [.agg ⟨[.int .u32 r.1, .int .u8 r.2.1, .slice r.2.2.1.a r.2.2.1.n r.2.2.1.c, .slice r.2.2.2.a r.2.2.2.n r.2.2.2.c]⟩] [.sc .bool] K Q w := by
  refine C_diff_nothing r K Q w ?_
  unfold F_diff_nothing
  refine newI fun w1 B f1 s1 => ?_
  refine joinI (fun z w' => z = decide (r.2.1 = 0 ∧ r.2.2.1.n = 0 ∧ r.2.2.2.n = 0) ∧ w' = w1) ?_ fun z w' ⟨hz, hw⟩ => by subst hz; subst hw; exact hk _ f1
  refine fldI B (i := 1) (x := r.2.1) rfl (condE (fun a => ?_) fun a => ⟨by simp [a], rfl⟩)
  refine fldI B (i := 2) (x := r.2.2.1) rfl (condE (fun b => ?_) fun b => ⟨?_, rfl⟩)
  · have b : r.2.2.1.n = 0 := by have b : (r.2.2.1.n : Int) = 0 := b; omega
    refine fldI B (i := 3) (x := r.2.2.2) rfl ⟨?_, rfl⟩
    by_cases c : r.2.2.2.n = 0
    · simp [a, b, c]
    · have : ¬ (r.2.2.2.n : Int) = 0 := by omega
      simp [a, b, c]
  · have b : ¬ r.2.2.1.n = 0 := by have b : ¬ (r.2.2.1.n : Int) = 0 := b; omega
    simp [b]
end Go.Proofs.YtchhhjlpnecjkaaGreat
namespace Go.Proofs.YtchhhjlpnecjkaaGreat
open Go Go.RowKit Go.Proofs.YtchhhjlpnecjkaaGreat.Den
variable {R : Type} {Q : R → World → Prop} {w : World}
theorem appLab {P : Program} {T E ty : TypeId} {t : Ty} {bytes : Nat} (H : SlTy P T E t bytes) {lab : Nat → Nat} {i : Nat} {o : Sl} {lo : List t.T} {x : t.T} {cs : List Value} (hc : cs = t.cells x) (ho : Own (fun k => lab k = i) w E t o lo)
    (hb : (lo.length + 1) * bytes ≤ 140737488355328) (hm : lo.length + 1 ≤ 9223372036854775807) {K : Sl → W R}
    (hk : ∀ r w', Own (fun k => relab lab w.heap.size w'.heap.size i k = i) w' E t r (lo ++ [x]) → Fr (fun k => lab k = i) w w' → K r Q w') : newW E cs (fun a => rawW P (Builtin.append_ #[T, T] ty #[.slice o.a o.n o.c, .slice (some a) 1 1]) [.sc .sl] K) Q w :=
  appP H hc (ho.mono fun k _ e => Or.inl e : Own (Ex (fun k => lab k = i) w) w E t o lo) (fun k e => .inr e) hb hm fun r w' o' f' =>
    hk r w' (St.grown (A := fun F w => Own F w E t r (lo ++ [x])) Own.st o') (f'.sub fun k e => ho.own k e)
abbrev Chg := Int × Int × List Comp × List Comp
abbrev chgT : Ty := .agg [.int .u32, .int .u8, .sl, .sl]
theorem chgs_ty : SlTy Tryz.prog 78 86 chgT 56 := slTy (by kernel_rfl)
def chgR : Rel ChgRaw Chg := fun F w r d => r.1 = d.1 ∧ r.2.1 = d.2.1 ∧ SlT F w compT r.2.2.1 d.2.2.1 ∧ SlT F w compT r.2.2.2 d.2.2.2
theorem chgR_st : chgR.st := fun a b => fun {F F' S w w'} h f hs => ⟨h.1, h.2.1, SlT.st h.2.2.1 f hs, SlT.st h.2.2.2 f hs⟩
def lostM (a b : List Comp) : Int := bNot .u8 (maskN a : Int) (maskN b : Int)
def newM (a l : List Comp) : List Comp := l.filter fun c => !(findC a c.1).2
def chM (a l : List Comp) : List Comp := l.filter fun c => (findC a c.1).2 && !decide ((findC a c.1).1 = c)
def changeM (a b : Ent) : Chg := (b.1, lostM a.2 b.2, newM a.2 b.2, chM a.2 b.2)
theorem newM_le (a l : List Comp) : (newM a l).length ≤ l.length := List.length_filter_le _ _
theorem chM_le (a l : List Comp) : (chM a l).length ≤ l.length := List.length_filter_le _ _
theorem newM_snoc (a l : List Comp) (c : Comp) : newM a (l ++ [c]) = newM a l ++ if (findC a c.1).2 = false then [c] else [] := by
  unfold newM
  rw [List.filter_append]
  congr 1
  by_cases h : (findC a c.1).2 = true
  · simp [List.filter, h]
  · simp [List.filter, h]
theorem chM_snoc (a l : List Comp) (c : Comp) : chM a (l ++ [c]) = chM a l ++ if (findC a c.1).2 = true ∧ (findC a c.1).1 ≠ c then [c] else [] := by
  unfold chM
  rw [List.filter_append]
  congr 1
  by_cases h : (findC a c.1).2 = true
  · by_cases hq : (findC a c.1).1 = c
    · simp [List.filter, h, hq]
    · simp [List.filter, h, hq]
  · simp [List.filter, h]
structure ChgI (n bd : Nat) (id lost : Int) (a l : List Comp) (lab : Nat → Nat) (sn ss : Sl) (w : World) : Prop where
  blk : Blk w bd 86 [.int .u32 id, .int .u8 lost, .slice sn.a sn.n sn.c, .slice ss.a ss.n ss.c]
  lb : lab bd = 3
  new : Own (fun k => lab k = 1) w 92 compT sn (newM a l)
  set : Own (fun k => lab k = 2) w 92 compT ss (chM a l)
  up : ∀ k, lab k ≠ 0 → n ≤ k ∧ k < w.heap.size
theorem ChgI.fr0 {n bd : Nat} {id lost : Int} {a l : List Comp} {lab : Nat → Nat} {sn ss : Sl} (h : ChgI n bd id lost a l lab sn ss w) {w' : World} (f : Fr None w w') : ChgI n bd id lost a l lab sn ss w' :=
  ⟨h.blk.fr f fun h => h, h.lb, h.new.none f, h.set.none f, fun k e => ⟨(h.up k e).1, Nat.lt_of_lt_of_le (h.up k e).2 f.size⟩⟩
theorem spec_diff_change {ok ok2 : Nat → Prop} {r1 r2 : Int × Sl} {e1 e2 : Ent} (h1 : SlT ok w compT r1.2 e1.2) (h2 : SlT ok2 w compT r2.2 e2.2) (hid : r2.1 = e2.1) (hm1 : Small e1.2) (hm2 : Small e2.2) (hc1 : ∀ c ∈ e1.2, CompOk c) (hc2 : ∀ c ∈ e2.2, CompOk c) {K : Res [.agg [.int .u32, .int .u8, .sl, .sl]] → W R}
    (hk : ∀ r w', chgR (Up w.heap.size) w' r (changeM e1 e2) → Fr None w w' → K r Q w') :
    callW Tryz.prog k_diff_change [.agg ⟨[.int .u32 r1.1, .slice r1.2.a r1.2.n r1.2.c]⟩, .agg ⟨[.int .u32 r2.1, .slice r2.2.a r2.2.n r2.2.c]⟩] [.agg [.int .u32, .int .u8, .sl, .sl]] K Q w := by
  refine C_diff_change r1 r2 K Q w ?_
  unfold F_diff_change
  refine newI fun w1 B1 f1 s1 => newI fun w2 B2 f2 s2 => newI fun w3 B3 f3 s3 => ?_
  have B1 := (B1.fr f2 fun h => h).fr f3 fun h => h
  have B2 := B2.fr f3 fun h => h
  have f03 := (f1.then0 f2).then0 f3
  have l1 := h1.len
  have l2 := h2.len
  have hz := f03.size
  refine joinI (fun s v => ∃ bd, s = some ⟨bd, 0, none⟩ ∧ w3.heap.size ≤ bd ∧ Blk v bd 86 [.int .u32 e2.1, .int .u8 (lostM e1.2 e2.2), .slice none 0 0, .slice none 0 0] ∧ Fr None w3 v) ?_ ?_
  · have fd : Fr None w3 w3.drew := (Fr.refl _ _).drew
    have B1 := B1.fr fd fun h => h
    have B2 := B2.fr fd fun h => h
    have f0d := f03.then0 fd
    have g1 := h1.fr0 f0d
    have g2 := h2.fr0 f0d
    refine bothI ?_ (bothI ?_ ?_)
    · refine fldI B2 (i := 0) (x := r2.1) rfl (fldI B1 (i := 1) (x := r1.2) rfl (fldI B2 (i := 1) (x := r2.2) rfl ?_))
      refine spec_schema_Mask g1 hm1 hc1 fun w4 f4 => ?_
      refine andI ((B2.fr f4 fun h => h).rd (s := .sl) (i := 1) (x := r2.2) rfl) (andI ((B2.fr f4 fun h => h).rd (s := .int .u32) (i := 0) (x := r2.1) rfl) ?_)
      refine spec_schema_Mask (g2.fr0 f4) hm2 hc2 fun w5 f5 => andI (((B2.fr f4 fun h => h).fr f5 fun h => h).rd (s := .int .u32) (i := 0) (x := r2.1) rfl) ?_
      have f35 := (fd.then0 f4).then0 f5
      have hs := f35.size
      refine newI fun w6 B6 f6 s6 => stoAll B6 rfl rfl fun w7 B7 f7 s7 => ⟨_, rfl, hs, ?_, (f35.then0 f6).newer f7 fun k e => by omega⟩
      rw [← hid]; exact B7
    · refine fldI B2 (i := 0) (x := r2.1) rfl (fldI B1 (i := 1) (x := r1.2) rfl (fldI B2 (i := 1) (x := r2.2) rfl ?_))
      refine spec_schema_Mask g1 hm1 hc1 fun w4 f4 => ?_
      refine andI ((B2.fr f4 fun h => h).rd (s := .sl) (i := 1) (x := r2.2) rfl) (andI ((B2.fr f4 fun h => h).rd (s := .int .u32) (i := 0) (x := r2.1) rfl) ?_)
      have f34 := fd.then0 f4
      have hs := f34.size
      refine newI fun w5 B5 f5 s5 => ?_
      refine spec_schema_Mask ((g2.fr0 f4).fr0 f5) hm2 hc2 fun w6 f6 => andI ((((B2.fr f4 fun h => h).fr f5 fun h => h).fr f6 fun h => h).rd (s := .int .u32) (i := 0) (x := r2.1) rfl) ?_
      refine stoAll (B5.fr f6 fun h => h) rfl rfl fun w7 B7 f7 s7 => ⟨_, rfl, hs, ?_, ((f34.then0 f5).then0 f6).newer f7 fun k e => by omega⟩
      rw [← hid]; exact B7
    · refine fldI B2 (i := 0) (x := r2.1) rfl (fldI B1 (i := 1) (x := r1.2) rfl (fldI B2 (i := 1) (x := r2.2) rfl ?_))
      have hs := fd.size
      refine newI fun w4 B4 f4 s4 => ?_
      refine spec_schema_Mask (g1.fr0 f4) hm1 hc1 fun w5 f5 => ?_
      have B25 := (B2.fr f4 fun h => h).fr f5 fun h => h
      refine andI (B25.rd (s := .sl) (i := 1) (x := r2.2) rfl) (andI (B25.rd (s := .int .u32) (i := 0) (x := r2.1) rfl) ?_)
      refine spec_schema_Mask ((g2.fr0 f4).fr0 f5) hm2 hc2 fun w6 f6 => andI ((B25.fr f6 fun h => h).rd (s := .int .u32) (i := 0) (x := r2.1) rfl) ?_
      refine stoAll ((B4.fr f5 fun h => h).fr f6 fun h => h) rfl rfl fun w7 B7 f7 s7 => ⟨_, rfl, hs, ?_, (((fd.then0 f4).then0 f5).then0 f6).newer f7 fun k e => by have : w3.drew.heap.size = w3.heap.size := rfl; omega⟩
      rw [← hid]; exact B7
  rintro s v0 ⟨bd, rfl, hbd, B0, f3v⟩
  refine fldI (B2.fr f3v fun h => h) (i := 1) (x := r2.2) rfl ?_
  have hbl := B0.lt
  refine forI (N := r2.2.n) (fun s : Int => s) (fun j i v => i = (j : Int) ∧ (∃ lab sn ss, ChgI w3.heap.size bd e2.1 (lostM e1.2 e2.2) e1.2 (e2.2.take j) lab sn ss v) ∧ Fr None w3 v)
    ⟨rfl, ⟨fun k => if k = bd then 3 else 0, ⟨none, 0, 0⟩, ⟨none, 0, 0⟩, B0, by simp, Own.nil _ _ _ _, Own.nil _ _ _ _, fun k e => by
      by_cases hkb : k = bd
      · subst hkb; exact ⟨hbd, hbl⟩
      · exact absurd (if_neg hkb) e⟩, f3v⟩ (fun j s w' h => h.1) ?_ ?_
  · rintro j i v K' hj ⟨rfl, ⟨lab, sn, ss, D⟩, fv⟩ - hK
    refine (h2.fr0 (f03.then0 fv)).get rfl rfl (by omega) fun c hc => ?_
    refine newI fun v1 C1 g1 t1 => stoAll C1 rfl rfl fun v2 C2 g2 t2 => ?_
    have gv2 : Fr None v v2 := g1.newer g2 fun k e => by omega
    have fv2 := fv.then0 gv2
    refine fldI (B1.fr fv2 fun h => h) (i := 1) (x := r1.2) rfl (fldI C2 (i := 0) (x := c.1) rfl ?_)
    refine spec_diff_find (h1.fr0 (f03.then0 fv2)) (Nat.le_trans hm1 (by decide)) fun v3 g3 => ?_
    have C3 := C2.fr g3 fun h => h
    refine newI fun v4 C4 g4 t4 => stoAll C4 rfl rfl fun v5 C5 g5 t5 => ?_
    have g35 : Fr None v3 v5 := g4.newer g5 fun k e => by omega
    have C35 := C3.fr g35 fun h => h
    have gv5 := (gv2.then0 g3).then0 g35
    have D5 := D.fr0 gv5
    have fv5 := fv.then0 gv5
    have hs5 := gv5.size
    have hcl : c ∈ e2.2 := List.mem_of_getElem? hc
    have eN := newM_snoc e1.2 (e2.2.take j) c
    have eS := chM_snoc e1.2 (e2.2.take j) c
    rw [← take_at hc] at eN eS
    have lN : (newM e1.2 (e2.2.take j)).length ≤ 1048576 := Nat.le_trans (newM_le _ _) (Nat.le_trans (by simp; omega) hm2)
    have lS : (chM e1.2 (e2.2.take j)).length ≤ 1048576 := Nat.le_trans (chM_le _ _) (Nat.le_trans (by simp; omega) hm2)
    generalize findC e1.2 c.1 = fc at C5 eN eS
    refine joinI (fun (_ : Unit) v => (∃ lab sn ss, ChgI w3.heap.size bd e2.1 (lostM e1.2 e2.2) e1.2 (e2.2.take (j + 1)) lab sn ss v) ∧ Fr None w3 v) ?_ ?_
    · refine condI (fun hb => ?_) fun hb => ?_
      · have hb : fc.2 = false := by simpa using hb
        refine ptrI (fldI D5.blk (i := 2) (x := sn) rfl (aggI C35 (x := c) rfl ?_))
        refine appLab (x := c) comps_ty rfl D5.new (by omega) (by omega) fun r v6 o6 g6 => ?_
        have hs6 := g6.size
        have B6 := D5.blk.fr g6 fun e => by have := D5.lb; omega
        refine ptrI ?_
        rw [add_lit]
        refine setI (i := 2) B6 (by simp) rfl fun v7 B7 g7 t7 => ?_
        have nb : ∀ k, relab lab v5.heap.size v6.heap.size 1 k ≠ 3 → k ≠ bd := fun k e e2 => by
          subst e2
          rw [relab_lt (D5.blk.lt)] at e
          exact e D5.lb
        refine ⟨⟨relab lab v5.heap.size v6.heap.size 1, r, ss, B7, ?_, ?_, ?_, fun k e => ?_⟩, ?_⟩
        · rw [relab_lt D5.blk.lt]; exact D5.lb
        · rw [eN, if_pos hb]
          exact o6.fr g7 fun k e => nb k (by omega)
        · rw [eS, if_neg (by simp [hb]), List.append_nil]
          have := St.other (A := fun F w => Own F w 92 compT ss (chM e1.2 (e2.2.take j))) Own.st (c := 1) D5.set g6 (by decide)
          exact this.fr g7 fun k e => nb k (by omega)
        · rcases relab_ne e with e | e
          · have := D5.up k e.1; omega
          · have := fv5.size; omega
        · refine (fv5.newer g6 fun k e => ?_).newer g7 fun k e => by omega
          exact (D5.up k (by omega)).1
      · have hb : fc.2 = true := by simpa using hb
        refine aggI C5 (x := fc.1) rfl (aggI C35 (x := c) rfl ?_)
        refine neqI eqG_comp (eqV_comp fc.1 c) ?_
        refine joinI (fun (_ : Unit) v => (∃ lab sn ss, ChgI w3.heap.size bd e2.1 (lostM e1.2 e2.2) e1.2 (e2.2.take (j + 1)) lab sn ss v) ∧ Fr None w3 v) ?_ fun _ v h => h
        refine condI (fun hd => ?_) fun hd => ?_
        · have hd : fc.1 ≠ c := by simpa using hd
          refine ptrI (fldI D5.blk (i := 3) (x := ss) rfl (aggI C35 (x := c) rfl ?_))
          refine appLab (x := c) comps_ty rfl D5.set (by omega) (by omega) fun r v6 o6 g6 => ?_
          have hs6 := g6.size
          have B6 := D5.blk.fr g6 fun e => by have := D5.lb; omega
          refine ptrI ?_
          rw [add_lit]
          refine setI (i := 3) B6 (by simp) rfl fun v7 B7 g7 t7 => ?_
          have nb : ∀ k, relab lab v5.heap.size v6.heap.size 2 k ≠ 3 → k ≠ bd := fun k e e2 => by
            subst e2
            rw [relab_lt (D5.blk.lt)] at e
            exact e D5.lb
          refine ⟨⟨relab lab v5.heap.size v6.heap.size 2, sn, r, B7, ?_, ?_, ?_, fun k e => ?_⟩, ?_⟩
          · rw [relab_lt D5.blk.lt]; exact D5.lb
          · rw [eN, if_neg (by simp [hb]), List.append_nil]
            have := St.other (A := fun F w => Own F w 92 compT sn (newM e1.2 (e2.2.take j))) Own.st (c := 2) D5.new g6 (by decide)
            exact this.fr g7 fun k e => nb k (by omega)
          · rw [eS, if_pos ⟨hb, hd⟩]
            exact o6.fr g7 fun k e => nb k (by omega)
          · rcases relab_ne e with e | e
            · have := D5.up k e.1; omega
            · have := fv5.size; omega
          · refine (fv5.newer g6 fun k e => ?_).newer g7 fun k e => by omega
            exact (D5.up k (by omega)).1
        · have hd : fc.1 = c := by simpa using hd
          refine ⟨⟨lab, sn, ss, D5.blk, D5.lb, ?_, ?_, D5.up⟩, fv5⟩
          · rw [eN, if_neg (by simp [hb]), List.append_nil]; exact D5.new
          · rw [eS, if_neg (fun h => h.2 hd), List.append_nil]; exact D5.set
    · rintro _ v6 ⟨hD, f6⟩
      exact hK _ _ ⟨wsucc hj (by omega), hD, f6⟩
  · rintro i v ⟨_, ⟨lab, sn, ss, D⟩, fv⟩
    rw [List.take_of_length_le (by omega)] at D
    have hs := fv.size
    refine ptrI (aggI D.blk (x := ((e2.1, lostM e1.2 e2.2, sn, ss) : ChgRaw)) rfl ?_)
    refine stoAll (B3.fr fv fun h => h) rfl rfl fun v1 C1 g1 t1 => aggI C1 (x := ((e2.1, lostM e1.2 e2.2, sn, ss) : ChgRaw)) rfl ?_
    refine hk _ v1 ⟨rfl, rfl, ?_, ?_⟩ ((f03.then0 fv).newer g1 fun k e => by omega)
    · exact SlT.st D.new.sl g1 fun k hk e => by
        have := D.up k (by omega)
        exact ⟨by omega, show w.heap.size ≤ k by omega⟩
    · exact SlT.st D.set.sl g1 fun k hk e => by
        have := D.up k (by omega)
        exact ⟨by omega, show w.heap.size ≤ k by omega⟩
end Go.Proofs.YtchhhjlpnecjkaaGreat
namespace Go.Proofs.YtchhhjlpnecjkaaGreat
open Go Go.RowKit Go.Proofs.YtchhhjlpnecjkaaGreat.Den
variable {R : Type} {Q : R → World → Prop} {w : World}
def badD (prev : Int) (first : Bool) (e : Ent) : Prop := genOf e.1 < 1 ∨ 4194303 < genOf e.1 ∨ (first = false ∧ e.1 ≤ prev)
instance (prev : Int) (first : Bool) (e : Ent) : Decidable (badD prev first e) := by unfold badD; infer_instance
end Go.Proofs.YtchhhjlpnecjkaaGreat
namespace Go.Proofs.YtchhhjlpnecjkaaGreat
open Go Go.RowKit Go.Proofs.YtchhhjlpnecjkaaGreat.Den
def hasE (L : List Ent) (id : Int) : Bool := L.any fun e => e.1 == id
def goneM (was now : List Ent) : List Int := (was.filter fun e => !hasE now e.1).map (·.1)
def comeM (was now : List Ent) : List Ent := now.filter fun e => !hasE was e.1
def nothingM (c : Chg) : Bool := decide (c.2.1 = 0 ∧ c.2.2.1.length = 0 ∧ c.2.2.2.length = 0)
def chgOne (was : List Ent) (e : Ent) : Option Chg := match was.find? (fun a => a.1 == e.1) with
  | none => none
  | some a => if nothingM (changeM a e) = true then none else some (changeM a e)
def chgsM (was now : List Ent) : List Chg := now.filterMap (chgOne was)
def goneP (was now : List Ent) : List Int := (was.filter fun e => !hasE now e.1).map (·.1)
theorem hasE_iff {L : List Ent} {id : Int} : hasE L id = true ↔ ∃ e ∈ L, e.1 = id := by simp [hasE]
theorem hasE_not {L : List Ent} {id : Int} : hasE L id = false ↔ ∀ e ∈ L, e.1 ≠ id := by simp [hasE]
structure FormOk (L : List Ent) : Prop where
  rise : L.Pairwise fun a b => a.1 < b.1
  one : ∀ e ∈ L, oneM e = 0
  told : ∀ e ∈ L, secretM e.2 = false
  pos : ∀ e ∈ L, 0 < e.1
theorem formM_ok : ∀ (L : List Ent) (prev : Int), formM prev L = 0 ↔ (∀ e ∈ L, prev < e.1) ∧ L.Pairwise (fun a b => a.1 < b.1) ∧ (∀ e ∈ L, oneM e = 0) ∧ (∀ e ∈ L, secretM e.2 = false)
  | [], _ => by simp [formM]
  | e :: r, prev => by
    have ih := formM_ok r e.1
    rw [formM]
    by_cases h1 : e.1 ≤ prev
    · rw [if_pos h1]
      refine ⟨fun h => absurd h (by decide), fun h => absurd (h.1 e List.mem_cons_self) (by omega)⟩
    · rw [if_neg h1]
      by_cases h2 : oneM e = 0
      · rw [if_neg (c := oneM e ≠ 0) (fun x => x h2)]
        by_cases h3 : secretM e.2 = true
        · rw [if_pos h3]
          refine ⟨fun h => absurd h (by decide), fun h => absurd (h.2.2.2 e List.mem_cons_self) (by rw [h3]; decide)⟩
        · rw [if_neg h3, ih]
          have h3 : secretM e.2 = false := by simpa using h3
          constructor
          · rintro ⟨a, b, c, d⟩
            refine ⟨fun x hx => ?_, List.pairwise_cons.2 ⟨a, b⟩, fun x hx => ?_, fun x hx => ?_⟩
            · rcases List.mem_cons.1 hx with rfl | hx
              · omega
              · have := a x hx; omega
            · rcases List.mem_cons.1 hx with rfl | hx
              · exact h2
              · exact c x hx
            · rcases List.mem_cons.1 hx with rfl | hx
              · exact h3
              · exact d x hx
          · rintro ⟨a, b, c, d⟩
            have hb := List.pairwise_cons.1 b
            exact ⟨hb.1, hb.2, fun x hx => c x (List.mem_cons_of_mem _ hx), fun x hx => d x (List.mem_cons_of_mem _ hx)⟩
      · rw [if_pos h2]
        exact ⟨fun h => absurd h h2, fun h => absurd (h.2.2.1 e List.mem_cons_self) h2⟩
theorem formOk {L : List Ent} : formM 0 L = 0 ↔ FormOk L := by
  rw [formM_ok]
  exact ⟨fun ⟨a, b, c, d⟩ => ⟨b, c, d, a⟩, fun ⟨a, b, c, d⟩ => ⟨d, a, b, c⟩⟩
theorem FormOk.list {L : List Ent} (h : FormOk L) {e : Ent} (he : e ∈ L) : listE e.2 = 0 := by
  have := h.one e he
  unfold oneM at this
  split at this
  · exact absurd this (by decide)
  · exact this
theorem find_at {L : List Ent} (hs : L.Pairwise fun a b => a.1 < b.1) {i : Nat} {a : Ent} (ha : L[i]? = some a) : L.find? (fun x => x.1 == a.1) = some a := by
  rw [List.find?_eq_some_iff_getElem]
  obtain ⟨hl, hg⟩ := List.getElem?_eq_some_iff.1 ha
  refine ⟨by simp, i, hl, hg, fun q hq => ?_⟩
  have := ids_lt hs hq (List.getElem?_eq_getElem (by omega)) ha
  simp
  omega
theorem goneM_step {was now : List Ent} {i : Nat} {a : Ent} (ha : was[i]? = some a) : goneP (was.take (i + 1)) now = goneP (was.take i) now ++ if hasE now a.1 = false then [a.1] else [] := by
  unfold goneP
  rw [take_at ha, List.filter_append, List.map_append]
  congr 1
  by_cases h : hasE now a.1 = true
  · simp [List.filter, h]
  · simp [List.filter, h]
theorem comeM_step {was now : List Ent} {i : Nat} {a : Ent} (ha : now[i]? = some a) : comeM was (now.take (i + 1)) = comeM was (now.take i) ++ if hasE was a.1 = false then [a] else [] := by
  unfold comeM
  rw [take_at ha, List.filter_append]
  congr 1
  by_cases h : hasE was a.1 = true
  · simp [List.filter, h]
  · simp [List.filter, h]
theorem chgsM_step {was now : List Ent} {i : Nat} {a : Ent} (ha : now[i]? = some a) : chgsM was (now.take (i + 1)) = chgsM was (now.take i) ++ match chgOne was a with
    | some c => [c]
    | none => [] := by
  unfold chgsM
  rw [take_at ha, List.filterMap_append]
  congr 1
  cases h : chgOne was a <;> simp [h]
structure Side (was now : List Ent) (i k : Nat) : Prop where
  lt : ∀ (p q : Nat) a b, p < i → k ≤ q → was[p]? = some a → now[q]? = some b → a.1 < b.1
  gt : ∀ (p q : Nat) a b, i ≤ p → q < k → was[p]? = some a → now[q]? = some b → b.1 < a.1
theorem Side.zero (was now : List Ent) : Side was now 0 0 := ⟨fun p q a b h => absurd h (by omega), fun p q a b h h2 => absurd h2 (by omega)⟩
section
variable {was now : List Ent} {i k : Nat}
theorem Side.left (h : Side was now i k) (_hw : was.Pairwise fun a b => a.1 < b.1) (hn : now.Pairwise fun a b => a.1 < b.1) {a : Ent} (ha : was[i]? = some a) (hb : ∀ b, now[k]? = some b → a.1 < b.1) : Side was now (i + 1) k ∧ hasE now a.1 = false := by
  have key : ∀ (q : Nat) b, k ≤ q → now[q]? = some b → a.1 < b.1 := fun q b hq hb2 => by
    rcases Nat.lt_or_ge k q with h1 | h1
    · obtain ⟨c, hc⟩ : ∃ c, now[k]? = some c := ⟨_, List.getElem?_eq_getElem (by have := (List.getElem?_eq_some_iff.1 hb2).1; omega)⟩
      have := hb c hc
      have := ids_lt hn h1 hc hb2
      omega
    · have : q = k := by omega
      subst this
      exact hb b hb2
  refine ⟨⟨fun p q x y hp hq hx hy => ?_, fun p q x y hp hq hx hy => h.gt p q x y (by omega) hq hx hy⟩, hasE_not.2 fun e he => ?_⟩
  · rcases Nat.lt_or_ge p i with h1 | h1
    · exact h.lt p q x y h1 hq hx hy
    · have : p = i := by omega
      subst this
      rw [ha] at hx; cases hx
      exact key q y hq hy
  · obtain ⟨q, hq⟩ := List.mem_iff_getElem?.1 he
    rcases Nat.lt_or_ge q k with h1 | h1
    · have := h.gt i q a e (Nat.le_refl _) h1 ha hq; omega
    · have := key q e h1 hq; omega
theorem Side.right (h : Side was now i k) (hw : was.Pairwise fun a b => a.1 < b.1) (_hn : now.Pairwise fun a b => a.1 < b.1) {b : Ent} (hb : now[k]? = some b) (ha : ∀ a, was[i]? = some a → b.1 < a.1) : Side was now i (k + 1) ∧ hasE was b.1 = false := by
  have key : ∀ (p : Nat) a, i ≤ p → was[p]? = some a → b.1 < a.1 := fun p a hp ha2 => by
    rcases Nat.lt_or_ge i p with h1 | h1
    · obtain ⟨c, hc⟩ : ∃ c, was[i]? = some c := ⟨_, List.getElem?_eq_getElem (by have := (List.getElem?_eq_some_iff.1 ha2).1; omega)⟩
      have := ha c hc
      have := ids_lt hw h1 hc ha2
      omega
    · have : p = i := by omega
      subst this
      exact ha a ha2
  refine ⟨⟨fun p q x y hp hq hx hy => h.lt p q x y hp (by omega) hx hy, fun p q x y hp hq hx hy => ?_⟩, hasE_not.2 fun e he => ?_⟩
  · rcases Nat.lt_or_ge q k with h1 | h1
    · exact h.gt p q x y hp h1 hx hy
    · have : q = k := by omega
      subst this
      rw [hb] at hy; cases hy
      exact key p x hp hx
  · obtain ⟨p, hp⟩ := List.mem_iff_getElem?.1 he
    rcases Nat.lt_or_ge p i with h1 | h1
    · have := h.lt p k e b h1 (Nat.le_refl _) hp hb; omega
    · have := key p e h1 hp; omega
theorem Side.both (h : Side was now i k) (hw : was.Pairwise fun a b => a.1 < b.1) (hn : now.Pairwise fun a b => a.1 < b.1) {a b : Ent} (ha : was[i]? = some a) (hb : now[k]? = some b) (hab : a.1 = b.1) : Side was now (i + 1) (k + 1) ∧ hasE now a.1 = true ∧ hasE was b.1 = true ∧ chgOne was b = if nothingM (changeM a b) = true then none else some (changeM a b) := by
  refine ⟨⟨fun p q x y hp hq hx hy => ?_, fun p q x y hp hq hx hy => ?_⟩, hasE_iff.2 ⟨b, List.mem_of_getElem? hb, hab.symm⟩, hasE_iff.2 ⟨a, List.mem_of_getElem? ha, hab⟩, ?_⟩
  · have h1 := ids_lt hn (show k < q by omega) hb hy
    rcases Nat.lt_or_ge p i with h2 | h2
    · have := ids_lt hw h2 hx ha; omega
    · have : p = i := by omega
      subst this
      rw [ha] at hx; cases hx
      omega
  · have h1 := ids_lt hw (show i < p by omega) ha hx
    rcases Nat.lt_or_ge q k with h2 | h2
    · have := ids_lt hn h2 hy hb; omega
    · have : q = k := by omega
      subst this
      rw [hb] at hy; cases hy
      omega
  · unfold chgOne
    rw [← hab, find_at hw ha]
end
end Go.Proofs.YtchhhjlpnecjkaaGreat
namespace Go.Proofs.YtchhhjlpnecjkaaGreat
open Go Go.RowKit Go.Proofs.YtchhhjlpnecjkaaGreat.Den
variable {R : Type} {Q : R → World → Prop} {w : World}
theorem spec_Clone_Comp {ok : Nat → Prop} {s : Sl} {l : List Comp} (hS : SlT ok w compT s l) (hm : l.length * 16 ≤ 140737488355328) {K : Res [.sc .sl] → W R} (hk : ∀ r w', Own (Up w.heap.size) w' 92 compT r l → Fr None w w' → K r Q w') :
    callW Tryz.prog k_slices_Clone_Comp [.slice s.a s.n s.c] [.sc .sl] K Q w := by
  refine C_slices_Clone_Comp _ K Q w ?_
  unfold F_slices_Clone_Comp
  rcases hS.at_ with rfl | ⟨b, o, ha, _⟩
  · cases hsa : s.a with
    | none => exact condT rfl (hk _ w (Own.nil _ _ _ _) (Fr.refl _ _))
    | some a =>
      refine condF rfl ?_
      rw [← hsa]
      refine newI fun w1 B1 f1 s1 => ?_
      have own := Own.mk' (S := Up w.heap.size) (w := w1) (E := 92) (t := compT) (l := []) (g := w.heap.size) (c := 0) (cur := ⟨[]⟩) (Nat.le_refl _) B1 (Nat.le_refl _) (Nat.zero_le _) (by simp) (by simp)
      refine appI (s := ⟨some ⟨w.heap.size, 0, none⟩, 0, 0⟩) (s2 := s) (S' := Up w.heap.size) comps_ty own (hS.fr0 f1) (by simp) (by simp) (fun _ h => h) (by show _ ≤ _; omega) fun r w2 o2 f2 s2 => hk r w2 (by simpa using o2) (f1.newer f2 (fun x e => own.own x e))
  · rw [ha]
    refine condF rfl ?_
    rw [← ha]
    exact cloneI comps_ty hS hm (by omega) hk
end Go.Proofs.YtchhhjlpnecjkaaGreat
namespace Go.Proofs.YtchhhjlpnecjkaaGreat
open Go Go.RowKit Go.Proofs.YtchhhjlpnecjkaaGreat.Den
variable {R : Type} {Q : R → World → Prop} {w : World}
def zigM (n : Int) : Int := if 0 ≤ n then 2 * n else -2 * n - 1
theorem xor_0 {x : Int} (h0 : 0 ≤ x) (h1 : x ≤ 18446744073709551615) : bXor .u64 x 0 = x := by
  unfold bXor
  rw [BitVec.toNat_xor, BitVec.toNat_ofInt, BitVec.toNat_ofInt]
  have e1 : (0 % ((2 ^ IntKind.bits .u64 : Nat) : Int)).toNat = 0 := by decide
  have e2 : (x % ((2 ^ IntKind.bits .u64 : Nat) : Int)).toNat = x.toNat := by
    have : ((2 ^ IntKind.bits .u64 : Nat) : Int) = 18446744073709551616 := by decide
    rw [this]; omega
  rw [e1, e2, Nat.xor_zero, IntKind.wrap_u64]
  omega
theorem xor_ones {x : Int} (h0 : 0 ≤ x) (h1 : x ≤ 18446744073709551615) : bXor .u64 x 18446744073709551615 = 18446744073709551615 - x := by
  change IntKind.wrap .u64 (((BitVec.ofInt 64 x ^^^ BitVec.ofInt 64 18446744073709551615).toNat : Nat) : Int) = _
  have e : BitVec.ofInt 64 18446744073709551615 = BitVec.allOnes 64 := by decide
  rw [e, BitVec.xor_allOnes, BitVec.toNat_not, BitVec.toNat_ofInt]
  have e2 : (x % ((2 ^ 64 : Nat) : Int)).toNat = x.toNat := by
    have : ((2 ^ 64 : Nat) : Int) = 18446744073709551616 := by decide
    rw [this]; omega
  rw [e2, IntKind.wrap_u64]
  omega
theorem spec_nums_Zig {n : Int} (hn : -4611686018427387904 ≤ n ∧ n ≤ 4611686018427387903) {K : Res [.sc (.int .u64)] → W R} (hk : K (zigM n) Q w) : callW Tryz.prog k_nums_Zig [.int .i64 n] [.sc (.int .u64)] K Q w := by
  refine C_nums_Zig _ K Q w ?_
  unfold F_nums_Zig
  have e1 : shL .i64 n 1 = n * 2 := by
    unfold shL
    have : (2 : Int) ^ (min (Int.toNat 1) (IntKind.bits .i64)) = 2 := by decide
    rw [this, w64 (by omega)]
  have e2 : shR .i64 n 63 = if 0 ≤ n then 0 else -1 := by
    unfold shR
    have : (2 : Int) ^ (min (Int.toNat 63) (IntKind.bits .i64)) = 9223372036854775808 := by decide
    rw [this, Int.fdiv_eq_ediv_of_nonneg _ (by decide)]
    split <;> omega
  rw [e1, e2]
  unfold zigM at hk
  by_cases h : 0 ≤ n
  · rw [if_pos h] at hk ⊢
    have : bXor .u64 (IntKind.wrap .u64 (n * 2)) (IntKind.wrap .u64 0) = 2 * n := by
      rw [wU64 (by omega), wU64 (by omega), xor_0 (by omega) (by omega)]
      omega
    rw [this]
    exact hk
  · rw [if_neg h] at hk ⊢
    have : bXor .u64 (IntKind.wrap .u64 (n * 2)) (IntKind.wrap .u64 (-1)) = -2 * n - 1 := by
      have a1 : IntKind.wrap .u64 (-1) = 18446744073709551615 := by decide
      have a2 : IntKind.wrap .u64 (n * 2) = 18446744073709551616 + n * 2 := by rw [IntKind.wrap_u64]; omega
      rw [a1, a2, xor_ones (by omega) (by omega)]
      omega
    rw [this]
    exact hk
abbrev Part := Int × Int
abbrev partT : Ty := .agg [.int .u64, .int .i64]
def fieldP (c : Comp) (i : Nat) : Part := (IntKind.wrap .u64 (fl c i - (rangeM c.1 (i : Int)).1), (widthM (rangeM c.1 (i : Int)).1 (rangeM c.1 (i : Int)).2.1 : Int))
def wholeP (c : Comp) : List Part := (List.range (cntM c.1)).map (fieldP c)
def oneP (was c : Comp) (i : Nat) : List Part :=
  if zigM (fl c i - fl was i) = 0 then [(0, 1)] else if zigM (fl c i - fl was i) ≤ 16 then [(1, 1), (1, 1), (zigM (fl c i - fl was i) - 1, 4)] else [(1, 1), (0, 1), fieldP c i]
def stepP (was c : Comp) : List Part := (List.range (cntM c.1)).flatMap (oneP was c)
def partsB (l : List Part) : List Bool := l.flatMap fun p => bitsOf p.1.toNat p.2.toNat
def PartOk (p : Part) : Prop := (0 ≤ p.1 ∧ p.1.toNat < 2 ^ p.2.toNat) ∧ 0 ≤ p.2 ∧ p.2 ≤ 64
theorem parts_ty : SlTy Tryz.prog 202 231 partT 16 := slTy (by kernel_rfl)
theorem flI {c : Comp} (h : CompOk c) : ∀ i, -2147483648 ≤ fl c i ∧ fl c i ≤ 2147483647
  | 0 => h.2.1
  | 1 => h.2.2.1
  | _ + 2 => h.2.2.2
theorem rangeM_i32 (k i : Int) : (-2147483648 ≤ (rangeM k i).1 ∧ (rangeM k i).1 ≤ 2147483647) ∧ (-2147483648 ≤ (rangeM k i).2.1 ∧ (rangeM k i).2.1 ≤ 2147483647) := by
  unfold rangeM
  split
  · split
    · rename_i p hp
      have hm := List.mem_of_getElem? hp
      unfold fieldsM at hm
      repeat' split at hm
      all_goals first
        | (simp only [List.mem_cons, List.not_mem_nil, or_false] at hm; rcases hm with rfl | rfl | rfl <;> decide)
        | (simp only [List.mem_cons, List.not_mem_nil, or_false] at hm; rcases hm with rfl | rfl <;> decide)
        | (simp only [List.mem_cons, List.not_mem_nil, or_false] at hm; subst hm; decide)
        | simp at hm
    · decide
  · decide
theorem spec_comp_field {c : Comp} (hc : CompOk c) {i : Nat} (hi : i < 3) {K : Res [.agg [.int .u64, .int .i64]] → W R} (hk : ∀ w', Fr None w w' → K (fieldP c i) Q w') :
    callW Tryz.prog k_comp_field [.agg ⟨compC c⟩, .int .i64 (i : Int)] [.agg [.int .u64, .int .i64]] K Q w := by
  refine C_comp_field c _ K Q w ?_
  unfold F_comp_field
  refine newI fun w1 B1 f1 s1 => newI fun w2 B2 f2 s2 => ?_
  have B1 := B1.fr f2 fun h => h
  refine fldI B1 (i := 0) (x := c.1) rfl (spec_schema_Range fun w3 f3 => ?_)
  have fd : Fr None w3 w3.drew := (Fr.refl _ _).drew
  have B1 := (B1.fr f3 fun h => h).fr fd fun h => h
  have B2 := (B2.fr f3 fun h => h).fr fd fun h => h
  refine fIdx (j := i) rfl hi (fld0 B1 (x := fl c i) (compC_fl c hi) ?_)
  obtain ⟨r1, r2⟩ := rangeM_i32 c.1 (i : Int)
  have hf := flI hc i
  rw [w64 (x := (rangeM c.1 (i : Int)).1) (by omega), w64 (x := (rangeM c.1 (i : Int)).2.1) (by omega), w64 (x := fl c i) (by omega), w64 (x := fl c i - _) (by omega)]
  refine spec_nums_Width (by omega) (by omega) (andI ?_ ?_)
  · exact (B1.cell (1 + i)).trans (compC_fl c hi)
  · refine stoAll B2 rfl rfl fun w4 B4 f4 s4 => aggI B4 (x := fieldP c i) rfl ?_
    exact hk w4 ((((f1.then0 f2).then0 f3).then0 fd).newer f4 fun k e => by omega)
theorem spec_schema_Count {k : Int} {K : Res [.sc (.int .i64)] → W R} (hk : ∀ w', Fr None w w' → K ((cntM k : Nat) : Int) Q w') : callW Tryz.prog k_schema_Count [.int .u8 k] [.sc (.int .i64)] K Q w := by
  refine C_schema_Count _ K Q w ?_
  unfold F_schema_Count
  refine spec_schema_of fun s w1 hS f1 => ?_
  have hn : s.n = cntM k := hS.len
  show K ((s.n : Nat) : Int) Q w1
  rw [hn]
  exact hk w1 f1
theorem spec_comp_whole {c : Comp} (hc : CompOk c) {K : Res [.sc .sl] → W R} (hk : ∀ r w', Own (Up w.heap.size) w' 231 partT r (wholeP c) → Fr None w w' → K r Q w') :
    callW Tryz.prog k_comp_whole [.agg ⟨compC c⟩] [.sc .sl] K Q w := by
  refine C_comp_whole c K Q w ?_
  unfold F_comp_whole
  refine newI fun w1 B1 f1 s1 => ?_
  have h3 := cntM_le c.1
  refine fldI B1 (i := 0) (x := c.1) rfl (spec_schema_Count fun w2 f2 => ?_)
  refine forI (N := cntM c.1) (fun s : Sl × Int => s.2) (fun j s w' => s.2 = (j : Int) ∧ Own (fun k => w.heap.size ≤ k ∧ k ≠ w.heap.size) w' 231 partT s.1 ((List.range j).map (fieldP c)) ∧ Blk w' w.heap.size 92 (compC c) ∧ Fr None w w') ⟨rfl, Own.nil _ _ _ _, B1.fr f2 fun h => h, f1.then0 f2⟩ (fun j s w' h => h.1) ?_ ?_
  · rintro j ⟨z, _⟩ w3 K' hj ⟨rfl, o3, B3, f3⟩ - hK
    have hs3 := f3.size
    refine aggI B3 (x := c) rfl (spec_comp_field hc (by omega) fun w4 f4 => ?_)
    have hs4 := f4.size
    refine appP (x := fieldP c j) parts_ty rfl (o3.none f4) (fun k e => ⟨by omega, by have := B3.lt; omega⟩) (by simp; omega) (by simp; omega) fun r w5 o5 f5 => ?_
    have hr : (List.range (j + 1)).map (fieldP c) = (List.range j).map (fieldP c) ++ [fieldP c j] := by rw [List.range_succ, List.map_append]; rfl
    refine hK _ _ ⟨wsucc hj (by omega), by rw [hr]; exact o5, ?_, (f3.then0 f4).newer f5 fun k e => (o3.own k e).1⟩
    exact (B3.fr f4 fun h => h).fr f5 fun e => (o3.own _ e).2 rfl
  · rintro ⟨z, _⟩ w3 ⟨_, o3, _, f3⟩
    exact hk z w3 (o3.mono fun k _ e => e.1) f3
theorem spec_comp_more {was c : Comp} (hw : CompOk was) (hc : CompOk c) {i : Nat} (hi : i < 3) {K : Res [.sc (.int .u64)] → W R} (hk : ∀ w', Fr None w w' → K (zigM (fl c i - fl was i)) Q w') :
    callW Tryz.prog k_comp_more [.agg ⟨compC was⟩, .agg ⟨compC c⟩, .int .i64 (i : Int)] [.sc (.int .u64)] K Q w := by
  refine C_comp_more was c _ K Q w ?_
  unfold F_comp_more
  refine newI fun w1 B1 f1 s1 => newI fun w2 B2 f2 s2 => ?_
  have fd : Fr None w2 w2.drew := (Fr.refl _ _).drew
  have B1 := (B1.fr f2 fun h => h).fr fd fun h => h
  have B2 := B2.fr fd fun h => h
  have a := flI hc i
  have b := flI hw i
  refine fIdx (j := i) rfl hi (fld0 B2 (x := fl c i) (compC_fl c hi) (fIdx (j := i) rfl hi (fld0 B1 (x := fl was i) (compC_fl was hi) ?_)))
  rw [w64 (x := fl c i) (by omega), w64 (x := fl was i) (by omega), w64 (x := fl c i - fl was i) (by omega)]
  exact spec_nums_Zig (by omega) (hk _ ((f1.then0 f2).then0 fd))
theorem oneP_len (was c : Comp) (i : Nat) : (oneP was c i).length ≤ 3 := by
  unfold oneP
  split
  · simp
  · split <;> simp
theorem stepPs_len (was c : Comp) (j : Nat) : ((List.range j).flatMap (oneP was c)).length ≤ 3 * j := by
  induction j with
  | zero => simp
  | succ j ih =>
    rw [List.range_succ, List.flatMap_append, List.length_append]
    have := oneP_len was c j
    simp only [List.flatMap_cons, List.flatMap_nil, List.append_nil]
    omega
theorem spec_comp_step {was c : Comp} (hw : CompOk was) (hc : CompOk c) {K : Res [.sc .sl] → W R} (hk : ∀ r w', Own (Up w.heap.size) w' 231 partT r (stepP was c) → Fr None w w' → K r Q w') :
    callW Tryz.prog k_comp_step [.agg ⟨compC was⟩, .agg ⟨compC c⟩] [.sc .sl] K Q w := by
  refine C_comp_step was c K Q w ?_
  unfold F_comp_step
  refine newI fun w1 B1 f1 s1 => newI fun w2 B2 f2 s2 => ?_
  have B1 := B1.fr f2 fun h => h
  have h3 := cntM_le c.1
  refine fldI B2 (i := 0) (x := c.1) rfl (spec_schema_Count fun w3 f3 => ?_)
  have fs := (f1.then0 f2).then0 f3
  refine forI (N := cntM c.1) (fun s : Sl × Int => s.2) (fun j s w' => s.2 = (j : Int) ∧ Own (fun k => w.heap.size ≤ k ∧ k ≠ w.heap.size ∧ k ≠ w1.heap.size) w' 231 partT s.1 ((List.range j).flatMap (oneP was c)) ∧ Blk w' w.heap.size 92 (compC was) ∧ Blk w' w1.heap.size 92 (compC c) ∧ Fr None w w') ⟨rfl, Own.nil _ _ _ _, B1.fr f3 fun h => h, B2.fr f3 fun h => h, fs⟩ (fun j s w' h => h.1) ?_ ?_
  · rintro j ⟨z, _⟩ w4 K' hj ⟨rfl, o4, B14, B24, f4⟩ - hK
    have hl1 := B14.lt
    have hl2 := B24.lt
    refine aggI B14 (x := was) rfl (aggI B24 (x := c) rfl (spec_comp_more hw hc (by omega) fun w5 f5 => ?_))
    have hs5 := f5.size
    have o5 := o4.none f5
    have B15 := B14.fr f5 fun h => h
    have B25 := B24.fr f5 fun h => h
    have hpl := stepPs_len was c j
    refine joinI (fun (z : Sl) w' => Own (fun k => w.heap.size ≤ k ∧ k ≠ w.heap.size ∧ k ≠ w1.heap.size) w' 231 partT z ((List.range j).flatMap (oneP was c) ++ oneP was c j) ∧ Blk w' w.heap.size 92 (compC was) ∧ Blk w' w1.heap.size 92 (compC c) ∧ Fr None w w') ?_ ?_
    · have app : ∀ {z5 : Sl} {v : World} {ps : List Part} {cs : List Value} {n : Nat} {R2 : Type} {K2 : Sl → W R2} {Q2 : R2 → World → Prop}, Fr None w v → Blk v w.heap.size 92 (compC was) → Blk v w1.heap.size 92 (compC c) → Own (fun k => w.heap.size ≤ k ∧ k ≠ w.heap.size ∧ k ≠ w1.heap.size) v 231 partT z5 ((List.range j).flatMap (oneP was c)) → cs = ps.flatMap partT.cells → cs.length = ps.length * 2 → n = ps.length → ps.length ≤ 3 →
          (∀ r v', Own (fun k => w.heap.size ≤ k ∧ k ≠ w.heap.size ∧ k ≠ w1.heap.size) v' 231 partT r ((List.range j).flatMap (oneP was c) ++ ps) → Blk v' w.heap.size 92 (compC was) → Blk v' w1.heap.size 92 (compC c) → Fr None w v' → K2 r Q2 v') →
          newW 231 cs (fun a => rawW Tryz.prog (Builtin.append_ #[202, 202] 202 #[.slice z5.a z5.n z5.c, .slice (some a) n n]) [.sc .sl] K2) Q2 v := by
        intro z5 v ps cs n R2 K2 Q2 fv V1 V2 ov hcs hcl hn hp hk2
        have hsv := fv.size
        refine newI fun v1 Bv g1 t1 => ?_
        subst hn
        have lit : Own (fun _ => True) v1 231 partT ⟨some ⟨v.heap.size, 0, none⟩, ps.length, ps.length⟩ ps := Own.mk' (S := fun _ => True) (E := 231) (t := partT) (l := ps) (g := v.heap.size) (c := ps.length) (cur := ⟨cs⟩) trivial Bv (Nat.le_refl _) (by rw [maxLen_eq]; omega) hcl (by rw [hcs, show partT.size = 2 from rfl, ← hcl, hcs]; exact List.take_length)
        refine appI (s := z5) (s2 := ⟨some ⟨v.heap.size, 0, none⟩, ps.length, ps.length⟩) (S' := fun k => w.heap.size ≤ k ∧ k ≠ w.heap.size ∧ k ≠ w1.heap.size) parts_ty (ov.none g1) lit.sl (by omega) (by rw [maxLen_eq]; omega) (fun _ h => h) ⟨by have := g1.size; omega, by have := V1.lt; have := g1.size; omega, by have := V2.lt; have := g1.size; omega⟩ fun r v2 o2 g2 _ => ?_
        exact hk2 r v2 o2 ((V1.fr g1 fun h => h).fr g2 fun e => (ov.own _ e).2.1 rfl) ((V2.fr g1 fun h => h).fr g2 fun e => (ov.own _ e).2.2 rfl) ((fv.then0 g1).newer g2 fun k e => (ov.own k e).1)
      refine condE (fun hz => ?_) fun hz => ?_
      · have e : oneP was c j = [(0, 1)] := by rw [oneP, if_pos hz]
        rw [e]
        refine app (z5 := z) (ps := [(0, 1)]) (n := 1) (f4.then0 f5) B15 B25 o5 rfl rfl rfl (by simp) ?_
        exact fun r v' o b1 b2 f => ⟨o, b1, b2, f⟩
      · refine joinI (fun (z : Sl) w' => Own (fun k => w.heap.size ≤ k ∧ k ≠ w.heap.size ∧ k ≠ w1.heap.size) w' 231 partT z ((List.range j).flatMap (oneP was c) ++ oneP was c j) ∧ Blk w' w.heap.size 92 (compC was) ∧ Blk w' w1.heap.size 92 (compC c) ∧ Fr None w w') ?_ fun z w' h => h
        refine condD (fun h16 => ?_) fun h16 => ?_
        · have e : oneP was c j = [(1, 1), (1, 1), (zigM (fl c j - fl was j) - 1, 4)] := by rw [oneP, if_neg hz, if_pos h16]
          have hz0 : 0 ≤ zigM (fl c j - fl was j) := by unfold zigM; split <;> omega
          have ew : IntKind.wrap .u64 (zigM (fl c j - fl was j) - 1) = zigM (fl c j - fl was j) - 1 := wU64 (by omega)
          rw [e, ew]
          refine app (z5 := z) (ps := [(1, 1), (1, 1), (zigM (fl c j - fl was j) - 1, 4)]) (n := 3) (f4.then0 f5) B15 B25 o5 rfl rfl rfl (by simp) ?_
          exact fun r v' o b1 b2 f => ⟨o, b1, b2, f⟩
        · have e : oneP was c j = [(1, 1), (0, 1), fieldP c j] := by rw [oneP, if_neg hz, if_neg h16]
          rw [e]
          refine aggI B25 (x := c) rfl (spec_comp_field hc (by omega) fun w6 f6 => ?_)
          refine app (z5 := z) (ps := [(1, 1), (0, 1), fieldP c j]) (n := 3) ((f4.then0 f5).then0 f6) (B15.fr f6 fun h => h) (B25.fr f6 fun h => h) (o5.none f6) rfl rfl rfl (Nat.le_refl 3) ?_
          exact fun r v' o b1 b2 f => ⟨o, b1, b2, f⟩
    · rintro z w6 ⟨o6, b1, b2, f6⟩
      have hr : (List.range (j + 1)).flatMap (oneP was c) = (List.range j).flatMap (oneP was c) ++ oneP was c j := by rw [List.range_succ, List.flatMap_append]; simp
      exact hK _ _ ⟨wsucc hj (by omega), by rw [hr]; exact o6, b1, b2, f6⟩
  · rintro ⟨z, _⟩ w4 ⟨_, o4, _, _, f4⟩
    exact hk z w4 (o4.mono fun k _ e => e.1) f4
end Go.Proofs.YtchhhjlpnecjkaaGreat
namespace Go.Proofs.YtchhhjlpnecjkaaGreat
open Go Go.RowKit Go.Proofs.YtchhhjlpnecjkaaGreat.Den
variable {R : Type} {Q : R → World → Prop} {w : World}
theorem partsB_snoc (l : List Part) (p : Part) : partsB (l ++ [p]) = partsB l ++ bitsOf p.1.toNat p.2.toNat := by simp [partsB]
theorem partsB_take {l : List Part} {j : Nat} {p : Part} (h : l[j]? = some p) : partsB (l.take (j + 1)) = partsB (l.take j) ++ bitsOf p.1.toNat p.2.toNat := by rw [take_at h, partsB_snoc]
theorem partsB_le {l : List Part} (j : Nat) : (partsB (l.take j)).length ≤ (partsB l).length := by
  conv => rhs; rw [← List.take_append_drop j l]
  unfold partsB
  rw [List.flatMap_append, List.length_append]
  omega
theorem partsB_small {l : List Part} (hP : ∀ p ∈ l, PartOk p) : (partsB l).length ≤ 64 * l.length := by
  induction l with
  | nil => simp [partsB]
  | cons p r ih =>
    have h1 := ih fun q hq => hP q (List.mem_cons_of_mem _ hq)
    have h2 := (hP p List.mem_cons_self).2
    unfold partsB at h1 ⊢
    simp only [List.flatMap_cons, List.length_append, bitsOf_len, List.length_cons]
    omega
theorem spec_comp_size {ok : Nat → Prop} {s : Sl} {l : List Part} (hS : SlT ok w partT s l) (hP : ∀ p ∈ l, PartOk p) (hl : l.length ≤ 100) {K : Res [.sc (.int .i64)] → W R} (hk : ∀ w', Fr None w w' → K ((partsB l).length : Int) Q w') :
    callW Tryz.prog k_comp_size [.slice s.a s.n s.c] [.sc (.int .i64)] K Q w := by
  refine C_comp_size s K Q w ?_
  unfold F_comp_size
  have hlen := hS.len
  refine forI (N := s.n) (fun s : Int × Int => s.2) (fun j s w' => s = (((partsB (l.take j)).length : Int), (j : Int)) ∧ Fr None w w') ⟨rfl, Fr.refl _ _⟩ (fun j s w' h => by rw [h.1]) ?_ ?_
  · rintro j s1 w1 K' hj ⟨rfl, f1⟩ - hK
    refine (hS.fr0 f1).get rfl rfl (by omega) fun p hp => ?_
    refine newI fun w2 B2 f2 s2 => stoAll B2 rfl rfl fun w3 B3 f3 s3 => fldI B3 (i := 1) (x := p.2) rfl ?_
    have hpo := (hP p (List.mem_of_getElem? hp)).2
    have hsm := partsB_small (l := l.take j) fun q hq => hP q (List.mem_of_mem_take hq)
    rw [List.length_take] at hsm
    refine hK _ _ ⟨?_, f1.then0 (f2.newer f3 fun k e => by omega)⟩
    rw [wsucc hj (by omega), partsB_take hp, List.length_append, bitsOf_len, w64 (by omega)]
    have : (((partsB (l.take j)).length : Nat) : Int) + p.2 = (((partsB (l.take j)).length + p.2.toNat : Nat) : Int) := by omega
    rw [this]
  · rintro s1 w1 ⟨rfl, f1⟩
    rw [List.take_of_length_le (by omega)]
    exact hk w1 f1
def putP (L : List Bool) (l : List Part) : Int × List Bool := if 1048576 < L.length + (partsB l).length then (3, L) else (0, L ++ partsB l)
theorem spec_comp_put {b : Nat} {L : List Bool} {F : Nat → Prop} (h : Wr b L F w) {ok : Nat → Prop} {s : Sl} {l : List Part} (hS : SlT ok w partT s l) (hd : ∀ k, k < w.heap.size → ok k → ¬ F k) (hP : ∀ p ∈ l, PartOk p) (hl : l.length ≤ 100) {K : Res [.sc (.int .i64)] → W R}
    (hk : ∀ w', Wr b (putP L l).2 (Ex F w) w' → Fr F w w' → K (putP L l).1 Q w') : callW Tryz.prog k_comp_put [.pointer (some ⟨b, 0, none⟩), .slice s.a s.n s.c] [.sc (.int .i64)] K Q w := by
  refine C_comp_put _ s K Q w ?_
  unfold F_comp_put
  have hlen := hS.len
  have hL := h.1
  have hsm := partsB_small hP
  refine spec_bits_Len h (spec_comp_size hS hP hl fun w1 f1 => ?_)
  have hs1 := f1.size
  rw [w64 (by omega)]
  unfold putP at hk
  have h1 := Wr.st.fr0 h f1
  refine condD (fun h3 => ?_) fun h3 => ?_
  · have h3 : (1048576 : Int) < (L.length : Int) + ((partsB l).length : Int) := h3
    rw [if_pos (by omega)] at hk
    exact hk w1 (Wr.st.mono h1 fun k _ e => .inl e) f1.any
  have h3 : ¬ (1048576 : Int) < (L.length : Int) + ((partsB l).length : Int) := h3
  rw [if_neg (by omega)] at hk
  have hS0 : SlT (fun k => ok k ∧ k < w.heap.size) w partT s l := hS.mono fun k hk e => ⟨e, hk⟩
  refine forI (N := s.n) (fun s : Int => s) (fun j i w' => i = (j : Int) ∧ Wr b (L ++ partsB (l.take j)) (Ex F w) w' ∧ Fr F w w') ⟨rfl, by rw [List.take_zero]; simp only [partsB, List.flatMap_nil, List.append_nil]; exact Wr.st.mono h1 fun k _ e => .inl e, f1.any⟩ (fun j s w' h => h.1) ?_ ?_
  · rintro j i w2 K' hj ⟨rfl, hw, f2⟩ - hK
    have hs2 := f2.size
    refine (hS0.fr f2 fun k e e2 => hd k e.2 e.1 e2).get rfl rfl (by omega) fun p hp => ?_
    refine newI fun w3 B3 f3 s3 => stoAll B3 rfl rfl fun w4 B4 f4 s4 => fldI B4 (i := 0) (x := p.1) rfl (fldI B4 (i := 1) (x := p.2) rfl ?_)
    have f24 : Fr None w2 w4 := f3.newer f4 fun k e => by omega
    have hs4 := f24.size
    obtain ⟨⟨hp1, hp2⟩, hp3, hp4⟩ := hP p (List.mem_of_getElem? hp)
    have hle := partsB_le (l := l) (j + 1)
    rw [partsB_take hp, List.length_append, bitsOf_len] at hle
    have ep : putB (L ++ partsB (l.take j)) p.1 p.2 = (0, L ++ partsB (l.take (j + 1))) := by
      rw [putB, if_neg (by omega), if_neg, if_neg (by rw [List.length_append]; omega)]
      · rw [partsB_take hp, List.append_assoc]
      · rintro ⟨_, h⟩
        exact h (Nat.div_eq_of_lt hp2)
    have h64 : p.1.toNat < 2 ^ 64 := Nat.lt_of_lt_of_le hp2 (Nat.pow_le_pow_right (by decide) (by omega))
    refine spec_bits_Put (Wr.st.fr0 hw f24) (v := p.1) (n := p.2) (by omega) (by omega) fun w5 hw5 f5 => ?_
    rw [ep] at hw5
    have hs5 := f5.size
    refine hK _ _ ⟨wsucc hj (by omega), Wr.st.mono hw5 fun k _ e => ?_, (f2.then0 f24).exS f5 fun k e => e⟩
    rcases e with e | e
    · exact e
    · exact .inr (by omega)
  · rintro i w2 ⟨rfl, hw, f2⟩
    rw [List.take_of_length_le (by omega)] at hw
    exact hk w2 hw f2
theorem width_lt {lo hi x : Int} (h1 : lo ≤ x) (h2 : x ≤ hi) (h3 : hi - lo ≤ 18446744073709551615) : (x - lo).toNat < 2 ^ widthM lo hi := by
  unfold widthM
  rw [if_neg (by omega)]
  by_cases h0 : (hi - lo).toNat = 0
  · have : (x - lo).toNat = 0 := by omega
    rw [this]
    exact Nat.two_pow_pos _
  · have := (Lib.bitLenAux_bounds 64 (hi - lo).toNat (by omega) h0).2.2
    have e : (x - lo).toNat ≤ (hi - lo).toNat := by omega
    exact Nat.lt_of_le_of_lt e this
theorem width_le {lo hi : Int} (h3 : hi - lo ≤ 18446744073709551615) : widthM lo hi ≤ 64 := by
  unfold widthM
  split
  · decide
  · exact Lib.bitLen_le _ 64 (by decide) (by omega)
theorem check_at {c : Comp} (h : checkM c = 0) {i : Nat} (hi : i < cntM c.1) : (rangeM c.1 (i : Int)).1 ≤ fl c i ∧ fl c i ≤ (rangeM c.1 (i : Int)).2.1 := by
  have h3 := cntM_le c.1
  have hall : (List.range 3).all (inR c) = true := by
    unfold checkM at h
    split at h
    · cases h
    · split at h
      · cases h
      · split at h
        · assumption
        · cases h
  have := List.all_eq_true.1 hall i (List.mem_range.2 (by omega))
  unfold inR at this
  obtain ⟨p, hp⟩ : ∃ p, (fieldsM c.1)[i]? = some p := ⟨_, List.getElem?_eq_getElem hi⟩
  rw [hp] at this
  simp only [Bool.and_eq_true, decide_eq_true_eq] at this
  unfold rangeM
  rw [if_pos (by omega), Int.toNat_natCast, hp]
  exact this
theorem fieldP_ok {c : Comp} (h : checkM c = 0) {i : Nat} (hi : i < cntM c.1) : PartOk (fieldP c i) := by
  obtain ⟨h1, h2⟩ := check_at h hi
  obtain ⟨r1, r2⟩ := rangeM_i32 c.1 (i : Int)
  have hw := width_le (lo := (rangeM c.1 (i : Int)).1) (hi := (rangeM c.1 (i : Int)).2.1) (by omega)
  have hl := width_lt h1 h2 (by omega)
  unfold PartOk fieldP
  dsimp only
  rw [wU64 (by omega), Int.toNat_natCast]
  exact ⟨⟨by omega, hl⟩, by omega, by omega⟩
theorem wholeP_ok {c : Comp} (h : checkM c = 0) : ∀ p ∈ wholeP c, PartOk p := fun p hp => by
  obtain ⟨i, hi, rfl⟩ := List.mem_map.1 hp
  exact fieldP_ok h (List.mem_range.1 hi)
theorem stepP_ok {was c : Comp} (h : checkM c = 0) : ∀ p ∈ stepP was c, PartOk p := fun p hp => by
  obtain ⟨i, hi, hp⟩ := List.mem_flatMap.1 hp
  have hi := List.mem_range.1 hi
  have hz0 : 0 ≤ zigM (fl c i - fl was i) := by unfold zigM; split <;> omega
  unfold oneP at hp
  split at hp
  · simp only [List.mem_singleton] at hp
    subst hp
    exact ⟨⟨by decide, by decide⟩, by decide, by decide⟩
  · split at hp
    · simp only [List.mem_cons, List.not_mem_nil, or_false] at hp
      rcases hp with rfl | rfl | rfl
      · exact ⟨⟨by decide, by decide⟩, by decide, by decide⟩
      · exact ⟨⟨by decide, by decide⟩, by decide, by decide⟩
      · refine ⟨⟨by dsimp only; omega, ?_⟩, (by decide : (0 : Int) ≤ 4), (by decide : (4 : Int) ≤ 64)⟩
        show (zigM (fl c i - fl was i) - 1).toNat < 2 ^ (4 : Int).toNat
        rw [show (2 : Nat) ^ (4 : Int).toNat = 16 from rfl]
        omega
    · simp only [List.mem_cons, List.not_mem_nil, or_false] at hp
      rcases hp with rfl | rfl | rfl
      · exact ⟨⟨by decide, by decide⟩, by decide, by decide⟩
      · exact ⟨⟨by decide, by decide⟩, by decide, by decide⟩
      · exact fieldP_ok h hi
def putC (L : List Bool) (c : Comp) : Int × List Bool := if checkM c ≠ 0 then (checkM c, L) else putP L (wholeP c)
theorem spec_comp_Put {b : Nat} {L : List Bool} {F : Nat → Prop} (h : Wr b L F w) {c : Comp} (hc : CompOk c) (hF : ∀ k, F k → k < w.heap.size) {K : Res [.sc (.int .i64)] → W R} (hk : ∀ w', Wr b (putC L c).2 (Ex F w) w' → Fr F w w' → K (putC L c).1 Q w') :
    callW Tryz.prog k_comp_Put [.pointer (some ⟨b, 0, none⟩), .agg ⟨compC c⟩] [.sc (.int .i64)] K Q w := by
  refine C_comp_Put _ c K Q w ?_
  unfold F_comp_Put
  refine newI fun w1 B1 f1 s1 => condF rfl (aggI B1 (x := c) rfl (spec_schema_Check fun w2 f2 => ?_))
  have f02 := f1.then0 f2
  have hs2 := f02.size
  unfold putC at hk
  refine condN (fun hne => ?_) fun heq => ?_
  · rw [if_pos hne] at hk
    exact hk w2 (Wr.st.mono (Wr.st.fr0 h f02) fun k _ e => .inl e) f02.any
  · rw [if_neg (by omega)] at hk
    refine aggI (B1.fr f2 fun h => h) (x := c) rfl (spec_comp_whole hc fun r w3 o3 f3 => ?_)
    have f03 := f02.then0 f3
    have hs3 := f03.size
    refine spec_comp_put (Wr.st.fr0 h f03) o3.sl (fun k _ e e2 => by have e : w2.heap.size ≤ k := e; have := hF k e2; omega) (wholeP_ok (by omega)) (by have := cntM_le c.1; simp [wholeP]; omega) fun w4 hw f4 => ?_
    exact hk w4 (Wr.st.mono hw fun k _ e => e.imp id fun e => by omega) ((f03.any).exS f4 fun k e => .inl e)
def pairM (was c : Comp) : Int := if checkM was ≠ 0 then checkM was else if checkM c ≠ 0 then checkM c else if was.1 = c.1 then 0 else 4
theorem spec_comp_pair {was c : Comp} {K : Res [.sc (.int .i64)] → W R} (hk : ∀ w', Fr None w w' → K (pairM was c) Q w') : callW Tryz.prog k_comp_pair [.agg ⟨compC was⟩, .agg ⟨compC c⟩] [.sc (.int .i64)] K Q w := by
  refine C_comp_pair was c K Q w ?_
  unfold F_comp_pair
  unfold pairM at hk
  refine newI fun w1 B1 f1 s1 => newI fun w2 B2 f2 s2 => ?_
  have B1 := B1.fr f2 fun h => h
  refine aggI B1 (x := was) rfl (spec_schema_Check fun w3 f3 => ?_)
  have f03 := (f1.then0 f2).then0 f3
  refine condN (fun hne => ?_) fun heq => ?_
  · rw [if_pos hne] at hk
    exact hk w3 f03
  rw [if_neg (by omega)] at hk
  have B1 := B1.fr f3 fun h => h
  have B2 := B2.fr f3 fun h => h
  refine aggI B2 (x := c) rfl (spec_schema_Check fun w4 f4 => ?_)
  refine condN (fun hne => ?_) fun heq2 => ?_
  · rw [if_pos hne] at hk
    exact hk w4 (f03.then0 f4)
  rw [if_neg (by omega)] at hk
  refine fldI (B1.fr f4 fun h => h) (i := 0) (x := was.1) rfl (fldI (B2.fr f4 fun h => h) (i := 0) (x := c.1) rfl ?_)
  refine condN (fun hne => ?_) fun heq3 => ?_
  · rw [if_neg hne] at hk
    exact hk w4 (f03.then0 f4)
  · rw [if_pos heq3] at hk
    exact hk w4 (f03.then0 f4)
def putS (L : List Bool) (was c : Comp) : Int × List Bool := if pairM was c ≠ 0 then (pairM was c, L) else putP L (stepP was c)
theorem spec_comp_PutStep {b : Nat} {L : List Bool} {F : Nat → Prop} (h : Wr b L F w) {was c : Comp} (hw : CompOk was) (hc : CompOk c) (hF : ∀ k, F k → k < w.heap.size) {K : Res [.sc (.int .i64)] → W R} (hk : ∀ w', Wr b (putS L was c).2 (Ex F w) w' → Fr F w w' → K (putS L was c).1 Q w') :
    callW Tryz.prog k_comp_PutStep [.pointer (some ⟨b, 0, none⟩), .agg ⟨compC was⟩, .agg ⟨compC c⟩] [.sc (.int .i64)] K Q w := by
  refine C_comp_PutStep _ was c K Q w ?_
  unfold F_comp_PutStep
  refine newI fun w0 B0 f0 s0 => newI fun w1 B1 f1 s1 => condF rfl ?_
  have B0 := B0.fr f1 fun h => h
  refine aggI B0 (x := was) rfl (aggI B1 (x := c) rfl (spec_comp_pair fun w2 f2 => ?_))
  have f02 := (f0.then0 f1).then0 f2
  have hs2 := f02.size
  unfold putS at hk
  refine condN (fun hne => ?_) fun heq => ?_
  · rw [if_pos hne] at hk
    exact hk w2 (Wr.st.mono (Wr.st.fr0 h f02) fun k _ e => .inl e) f02.any
  · rw [if_neg (by omega)] at hk
    have hc0 : checkM c = 0 := by
      unfold pairM at heq
      split at heq
      · omega
      · split at heq
        · omega
        · omega
    refine aggI (B0.fr f2 fun h => h) (x := was) rfl (aggI (B1.fr f2 fun h => h) (x := c) rfl (spec_comp_step hw hc fun r w3 o3 f3 => ?_))
    have f03 := f02.then0 f3
    have hs3 := f03.size
    have hl : (stepP was c).length ≤ 100 := by have := stepPs_len was c (cntM c.1); have := cntM_le c.1; unfold stepP; omega
    refine spec_comp_put (Wr.st.fr0 h f03) o3.sl (fun k _ e e2 => by have e : w2.heap.size ≤ k := e; have := hF k e2; omega) (stepP_ok hc0) hl fun w4 hw f4 => ?_
    exact hk w4 (Wr.st.mono hw fun k _ e => e.imp id fun e => by omega) ((f03.any).exS f4 fun k e => .inl e)
end Go.Proofs.YtchhhjlpnecjkaaGreat
namespace Go.Proofs.YtchhhjlpnecjkaaGreat
open Go Go.RowKit Go.Proofs.YtchhhjlpnecjkaaGreat.Den
variable {R : Type} {Q : R → World → Prop} {w : World}
abbrev WS := List Bool × Int
def keepM (e x : Int) : Int := if e = 0 then x else e
def doM (s : WS) (p : Int × List Bool) : WS := (p.2, keepM s.2 p.1)
def PW (bw b : Nat) (s : WS) : OB := fun F w => F bw ∧ (∀ k, F k → k < w.heap.size) ∧ Blk w bw 102 [.pointer (some ⟨b, 0, none⟩), .int .i64 s.2] ∧ Wr b s.1 (fun k => F k ∧ k ≠ bw) w
section
variable {bw b : Nat} {s : WS} {F : Nat → Prop}
theorem PW.fr0 (h : PW bw b s F w) {w' : World} (f : Fr None w w') : PW bw b s F w' := by
  obtain ⟨h1, h2, h3, h4⟩ := h
  have := f.size
  exact ⟨h1, fun k e => by have := h2 k e; omega, h3.fr f fun h => h, Wr.st.fr0 h4 f⟩
abbrev Gw (F : Nat → Prop) (w w' : World) : Nat → Prop := fun k => F k ∨ (w.heap.size ≤ k ∧ k < w'.heap.size)
theorem spec_packet_keep (h : PW bw b s F w) {x : Int} {K : Res [] → W R} (hk : ∀ w', PW bw b (s.1, keepM s.2 x) F w' → Fr F w w' → w'.heap.size = w.heap.size → K () Q w') :
    callW Tryz.prog k_packet_writer_keep [.pointer (some ⟨bw, 0, none⟩), .int .i64 x] [] K Q w := by
  refine C_packet_writer_keep _ _ K Q w ?_
  unfold F_packet_writer_keep
  obtain ⟨h1, h2, B, hw⟩ := h
  refine ptrI (fldI B (i := 1) (x := s.2) rfl ?_)
  refine joinI (fun (_ : Unit) w' => PW bw b (s.1, keepM s.2 x) F w' ∧ Fr F w w' ∧ w'.heap.size = w.heap.size) ?_ fun _ w' ⟨a, b, c⟩ => hk w' a b c
  refine condE (fun he => ?_) fun he => ?_
  · refine ptrI ?_
    rw [add_lit]
    refine setI (i := 1) B (by simp) rfl fun w2 B2 f2 s2 => ?_
    have e : keepM s.2 x = x := by rw [keepM, if_pos he]
    rw [e]
    exact ⟨⟨h1, fun k e => by rw [s2]; exact h2 k e, B2, Wr.st.fr hw f2 fun k e e2 => e.2 e2⟩, f2.sub fun k e => by rw [e]; exact h1, s2⟩
  · have e : keepM s.2 x = s.2 := by rw [keepM, if_neg he]
    rw [e]
    exact ⟨⟨h1, h2, B, hw⟩, Fr.refl _ _, rfl⟩
theorem PW.put (h : PW bw b s F w) : Wr b s.1 (fun k => F k ∧ k ≠ bw) w ∧ (∀ k, F k ∧ k ≠ bw → k < w.heap.size) ∧ ∀ (p : Int × List Bool) (w' : World) {K : Res [] → W R}, Wr b p.2 (Ex (fun k => F k ∧ k ≠ bw) w) w' → Fr (fun k => F k ∧ k ≠ bw) w w' →
    (∀ w2, PW bw b (doM s p) (Gw F w w2) w2 → Fr F w w2 → K () Q w2) → callW Tryz.prog k_packet_writer_keep [.pointer (some ⟨bw, 0, none⟩), .int .i64 p.1] [] K Q w' := by
  obtain ⟨h1, h2, B, hw⟩ := h
  refine ⟨hw, fun k e => h2 k e.1, fun p w' K hw' f hk => ?_⟩
  have hs := f.size
  have hbw := h2 bw h1
  have pw : PW bw b (p.2, s.2) (Gw F w w') w' := by
    refine ⟨.inl h1, fun k e => ?_, B.fr f fun e => e.2 rfl, Wr.st.mono hw' fun k hk e => ?_⟩
    · rcases e with e | e
      · have := h2 k e; omega
      · exact e.2
    · rcases e with e | e
      · exact ⟨.inl e.1, e.2⟩
      · exact ⟨.inr ⟨e, hk⟩, by omega⟩
  refine spec_packet_keep pw fun w2 hp f2 s2 => hk w2 ?_ ?_
  · have e : Gw F w w2 = Gw F w w' := by unfold Gw; rw [s2]
    rw [e]
    exact hp
  · exact (f.sub fun k e => e.1).exS f2 fun k e => by
      rcases e with e | e
      · exact .inl e
      · exact .inr e.1
theorem PW.fr (h : PW bw b s F w) {S : Nat → Prop} {w' : World} (f : Fr S w w') (hS : ∀ k, F k → ¬ S k) : PW bw b s F w' := by
  obtain ⟨h1, h2, h3, h4⟩ := h
  have := f.size
  exact ⟨h1, fun k e => by have := h2 k e; omega, h3.fr f (hS bw h1), Wr.st.fr h4 f fun k e => hS k e.1⟩
theorem PW.mono (h : PW bw b s F w) {F' : Nat → Prop} (hs : ∀ k, k < w.heap.size → F k → F' k) (hb : ∀ k, F' k → k < w.heap.size) : PW bw b s F' w := by
  obtain ⟨h1, h2, h3, h4⟩ := h
  exact ⟨hs bw h3.lt h1, hb, h3, Wr.st.mono h4 fun k hk e => ⟨hs k hk e.1, e.2⟩⟩
theorem PW.ptr (h : PW bw b s F w) {K : Option Addr → W R} (hk : K (some ⟨b, 0, none⟩) Q w) : ld (.sc .ptr) (Addr.add ⟨bw, 0, none⟩ 0) K Q w := fldI h.2.2.1 (i := 0) (x := some ⟨b, 0, none⟩) rfl hk
theorem PW.err (h : PW bw b s F w) {K : Int → W R} (hk : K s.2 Q w) : ld (.sc (.int .i64)) (Addr.add ⟨bw, 0, none⟩ 1) K Q w := fldI h.2.2.1 (i := 1) (x := s.2) rfl hk
theorem PW.two {w1 w2 w3 : World} {s' : WS} {G : Nat → Prop} (hG : ∀ k, G k → Gw F w w1 k) (h : PW bw b s' (Gw G w2 w3) w3) (h1 : w.heap.size ≤ w1.heap.size) (h2 : w1.heap.size ≤ w2.heap.size) (h3 : w2.heap.size ≤ w3.heap.size) (hF : ∀ k, F k → k < w.heap.size) : PW bw b s' (Gw F w w3) w3 :=
  h.mono (fun k hk e => by
    rcases e with e | e
    · rcases hG k e with e | e
      · exact .inl e
      · exact .inr (by omega)
    · exact .inr (by omega)) fun k e => by
    rcases e with e | e
    · have := hF k e; omega
    · exact e.2
def plainM (s : WS) (v n : Int) : WS := doM s (putB s.1 v n)
def varM (s : WS) (v : Nat) : WS := doM s (putVarM s.1 v)
theorem spec_packet_plain (h : PW bw b s F w) {v n : Int} (hv : 0 ≤ v ∧ v ≤ 18446744073709551615) (hn : -9223372036854775808 ≤ n ∧ n ≤ 9223372036854775807) {K : Res [] → W R} (hk : ∀ w', PW bw b (plainM s v n) (Gw F w w') w' → Fr F w w' → K () Q w') :
    callW Tryz.prog k_packet_writer_plain [.pointer (some ⟨bw, 0, none⟩), .int .u64 v, .int .i64 n] [] K Q w := by
  refine C_packet_writer_plain _ _ _ K Q w ?_
  unfold F_packet_writer_plain
  obtain ⟨hw, hF, hk2⟩ := h.put
  exact ptrI (h.ptr (spec_bits_Put hw hv hn fun w1 hw1 f1 => hk2 (putB s.1 v n) w1 hw1 f1 hk))
theorem spec_packet_count (h : PW bw b s F w) {n : Nat} (hn : (n : Int) ≤ 18446744073709551615) {K : Res [] → W R} (hk : ∀ w', PW bw b (varM s n) (Gw F w w') w' → Fr F w w' → K () Q w') :
    callW Tryz.prog k_packet_writer_count [.pointer (some ⟨bw, 0, none⟩), .int .i64 (n : Int)] [] K Q w := by
  refine C_packet_writer_count _ _ K Q w ?_
  unfold F_packet_writer_count
  obtain ⟨hw, hF, hk2⟩ := h.put
  refine ptrI (h.ptr ?_)
  rw [wU64 (x := (n : Int)) (by omega)]
  refine spec_nums_PutVar hw (by omega) fun w1 hw1 f1 => ?_
  rw [Int.toNat_natCast] at hw1 ⊢
  exact hk2 (putVarM s.1 n) w1 hw1 f1 hk
def idD (last id : Int) : Nat := ((id - last - 1) % 4294967296).toNat
theorem spec_packet_id (h : PW bw b s F w) {bl : Nat} {T : TypeId} {last id : Int} (B : Blk w bl T [.int .u32 last]) (hbl : ¬ F bl) {K : Res [] → W R}
    (hk : ∀ w', PW bw b (varM s (idD last id)) (Gw F w w') w' → Blk w' bl T [.int .u32 id] → Fr (fun k => F k ∨ k = bl) w w' → K () Q w') :
    callW Tryz.prog k_packet_writer_id [.pointer (some ⟨bw, 0, none⟩), .pointer (some ⟨bl, 0, none⟩), .int .u32 id] [] K Q w := by
  refine C_packet_writer_id _ _ _ K Q w ?_
  unfold F_packet_writer_id
  have fd : Fr None w w.drew := (Fr.refl _ _).drew
  have hd : PW bw b s F w.drew := h.fr0 fd
  have hlt := B.lt
  obtain ⟨hw, hF, hk2⟩ := hd.put
  refine ptrI (hd.ptr (ptrI (fld0 (B.fr fd fun h => h) (i := 0) (x := last) rfl ?_)))
  have e : IntKind.wrap .u64 (IntKind.wrap .u32 (IntKind.wrap .u32 (id - last) - 1)) = ((idD last id : Nat) : Int) := by
    have a : ∀ x : Int, IntKind.wrap .u32 x = x % 4294967296 := fun x => by rw [IntKind.wrap_u32]
    rw [a, a, wU64 (by omega)]
    unfold idD
    omega
  rw [e]
  have hv : idD last id < 4294967296 := by unfold idD; omega
  refine spec_nums_PutVar hw (v := (idD last id : Int)) (by omega) fun w1 hw1 f1 => ?_
  rw [Int.toNat_natCast] at hw1 ⊢
  refine hk2 (putVarM s.1 (idD last id)) w1 hw1 f1 fun w2 hp f2 => ptrI ?_
  have B2 := (B.fr fd fun h => h).fr f2 hbl
  refine setI (i := 0) B2 (by simp) rfl fun w3 B3 f3 s3 => ?_
  refine hk w3 ?_ B3 ((fd.any.then (f2.sub fun k e => .inl e)).then (f3.sub fun k e => .inr e))
  have h3 := PW.fr hp f3 fun k e e2 => by
    subst e2
    rcases e with e | e
    · exact hbl e
    · have : k < w.drew.heap.size := hlt
      omega
  refine h3.mono (fun k _ e => e.imp (fun h => h) fun e => ?_) fun k e => ?_
  · have : w.drew.heap.size = w.heap.size := rfl
    omega
  · rcases e with e | e
    · have := h.2.1 k e; have := f2.size; have : w.drew.heap.size = w.heap.size := rfl; omega
    · exact e.2
def compsM (s : WS) (l : List Comp) : WS := l.foldl (fun s c => doM s (putC s.1 c)) s
theorem spec_packet_comps (h : PW bw b s F w) {ok : Nat → Prop} {r : Sl} {l : List Comp} (hS : SlT ok w compT r l) (hd : ∀ k, k < w.heap.size → ok k → ¬ F k) (hc : ∀ c ∈ l, CompOk c) (hm : l.length ≤ 9223372036854775807) {K : Res [] → W R} (hk : ∀ w', PW bw b (compsM s l) (Gw F w w') w' → Fr F w w' → K () Q w') :
    callW Tryz.prog k_packet_writer_comps [.pointer (some ⟨bw, 0, none⟩), .slice r.a r.n r.c] [] K Q w := by
  refine C_packet_writer_comps _ r K Q w ?_
  unfold F_packet_writer_comps
  have hlen := hS.len
  have hFb := h.2.1
  have hS0 : SlT (fun k => ok k ∧ k < w.heap.size) w compT r l := hS.mono fun k hk e => ⟨e, hk⟩
  refine forI (N := r.n) (fun s : Int => s) (fun j i w' => i = (j : Int) ∧ PW bw b (compsM s (l.take j)) (Gw F w w') w' ∧ Fr F w w') ⟨rfl, h.mono (fun k _ e => .inl e) fun k e => by
    rcases e with e | e
    · exact hFb k e
    · omega, Fr.refl _ _⟩ (fun j s w' h => h.1) ?_ ?_
  · rintro j i w1 K' hj ⟨rfl, h1, f1⟩ - hK
    have hs1 := f1.size
    refine (hS0.fr f1 fun k e e2 => hd k e.2 e.1 e2).get rfl rfl (by omega) fun c hcj => ?_
    refine newI fun w2 B2 f2 s2 => stoAll B2 rfl rfl fun w3 B3 f3 s3 => ?_
    have f13 : Fr None w1 w3 := f2.newer f3 fun k e => by omega
    have fd : Fr None w3 w3.drew := (Fr.refl _ _).drew
    have f1d := f13.then0 fd
    have hs3 := f1d.size
    have h3 := h1.fr0 f1d
    obtain ⟨hw, hF, hk2⟩ := h3.put
    refine ptrI (h3.ptr (aggI (B3.fr fd fun h => h) (x := c) rfl ?_))
    refine spec_comp_Put hw (hc c (List.mem_of_getElem? hcj)) hF fun w4 hw4 f4 => hk2 (putC (compsM s (l.take j)).1 c) w4 hw4 f4 fun w5 hp f5 => ?_
    have hs5 := f5.size
    have e : compsM s (l.take (j + 1)) = doM (compsM s (l.take j)) (putC (compsM s (l.take j)).1 c) := by unfold compsM; rw [take_at hcj, List.foldl_append]; rfl
    refine hK _ _ ⟨wsucc hj (by omega), ?_, ?_⟩
    · rw [e]
      exact PW.two (fun k e => e) hp hs1 hs3 hs5 hFb
    · exact (f1.then0 f1d).exS f5 fun k e => e.imp id fun e => e.1
  · rintro i w1 ⟨rfl, h1, f1⟩
    rw [List.take_of_length_le (by omega)] at h1
    exact hk w1 h1 f1
end
end Go.Proofs.YtchhhjlpnecjkaaGreat
namespace Go.Proofs.YtchhhjlpnecjkaaGreat
open Go Go.RowKit Go.Proofs.YtchhhjlpnecjkaaGreat.Den
variable {R : Type} {Q : R → World → Prop} {w : World}
variable {bw b : Nat} {s : WS} {F : Nat → Prop}
abbrev Head := Int × Int × Int × Int × Int
def HeadOk (h : Head) : Prop := (0 ≤ h.1 ∧ h.1 ≤ 255) ∧ (0 ≤ h.2.1 ∧ h.2.1 ≤ 255) ∧ (0 ≤ h.2.2.1 ∧ h.2.2.1 ≤ 4294967295) ∧ (0 ≤ h.2.2.2.1 ∧ h.2.2.2.1 ≤ 4294967295) ∧ (0 ≤ h.2.2.2.2 ∧ h.2.2.2.2 ≤ 4294967295)
def inM (s : WS) (n lo hi : Int) : WS := doM s (putInM s.1 n lo hi)
def headM (s : WS) (h : Head) : WS :=
  let s3 := varM (inM (inM s h.1 1 5) h.2.1 0 15) h.2.2.1.toNat
  let s4 := if h.1 ≤ 3 then plainM s3 h.2.2.2.1 32 else s3
  if h.1 = 2 then varM s4 (idD h.2.2.2.2 h.2.2.2.1) else s4
theorem PW.self (h : PW bw b s F w) : PW bw b s (Gw F w w) w := h.mono (fun k _ e => .inl e) fun k e => by
  rcases e with e | e
  · exact h.2.1 k e
  · omega
theorem pw_in {w0 : World} (h : PW bw b s (Gw F w0 w) w) (h0 : w0.heap.size ≤ w.heap.size) (hF : ∀ k, F k → k < w0.heap.size) (f0 : Fr F w0 w) {n lo hi : Int} (h1 : -9223372036854775808 ≤ lo ∧ lo ≤ 9223372036854775807) (h2 : -9223372036854775808 ≤ hi ∧ hi ≤ 9223372036854775807) {K : Unit → W R}
    (hk : ∀ w', PW bw b (inM s n lo hi) (Gw F w0 w') w' → Fr F w0 w' → Fr (Gw F w0 w) w w' → K () Q w') :
    callW Tryz.prog k_nums_PutIn [.pointer (some ⟨b, 0, none⟩), .int .i64 n, .int .i64 lo, .int .i64 hi] [.sc (.int .i64)] (fun x => callW Tryz.prog k_packet_writer_keep [.pointer (some ⟨bw, 0, none⟩), .int .i64 x] [] K) Q w := by
  obtain ⟨hw, _, hk2⟩ := h.put
  refine spec_nums_PutIn hw h1 h2 fun w1 hw1 f1 => hk2 (putInM s.1 n lo hi) w1 hw1 f1 fun w2 hp f2 => ?_
  have hs := f2.size
  exact hk w2 (PW.two (fun k e => e) hp h0 (Nat.le_refl _) hs hF) (f0.exS f2 fun k e => e.imp (fun h => h) fun e => e.1) f2
theorem pw_var {w0 : World} (h : PW bw b s (Gw F w0 w) w) (h0 : w0.heap.size ≤ w.heap.size) (hF : ∀ k, F k → k < w0.heap.size) (f0 : Fr F w0 w) {v : Nat} (hv : v < 18446744073709551616) {K : Unit → W R}
    (hk : ∀ w', PW bw b (varM s v) (Gw F w0 w') w' → Fr F w0 w' → Fr (Gw F w0 w) w w' → K () Q w') :
    callW Tryz.prog k_nums_PutVar [.pointer (some ⟨b, 0, none⟩), .int .u64 (v : Int)] [.sc (.int .i64)] (fun x => callW Tryz.prog k_packet_writer_keep [.pointer (some ⟨bw, 0, none⟩), .int .i64 x] [] K) Q w := by
  obtain ⟨hw, _, hk2⟩ := h.put
  refine spec_nums_PutVar hw (v := (v : Int)) (by omega) fun w1 hw1 f1 => ?_
  rw [Int.toNat_natCast] at hw1 ⊢
  refine hk2 (putVarM s.1 v) w1 hw1 f1 fun w2 hp f2 => ?_
  have hs := f2.size
  exact hk w2 (PW.two (fun k e => e) hp h0 (Nat.le_refl _) hs hF) (f0.exS f2 fun k e => e.imp (fun h => h) fun e => e.1) f2
theorem pw_plain {w0 : World} (h : PW bw b s (Gw F w0 w) w) (h0 : w0.heap.size ≤ w.heap.size) (hF : ∀ k, F k → k < w0.heap.size) (f0 : Fr F w0 w) {v n : Int} (hv : 0 ≤ v ∧ v ≤ 18446744073709551615) (hn : -9223372036854775808 ≤ n ∧ n ≤ 9223372036854775807) {K : Res [] → W R}
    (hk : ∀ w', PW bw b (plainM s v n) (Gw F w0 w') w' → Fr F w0 w' → Fr (Gw F w0 w) w w' → K () Q w') :
    callW Tryz.prog k_packet_writer_plain [.pointer (some ⟨bw, 0, none⟩), .int .u64 v, .int .i64 n] [] K Q w :=
  spec_packet_plain h hv hn fun w2 hp f2 => by
    have hs := f2.size
    exact hk w2 (PW.two (fun k e => e) hp h0 (Nat.le_refl _) hs hF) (f0.exS f2 fun k e => e.imp (fun h => h) fun e => e.1) f2
theorem PW.draw {w0 : World} (h : PW bw b s (Gw F w0 w) w) : PW bw b s (Gw F w0 w.drew) w.drew := h.fr0 ((Fr.refl _ _).drew)
theorem spec_packet_head (h : PW bw b s F w) {hd : Head} (hok : HeadOk hd) {K : Res [] → W R} (hk : ∀ w', PW bw b (headM s hd) (Gw F w w') w' → Fr F w w' → K () Q w') :
    callW Tryz.prog k_packet_writer_head [.pointer (some ⟨bw, 0, none⟩), .agg ⟨[.int .u8 hd.1, .int .u8 hd.2.1, .int .u32 hd.2.2.1, .int .u32 hd.2.2.2.1, .int .u32 hd.2.2.2.2]⟩] [] K Q w := by
  refine C_packet_writer_head _ hd K Q w ?_
  unfold F_packet_writer_head
  obtain ⟨⟨k0, k1⟩, ⟨c0, c1⟩, ⟨e0, e1⟩, ⟨t0, t1⟩, ⟨b0, b1⟩⟩ := hok
  have hF := h.2.1
  refine newI fun w1 B1 f1 s1 => ?_
  have hs1 := f1.size
  have hF1 : ∀ k, F k → k < w1.heap.size := fun k e => by have := hF k e; omega
  have nb : ∀ v : World, ¬ Gw F w1 v w.heap.size := fun v e => by
    rcases e with e | e
    · have := hF _ e; omega
    · omega
  have dr : ∀ v : World, Fr None v v.drew := fun v => (Fr.refl _ _).drew
  have fin : ∀ {s' : WS} {v : World}, PW bw b s' (Gw F w1 v) v → PW bw b s' (Gw F w v) v := fun hp => hp.mono (fun k _ e => e.imp (fun h => h) fun e => by omega) fun k e => by
    rcases e with e | e
    · exact hp.2.1 k (.inl e)
    · exact e.2
  have q1 := ((h.fr0 f1).self).draw
  have B1 := B1.fr (dr w1) fun h => h
  refine ptrI (q1.ptr (fldI B1 (i := 0) (x := hd.1) rfl ?_))
  rw [w64 (x := hd.1) (by omega)]
  refine pw_in q1 (Nat.le_refl _) hF1 ((Fr.refl _ _).drew) (by decide) (by decide) fun w2 p2 f2 g2 => ?_
  have B2 := (B1.fr g2 (nb _)).fr (dr w2) fun h => h
  have q2 := p2.draw
  refine ptrI (q2.ptr (fldI B2 (i := 1) (x := hd.2.1) rfl ?_))
  rw [w64 (x := hd.2.1) (by omega)]
  refine pw_in q2 f2.size hF1 (f2.then0 (dr w2)) (by decide) (by decide) fun w3 p3 f3 g3 => ?_
  have B3 := (B2.fr g3 (nb _)).fr (dr w3) fun h => h
  have q3 := p3.draw
  refine ptrI (q3.ptr (fldI B3 (i := 2) (x := hd.2.2.1) rfl ?_))
  have ee : IntKind.wrap .u64 hd.2.2.1 = ((hd.2.2.1.toNat : Nat) : Int) := by rw [wU64 (by omega)]; omega
  rw [ee]
  refine pw_var q3 f3.size hF1 (f3.then0 (dr w3)) (by omega) fun w4 p4 f4 g4 => ?_
  have B4 := B3.fr g4 (nb _)
  refine fldI B4 (i := 0) (x := hd.1) rfl ?_
  refine joinI (fun (_ : Unit) w' => PW bw b (if hd.1 ≤ 3 then plainM (varM (inM (inM s hd.1 1 5) hd.2.1 0 15) hd.2.2.1.toNat) hd.2.2.2.1 32 else varM (inM (inM s hd.1 1 5) hd.2.1 0 15) hd.2.2.1.toNat) (Gw F w1 w') w' ∧ Fr F w1 w' ∧ Blk w' w.heap.size 30 [.int .u8 hd.1, .int .u8 hd.2.1, .int .u32 hd.2.2.1, .int .u32 hd.2.2.2.1, .int .u32 hd.2.2.2.2]) ?_ ?_
  · refine condD (fun h3 => ?_) fun h3 => ?_
    · rw [if_pos h3]
      refine fldI B4 (i := 3) (x := hd.2.2.2.1) rfl ?_
      rw [wU64 (x := hd.2.2.2.1) (by omega)]
      exact pw_plain p4 f4.size hF1 f4 (by omega) (by decide) fun w5 p5 f5 g5 => ⟨p5, f5, B4.fr g5 (nb _)⟩
    · rw [if_neg h3]
      exact ⟨p4, f4, B4⟩
  · rintro _ w5 ⟨p5, f5, B5⟩
    refine fldI B5 (i := 0) (x := hd.1) rfl ?_
    refine joinI (fun (_ : Unit) w' => PW bw b (headM s hd) (Gw F w1 w') w' ∧ Fr F w1 w') ?_ fun _ w6 ⟨p6, f6⟩ => hk w6 (fin p6) (f1.any.exS f6 fun k e => .inl e)
    unfold headM
    dsimp only
    refine condE (fun h2 => ?_) fun h2 => ?_
    · rw [if_pos h2]
      have q5 := p5.draw
      have B5 := B5.fr (dr w5) fun h => h
      refine ptrI (q5.ptr (fldI B5 (i := 3) (x := hd.2.2.2.1) rfl (fldI B5 (i := 4) (x := hd.2.2.2.2) rfl ?_)))
      have e : IntKind.wrap .u64 (IntKind.wrap .u32 (IntKind.wrap .u32 (hd.2.2.2.1 - hd.2.2.2.2) - 1)) = ((idD hd.2.2.2.2 hd.2.2.2.1 : Nat) : Int) := by
        have a : ∀ x : Int, IntKind.wrap .u32 x = x % 4294967296 := fun x => by rw [IntKind.wrap_u32]
        rw [a, a, wU64 (by omega)]
        unfold idD
        omega
      rw [e]
      exact pw_var q5 f5.size hF1 (f5.then0 (dr w5)) (by unfold idD; omega) fun w6 p6 f6 _ => ⟨p6, f6⟩
    · rw [if_neg h2]
      exact ⟨p5, f5⟩
end Go.Proofs.YtchhhjlpnecjkaaGreat
namespace Go.Proofs.YtchhhjlpnecjkaaGreat
open Go Go.RowKit Go.Proofs.YtchhhjlpnecjkaaGreat.Den
variable {R : Type} {Q : R → World → Prop} {w : World}
variable {bw b : Nat} {s : WS} {F : Nat → Prop}
def entM (p : WS × Int) (e : Ent) : WS × Int := (compsM (plainM (varM p.1 (idD p.2 e.1)) (maskN e.2) 5) e.2, e.1)
def entsW (s : WS) (l : List Ent) : WS := (l.foldl entM (varM s l.length, 0)).1
def EntFit (e : Ent) : Prop := (0 ≤ e.1 ∧ e.1 ≤ 4294967295) ∧ e.2.length ≤ 1048576 ∧ ∀ c ∈ e.2, CompOk c
theorem spec_packet_ents (h : PW bw b s F w) {ok : Nat → Prop} {r : Sl} {raws : List (Int × Sl)} {L : List Ent} (hS : SlT ok w entT r raws) (hE : EntsR ok w raws L) (hd : ∀ k, k < w.heap.size → ok k → ¬ F k) (hL : ∀ e ∈ L, EntFit e) (hm : L.length ≤ 1048576) {K : Res [] → W R} (hk : ∀ w', PW bw b (entsW s L) (Gw F w w') w' → Fr F w w' → K () Q w') :
    callW Tryz.prog k_packet_writer_ents [.pointer (some ⟨bw, 0, none⟩), .slice r.a r.n r.c] [] K Q w := by
  refine C_packet_writer_ents _ r K Q w ?_
  unfold F_packet_writer_ents
  have hF := h.2.1
  have hrn : r.n = L.length := hS.len.trans hE.len
  have hS0 : SlT (fun k => ok k ∧ k < w.heap.size) w entT r raws := hS.mono fun k hk e => ⟨e, hk⟩
  have hE0 : EntsR (fun k => ok k ∧ k < w.heap.size) w raws L := hE.mono fun k hk e => ⟨e, hk⟩
  refine spec_packet_count h (by omega) fun w1 p1 f1 => ?_
  rw [hrn] at p1
  have hs1 := f1.size
  refine newI fun w2 B2 f2 s2 => stoAll B2 rfl rfl fun w3 B3 f3 s3 => ?_
  have f13 : Fr None w1 w3 := f2.newer f3 fun k e => by omega
  have hs3 := f13.size
  have p3 : PW bw b (varM s L.length) (Gw F w w1) w3 := p1.fr0 f13
  have two : ∀ {v : World} {s' : WS}, w3.heap.size ≤ v.heap.size → PW bw b s' (Gw (Gw F w w1) w3 v) v → PW bw b s' (Gw F w v) v := fun hv hp => hp.mono (fun k _ e => by
    rcases e with (e | e) | e
    · exact .inl e
    · exact .inr (by omega)
    · exact .inr (by omega)) fun k e => by
    rcases e with e | e
    · have := hF k e; omega
    · exact e.2
  have nbl : ∀ v : World, ¬ Gw (Gw F w w1) w3 v w1.heap.size := fun v e => by
    rcases e with (e | e) | e
    · have := hF _ e; omega
    · omega
    · omega
  have b1 : ∀ k, Gw F w w1 k → k < w3.heap.size := fun k e => by
    rcases e with e | e
    · have := hF k e; omega
    · omega
  refine forI (N := r.n) (fun s : Int => s) (fun j i v => i = (j : Int) ∧ PW bw b ((L.take j).foldl entM (varM s L.length, 0)).1 (Gw (Gw F w w1) w3 v) v ∧ Blk v w1.heap.size 54 [.int .u32 ((L.take j).foldl entM (varM s L.length, 0)).2] ∧ Fr (fun k => F k ∨ w.heap.size ≤ k) w v ∧ w3.heap.size ≤ v.heap.size)
    ⟨rfl, p3.self, B3, (f1.sub fun k e => .inl e).then0 f13, Nat.le_refl _⟩ (fun j s w' h => h.1) ?_ ?_
  · rintro j i v K' hj ⟨rfl, hp, Bl, fv, hsv⟩ - hK
    obtain ⟨e, he⟩ : ∃ e, L[j]? = some e := ⟨_, List.getElem?_eq_getElem (by omega)⟩
    have hfit := hL e (List.mem_of_getElem? he)
    obtain ⟨r1, hr1, ha1, ha2⟩ := hE0.get he
    have hno : ∀ k, ok k ∧ k < w.heap.size → ¬ (F k ∨ w.heap.size ≤ k) := fun k e e2 => by
      rcases e2 with e2 | e2
      · exact hd k e.2 e.1 e2
      · omega
    have efold : (L.take (j + 1)).foldl entM (varM s L.length, 0) = entM ((L.take j).foldl entM (varM s L.length, 0)) e := by rw [take_at he, List.foldl_append]; rfl
    generalize (L.take j).foldl entM (varM s L.length, 0) = p at hp Bl efold
    refine (hS0.fr fv hno).get (j := j) rfl rfl (by have := hE.len; omega) fun y hy => ?_
    rw [hr1] at hy
    cases hy
    refine newI fun v1 C1 g1 t1 => stoAll C1 rfl rfl fun v2 C2 g2 t2 => ?_
    have gv2 : Fr None v v2 := g1.newer g2 fun k e => by omega
    have hsv2 := gv2.size
    obtain ⟨F', hF'⟩ : ∃ F', F' = Gw (Gw F w w1) w3 v := ⟨_, rfl⟩
    have hp2 : PW bw b p.1 F' v2 := by rw [hF']; exact hp.fr0 gv2
    have bF' : ∀ k, F' k → k < v.heap.size := fun k e => by rw [hF'] at e; exact hp.2.1 k e
    have nb' : ¬ F' w1.heap.size := by rw [hF']; exact nbl v
    have exF : ∀ k, F' k → F k ∨ w.heap.size ≤ k := fun k e => by
      rw [hF'] at e
      rcases e with (e | e) | e
      · exact .inl e
      · exact .inr e.1
      · exact .inr (by omega)
    have fv2 : Fr (fun k => F k ∨ w.heap.size ≤ k) w v2 := fv.then0 gv2
    refine fldI C2 (i := 0) (x := r1.1) rfl ?_
    rw [ha1]
    refine spec_packet_id hp2 (Bl.fr gv2 fun h => h) nb' fun v3 p4 Bl3 f4 => ?_
    have hs4 := f4.size
    have C3 := C2.fr f4 fun e => by
      rcases e with e | e
      · have := bF' _ e; omega
      · have := Bl.lt; omega
    have fv3 : Fr (fun k => F k ∨ w.heap.size ≤ k) w v3 := fv2.then (f4.sub fun k e => by
      rcases e with e | e
      · exact exF k e
      · exact .inr (by omega))
    refine fldI C3 (i := 1) (x := r1.2) rfl ?_
    refine spec_schema_Mask (ha2.fr fv3 hno) hfit.2.1 hfit.2.2 fun v4 f5 => ?_
    have hs5 := f5.size
    have fv4 := fv3.then0 f5
    have hmk := maskN_lt e.2
    rw [wU64 (x := ((maskN e.2 : Nat) : Int)) (by omega)]
    refine spec_packet_plain (p4.fr0 f5) (v := ((maskN e.2 : Nat) : Int)) (n := 5) (by omega) (by decide) fun v5 p6 f6 => ?_
    have hs6 := f6.size
    have p6 : PW bw b (plainM (varM p.1 (idD p.2 e.1)) (maskN e.2) 5) (Gw F' v2 v5) v5 := PW.two (fun k e => e) p6 hs4 hs5 hs6 fun k e => by have := bF' k e; omega
    have C5 := (C3.fr f5 fun h => h).fr f6 fun e => by
      rcases e with e | e
      · have := bF' _ e; omega
      · omega
    have Bl5 := (Bl3.fr f5 fun h => h).fr f6 fun e => by
      rcases e with e | e
      · exact nb' e
      · have := Bl.lt; omega
    have ex2 : ∀ {x y : World} k, w.heap.size ≤ x.heap.size → Gw F' x y k → F k ∨ w.heap.size ≤ k := fun k hx e => by
      rcases e with e | e
      · exact exF k e
      · exact .inr (by omega)
    have fv5 : Fr (fun k => F k ∨ w.heap.size ≤ k) w v5 := fv4.then (f6.sub fun k e => ex2 k (by omega) e)
    refine fldI C5 (i := 1) (x := r1.2) rfl ?_
    refine spec_packet_comps p6 (ha2.fr fv5 hno) (fun k hk e e2 => hno k e (ex2 k (by omega) e2)) hfit.2.2 (by have := hfit.2.1; omega) fun v6 p7 f7 => ?_
    have hs7 := f7.size
    have p7 : PW bw b (entM p e).1 (Gw F' v2 v6) v6 := PW.two (fun k e => e) p7 (by omega) (Nat.le_refl _) hs7 fun k e => by have := bF' k e; omega
    have Bl6 := Bl5.fr f7 fun e => by
      rcases e with e | e
      · exact nb' e
      · have := Bl.lt; omega
    refine hK _ _ ⟨wsucc hj (by omega), ?_, ?_, fv5.then (f7.sub fun k e => ex2 k (by omega) e), by omega⟩
    · rw [efold]
      refine p7.mono (fun k _ e => ?_) fun k e => ?_
      · rcases e with e | e
        · rw [hF'] at e
          exact e.imp (fun h => h) fun e => by omega
        · exact .inr (by omega)
      · rcases e with e | e
        · have := b1 k e; omega
        · exact e.2
    · rw [efold]
      exact Bl6
  · rintro i v ⟨_, hp, _, fv, hsv⟩
    rw [List.take_of_length_le (by omega)] at hp
    refine hk v (two hsv hp) ?_
    exact (Fr.refl F w).exS fv fun k e => e
end Go.Proofs.YtchhhjlpnecjkaaGreat
namespace Go.Proofs.YtchhhjlpnecjkaaGreat
open Go Go.RowKit Go.Proofs.YtchhhjlpnecjkaaGreat.Den
variable {R : Type} {Q : R → World → Prop} {w : World}
theorem EntsR.snoc {ok : Nat → Prop} {raws : List (Int × Sl)} {L : List Ent} (h : EntsR ok w raws L) {r : Int × Sl} {e : Ent} (h1 : r.1 = e.1) (h2 : SlT ok w compT r.2 e.2) : EntsR ok w (raws ++ [r]) (L ++ [e]) := by
  have := All2.snoc (p := fun (r : Int × Sl) (e : Ent) => r.1 = e.1 ∧ SlT ok w compT r.2 e.2) ⟨h.len, h.at_⟩ ⟨h1, h2⟩
  exact ⟨this.len, this.at_⟩
abbrev DRaw := Sl × Sl × Sl
structure DltI (n bx : Nat) (lab : Nat → Nat) (r : DRaw) (rc : List (Int × Sl)) (rd : List ChgRaw) (gone : List Int) (come : List Ent) (chg : List Chg) (w : World) : Prop where
  blk : Blk w bx 80 [.slice r.1.a r.1.n r.1.c, .slice r.2.1.a r.2.1.n r.2.1.c, .slice r.2.2.a r.2.2.n r.2.2.c]
  lb : lab bx = 6
  og : Own (fun k => lab k = 1) w 54 idT r.1 gone
  oc : Own (fun k => lab k = 2) w 57 entT r.2.1 rc
  ec : EntsR (fun k => lab k = 3) w rc come
  od : Own (fun k => lab k = 4) w 86 chgT r.2.2 rd
  ed : All2 (fun a b => chgR (fun k => lab k = 5) w a b) rd chg
  up : ∀ k, lab k ≠ 0 → n ≤ k ∧ k < w.heap.size
section
variable {n bx : Nat} {lab : Nat → Nat} {r : DRaw} {rc : List (Int × Sl)} {rd : List ChgRaw} {gone : List Int} {come : List Ent} {chg : List Chg}
theorem DltI.fr0 (h : DltI n bx lab r rc rd gone come chg w) {w' : World} (f : Fr None w w') : DltI n bx lab r rc rd gone come chg w' :=
  ⟨h.blk.fr f fun h => h, h.lb, h.og.none f, h.oc.none f, h.ec.fr f fun _ _ h => h, h.od.none f, h.ed.imp fun a b hab => St.fr0 (A := fun F w => chgR F w a b) (chgR_st a b) hab f, fun k e => ⟨(h.up k e).1, Nat.lt_of_lt_of_le (h.up k e).2 f.size⟩⟩
theorem DltI.rest (h : DltI n bx lab r rc rd gone come chg w) (hn : n ≤ w.heap.size) {c : Nat} {w' : World} (f : Fr (fun k => lab k = c) w w') :
    (1 ≠ c → Own (fun k => relab lab w.heap.size w'.heap.size c k = 1) w' 54 idT r.1 gone) ∧
    (2 ≠ c → Own (fun k => relab lab w.heap.size w'.heap.size c k = 2) w' 57 entT r.2.1 rc) ∧
    (3 ≠ c → EntsR (fun k => relab lab w.heap.size w'.heap.size c k = 3) w' rc come) ∧
    (4 ≠ c → Own (fun k => relab lab w.heap.size w'.heap.size c k = 4) w' 86 chgT r.2.2 rd) ∧
    (5 ≠ c → All2 (fun a b => chgR (fun k => relab lab w.heap.size w'.heap.size c k = 5) w' a b) rd chg) ∧
    (6 ≠ c → Blk w' bx 80 [.slice r.1.a r.1.n r.1.c, .slice r.2.1.a r.2.1.n r.2.1.c, .slice r.2.2.a r.2.2.n r.2.2.c]) ∧
    relab lab w.heap.size w'.heap.size c bx = 6 ∧ (∀ k, relab lab w.heap.size w'.heap.size c k ≠ 0 → n ≤ k ∧ k < w'.heap.size) := by
  have hs := f.size
  refine ⟨fun hc => St.other (A := fun F w => Own F w 54 idT r.1 gone) Own.st h.og f hc, fun hc => St.other (A := fun F w => Own F w 57 entT r.2.1 rc) Own.st h.oc f hc,
    fun hc => ⟨h.ec.len, fun i a b ha hb => ⟨(h.ec.at_ i a b ha hb).1, St.other (A := fun F w => SlT F w compT a.2 b.2) SlT.st (h.ec.at_ i a b ha hb).2 f hc⟩⟩,
    fun hc => St.other (A := fun F w => Own F w 86 chgT r.2.2 rd) Own.st h.od f hc, fun hc => h.ed.imp fun a b hab => St.other (A := fun F w => chgR F w a b) (chgR_st a b) hab f hc,
    fun hc => h.blk.fr f fun e => hc (h.lb.symm.trans e), by rw [relab_lt h.blk.lt]; exact h.lb, fun k e => ?_⟩
  rcases relab_ne e with e | e
  · have := h.up k e.1; omega
  · omega
theorem DltI.grow (h : DltI n bx lab r rc rd gone come chg w) (hn : n ≤ w.heap.size) (c : Nat) {w' : World} (f : Fr None w w') : DltI n bx (relab lab w.heap.size w'.heap.size c) r rc rd gone come chg w' := by
  have hs := f.size
  have k1 : ∀ {A : OB} (_ : St A) {i : Nat}, A (fun k => lab k = i) w → A (fun k => relab lab w.heap.size w'.heap.size c k = i) w' := fun hA i a => hA a f fun k hk e => ⟨fun h => h, by show relab _ _ _ _ _ = _; rw [relab_lt hk]; exact e⟩
  refine ⟨h.blk.fr f fun h => h, by rw [relab_lt h.blk.lt]; exact h.lb, k1 (A := fun F w => Own F w 54 idT r.1 gone) Own.st h.og, k1 (A := fun F w => Own F w 57 entT r.2.1 rc) Own.st h.oc,
    ⟨h.ec.len, fun i a b ha hb => ⟨(h.ec.at_ i a b ha hb).1, k1 (A := fun F w => SlT F w compT a.2 b.2) SlT.st (h.ec.at_ i a b ha hb).2⟩⟩, k1 (A := fun F w => Own F w 86 chgT r.2.2 rd) Own.st h.od,
    h.ed.imp fun a b hab => k1 (A := fun F w => chgR F w a b) (chgR_st a b) hab, fun k e => ?_⟩
  rcases relab_ne e with e | e
  · have := h.up k e.1; omega
  · omega
theorem DltI.turned {w' : World} (og : Own (fun k => lab k = 1) w 54 idT r.1 gone) (oc : Own (fun k => lab k = 2) w 57 entT r.2.1 rc) (ec : EntsR (fun k => lab k = 3) w rc come) (od : Own (fun k => lab k = 4) w 86 chgT r.2.2 rd)
    (ed : All2 (fun a b => chgR (fun k => lab k = 5) w a b) rd chg) (hl : lab bx = 6) (up : ∀ k, lab k ≠ 0 → n ≤ k ∧ k < w.heap.size) (B : Blk w' bx 80 [.slice r.1.a r.1.n r.1.c, .slice r.2.1.a r.2.1.n r.2.1.c, .slice r.2.2.a r.2.2.n r.2.2.c]) (f : Fr (fun k => k = bx) w w') : DltI n bx lab r rc rd gone come chg w' := by
  have hs := f.size
  have nb : ∀ {i : Nat}, i ≠ 6 → ∀ k, lab k = i → k ≠ bx := fun hi k e e2 => by subst e2; omega
  refine ⟨B, hl, og.fr f (nb (by decide)), oc.fr f (nb (by decide)), ec.fr f (nb (by decide)), od.fr f (nb (by decide)), ed.imp fun a b hab => St.fr (A := fun F w => chgR F w a b) (chgR_st a b) hab f (nb (by decide)), fun k e => ?_⟩
  have := up k e; omega
theorem DltI.addGone (h : DltI n bx lab r rc rd gone come chg w) (hn : n ≤ w.heap.size) (hm : gone.length < 2097152) {x : Int} {K : W R} (hk : ∀ lab' r' w', DltI n bx lab' r' rc rd (gone ++ [x]) come chg w' → Fr (Up n) w w' → ((∀ k, k < w.heap.size → lab' k = lab k) ∧ Fr (fun k => lab k ≠ 0) w w') → K Q w') :
    newW 54 [.int .u32 x] (fun a => rawW Tryz.prog (Builtin.append_ #[77, 77] 77 #[.slice r.1.a r.1.n r.1.c, .slice (some a) 1 1]) [.sc .sl] fun (z : Sl) => stoL (Addr.add ⟨bx, 0, none⟩ 0) [.slice z.a z.n z.c] 0 K) Q w := by
  refine appLab (x := x) ids_ty rfl h.og (by omega) (by omega) fun z w1 o1 f1 => ?_
  obtain ⟨-, a2, a3, a4, a5, a6, a7, a8⟩ := h.rest hn f1
  rw [add_lit]
  refine setI (i := 0) (a6 (by decide)) (by simp) rfl fun w2 B2 f2 s2 => hk (relab lab w.heap.size w1.heap.size 1) (z, r.2) w2 (DltI.turned o1 (a2 (by decide)) (a3 (by decide)) (a4 (by decide)) (a5 (by decide)) a7 a8 B2 f2) ?_ ⟨fun k hk => relab_lt hk, ?_⟩
  · exact (f1.sub fun k e => (h.up k (by omega)).1).then (f2.sub fun k e => by rw [e]; exact (h.up bx (by rw [h.lb]; decide)).1)
  · exact (f1.sub fun k e e2 => by omega).then (f2.sub fun k e => by rw [e, h.lb]; decide)
theorem DltI.addCome (h : DltI n bx lab r rc rd gone come chg w) (hn : n ≤ w.heap.size) (hm : come.length < 2097152) {e : Ent} {t : Sl} (ht : SlT (fun k => lab k = 3) w compT t e.2) {K : W R} (hk : ∀ lab' r' w', DltI n bx lab' r' (rc ++ [(e.1, t)]) rd gone (come ++ [e]) chg w' → Fr (Up n) w w' → K Q w') :
    newW 57 [.int .u32 e.1, .slice t.a t.n t.c] (fun a => rawW Tryz.prog (Builtin.append_ #[23, 23] 23 #[.slice r.2.1.a r.2.1.n r.2.1.c, .slice (some a) 1 1]) [.sc .sl] fun (z : Sl) => stoL (Addr.add ⟨bx, 0, none⟩ 1) [.slice z.a z.n z.c] 0 K) Q w := by
  have hl := h.ec.len
  refine appLab (x := ((e.1, t) : Int × Sl)) ents_ty rfl h.oc (by omega) (by omega) fun z w1 o1 f1 => ?_
  obtain ⟨a1, -, a3, a4, a5, a6, a7, a8⟩ := h.rest hn f1
  rw [add_lit]
  have t1 := St.other (A := fun F w => SlT F w compT t e.2) (c := 2) SlT.st ht f1 (by decide)
  refine setI (i := 1) (a6 (by decide)) (by simp) rfl fun w2 B2 f2 s2 => hk (relab lab w.heap.size w1.heap.size 2) (r.1, z, r.2.2) w2 (DltI.turned (a1 (by decide)) o1 ((a3 (by decide)).snoc rfl t1) (a4 (by decide)) (a5 (by decide)) a7 a8 B2 f2) ?_
  exact (f1.sub fun k e => (h.up k (by omega)).1).then (f2.sub fun k e => by rw [e]; exact (h.up bx (by rw [h.lb]; decide)).1)
theorem DltI.addChg (h : DltI n bx lab r rc rd gone come chg w) (hn : n ≤ w.heap.size) (hm : chg.length < 2097152) {d : Chg} {t : ChgRaw} (ht : chgR (fun k => lab k = 5) w t d) {K : W R} (hk : ∀ lab' r' w', DltI n bx lab' r' rc (rd ++ [t]) gone come (chg ++ [d]) w' → Fr (Up n) w w' → ((∀ k, k < w.heap.size → lab' k = lab k) ∧ Fr (fun k => lab k ≠ 0) w w') → K Q w') :
    newW 86 [.int .u32 t.1, .int .u8 t.2.1, .slice t.2.2.1.a t.2.2.1.n t.2.2.1.c, .slice t.2.2.2.a t.2.2.2.n t.2.2.2.c] (fun a => rawW Tryz.prog (Builtin.append_ #[78, 78] 78 #[.slice r.2.2.a r.2.2.n r.2.2.c, .slice (some a) 1 1]) [.sc .sl] fun (z : Sl) => stoL (Addr.add ⟨bx, 0, none⟩ 2) [.slice z.a z.n z.c] 0 K) Q w := by
  have hl := h.ed.len
  refine appLab (x := t) chgs_ty rfl h.od (by omega) (by omega) fun z w1 o1 f1 => ?_
  obtain ⟨a1, a2, a3, -, a5, a6, a7, a8⟩ := h.rest hn f1
  rw [add_lit]
  have t1 := St.other (A := fun F w => chgR F w t d) (c := 4) (chgR_st t d) ht f1 (by decide)
  refine setI (i := 2) (a6 (by decide)) (by simp) rfl fun w2 B2 f2 s2 => hk (relab lab w.heap.size w1.heap.size 4) (r.1, r.2.1, z) w2 (DltI.turned (a1 (by decide)) (a2 (by decide)) (a3 (by decide)) o1 ((a5 (by decide)).snoc t1) a7 a8 B2 f2) ?_ ⟨fun k hk => relab_lt hk, ?_⟩
  · exact (f1.sub fun k e => (h.up k (by omega)).1).then (f2.sub fun k e => by rw [e]; exact (h.up bx (by rw [h.lb]; decide)).1)
  · exact (f1.sub fun k e e2 => by omega).then (f2.sub fun k e => by rw [e, h.lb]; decide)
end
structure DltR (ok : Nat → Prop) (w : World) (r : DRaw) (gone : List Int) (come : List Ent) (chg : List Chg) : Prop where
  g : SlT ok w idT r.1 gone
  c : ∃ rc, SlT ok w entT r.2.1 rc ∧ EntsR ok w rc come
  d : ∃ rd, SlT ok w chgT r.2.2 rd ∧ All2 (fun a b => chgR ok w a b) rd chg
theorem DltR.st {r : DRaw} {gone : List Int} {come : List Ent} {chg : List Chg} : St fun F w => DltR F w r gone come chg := fun {F F' S w w'} h f hs => by
  obtain ⟨g, ⟨rc, c1, c2⟩, ⟨rd, d1, d2⟩⟩ := h
  exact ⟨SlT.st g f hs, ⟨rc, SlT.st c1 f hs, c2.len, fun i a b ha hb => ⟨(c2.at_ i a b ha hb).1, SlT.st (c2.at_ i a b ha hb).2 f hs⟩⟩, ⟨rd, SlT.st d1 f hs, d2.imp fun a b hab => chgR_st a b hab f hs⟩⟩
def diffE (was now : List Ent) : Int := if formM 0 was ≠ 0 then formM 0 was else formM 0 now
theorem EntFit.idOk {e : Ent} (h : EntFit e) : IdOk e.1 ∧ Small e.2 := ⟨h.1, h.2.1⟩
theorem filterMap_le {α β : Type} (f : α → Option β) (l : List α) : (l.filterMap f).length ≤ l.length := List.length_filterMap_le _ _
theorem spec_diff_Diff {ok1 ok2 : Nat → Prop} {s1 s2 : Sl} {raws1 raws2 : List (Int × Sl)} {was now : List Ent} (hS1 : SlT ok1 w entT s1 raws1) (hE1 : EntsR ok1 w raws1 was) (hS2 : SlT ok2 w entT s2 raws2) (hE2 : EntsR ok2 w raws2 now)
    (hm1 : was.length ≤ 1048576) (hm2 : now.length ≤ 1048576) (hL1 : ∀ e ∈ was, EntFit e) (hL2 : ∀ e ∈ now, EntFit e) {K : Res [.agg [.sl, .sl, .sl], .sc (.int .i64)] → W R}
    (hbad : diffE was now ≠ 0 → ∀ w', Fr None w w' → K ((⟨none, 0, 0⟩, ⟨none, 0, 0⟩, ⟨none, 0, 0⟩), diffE was now) Q w')
    (hk : diffE was now = 0 → ∀ r w', DltR (Up w.heap.size) w' r (goneM was now) (comeM was now) (chgsM was now) → Fr None w w' → K (r, 0) Q w') :
    callW Tryz.prog k_diff_Diff [.slice s1.a s1.n s1.c, .slice s2.a s2.n s2.c] [.agg [.sl, .sl, .sl], .sc (.int .i64)] K Q w := by
  refine C_diff_Diff s1 s2 K Q w ?_
  unfold F_diff_Diff
  have l1 := hS1.len.trans hE1.len
  have l2 := hS2.len.trans hE2.len
  refine newI fun w1 B1 f1 t1 => newI fun w2 B2 f2 t2 => ?_
  have f02 := f1.then0 f2
  have B1 := B1.fr f2 fun h => h
  have hz2 := f02.size
  refine forI (N := 2) (fun s : Int => s) (fun j i v => i = (j : Int) ∧ Fr None w2 v ∧ (1 ≤ j → formM 0 was = 0) ∧ (2 ≤ j → formM 0 now = 0)) ⟨rfl, Fr.refl _ _, by omega, by omega⟩ (fun j s w' h => h.1) ?_ ?_
  · rintro j i v K' hj ⟨rfl, fv, p1, p2⟩ - hK
    have Bv := B2.fr fv fun h => h
    refine idxB (by omega) (by omega) ?_
    have go : ∀ {ok : Nat → Prop} {s : Sl} {raws : List (Int × Sl)} {L : List Ent}, SlT ok w entT s raws → EntsR ok w raws L → L.length ≤ 1048576 → (∀ e ∈ L, EntFit e) → (formM 0 L ≠ 0 → diffE was now = formM 0 L) → (formM 0 L = 0 → (1 ≤ j + 1 → formM 0 was = 0) ∧ (2 ≤ j + 1 → formM 0 now = 0)) →
        callW Tryz.prog k_snap_Form [.slice s.a s.n s.c] [.sc (.int .i64)] (fun (x_7 : Int) => cond (x_7 != 0) (stoL ⟨w.heap.size, 0, none⟩ [.slice none 0 0, .slice none 0 0, .slice none 0 0] 0 <| ld (.agg [.sl, .sl, .sl]) ⟨w.heap.size, 0, none⟩ fun (x_8 : DRaw) => retW (x_8, x_7)) (K' (IntKind.wrap .i64 ((j : Int) + 1)))) (fun r w => K r Q w) v := by
      intro ok s raws L hS hE hm hL hne he
      refine spec_snap_Form ((hS.fr0 f02).fr0 fv) ((hE.fr f02 fun _ _ h => h).fr fv fun _ _ h => h) (by omega) (fun e he => (hL e he).idOk) fun v2 g2 => ?_
      refine condN (fun h => ?_) fun h => ?_
      · refine stoAll ((B1.fr fv fun h => h).fr g2 fun h => h) rfl rfl fun v3 B3 g3 t3 => aggI B3 (x := ((⟨none, 0, 0⟩, ⟨none, 0, 0⟩, ⟨none, 0, 0⟩) : DRaw)) rfl ?_
        have e := hne h
        rw [← e]
        refine hbad (by rw [e]; exact h) v3 (((f02.then0 fv).then0 g2).newer g3 fun k e => by omega)
      · obtain ⟨a, b⟩ := he h
        exact hK _ _ ⟨wsucc hj (by omega), fv.then0 g2, a, b⟩
    rcases (show j = 0 ∨ j = 1 by omega) with rfl | rfl
    · refine fld0 Bv (i := 0) (x := s1) rfl (go hS1 hE1 hm1 hL1 (fun h => if_pos h) fun h => ⟨fun _ => h, fun h => by omega⟩)
    · have h0 := p1 (by omega)
      refine fld0 Bv (i := 1) (x := s2) rfl (go hS2 hE2 hm2 hL2 (fun h => if_neg (by rw [h0]; simp)) fun h => ⟨fun _ => h0, fun _ => h⟩)
  rintro i2 v ⟨_, fv, p1, p2⟩
  have z1 := p1 (by omega)
  have z2 := p2 (by omega)
  have hE0 : diffE was now = 0 := by unfold diffE; rw [if_neg (by rw [z1]; simp)]; exact z2
  have hk := hk hE0
  have fw := formOk.1 z1
  have fn := formOk.1 z2
  have f0v := f02.then0 fv
  refine newI fun v1 B3 g1 t3 => ?_
  have f01 := f0v.then0 g1
  have hz1 := f01.size
  have hzv := f0v.size
  have BX := ((B1.fr fv fun h => h).fr g1 fun h => h)
  have hzw : w.heap.size < w2.heap.size := by omega
  have BX0 := B1.fr fv fun h => h
  have hzv2 := fv.size
  refine loopI (fun (st : Int × Int) u => ∃ i k : Nat, st = ((i : Int), (k : Int)) ∧ i ≤ was.length ∧ k ≤ now.length ∧ Side was now i k ∧ (∃ lab r rc rd, DltI v.heap.size v.heap.size lab r rc rd (goneP (was.take i) now) (comeM was (now.take k)) (chgsM was (now.take k)) u) ∧ Fr None v u ∧ v.heap.size ≤ u.heap.size)
    (fun st _ => (was.length - st.1.toNat) + (now.length - st.2.toNat)) ⟨0, 0, rfl, by omega, by omega, Side.zero _ _, ⟨fun k => if k = v.heap.size then 6 else 0, (⟨none, 0, 0⟩, ⟨none, 0, 0⟩, ⟨none, 0, 0⟩), [], [], B3, by simp, Own.nil _ _ _ _, Own.nil _ _ _ _, EntsR.nil _ _, Own.nil _ _ _ _, All2.nil _, fun k e => by
      by_cases hkb : k = v.heap.size
      · omega
      · exact absurd (if_neg hkb) e⟩, g1, by omega⟩ ?_
  rintro st u ⟨i, k, rfl, hi, hk2, sd, ⟨lab, r, rc, rd, D⟩, fu, hzu⟩
  dsimp only
  have f0u := f0v.then0 fu
  have hS1u := hS1.fr0 f0u
  have hS2u := hS2.fr0 f0u
  refine joinI (fun z u' => z = decide (i < was.length ∨ k < now.length) ∧ u = u') ?_ ?_
  · refine condD (fun h => ⟨by simp; omega, rfl⟩) fun h => ⟨decide_eq_decide.2 (by omega), rfl⟩
  rintro z u' ⟨rfl, rfl⟩
  refine condD (fun hlt => ?_) fun hge => ?_
  rotate_left
  · rw [List.take_of_length_le (by omega), List.take_of_length_le (by omega)] at D
    refine aggI D.blk (x := r) rfl ?_
    have BXu := (BX0.fr fu fun h => h)
    refine stoAll BXu rfl rfl fun u1 C1 e1 m1 => aggI C1 (x := r) rfl ?_
    have nb : ∀ {i : Nat}, i ≠ 0 → ∀ k, k < u.heap.size → lab k = i → ¬ k = w.heap.size ∧ w.heap.size ≤ k := fun hi k hk e => by have := D.up k (by omega); omega
    refine hk r u1 ⟨SlT.st D.og.sl e1 (nb (by decide)), ⟨rc, SlT.st D.oc.sl e1 (nb (by decide)), D.ec.len, fun i a b ha hb => ⟨(D.ec.at_ i a b ha hb).1, SlT.st (D.ec.at_ i a b ha hb).2 e1 (nb (by decide))⟩⟩,
      ⟨rd, SlT.st D.od.sl e1 (nb (by decide)), D.ed.imp fun a b hab => chgR_st a b hab e1 (nb (by decide))⟩⟩ (f0u.newer e1 fun k e => by omega)
  have fd : Fr None u u.drew := (Fr.refl _ _).drew
  have fud := fu.then0 fd
  have Dd := D.fr0 fd
  have hS1d := hS1u.fr0 fd
  have hS2d := hS2u.fr0 fd
  have hE1d := (hE1.fr f0u fun _ _ h => h).fr fd fun _ _ h => h
  have hE2d := (hE2.fr f0u fun _ _ h => h).fr fd fun _ _ h => h
  have glen : (goneP (was.take i) now).length ≤ 1048576 := by
    unfold goneP; rw [List.length_map]; exact Nat.le_trans (List.length_filter_le _ _) (by simp; omega)
  have clen : (comeM was (now.take k)).length ≤ 1048576 := by
    unfold comeM; exact Nat.le_trans (List.length_filter_le _ _) (by simp; omega)
  have dlen : (chgsM was (now.take k)).length ≤ 1048576 := by
    unfold chgsM; exact Nat.le_trans (filterMap_le _ _) (by simp; omega)
  refine joinI (fun z u' => (z = true ↔ (k = now.length ∨ ∃ a b, was[i]? = some a ∧ now[k]? = some b ∧ a.1 < b.1)) ∧ u' = u.drew) ?_ ?_
  · refine condE (fun h => ⟨⟨fun _ => .inl (by have h : (k : Int) = (s2.n : Int) := h; omega), fun _ => rfl⟩, rfl⟩) fun h => ?_
    have h : k ≠ now.length := fun e => h (by show (k : Int) = (s2.n : Int); omega)
    refine condD (fun h2 => ?_) fun h2 => ⟨⟨fun h => (by cases h), ?_⟩, rfl⟩
    · have h2 : (i : Int) < (s1.n : Int) := h2
      obtain ⟨a, ha⟩ : ∃ a, was[i]? = some a := ⟨_, List.getElem?_eq_getElem (by omega)⟩
      obtain ⟨b, hb⟩ : ∃ b, now[k]? = some b := ⟨_, List.getElem?_eq_getElem (by omega)⟩
      obtain ⟨q1, hq1, hq2, _⟩ := hE1.get ha
      obtain ⟨y1, hy1, hy2, _⟩ := hE2.get hb
      refine hS1d.readK rfl rfl hq1 fun ad had => (had _ hS1d).fld (i := 0) (s := .int .u32) (y := q1.1) rfl ?_
      refine hS2d.readK rfl rfl hy1 fun ad2 had2 => (had2 _ hS2d).fld (i := 0) (s := .int .u32) (y := y1.1) rfl ?_
      refine ⟨⟨fun hz => .inr ⟨a, b, ha, hb, ?_⟩, fun hz => ?_⟩, rfl⟩
      · rw [← hq2, ← hy2]; simpa using hz
      · rcases hz with hz | ⟨a', b', ha', hb', hlt⟩
        · exact absurd hz h
        · rw [ha] at ha'; rw [hb] at hb'; cases ha'; cases hb'
          rw [hq2, hy2]; simpa using hlt
    · rintro (hz | ⟨a, b, ha, _⟩)
      · exact absurd hz h
      · have h2 : ¬ (i : Int) < (s1.n : Int) := h2
        have := (List.getElem?_eq_some_iff.1 ha).1
        omega
  rintro z u1 ⟨hz, rfl⟩
  have next : ∀ (i' k' : Nat) (st : Int × Int) (u' : World), st = ((i' : Int), (k' : Int)) → i ≤ i' → k ≤ k' → i + k < i' + k' → i' ≤ was.length → k' ≤ now.length → Side was now i' k' → (∃ lab r rc rd, DltI v.heap.size v.heap.size lab r rc rd (goneP (was.take i') now) (comeM was (now.take k')) (chgsM was (now.take k')) u') → Fr None v u' → v.heap.size ≤ u'.heap.size →
      (∃ i k : Nat, st = ((i : Int), (k : Int)) ∧ i ≤ was.length ∧ k ≤ now.length ∧ Side was now i k ∧ (∃ lab r rc rd, DltI v.heap.size v.heap.size lab r rc rd (goneP (was.take i) now) (comeM was (now.take k)) (chgsM was (now.take k)) u') ∧ Fr None v u' ∧ v.heap.size ≤ u'.heap.size) ∧ (was.length - st.1.toNat) + (now.length - st.2.toNat) < (was.length - i) + (now.length - k) := by
    intro i' k' st u' e h1 h2 h3 h4 h5 h6 h7 h8 h9
    subst e
    exact ⟨⟨i', k', rfl, h4, h5, h6, h7, h8, h9⟩, by simp only [Int.toNat_natCast]; omega⟩
  refine joinI (fun (st : Int × Int) u' => (∃ i' k' : Nat, st = ((i' : Int), (k' : Int)) ∧ i ≤ i' ∧ k ≤ k' ∧ i + k < i' + k' ∧ i' ≤ was.length ∧ k' ≤ now.length ∧ Side was now i' k' ∧ (∃ lab r rc rd, DltI v.heap.size v.heap.size lab r rc rd (goneP (was.take i') now) (comeM was (now.take k')) (chgsM was (now.take k')) u') ∧ Fr None v u' ∧ v.heap.size ≤ u'.heap.size)) ?_ ?_
  rotate_left
  · rintro st u2 ⟨i', k', e, h1, h2, h3, h4, h5, h6, h7, h8, h9⟩
    exact next i' k' (st.1, st.2) u2 (by rw [e]) h1 h2 h3 h4 h5 h6 h7 h8 h9
  have hup : ∀ {a b : World}, Fr None v a → Fr (Up v.heap.size) a b → Fr None v b := fun f g => f.newer g fun k e => e
  refine condI (fun hzt => ?_) fun hzf => ?_
  ·
    have hz := hz.1 hzt
    have hil : i < was.length := by
      rcases hz with h | ⟨a, b, ha, _⟩
      · omega
      · exact (List.getElem?_eq_some_iff.1 ha).1
    obtain ⟨a, ha⟩ : ∃ a, was[i]? = some a := ⟨_, List.getElem?_eq_getElem hil⟩
    obtain ⟨q1, hq1, hq2, _⟩ := hE1.get ha
    have ed : Fr None u.drew u.drew.drew := (Fr.refl _ _).drew
    have D2 := Dd.fr0 ed
    obtain ⟨sd', hno⟩ := sd.left fw.rise fn.rise ha fun b hb => by
      rcases hz with h | ⟨a', b', ha', hb', hlt⟩
      · have := (List.getElem?_eq_some_iff.1 hb).1; omega
      · rw [ha] at ha'; rw [hb] at hb'; cases ha'; cases hb'; exact hlt
    refine fldI D2.blk (i := 0) (x := r.1) rfl ?_
    refine (hS1d.fr0 ed).readK rfl rfl hq1 fun ad had => (had _ (hS1d.fr0 ed)).fld (i := 0) (s := .int .u32) (y := q1.1) rfl ?_
    have hzd : u.drew.drew.heap.size = u.heap.size := rfl
    refine D2.addGone (by omega) (by omega) fun lab' r' u2 D3 g3 _ => ?_
    have hz3 := g3.size
    refine ⟨i + 1, k, by rw [w64 (by omega)]; rfl, by omega, by omega, by omega, by omega, hk2, sd', ⟨lab', r', rc, rd, ?_⟩, hup (fud.then0 ed) g3, by omega⟩
    rw [goneM_step ha, if_pos hno, ← hq2]
    exact D3
  have hz : ¬ (k = now.length ∨ ∃ a b, was[i]? = some a ∧ now[k]? = some b ∧ a.1 < b.1) := fun h => by have := hz.2 h; rw [hzf] at this; cases this
  have hkl : k < now.length := by have : k ≠ now.length := fun e => hz (.inl e); omega
  obtain ⟨b, hb⟩ : ∃ b, now[k]? = some b := ⟨_, List.getElem?_eq_getElem hkl⟩
  obtain ⟨y1, hy1, hy2, hy3⟩ := hE2d.get hb
  have fitb := hL2 b (List.mem_of_getElem? hb)
  have ed : Fr None u.drew u.drew.drew := (Fr.refl _ _).drew
  have D2 := Dd.fr0 ed
  have fu2 := fud.then0 ed
  have hS1e := hS1d.fr0 ed
  have hS2e := hS2d.fr0 ed
  have hzd : u.drew.drew.heap.size = u.heap.size := rfl
  refine joinI (fun z u' => (z = true ↔ ∀ a, was[i]? = some a → b.1 < a.1) ∧ u' = u.drew.drew) ?_ ?_
  · refine condE (fun h => ⟨⟨fun _ a ha => ?_, fun _ => rfl⟩, rfl⟩) fun h => ?_
    · have h : (i : Int) = (s1.n : Int) := h
      have := (List.getElem?_eq_some_iff.1 ha).1
      omega
    have h : i ≠ was.length := fun e => h (by show (i : Int) = (s1.n : Int); omega)
    obtain ⟨a, ha⟩ : ∃ a, was[i]? = some a := ⟨_, List.getElem?_eq_getElem (by omega)⟩
    obtain ⟨q1, hq1, hq2, _⟩ := hE1.get ha
    refine hS2e.readK rfl rfl hy1 fun ad2 had2 => (had2 _ hS2e).fld (i := 0) (s := .int .u32) (y := y1.1) rfl ?_
    refine hS1e.readK rfl rfl hq1 fun ad had => (had _ hS1e).fld (i := 0) (s := .int .u32) (y := q1.1) rfl ?_
    refine ⟨⟨fun hz a' ha' => ?_, fun hz => ?_⟩, rfl⟩
    · rw [ha] at ha'; cases ha'
      rw [← hq2, ← hy2]; simpa using hz
    · have := hz a ha
      rw [hq2, hy2]; simpa using this
  rintro z2 u3 ⟨hz2', rfl⟩
  refine joinI (fun (st : Int × Int) u' => (∃ i' k' : Nat, st = ((i' : Int), (k' : Int)) ∧ i ≤ i' ∧ k ≤ k' ∧ i + k < i' + k' ∧ i' ≤ was.length ∧ k' ≤ now.length ∧ Side was now i' k' ∧ (∃ lab r rc rd, DltI v.heap.size v.heap.size lab r rc rd (goneP (was.take i') now) (comeM was (now.take k')) (chgsM was (now.take k')) u') ∧ Fr None v u' ∧ v.heap.size ≤ u'.heap.size)) ?_ ?_
  rotate_left
  · rintro st u2 ⟨i', k', rfl, h⟩
    exact ⟨i', k', rfl, h⟩
  have ed2 : Fr None u.drew.drew u.drew.drew.drew := (Fr.refl _ _).drew
  have D3 := D2.fr0 ed2
  have fu3 := fu2.then0 ed2
  have hS1f := hS1e.fr0 ed2
  have hS2f := hS2e.fr0 ed2
  have hzd2 : u.drew.drew.drew.heap.size = u.heap.size := rfl
  have hE2f := (hE2d.fr ed fun _ _ h => h).fr ed2 fun _ _ h => h
  have hE1f := (hE1d.fr ed fun _ _ h => h).fr ed2 fun _ _ h => h
  refine condI (fun hzt => ?_) fun hzf2 => ?_
  ·
    have hz2 := hz2'.1 hzt
    obtain ⟨sd', hno⟩ := sd.right fw.rise fn.rise hb hz2
    have hy3' := (hE2f.at_ _ _ _ hy1 hb).2
    refine fldI D3.blk (i := 1) (x := r.2.1) rfl ?_
    refine hS2f.readK rfl rfl hy1 fun ad had => (had _ hS2f).fld (i := 0) (s := .int .u32) (y := y1.1) rfl ?_
    refine hS2f.readK rfl rfl hy1 fun ad2 had2 => (had2 _ hS2f).fld (i := 1) (s := .sl) (y := y1.2) rfl ?_
    refine spec_Clone_Comp hy3' (by have := fitb.2.1; omega) fun t u4 o4 g4 => ?_
    have hz4 := g4.size
    have rd1 : Rd u4 (Addr.add ad 0) (.sc (.int .u32)) y1.1 := (had _ (hS2f.fr0 g4)) 0 _ rfl
    have D4 := D3.grow (by omega) 3 g4
    refine andI rd1 (andI (D4.blk.rd (s := .sl) (i := 1) (x := r.2.1) rfl) ?_)
    rw [hy2]
    refine D4.addCome (by omega) (by omega) (e := b) (o4.sl.mono fun q hq e => relab_new e hq) fun lab' r' u5 D5 g5 => ?_
    have hz5 := g5.size
    refine ⟨i, k + 1, by rw [w64 (by omega)]; rfl, by omega, by omega, by omega, hi, by omega, sd', ⟨lab', r', rc ++ [(b.1, t)], rd, ?_⟩, hup (fu3.then0 g4) g5, by omega⟩
    have ec : chgsM was (now.take (k + 1)) = chgsM was (now.take k) := by
      rw [chgsM_step hb]
      have : chgOne was b = none := by
        unfold chgOne
        have : was.find? (fun a => a.1 == b.1) = none := by
          rw [List.find?_eq_none]
          intro x hx
          simpa using hasE_not.1 hno x hx
        rw [this]
      rw [this, List.append_nil]
    rw [comeM_step hb, if_pos hno, ec]
    exact D5
  have hz2 : ∃ a, was[i]? = some a ∧ ¬ b.1 < a.1 := by
    refine Classical.byContradiction fun hc => ?_
    have : z2 = true := hz2'.2 fun a ha => Classical.byContradiction fun hn => hc ⟨a, ha, hn⟩
    rw [hzf2] at this; cases this
  obtain ⟨a, ha, hab⟩ := hz2
  have hab : a.1 = b.1 := by
    have : ¬ a.1 < b.1 := fun h => hz (.inr ⟨a, b, ha, hb, h⟩)
    omega
  obtain ⟨q1, hq1, hq2, hq3⟩ := hE1f.get ha
  have hy3' := (hE2f.at_ _ _ _ hy1 hb).2
  have fita := hL1 a (List.mem_of_getElem? ha)
  obtain ⟨sd', ho1, ho2, hone⟩ := sd.both fw.rise fn.rise ha hb hab
  have hil := (List.getElem?_eq_some_iff.1 ha).1
  refine joinI (fun s u' => ∃ bc t lab' , s = some ⟨bc, 0, none⟩ ∧ Blk u' bc 86 [.int .u32 t.1, .int .u8 t.2.1, .slice t.2.2.1.a t.2.2.1.n t.2.2.1.c, .slice t.2.2.2.a t.2.2.2.n t.2.2.2.c] ∧ chgR (fun k => lab' k = 5) u' t (changeM a b) ∧ DltI v.heap.size v.heap.size lab' r rc rd (goneP (was.take i) now) (comeM was (now.take k)) (chgsM was (now.take k)) u' ∧ Fr None v u' ∧ v.heap.size ≤ u'.heap.size) ?_ ?_
  · refine bothI ?_ ?_
    · refine hS1f.get rfl rfl (by have := hE1.len; omega) fun x hx => ?_
      rw [hq1] at hx; cases hx
      refine hS2f.get rfl rfl (by have := hE2.len; omega) fun x hx => ?_
      rw [hy1] at hx; cases hx
      refine spec_diff_change hq3 hy3' hy2 fita.2.1 fitb.2.1 fita.2.2 fitb.2.2 fun t u4 ht g4 => ?_
      have hz4 := g4.size
      refine newI fun u5 B5 g5 m5 => stoAll B5 rfl rfl fun u6 B6 g6 m6 => ?_
      have g46 : Fr None u4 u6 := g5.newer g6 fun k e => by omega
      have g6' := g4.then0 g46
      refine ⟨_, t, relab lab u.drew.drew.drew.heap.size u6.heap.size 5, rfl, B6, ?_, D3.grow (by omega) 5 g6', fu3.then0 g6', by omega⟩
      refine chgR_st _ _ ht g46 fun q hq e => ⟨fun h => h, ?_⟩
      have e : u.drew.drew.drew.heap.size ≤ q := e
      exact relab_new e (by omega)
    · refine hS1f.get rfl rfl (by have := hE1.len; omega) fun x hx => ?_
      rw [hq1] at hx; cases hx
      refine hS2f.get rfl rfl (by have := hE2.len; omega) fun x hx => ?_
      rw [hy1] at hx; cases hx
      refine newI fun u4 B4 g4 m4 => ?_
      refine spec_diff_change (hq3.fr0 g4) (hy3'.fr0 g4) hy2 fita.2.1 fitb.2.1 fita.2.2 fitb.2.2 fun t u5 ht g5 => ?_
      have hz5 := g5.size
      refine stoAll (B4.fr g5 fun h => h) rfl rfl fun u6 B6 g6 m6 => ?_
      have g06 : Fr None u.drew.drew.drew u6 := (g4.then0 g5).newer g6 fun k e => by omega
      refine ⟨_, t, relab lab u.drew.drew.drew.heap.size u6.heap.size 5, rfl, B6, ?_, D3.grow (by omega) 5 g06, fu3.then0 g06, by omega⟩
      refine chgR_st _ _ ht g6 fun q hq e => ⟨by have e : u4.heap.size ≤ q := e; omega, ?_⟩
      have e : u4.heap.size ≤ q := e
      exact relab_new (by omega) (by omega)
  rintro s u4 ⟨bc, t, lab', rfl, Bc, ht, D4, fu4, hz4⟩
  refine ptrI (aggI Bc (x := t) rfl (spec_diff_nothing fun u5 g5 => ?_))
  have D5 := D4.fr0 g5
  have ht5 := St.fr0 (A := fun F w => chgR F w t (changeM a b)) (chgR_st _ _) ht g5
  have fu5 := fu4.then0 g5
  have hz5 := g5.size
  have Bc5 := Bc.fr g5 fun h => h
  have en : decide (t.2.1 = 0 ∧ t.2.2.1.n = 0 ∧ t.2.2.2.n = 0) = nothingM (changeM a b) := by
    unfold nothingM
    rw [ht.2.1, ht.2.2.1.len, ht.2.2.2.len]
  rw [en]
  have eg : goneP (was.take (i + 1)) now = goneP (was.take i) now := by rw [goneM_step ha, if_neg (by rw [ho1]; decide), List.append_nil]
  have ec : comeM was (now.take (k + 1)) = comeM was (now.take k) := by rw [comeM_step hb, if_neg (by rw [ho2]; decide), List.append_nil]
  have ed' := chgsM_step (was := was) hb
  rw [hone] at ed'
  refine joinI (fun (_ : Unit) u' => (∃ lab r rc rd, DltI v.heap.size v.heap.size lab r rc rd (goneP (was.take (i + 1)) now) (comeM was (now.take (k + 1))) (chgsM was (now.take (k + 1))) u') ∧ Fr None v u' ∧ v.heap.size ≤ u'.heap.size) ?_ ?_
  · refine condI (fun hn => ?_) fun hn => ?_
    · have hn : nothingM (changeM a b) = false := by simpa using hn
      refine fldI D5.blk (i := 2) (x := r.2.2) rfl (ptrI (aggI Bc5 (x := t) rfl ?_))
      refine D5.addChg (by omega) (by omega) ht5 fun lab'' r' u6 D6 g6 _ => ?_
      have hz6 := g6.size
      refine ⟨⟨lab'', r', rc, rd ++ [t], ?_⟩, hup fu5 g6, by omega⟩
      rw [eg, ec, ed', hn]
      exact D6
    · have hn : nothingM (changeM a b) = true := by simpa using hn
      refine ⟨⟨lab', r, rc, rd, ?_⟩, fu5, by omega⟩
      rw [eg, ec, ed', hn, if_pos rfl, List.append_nil]
      exact D5
  rintro _ u6 ⟨h1, h2, h3⟩
  exact ⟨i + 1, k + 1, by rw [w64 (by omega), w64 (by omega)]; rfl, by omega, by omega, by omega, by omega, by omega, sd', h1, h2, h3⟩
end Go.Proofs.YtchhhjlpnecjkaaGreat
namespace Go.Proofs.YtchhhjlpnecjkaaGreat
open Go Go.RowKit Go.Proofs.YtchhhjlpnecjkaaGreat.Den
variable {R : Type} {Q : R → World → Prop} {w : World}
abbrev PS (n : Nat) (F : Nat → Prop) (nots : List Nat) : Nat → Prop := fun k => (F k ∨ n ≤ k) ∧ k ∉ nots
def PX (n : Nat) (F : Nat → Prop) (bw b : Nat) (s : WS) (nots : List Nat) (v : World) : Prop :=
  ∃ G, PW bw b s G v ∧ (∀ k, G k → F k ∨ n ≤ k) ∧ (∀ x ∈ nots, ¬ G x ∧ x < v.heap.size)
section
variable {n : Nat} {F : Nat → Prop} {bw b : Nat} {s : WS} {nots : List Nat} {v : World}
theorem PX.use (h : PX n F bw b s nots v) (hn : n ≤ v.heap.size) : ∃ G, PW bw b s G v ∧ (∀ s' v', PW bw b s' (Gw G v v') v' → v.heap.size ≤ v'.heap.size → PX n F bw b s' nots v') ∧ (∀ v', Fr G v v' → Fr (PS n F nots) v v') ∧ (∀ x ∈ nots, ¬ G x) ∧ (∀ k, G k → PS n F nots k) := by
  obtain ⟨G, h1, h2, h3⟩ := h
  refine ⟨G, h1, fun s' v' hp hs => ⟨_, hp, fun k e => ?_, fun x hx => ⟨fun e => ?_, by have := (h3 x hx).2; omega⟩⟩, fun v' f => f.sub fun k e => ⟨h2 k e, fun hx => (h3 k hx).1 e⟩, fun x hx => (h3 x hx).1, fun k e => ⟨h2 k e, fun hx => (h3 k hx).1 e⟩⟩
  · rcases e with e | e
    · exact h2 k e
    · exact .inr (by omega)
  · rcases e with e | e
    · exact (h3 x hx).1 e
    · have := (h3 x hx).2; omega
theorem PX.fr0 (h : PX n F bw b s nots v) {v' : World} (f : Fr None v v') : PX n F bw b s nots v' := by
  obtain ⟨G, h1, h2, h3⟩ := h
  exact ⟨G, h1.fr0 f, h2, fun x hx => ⟨(h3 x hx).1, Nat.lt_of_lt_of_le (h3 x hx).2 f.size⟩⟩
theorem PX.frN (h : PX n F bw b s nots v) {v' : World} {x : Nat} (hx : x ∈ nots) (f : Fr (fun k => k = x) v v') : PX n F bw b s nots v' := by
  obtain ⟨G, h1, h2, h3⟩ := h
  exact ⟨G, h1.fr f fun k e e2 => by subst e2; exact (h3 k hx).1 e, h2, fun x hx => ⟨(h3 x hx).1, Nat.lt_of_lt_of_le (h3 x hx).2 f.size⟩⟩
theorem PX.more (h : PX n F bw b s nots v) {v' : World} (f : Fr None v v') {x : Nat} (h1 : v.heap.size ≤ x) (h2 : x < v'.heap.size) : PX n F bw b s (x :: nots) v' := by
  obtain ⟨G, g1, g2, g3⟩ := h
  refine ⟨G, g1.fr0 f, g2, fun y hy => ?_⟩
  rcases List.mem_cons.1 hy with rfl | hy
  · exact ⟨fun e => by have := g1.2.1 y e; omega, h2⟩
  · exact ⟨(g3 y hy).1, Nat.lt_of_lt_of_le (g3 y hy).2 f.size⟩
theorem PX.less (h : PX n F bw b s nots v) {l : List Nat} (hl : ∀ x ∈ l, x ∈ nots) : PX n F bw b s l v := by
  obtain ⟨G, g1, g2, g3⟩ := h
  exact ⟨G, g1, g2, fun x hx => g3 x (hl x hx)⟩
theorem PX.of (h : PW bw b s F v) : PX v.heap.size F bw b s [] v := ⟨F, h, fun k e => .inl e, fun x hx => by cases hx⟩
theorem PX.done {v0 : World} (h : PX v0.heap.size F bw b s nots v) (hF : ∀ k, F k → k < v0.heap.size) (hs : v0.heap.size ≤ v.heap.size) : PW bw b s (Gw F v0 v) v := by
  obtain ⟨G, g1, g2, g3⟩ := h
  refine g1.mono (fun k hk e => ?_) fun k e => ?_
  · rcases g2 k e with e | e
    · exact .inl e
    · exact .inr ⟨e, hk⟩
  · rcases e with e | e
    · have := hF k e; omega
    · exact e.2
theorem PX.plain (h : PX n F bw b s nots v) (hn : n ≤ v.heap.size) {x m : Int} (hv : 0 ≤ x ∧ x ≤ 18446744073709551615) (hm : -9223372036854775808 ≤ m ∧ m ≤ 9223372036854775807) {K : Res [] → W R} (hk : ∀ v', PX n F bw b (plainM s x m) nots v' → Fr (PS n F nots) v v' → K () Q v') :
    callW Tryz.prog k_packet_writer_plain [.pointer (some ⟨bw, 0, none⟩), .int .u64 x, .int .i64 m] [] K Q v := by
  obtain ⟨G, hp, up, uf, -, -⟩ := h.use hn
  exact spec_packet_plain hp hv hm fun v' hp' f' => hk v' (up _ _ hp' f'.size) (uf _ f')
theorem PX.count (h : PX n F bw b s nots v) (hn : n ≤ v.heap.size) {x : Nat} (hx : (x : Int) ≤ 18446744073709551615) {K : Res [] → W R} (hk : ∀ v', PX n F bw b (varM s x) nots v' → Fr (PS n F nots) v v' → K () Q v') :
    callW Tryz.prog k_packet_writer_count [.pointer (some ⟨bw, 0, none⟩), .int .i64 (x : Int)] [] K Q v := by
  obtain ⟨G, hp, up, uf, -, -⟩ := h.use hn
  exact spec_packet_count hp hx fun v' hp' f' => hk v' (up _ _ hp' f'.size) (uf _ f')
theorem PX.id (h : PX n F bw b s nots v) (hn : n ≤ v.heap.size) {bl : Nat} (hbl : bl ∈ nots) {T : TypeId} {last id : Int} (B : Blk v bl T [.int .u32 last]) {K : Res [] → W R}
    (hk : ∀ v', PX n F bw b (varM s (idD last id)) nots v' → Blk v' bl T [.int .u32 id] → Fr (fun k => PS n F nots k ∨ k = bl) v v' → K () Q v') :
    callW Tryz.prog k_packet_writer_id [.pointer (some ⟨bw, 0, none⟩), .pointer (some ⟨bl, 0, none⟩), .int .u32 id] [] K Q v := by
  obtain ⟨G, hp, up, uf, un, us⟩ := h.use hn
  exact spec_packet_id hp B (un bl hbl) fun v' hp' B' f' => hk v' (up _ _ hp' f'.size) B' (f'.sub fun k e => e.imp (us k) fun h => h)
theorem PX.comps (h : PX n F bw b s nots v) (hn : n ≤ v.heap.size) {ok : Nat → Prop} {r : Sl} {l : List Comp} (hS : SlT ok v compT r l) (hd : ∀ k, ok k → k ∈ nots ∨ ¬ (F k ∨ n ≤ k)) (hc : ∀ c ∈ l, CompOk c) (hm : l.length ≤ 1048576) {K : Res [] → W R} (hk : ∀ v', PX n F bw b (compsM s l) nots v' → Fr (PS n F nots) v v' → K () Q v') :
    callW Tryz.prog k_packet_writer_comps [.pointer (some ⟨bw, 0, none⟩), .slice r.a r.n r.c] [] K Q v := by
  obtain ⟨G, hp, up, uf, un, us⟩ := h.use hn
  refine spec_packet_comps hp hS (fun k _ e e2 => ?_) hc (by omega) fun v' hp' f' => hk v' (up _ _ hp' f'.size) (uf _ f')
  rcases hd k e with h | h
  · exact un k h e2
  · exact h (us k e2).1
theorem PX.ents (h : PX n F bw b s nots v) (hn : n ≤ v.heap.size) {ok : Nat → Prop} {r : Sl} {raws : List (Int × Sl)} {L : List Ent} (hS : SlT ok v entT r raws) (hE : EntsR ok v raws L) (hd : ∀ k, ok k → ¬ (F k ∨ n ≤ k)) (hL : ∀ e ∈ L, EntFit e) (hm : L.length ≤ 1048576) {K : Res [] → W R} (hk : ∀ v', PX n F bw b (entsW s L) nots v' → Fr (PS n F nots) v v' → K () Q v') :
    callW Tryz.prog k_packet_writer_ents [.pointer (some ⟨bw, 0, none⟩), .slice r.a r.n r.c] [] K Q v := by
  obtain ⟨G, hp, up, uf, un, us⟩ := h.use hn
  exact spec_packet_ents hp hS hE (fun k _ e e2 => hd k e (us k e2).1) hL hm fun v' hp' f' => hk v' (up _ _ hp' f'.size) (uf _ f')
theorem PX.bits (h : PX n F bw b s nots v) (hn : n ≤ v.heap.size) : ∃ G, Wr b s.1 G v ∧ (∀ k, G k → k < v.heap.size) ∧ ∀ (p : Int × List Bool) (v' : World) {K : Res [] → W R}, Wr b p.2 (Ex G v) v' → Fr G v v' →
    (∀ v2, PX n F bw b (doM s p) nots v2 → Fr (PS n F nots) v v2 → K () Q v2) → callW Tryz.prog k_packet_writer_keep [.pointer (some ⟨bw, 0, none⟩), .int .i64 p.1] [] K Q v' := by
  obtain ⟨G, hp, up, uf, un, us⟩ := h.use hn
  obtain ⟨h1, h2, h3⟩ := PW.put (Q := Q) hp
  refine ⟨_, h1, h2, fun p v' K hw f hk => h3 p v' hw f fun v2 hp2 f2 => hk v2 (up _ _ hp2 f2.size) (uf _ f2)⟩
theorem PX.ptr (h : PX n F bw b s nots v) {K : Option Addr → W R} (hk : K (some ⟨b, 0, none⟩) Q v) : ld (.sc .ptr) (Addr.add ⟨bw, 0, none⟩ 0) K Q v := by
  obtain ⟨G, h1, _⟩ := h
  exact h1.ptr hk
theorem PX.rdp (h : PX n F bw b s nots v) : Rd v (Addr.add ⟨bw, 0, none⟩ 0) (.sc .ptr) (some ⟨b, 0, none⟩) := by
  obtain ⟨G, h1, _⟩ := h
  exact h1.2.2.1.rd (s := .ptr) (i := 0) rfl
end
def idM (p : WS × Int) (id : Int) : WS × Int := (varM p.1 (idD p.2 id), id)
def goneW (s : WS) (l : List Int) : WS := (l.foldl idM (varM s l.length, 0)).1
def setsM (was : List Ent) (id : Int) (s : WS) (l : List Comp) : WS := l.foldl (fun s c => doM s (putS s.1 (oldM was id c.1) c)) s
def chgM1 (was : List Ent) (p : WS × Int) (d : Chg) : WS × Int :=
  (setsM was d.1 (compsM (plainM (plainM (plainM (varM p.1 (idD p.2 d.1)) d.2.1 5) (maskN d.2.2.1) 5) (maskN d.2.2.2) 5) d.2.2.1) d.2.2.2, d.1)
def chgsW (was : List Ent) (s : WS) (l : List Chg) : WS := (l.foldl (chgM1 was) (varM s l.length, 0)).1
def deltaW (was : List Ent) (s : WS) (gone : List Int) (come : List Ent) (chg : List Chg) : WS := chgsW was (entsW (goneW s gone) come) chg
def ChgFit (d : Chg) : Prop := (0 ≤ d.1 ∧ d.1 ≤ 4294967295) ∧ (0 ≤ d.2.1 ∧ d.2.1 ≤ 255) ∧ (d.2.2.1.length ≤ 1048576 ∧ ∀ c ∈ d.2.2.1, CompOk c) ∧ (d.2.2.2.length ≤ 1048576 ∧ ∀ c ∈ d.2.2.2, CompOk c)
theorem oldM_ok {was : List Ent} (hL : ∀ e ∈ was, EntFit e) (id k : Int) : CompOk (oldM was id k) := by
  have z : CompOk (0, 0, 0, 0) := by unfold CompOk i32; simp
  unfold oldM
  split
  · rename_i i hi
    cases he : was[i]? with
    | none => exact z
    | some e =>
      simp only [Option.bind_some]
      cases hf : e.2.find? (fun c => c.1 == k) with
      | none => exact z
      | some c => exact (hL e (List.mem_of_getElem? he)).2.2 c (List.mem_of_find?_eq_some hf)
  · exact z
theorem spec_packet_delta {bw b : Nat} {s : WS} {F : Nat → Prop} (h : PW bw b s F w) {okw ok : Nat → Prop} {sw : Sl} {raws : List (Int × Sl)} {was : List Ent} (hS : SlT okw w entT sw raws) (hE : EntsR okw w raws was) (hr : was.Pairwise fun a b => a.1 < b.1) (hm : was.length ≤ 1048576) (hL : ∀ e ∈ was, EntFit e) (hd1 : ∀ k, k < w.heap.size → okw k → ¬ F k)
    {d : DRaw} {gone : List Int} {come : List Ent} {chg : List Chg} (D : DltR ok w d gone come chg) (hd2 : ∀ k, k < w.heap.size → ok k → ¬ F k) (hg : gone.length ≤ 1048576 ∧ ∀ x ∈ gone, 0 ≤ x ∧ x ≤ 4294967295) (hc : come.length ≤ 1048576 ∧ ∀ e ∈ come, EntFit e) (hh : chg.length ≤ 1048576 ∧ ∀ c ∈ chg, ChgFit c)
    {K : Res [] → W R} (hk : ∀ w', PW bw b (deltaW was s gone come chg) (Gw F w w') w' → Fr F w w' → K () Q w') :
    callW Tryz.prog k_packet_writer_delta [.pointer (some ⟨bw, 0, none⟩), .slice sw.a sw.n sw.c, .agg ⟨[.slice d.1.a d.1.n d.1.c, .slice d.2.1.a d.2.1.n d.2.1.c, .slice d.2.2.a d.2.2.n d.2.2.c]⟩] [] K Q w := by
  refine C_packet_writer_delta _ sw d K Q w ?_
  unfold F_packet_writer_delta
  have hF := h.2.1
  have hS0 : SlT (fun k => okw k ∧ k < w.heap.size) w entT sw raws := hS.mono fun k hk e => ⟨e, hk⟩
  have hE0 : EntsR (fun k => okw k ∧ k < w.heap.size) w raws was := hE.mono fun k hk e => ⟨e, hk⟩
  have D0 : DltR (fun k => ok k ∧ k < w.heap.size) w d gone come chg := DltR.st.mono D fun k hk e => ⟨e, hk⟩
  obtain ⟨Dg, ⟨rc, Dc, DcE⟩, ⟨rd, Dd, DdE⟩⟩ := D0
  have no1 : ∀ k, okw k ∧ k < w.heap.size → ¬ (F k ∨ w.heap.size ≤ k) := fun k e e2 => by
    rcases e2 with e2 | e2
    · exact hd1 k e.2 e.1 e2
    · omega
  have no2 : ∀ k, ok k ∧ k < w.heap.size → ¬ (F k ∨ w.heap.size ≤ k) := fun k e e2 => by
    rcases e2 with e2 | e2
    · exact hd2 k e.2 e.1 e2
    · omega
  have lg := Dg.len
  have lc := DcE.len
  have lc' := Dc.len
  have ld' := Dd.len
  have ldE := DdE.len
  refine newI fun w1 B1 f1 t1 => fldI B1 (i := 0) (x := d.1) rfl ?_
  have X1 : PX w.heap.size F bw b s [w.heap.size] w1 := (PX.of h).more f1 (Nat.le_refl _) (by omega)
  rw [lg]
  refine X1.count (by omega) (by omega) fun w2 X2 f2 => ?_
  have z2 := f2.size
  have B2 := B1.fr f2 fun e => e.2 (by simp)
  have g2 : Fr (fun k => F k ∨ w.heap.size ≤ k) w w2 := f1.any.then (f2.sub fun k e => e.1)
  refine newI fun w3 B3 f3 t3 => stoAll B3 rfl rfl fun w4 B4 f4 t4 => ?_
  have f24 : Fr None w2 w4 := f3.newer f4 fun k e => by omega
  have X4 : PX w.heap.size F bw b (varM s gone.length) [w2.heap.size, w.heap.size] w4 := (X2.more f3 (Nat.le_refl _) (by omega)).frN (by simp) f4
  have B24 := B2.fr f24 fun h => h
  have g4 := g2.then0 f24
  refine fldI B24 (i := 0) (x := d.1) rfl ?_
  have hx1 : w.heap.size ≠ w2.heap.size := by omega
  generalize hbl : w2.heap.size = bl at B4 X4 hx1
  generalize hbx : w.heap.size = bx at B24 X4 hx1
  have hn4 := g4.size
  have ps : ∀ {l : List Nat} (k : Nat), PS bx F l k → F k ∨ w.heap.size ≤ k := fun k e => by rw [hbx]; exact e.1
  have psl : ∀ {l : List Nat} (k : Nat), PS bx F l k ∨ k = bl → F k ∨ w.heap.size ≤ k := fun k e => by
    rcases e with e | e
    · exact ps k e
    · exact .inr (by omega)
  have nx : ∀ {l : List Nat}, bx ∈ l → ¬ PS bx F l bx := fun hl e => e.2 hl
  refine forI (N := d.1.n) (fun s : Int => s) (fun j i v => i = (j : Int) ∧ PX bx F bw b ((gone.take j).foldl idM (varM s gone.length, 0)).1 [bl, bx] v ∧ Blk v bl 54 [.int .u32 ((gone.take j).foldl idM (varM s gone.length, 0)).2] ∧ Blk v bx 80 [.slice d.1.a d.1.n d.1.c, .slice d.2.1.a d.2.1.n d.2.1.c, .slice d.2.2.a d.2.2.n d.2.2.c] ∧ Fr (fun k => F k ∨ w.heap.size ≤ k) w v)
    ⟨rfl, X4, B4, B24, g4⟩ (fun j s w' h => h.1) ?_ ?_
  · rintro j i v K' hj ⟨rfl, X, Bl, Bx, fv⟩ - hK
    have hnv := fv.size
    refine (Dg.fr fv no2).get rfl rfl (by omega) fun x hx => ?_
    refine X.id (by omega) (by simp) Bl fun v2 X2 Bl2 e2 => ?_
    have efold : (gone.take (j + 1)).foldl idM (varM s gone.length, 0) = idM ((gone.take j).foldl idM (varM s gone.length, 0)) x := by rw [take_at hx, List.foldl_append]; rfl
    refine hK _ _ ⟨wsucc hj (by omega), ?_, ?_, Bx.fr e2 fun e => ?_, fv.then (e2.sub psl)⟩
    · rw [efold]; exact X2
    · rw [efold]; exact Bl2
    · rcases e with e | e
      · exact nx (by simp) e
      · exact hx1 e
  rintro i v5 ⟨_, X5, Bl5, Bx5, g5⟩
  rw [List.take_of_length_le (by omega)] at X5
  have hn5 := g5.size
  refine fldI Bx5 (i := 1) (x := d.2.1) rfl ?_
  refine X5.ents (by omega) (Dc.fr g5 no2) (DcE.fr g5 no2) (fun k e => by rw [← hbx]; exact no2 k e) hc.2 hc.1 fun v6 X6 f6 => ?_
  have g6 := g5.then (f6.sub fun k e => ps k e)
  have hn6 := g6.size
  have Bx6 := Bx5.fr f6 (nx (by simp))
  have Bl6 := Bl5.fr f6 fun e => e.2 (by simp)
  refine fldI Bx6 (i := 2) (x := d.2.2) rfl ?_
  rw [ld', ldE]
  refine X6.count (by omega) (by omega) fun v7 X7 f7 => ?_
  have g7 := g6.then (f7.sub fun k e => ps k e)
  have hn7 := g7.size
  have Bx7 := Bx6.fr f7 (nx (by simp))
  have Bl7 := Bl6.fr f7 fun e => e.2 (by simp)
  refine stoAll Bl7 rfl rfl fun v8 Bl8 f8 t8 => ?_
  have X8 := X7.frN (by simp) f8
  have g8 := g7.then (f8.sub fun k e => .inr (by omega))
  have hn8 := g8.size
  have Bx8 := Bx7.fr f8 hx1
  refine fldI Bx8 (i := 2) (x := d.2.2) rfl ?_
  generalize hs0 : entsW (goneW s gone) come = s0 at *
  have hs0' : entsW (List.foldl idM (varM s gone.length, 0) gone).1 come = s0 := hs0
  rw [hs0'] at X8
  refine forI (N := d.2.2.n) (fun s : Int => s) (fun j i v => i = (j : Int) ∧ PX bx F bw b ((chg.take j).foldl (chgM1 was) (varM s0 chg.length, 0)).1 [bl, bx] v ∧ Blk v bl 54 [.int .u32 ((chg.take j).foldl (chgM1 was) (varM s0 chg.length, 0)).2] ∧ Fr (fun k => F k ∨ w.heap.size ≤ k) w v)
    ⟨rfl, X8, Bl8, g8⟩ (fun j s w' h => h.1) ?_ ?_
  · rintro j i v K' hj ⟨rfl, X, Bl, fv⟩ - hK
    obtain ⟨c, hcj⟩ : ∃ c, chg[j]? = some c := ⟨_, List.getElem?_eq_getElem (by omega)⟩
    obtain ⟨r, hrj, q1, q2, q3, q4⟩ := DdE.get hcj
    obtain ⟨⟨i0, i1⟩, ⟨o0, o1⟩, ⟨n0, n1⟩, ⟨m0, m1⟩⟩ := hh.2 c (List.mem_of_getElem? hcj)
    have efold : (chg.take (j + 1)).foldl (chgM1 was) (varM s0 chg.length, 0) = chgM1 was ((chg.take j).foldl (chgM1 was) (varM s0 chg.length, 0)) c := by rw [take_at hcj, List.foldl_append]; rfl
    generalize (chg.take j).foldl (chgM1 was) (varM s0 chg.length, 0) = p at X Bl efold
    have hnv := fv.size
    refine (Dd.fr fv no2).get rfl rfl (by omega) fun y hy => ?_
    rw [hrj] at hy
    cases hy
    refine newI fun v1 C1 e1 u1 => stoAll C1 rfl rfl fun v2 C2 e2 u2 => ?_
    have e12 : Fr None v v2 := e1.newer e2 fun k e => by omega
    have X2 : PX bx F bw b p.1 [v.heap.size, bl, bx] v2 := (X.more e1 (Nat.le_refl _) (by omega)).frN (by simp) e2
    have Bl2 := Bl.fr e12 fun h => h
    have fv2 := fv.then0 e12
    have hbv := Bl.lt
    generalize hbc : v.heap.size = bc at C2 X2 hbv
    have hnv2 := fv2.size
    refine fldI C2 (i := 0) (x := r.1) rfl ?_
    rw [q1]
    refine X2.id (by omega) (by simp) Bl2 fun v3 X3 Bl3 e3 => ?_
    have C3 := C2.fr e3 fun e => by
      rcases e with e | e
      · exact e.2 (by simp)
      · omega
    have fd : Fr None v3 v3.drew := (Fr.refl _ _).drew
    have X3 := X3.fr0 fd
    have C3 := C3.fr fd fun h => h
    have Bl3 := Bl3.fr fd fun h => h
    have fv3 := (fv2.then (e3.sub psl)).then0 fd
    have hnv3 := fv3.size
    refine fldI C3 (i := 1) (x := r.2.1) rfl (fldI C3 (i := 2) (x := r.2.2.1) rfl (fldI C3 (i := 3) (x := r.2.2.2) rfl ?_))
    rw [q2]
    refine spec_schema_Mask (q3.fr fv3 no2) n0 n1 fun v4 e4 => ?_
    have C4 := C3.fr e4 fun h => h
    have c1 : ∀ {u : World}, Blk u bc 86 [.int .u32 r.1, .int .u8 r.2.1, .slice r.2.2.1.a r.2.2.1.n r.2.2.1.c, .slice r.2.2.2.a r.2.2.2.n r.2.2.2.c] → Rd u (Addr.add ⟨bc, 0, none⟩ 1) (.sc (.int .u8)) c.2.1 := fun B => by rw [← q2]; exact B.rd (s := .int .u8) (i := 1) (x := r.2.1) rfl
    refine andI (C4.rd (s := .sl) (i := 3) (x := r.2.2.2) rfl) (andI (c1 C4) ?_)
    refine spec_schema_Mask (q4.fr (fv3.then0 e4) no2) m0 m1 fun v5 e5 => andI (c1 (C4.fr e5 fun h => h)) ?_
    refine newI fun v6 M6 e6 u6 => ?_
    have e36 := (e4.then0 e5).then0 e6
    have X6 := (X3.fr0 (e4.then0 e5)).more e6 (Nat.le_refl _) (by omega)
    have C6 := C3.fr e36 fun h => h
    have Bl6 := Bl3.fr e36 fun h => h
    have fv6 := fv3.then0 e36
    have hnv6 := fv6.size
    have hb5 : bx < v5.heap.size ∧ bl < v5.heap.size ∧ bc < v5.heap.size := by
      have a1 := e36.size; have a2 := e5.size; have a3 := e4.size
      have a4 := C3.lt; have a5 := Bl3.lt
      omega
    generalize hbm : v5.heap.size = bm at M6 X6 hb5
    have hbm' : w.heap.size ≤ bm := by omega
    refine forI (N := 3) (fun s : Int => s) (fun j i u => i = (j : Int) ∧ PX bx F bw b (([c.2.1, (maskN c.2.2.1 : Int), (maskN c.2.2.2 : Int)].take j).foldl (fun s m => plainM s m 5) (varM p.1 (idD p.2 c.1))) [bm, bc, bl, bx] u ∧ Blk u bm 5 [.int .u8 c.2.1, .int .u8 (maskN c.2.2.1 : Int), .int .u8 (maskN c.2.2.2 : Int)] ∧ Blk u bc 86 [.int .u32 r.1, .int .u8 r.2.1, .slice r.2.2.1.a r.2.2.1.n r.2.2.1.c, .slice r.2.2.2.a r.2.2.2.n r.2.2.2.c] ∧ Blk u bl 54 [.int .u32 c.1] ∧ Fr (fun k => F k ∨ w.heap.size ≤ k) w u)
      ⟨rfl, X6, M6, C6, Bl6, fv6⟩ (fun j s w' h => h.1) ?_ ?_
    · rintro q i u K2 hq ⟨rfl, Xu, Mu, Cu, Lu, fu⟩ - hK2
      have hnu := fu.size
      refine idxB (by omega) (by omega) ?_
      have mk1 := maskN_lt c.2.2.1
      have mk2 := maskN_lt c.2.2.2
      have go : ∀ {x : Int}, [c.2.1, (maskN c.2.2.1 : Int), (maskN c.2.2.2 : Int)][q]? = some x → 0 ≤ x ∧ x ≤ 255 → callW Tryz.prog k_packet_writer_plain [.pointer (some ⟨bw, 0, none⟩), .int .u64 (IntKind.wrap .u64 x), .int .i64 5] [] (fun (_ : Unit) => K2 (IntKind.wrap .i64 ((q : Int) + 1))) (fun r w => K r Q w) u := by
        intro x hx h01
        rw [wU64 (x := x) (by omega)]
        refine Xu.plain (by omega) (by omega) (by decide) fun u2 X2 g2 => ?_
        refine hK2 _ _ ⟨wsucc hq (by omega), ?_, Mu.fr g2 fun e => e.2 (by simp), Cu.fr g2 fun e => e.2 (by simp), Lu.fr g2 fun e => e.2 (by simp), fu.then (g2.sub fun k e => ps k e)⟩
        rw [take_at hx, List.foldl_append]
        exact X2
      rcases (show q = 0 ∨ q = 1 ∨ q = 2 by omega) with rfl | rfl | rfl
      · exact fld0 Mu (i := 0) (x := c.2.1) rfl (go rfl (by omega))
      · exact fld0 Mu (i := 1) (x := (maskN c.2.2.1 : Int)) rfl (go rfl (by omega))
      · exact fld0 Mu (i := 2) (x := (maskN c.2.2.2 : Int)) rfl (go rfl (by omega))
    rintro i u ⟨_, Xu, Mu, Cu, Lu, fu⟩
    have hnu := fu.size
    refine fldI Cu (i := 2) (x := r.2.2.1) rfl ?_
    have dis : ∀ k, ok k ∧ k < w.heap.size → k ∈ [bm, bc, bl, bx] ∨ ¬ (F k ∨ bx ≤ k) := fun k e => .inr (by rw [← hbx]; exact no2 k e)
    refine Xu.comps (by omega) (q3.fr fu no2) dis n1 n0 fun u1 Xu1 g1 => ?_
    have Cu1 := Cu.fr g1 fun e => e.2 (by simp)
    have Lu1 := Lu.fr g1 fun e => e.2 (by simp)
    have fu1 := fu.then (g1.sub fun k e => ps k e)
    have hnu1 := fu1.size
    refine fldI Cu1 (i := 3) (x := r.2.2.2) rfl ?_
    have lm := q4.len
    generalize hs1 : compsM (plainM (plainM (plainM (varM p.1 (idD p.2 c.1)) c.2.1 5) (maskN c.2.2.1) 5) (maskN c.2.2.2) 5) c.2.2.1 = s1 at *
    have hs1' : compsM (List.foldl (fun s m => plainM s m 5) (varM p.1 (idD p.2 c.1)) ([c.2.1, (maskN c.2.2.1 : Int), (maskN c.2.2.2 : Int)].take 3)) c.2.2.1 = s1 := hs1
    rw [hs1'] at Xu1
    refine forI (N := r.2.2.2.n) (fun s : Int => s) (fun j i u => i = (j : Int) ∧ PX bx F bw b (setsM was c.1 s1 (c.2.2.2.take j)) [bc, bl, bx] u ∧ Blk u bc 86 [.int .u32 r.1, .int .u8 r.2.1, .slice r.2.2.1.a r.2.2.1.n r.2.2.1.c, .slice r.2.2.2.a r.2.2.2.n r.2.2.2.c] ∧ Blk u bl 54 [.int .u32 c.1] ∧ Fr (fun k => F k ∨ w.heap.size ≤ k) w u)
      ⟨rfl, Xu1.less (by simp), Cu1, Lu1, fu1⟩ (fun j s w' h => h.1) ?_ ?_
    · rintro q i u K2 hq ⟨rfl, Xu, Cu, Lu, fu⟩ - hK2
      have hnu := fu.size
      refine (q4.fr fu no2).get rfl rfl (by omega) fun x hx => ?_
      have esets : setsM was c.1 s1 (c.2.2.2.take (q + 1)) = doM (setsM was c.1 s1 (c.2.2.2.take q)) (putS (setsM was c.1 s1 (c.2.2.2.take q)).1 (oldM was c.1 x.1) x) := by unfold setsM; rw [take_at hx, List.foldl_append]; rfl
      refine newI fun u2 E2 g2 y2 => stoAll E2 rfl rfl fun u3 E3 g3 y3 => ?_
      have g23 : Fr None u u3 := g2.newer g3 fun k e => by omega
      have fd : Fr None u3 u3.drew := (Fr.refl _ _).drew
      have g2d := g23.then0 fd
      have X3 := Xu.fr0 g2d
      have C3 := Cu.fr g2d fun h => h
      have L3 := Lu.fr g2d fun h => h
      have E3 := E3.fr fd fun h => h
      have fu3 := fu.then0 g2d
      have hnu3 := fu3.size
      refine ptrI (X3.ptr (fldI C3 (i := 0) (x := r.1) rfl (fldI E3 (i := 0) (x := x.1) rfl (aggI E3 (x := x) rfl ?_))))
      rw [q1]
      refine spec_packet_old (hS0.fr fu3 no1) (hE0.fr fu3 no1) hr (by omega) (fun e he => by have := (hL e he).2.1; omega) fun u4 g4 => ?_
      have X4 := X3.fr0 g4
      have E4 := E3.fr g4 fun h => h
      have hx2 := m1 x (List.mem_of_getElem? hx)
      refine andI (fun j v hj => ?_) (andI X4.rdp ?_)
      · rw [add_lit, E4.cell, Nat.zero_add]
        exact hj
      have fu4 := fu3.then0 g4
      have hnu4 := fu4.size
      obtain ⟨G, hw, hG, hk3⟩ := X4.bits (Q := (fun r w => K r Q w)) (by omega)
      refine spec_comp_PutStep hw (oldM_ok hL c.1 x.1) hx2 hG fun u5 hw5 g5 => hk3 _ u5 hw5 g5 fun u6 X6 g6 => ?_
      refine hK2 _ _ ⟨wsucc hq (by omega), ?_, (C3.fr g4 fun h => h).fr g6 fun e => e.2 (by simp), (L3.fr g4 fun h => h).fr g6 fun e => e.2 (by simp), fu4.then (g6.sub fun k e => ps k e)⟩
      rw [esets]
      exact X6
    rintro i u2 ⟨_, X2, C2, L2, fu2⟩
    rw [List.take_of_length_le (by omega)] at X2
    refine hK _ _ ⟨wsucc hj (by omega), ?_, ?_, fu2⟩
    · rw [efold]
      show PX bx F bw b (setsM was c.1 (compsM (plainM (plainM (plainM (varM p.1 (idD p.2 c.1)) c.2.1 5) (maskN c.2.2.1) 5) (maskN c.2.2.2) 5) c.2.2.1) c.2.2.2) [bl, bx] u2
      rw [hs1]
      exact X2.less (by simp)
    · rw [efold]
      exact L2
  rintro i v9 ⟨_, X9, _, g9⟩
  rw [List.take_of_length_le (by omega)] at X9
  refine hk v9 ?_ ((Fr.refl F w).exS g9 fun k e => e)
  subst hbx
  have := X9.done hF g9.size
  rw [deltaW, hs0]
  exact this
end Go.Proofs.YtchhhjlpnecjkaaGreat
namespace Go.Proofs.YtchhhjlpnecjkaaGreat
open Go Go.RowKit Go.Proofs.YtchhhjlpnecjkaaGreat.Den
variable {R : Type} {Q : R → World → Prop} {w : World}
def headE (h : Head) : Int :=
  if h.1 < 1 ∨ 5 < h.1 ∨ 16 ≤ h.2.1 then 1
  else if h.2.2.1 = 0 ∨ (3 < h.1 ∧ h.2.2.2.1 ≠ 0) ∨ (h.1 ≠ 2 ∧ h.2.2.2.2 ≠ 0) ∨ (h.1 = 2 ∧ h.2.2.2.1 ≤ h.2.2.2.2) then 4
  else 0
theorem bne_dec (x : Int) : (x != 0) = decide (x ≠ 0) := by by_cases h : x = 0 <;> simp [h]
theorem spec_packet_Check {h : Head} {K : Res [.sc (.int .i64)] → W R} (hk : ∀ w', Fr None w w' → K (headE h) Q w') :
    callW Tryz.prog k_packet_Check [.agg ⟨[.int .u8 h.1, .int .u8 h.2.1, .int .u32 h.2.2.1, .int .u32 h.2.2.2.1, .int .u32 h.2.2.2.2]⟩] [.sc (.int .i64)] K Q w := by
  refine C_packet_Check h K Q w ?_
  unfold F_packet_Check
  unfold headE at hk
  refine newI fun w1 B f1 s1 => ?_
  refine joinI (fun z w' => z = decide (h.1 < 1 ∨ 5 < h.1 ∨ 16 ≤ h.2.1) ∧ w' = w1) ?_ ?_
  · refine fldI B (i := 0) (x := h.1) rfl (condD (fun a => ⟨(decide_eq_true (.inl a)).symm, rfl⟩) fun a => ?_)
    refine fldI B (i := 0) (x := h.1) rfl (condD (fun b => ⟨(decide_eq_true (.inr (.inl b))).symm, rfl⟩) fun b => ?_)
    refine fldI B (i := 1) (x := h.2.1) rfl ⟨?_, rfl⟩
    have b : ¬ 5 < h.1 := b
    simp [a, b]
  rintro z w2 ⟨rfl, rfl⟩
  refine condD (fun a => ?_) fun a => ?_
  · rw [if_pos a] at hk
    exact hk w2 f1
  rw [if_neg a] at hk
  refine fldI B (i := 0) (x := h.1) rfl (fldI B (i := 2) (x := h.2.2.1) rfl ?_)
  refine joinI (fun z w' => z = decide (h.2.2.1 = 0 ∨ (3 < h.1 ∧ h.2.2.2.1 ≠ 0) ∨ (h.1 ≠ 2 ∧ h.2.2.2.2 ≠ 0) ∨ (h.1 = 2 ∧ h.2.2.2.1 ≤ h.2.2.2.2)) ∧ w' = w2) ?_ ?_
  · refine condE (fun b => ⟨by simp [b], rfl⟩) fun b => ?_
    refine joinI (fun z w' => z = decide (3 < h.1 ∧ h.2.2.2.1 ≠ 0) ∧ w' = w2) ?_ ?_
    · refine condI (fun c => fldI B (i := 3) (x := h.2.2.2.1) rfl ⟨?_, rfl⟩) fun c => ⟨?_, rfl⟩
      · have c : ¬ h.1 ≤ 3 := by simpa using c
        have c2 : 3 < h.1 := by omega
        rw [bne_dec]
        simp [c2]
      · have c : h.1 ≤ 3 := by simpa using c
        have c2 : ¬ 3 < h.1 := by omega
        simp [c2]
    rintro z w3 ⟨rfl, rfl⟩
    refine joinI (fun z w' => z = decide ((3 < h.1 ∧ h.2.2.2.1 ≠ 0) ∨ (h.1 ≠ 2 ∧ h.2.2.2.2 ≠ 0) ∨ (h.1 = 2 ∧ h.2.2.2.1 ≤ h.2.2.2.2)) ∧ w' = w3) ?_ ?_
    · refine condD (fun c => ⟨by rw [decide_eq_true c, decide_eq_true (.inl c)], rfl⟩) fun c => ?_
      refine joinI (fun z w' => z = decide (h.1 ≠ 2 ∧ h.2.2.2.2 ≠ 0) ∧ w' = w3) ?_ ?_
      · refine fldI B (i := 0) (x := h.1) rfl (condN (fun d => fldI B (i := 4) (x := h.2.2.2.2) rfl ⟨by rw [bne_dec]; simp [d], rfl⟩) fun d => ⟨by simp [d], rfl⟩)
      rintro z w4 ⟨rfl, rfl⟩
      refine joinI (fun z w' => z = decide ((h.1 ≠ 2 ∧ h.2.2.2.2 ≠ 0) ∨ (h.1 = 2 ∧ h.2.2.2.1 ≤ h.2.2.2.2)) ∧ w' = w4) ?_ ?_
      · refine condD (fun d => ⟨by rw [decide_eq_true d, decide_eq_true (.inl d)], rfl⟩) fun d => ?_
        refine joinI (fun z w' => z = decide (h.1 = 2 ∧ h.2.2.2.1 ≤ h.2.2.2.2) ∧ w' = w4) ?_ ?_
        · refine fldI B (i := 0) (x := h.1) rfl (condE (fun e => fldI B (i := 4) (x := h.2.2.2.2) rfl (fldI B (i := 3) (x := h.2.2.2.1) rfl ⟨by simp [e], rfl⟩)) fun e => ⟨by simp [e], rfl⟩)
        rintro z w5 ⟨rfl, rfl⟩
        exact ⟨by simp only [d, false_or], rfl⟩
      rintro z w5 ⟨rfl, rfl⟩
      exact ⟨by simp only [c, false_or], rfl⟩
    rintro z w4 ⟨rfl, rfl⟩
    exact ⟨by simp only [b, false_or], rfl⟩
  rintro z w3 ⟨rfl, rfl⟩
  refine condD (fun b => ?_) fun b => ?_
  · rw [if_pos b] at hk
    exact hk w3 f1
  · rw [if_neg b] at hk
    exact hk w3 f1
end Go.Proofs.YtchhhjlpnecjkaaGreat
