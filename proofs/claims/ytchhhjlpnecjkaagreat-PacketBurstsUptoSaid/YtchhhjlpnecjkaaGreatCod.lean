/-
  comp: components as bits.
-/
import Derived.Test.YtchhhjlpnecjkaaGreatBitM
import Derived.Test.YtchhhjlpnecjkaaGreatRng
import Derived.Lib.ItoaNum
import Derived.Test.YtchhhjlpnecjkaaGreatRef10
namespace Go.Proofs.YtchhhjlpnecjkaaGreat
open Go Go.RowKit Go.Proofs.YtchhhjlpnecjkaaGreat.Den
variable {R : Type} {Q : R → World → Prop} {w : World}

/-! ### a number with a sign -/
def zigM (n : Int) : Int := if 0 ≤ n then 2 * n else -2 * n - 1
theorem xor_0 {x : Int} (h0 : 0 ≤ x) (h1 : x ≤ 18446744073709551615) : bXor .u64 x 0 = x := by
  unfold bXor
  rw [BitVec.toNat_xor, BitVec.toNat_ofInt, BitVec.toNat_ofInt]
  have e1 : (0 % ((2 ^ IntKind.bits .u64 : Nat) : Int)).toNat = 0 := by decide
  have e2 : (x % ((2 ^ IntKind.bits .u64 : Nat) : Int)).toNat = x.toNat := by
    have : ((2 ^ IntKind.bits .u64 : Nat) : Int) = 18446744073709551616 := by decide
    rw [this]; omega
  rw [e1, e2, Nat.xor_zero, IntKind.wrap_u64]
  omega
theorem xor_ones {x : Int} (h0 : 0 ≤ x) (h1 : x ≤ 18446744073709551615) : bXor .u64 x 18446744073709551615 = 18446744073709551615 - x := by
  change IntKind.wrap .u64 (((BitVec.ofInt 64 x ^^^ BitVec.ofInt 64 18446744073709551615).toNat : Nat) : Int) = _
  have e : BitVec.ofInt 64 18446744073709551615 = BitVec.allOnes 64 := by decide
  rw [e, BitVec.xor_allOnes, BitVec.toNat_not, BitVec.toNat_ofInt]
  have e2 : (x % ((2 ^ 64 : Nat) : Int)).toNat = x.toNat := by
    have : ((2 ^ 64 : Nat) : Int) = 18446744073709551616 := by decide
    rw [this]; omega
  rw [e2, IntKind.wrap_u64]
  omega
theorem spec_nums_Zig {n : Int} (hn : -4611686018427387904 ≤ n ∧ n ≤ 4611686018427387903) {K : Res [.sc (.int .u64)] → W R} (hk : K (zigM n) Q w) : callW Tryz.prog k_nums_Zig [.int .i64 n] [.sc (.int .u64)] K Q w := by
  refine C_nums_Zig _ K Q w ?_
  unfold F_nums_Zig
  have e1 : shL .i64 n 1 = n * 2 := by
    unfold shL
    have : (2 : Int) ^ (min (Int.toNat 1) (IntKind.bits .i64)) = 2 := by decide
    rw [this, w64 (by omega)]
  have e2 : shR .i64 n 63 = if 0 ≤ n then 0 else -1 := by
    unfold shR
    have : (2 : Int) ^ (min (Int.toNat 63) (IntKind.bits .i64)) = 9223372036854775808 := by decide
    rw [this, Int.fdiv_eq_ediv_of_nonneg _ (by decide)]
    split <;> omega
  rw [e1, e2]
  unfold zigM at hk
  by_cases h : 0 ≤ n
  · rw [if_pos h] at hk ⊢
    have : bXor .u64 (IntKind.wrap .u64 (n * 2)) (IntKind.wrap .u64 0) = 2 * n := by
      rw [wU64 (by omega), wU64 (by omega), xor_0 (by omega) (by omega)]
      omega
    rw [this]
    exact hk
  · rw [if_neg h] at hk ⊢
    have : bXor .u64 (IntKind.wrap .u64 (n * 2)) (IntKind.wrap .u64 (-1)) = -2 * n - 1 := by
      have a1 : IntKind.wrap .u64 (-1) = 18446744073709551615 := by decide
      have a2 : IntKind.wrap .u64 (n * 2) = 18446744073709551616 + n * 2 := by rw [IntKind.wrap_u64]; omega
      rw [a1, a2, xor_ones (by omega) (by omega)]
      omega
    rw [this]
    exact hk

/-! ### parts -/
abbrev Part := Int × Int
abbrev partT : Ty := .agg [.int .u64, .int .i64]
def fieldP (c : Comp) (i : Nat) : Part := (IntKind.wrap .u64 (fl c i - (rangeM c.1 (i : Int)).1), (widthM (rangeM c.1 (i : Int)).1 (rangeM c.1 (i : Int)).2.1 : Int))
def wholeP (c : Comp) : List Part := (List.range (cntM c.1)).map (fieldP c)
def oneP (was c : Comp) (i : Nat) : List Part :=
  if zigM (fl c i - fl was i) = 0 then [(0, 1)] else if zigM (fl c i - fl was i) ≤ 16 then [(1, 1), (1, 1), (zigM (fl c i - fl was i) - 1, 4)] else [(1, 1), (0, 1), fieldP c i]
def stepP (was c : Comp) : List Part := (List.range (cntM c.1)).flatMap (oneP was c)
def sizeP (l : List Part) : Int := l.foldl (fun n p => n + p.2) 0
def partsB (l : List Part) : List Bool := l.flatMap fun p => bitsOf p.1.toNat p.2.toNat
def PartOk (p : Part) : Prop := (0 ≤ p.1 ∧ p.1.toNat < 2 ^ p.2.toNat) ∧ 0 ≤ p.2 ∧ p.2 ≤ 64
theorem parts_ty : SlTy Tryz.prog 202 231 partT 16 := slTy (by kernel_rfl)
theorem flI {c : Comp} (h : CompOk c) : ∀ i, -2147483648 ≤ fl c i ∧ fl c i ≤ 2147483647
  | 0 => h.2.1
  | 1 => h.2.2.1
  | _ + 2 => h.2.2.2
theorem rangeM_i32 (k i : Int) : (-2147483648 ≤ (rangeM k i).1 ∧ (rangeM k i).1 ≤ 2147483647) ∧ (-2147483648 ≤ (rangeM k i).2.1 ∧ (rangeM k i).2.1 ≤ 2147483647) := by
  unfold rangeM
  split
  · split
    · rename_i p hp
      have hm := List.mem_of_getElem? hp
      unfold fieldsM at hm
      repeat' split at hm
      all_goals first
        | (simp only [List.mem_cons, List.not_mem_nil, or_false] at hm; rcases hm with rfl | rfl | rfl <;> decide)
        | (simp only [List.mem_cons, List.not_mem_nil, or_false] at hm; rcases hm with rfl | rfl <;> decide)
        | (simp only [List.mem_cons, List.not_mem_nil, or_false] at hm; subst hm; decide)
        | simp at hm
    · decide
  · decide
theorem spec_comp_field {c : Comp} (hc : CompOk c) {i : Nat} (hi : i < 3) {K : Res [.agg [.int .u64, .int .i64]] → W R} (hk : ∀ w', Fr None w w' → K (fieldP c i) Q w') :
    callW Tryz.prog k_comp_field [.agg ⟨compC c⟩, .int .i64 (i : Int)] [.agg [.int .u64, .int .i64]] K Q w := by
  refine C_comp_field c _ K Q w ?_
  unfold F_comp_field
  refine newI fun w1 B1 f1 s1 => newI fun w2 B2 f2 s2 => ?_
  have B1 := B1.fr f2 fun h => h
  refine fldI B1 (i := 0) (x := c.1) rfl (spec_schema_Range fun w3 f3 => ?_)
  have fd : Fr None w3 w3.drew := (Fr.refl _ _).drew
  have B1 := (B1.fr f3 fun h => h).fr fd fun h => h
  have B2 := (B2.fr f3 fun h => h).fr fd fun h => h
  refine fIdx (j := i) rfl hi (fld0 B1 (x := fl c i) (compC_fl c hi) ?_)
  obtain ⟨r1, r2⟩ := rangeM_i32 c.1 (i : Int)
  have hf := flI hc i
  rw [w64 (x := (rangeM c.1 (i : Int)).1) (by omega), w64 (x := (rangeM c.1 (i : Int)).2.1) (by omega), w64 (x := fl c i) (by omega), w64 (x := fl c i - _) (by omega)]
  refine spec_nums_Width (by omega) (by omega) (andI ?_ ?_)
  · exact (B1.cell (1 + i)).trans (compC_fl c hi)
  · refine stoAll B2 rfl rfl fun w4 B4 f4 s4 => aggI B4 (x := fieldP c i) rfl ?_
    exact hk w4 ((((f1.then0 f2).then0 f3).then0 fd).newer f4 fun k e => by omega)
theorem spec_schema_Count {k : Int} {K : Res [.sc (.int .i64)] → W R} (hk : ∀ w', Fr None w w' → K ((cntM k : Nat) : Int) Q w') : callW Tryz.prog k_schema_Count [.int .u8 k] [.sc (.int .i64)] K Q w := by
  refine C_schema_Count _ K Q w ?_
  unfold F_schema_Count
  refine spec_schema_of fun s w1 hS f1 => ?_
  have hn : s.n = cntM k := hS.len
  show K ((s.n : Nat) : Int) Q w1
  rw [hn]
  exact hk w1 f1
theorem spec_comp_whole {c : Comp} (hc : CompOk c) {K : Res [.sc .sl] → W R} (hk : ∀ r w', Own (Up w.heap.size) w' 231 partT r (wholeP c) → Fr None w w' → K r Q w') :
    callW Tryz.prog k_comp_whole [.agg ⟨compC c⟩] [.sc .sl] K Q w := by
  refine C_comp_whole c K Q w ?_
  unfold F_comp_whole
  refine newI fun w1 B1 f1 s1 => ?_
  have h3 := cntM_le c.1
  refine fldI B1 (i := 0) (x := c.1) rfl (spec_schema_Count fun w2 f2 => ?_)
  refine forI (N := cntM c.1) (fun s : Sl × Int => s.2) (fun j s w' => s.2 = (j : Int) ∧ Own (fun k => w.heap.size ≤ k ∧ k ≠ w.heap.size) w' 231 partT s.1 ((List.range j).map (fieldP c)) ∧ Blk w' w.heap.size 92 (compC c) ∧ Fr None w w') ⟨rfl, Own.nil _ _ _ _, B1.fr f2 fun h => h, f1.then0 f2⟩ (fun j s w' h => h.1) ?_ ?_
  · rintro j ⟨z, _⟩ w3 K' hj ⟨rfl, o3, B3, f3⟩ - hK
    have hs3 := f3.size
    refine aggI B3 (x := c) rfl (spec_comp_field hc (by omega) fun w4 f4 => ?_)
    have hs4 := f4.size
    refine appP (x := fieldP c j) parts_ty rfl (o3.none f4) (fun k e => ⟨by omega, by have := B3.lt; omega⟩) (by simp; omega) (by simp; omega) fun r w5 o5 f5 => ?_
    have hr : (List.range (j + 1)).map (fieldP c) = (List.range j).map (fieldP c) ++ [fieldP c j] := by rw [List.range_succ, List.map_append]; rfl
    refine hK _ _ ⟨wsucc hj (by omega), by rw [hr]; exact o5, ?_, (f3.then0 f4).newer f5 fun k e => (o3.own k e).1⟩
    exact (B3.fr f4 fun h => h).fr f5 fun e => (o3.own _ e).2 rfl
  · rintro ⟨z, _⟩ w3 ⟨_, o3, _, f3⟩
    exact hk z w3 (o3.mono fun k _ e => e.1) f3


theorem spec_comp_more {was c : Comp} (hw : CompOk was) (hc : CompOk c) {i : Nat} (hi : i < 3) {K : Res [.sc (.int .u64)] → W R} (hk : ∀ w', Fr None w w' → K (zigM (fl c i - fl was i)) Q w') :
    callW Tryz.prog k_comp_more [.agg ⟨compC was⟩, .agg ⟨compC c⟩, .int .i64 (i : Int)] [.sc (.int .u64)] K Q w := by
  refine C_comp_more was c _ K Q w ?_
  unfold F_comp_more
  refine newI fun w1 B1 f1 s1 => newI fun w2 B2 f2 s2 => ?_
  have fd : Fr None w2 w2.drew := (Fr.refl _ _).drew
  have B1 := (B1.fr f2 fun h => h).fr fd fun h => h
  have B2 := B2.fr fd fun h => h
  have a := flI hc i
  have b := flI hw i
  refine fIdx (j := i) rfl hi (fld0 B2 (x := fl c i) (compC_fl c hi) (fIdx (j := i) rfl hi (fld0 B1 (x := fl was i) (compC_fl was hi) ?_)))
  rw [w64 (x := fl c i) (by omega), w64 (x := fl was i) (by omega), w64 (x := fl c i - fl was i) (by omega)]
  exact spec_nums_Zig (by omega) (hk _ ((f1.then0 f2).then0 fd))
theorem oneP_len (was c : Comp) (i : Nat) : (oneP was c i).length ≤ 3 := by
  unfold oneP
  split
  · simp
  · split <;> simp
theorem stepPs_len (was c : Comp) (j : Nat) : ((List.range j).flatMap (oneP was c)).length ≤ 3 * j := by
  induction j with
  | zero => simp
  | succ j ih =>
    rw [List.range_succ, List.flatMap_append, List.length_append]
    have := oneP_len was c j
    simp only [List.flatMap_cons, List.flatMap_nil, List.append_nil]
    omega
theorem spec_comp_step {was c : Comp} (hw : CompOk was) (hc : CompOk c) {K : Res [.sc .sl] → W R} (hk : ∀ r w', Own (Up w.heap.size) w' 231 partT r (stepP was c) → Fr None w w' → K r Q w') :
    callW Tryz.prog k_comp_step [.agg ⟨compC was⟩, .agg ⟨compC c⟩] [.sc .sl] K Q w := by
  refine C_comp_step was c K Q w ?_
  unfold F_comp_step
  refine newI fun w1 B1 f1 s1 => newI fun w2 B2 f2 s2 => ?_
  have B1 := B1.fr f2 fun h => h
  have h3 := cntM_le c.1
  refine fldI B2 (i := 0) (x := c.1) rfl (spec_schema_Count fun w3 f3 => ?_)
  have fs := (f1.then0 f2).then0 f3
  refine forI (N := cntM c.1) (fun s : Sl × Int => s.2) (fun j s w' => s.2 = (j : Int) ∧ Own (fun k => w.heap.size ≤ k ∧ k ≠ w.heap.size ∧ k ≠ w1.heap.size) w' 231 partT s.1 ((List.range j).flatMap (oneP was c)) ∧ Blk w' w.heap.size 92 (compC was) ∧ Blk w' w1.heap.size 92 (compC c) ∧ Fr None w w') ⟨rfl, Own.nil _ _ _ _, B1.fr f3 fun h => h, B2.fr f3 fun h => h, fs⟩ (fun j s w' h => h.1) ?_ ?_
  · rintro j ⟨z, _⟩ w4 K' hj ⟨rfl, o4, B14, B24, f4⟩ - hK
    have hl1 := B14.lt
    have hl2 := B24.lt
    refine aggI B14 (x := was) rfl (aggI B24 (x := c) rfl (spec_comp_more hw hc (by omega) fun w5 f5 => ?_))
    have hs5 := f5.size
    have o5 := o4.none f5
    have B15 := B14.fr f5 fun h => h
    have B25 := B24.fr f5 fun h => h
    have hpl := stepPs_len was c j
    refine joinI (fun (z : Sl) w' => Own (fun k => w.heap.size ≤ k ∧ k ≠ w.heap.size ∧ k ≠ w1.heap.size) w' 231 partT z ((List.range j).flatMap (oneP was c) ++ oneP was c j) ∧ Blk w' w.heap.size 92 (compC was) ∧ Blk w' w1.heap.size 92 (compC c) ∧ Fr None w w') ?_ ?_
    · have app : ∀ {z5 : Sl} {v : World} {ps : List Part} {cs : List Value} {n : Nat} {R2 : Type} {K2 : Sl → W R2} {Q2 : R2 → World → Prop}, Fr None w v → Blk v w.heap.size 92 (compC was) → Blk v w1.heap.size 92 (compC c) → Own (fun k => w.heap.size ≤ k ∧ k ≠ w.heap.size ∧ k ≠ w1.heap.size) v 231 partT z5 ((List.range j).flatMap (oneP was c)) → cs = ps.flatMap partT.cells → cs.length = ps.length * 2 → n = ps.length → ps.length ≤ 3 →
          (∀ r v', Own (fun k => w.heap.size ≤ k ∧ k ≠ w.heap.size ∧ k ≠ w1.heap.size) v' 231 partT r ((List.range j).flatMap (oneP was c) ++ ps) → Blk v' w.heap.size 92 (compC was) → Blk v' w1.heap.size 92 (compC c) → Fr None w v' → K2 r Q2 v') →
          newW 231 cs (fun a => rawW Tryz.prog (Builtin.append_ #[202, 202] 202 #[.slice z5.a z5.n z5.c, .slice (some a) n n]) [.sc .sl] K2) Q2 v := by
        intro z5 v ps cs n R2 K2 Q2 fv V1 V2 ov hcs hcl hn hp hk2
        have hsv := fv.size
        refine newI fun v1 Bv g1 t1 => ?_
        subst hn
        have lit : Own (fun _ => True) v1 231 partT ⟨some ⟨v.heap.size, 0, none⟩, ps.length, ps.length⟩ ps := Own.mk' (S := fun _ => True) (E := 231) (t := partT) (l := ps) (g := v.heap.size) (c := ps.length) (cur := ⟨cs⟩) trivial Bv (Nat.le_refl _) (by rw [maxLen_eq]; omega) hcl (by rw [hcs, show partT.size = 2 from rfl, ← hcl, hcs]; exact List.take_length)
        refine appI (s := z5) (s2 := ⟨some ⟨v.heap.size, 0, none⟩, ps.length, ps.length⟩) (S' := fun k => w.heap.size ≤ k ∧ k ≠ w.heap.size ∧ k ≠ w1.heap.size) parts_ty (ov.none g1) lit.sl (by omega) (by rw [maxLen_eq]; omega) (fun _ h => h) ⟨by have := g1.size; omega, by have := V1.lt; have := g1.size; omega, by have := V2.lt; have := g1.size; omega⟩ fun r v2 o2 g2 _ => ?_
        exact hk2 r v2 o2 ((V1.fr g1 fun h => h).fr g2 fun e => (ov.own _ e).2.1 rfl) ((V2.fr g1 fun h => h).fr g2 fun e => (ov.own _ e).2.2 rfl) ((fv.then0 g1).newer g2 fun k e => (ov.own k e).1)
      refine condE (fun hz => ?_) fun hz => ?_
      · have e : oneP was c j = [(0, 1)] := by rw [oneP, if_pos hz]
        rw [e]
        refine app (z5 := z) (ps := [(0, 1)]) (n := 1) (f4.then0 f5) B15 B25 o5 rfl rfl rfl (by simp) ?_
        exact fun r v' o b1 b2 f => ⟨o, b1, b2, f⟩
      · refine joinI (fun (z : Sl) w' => Own (fun k => w.heap.size ≤ k ∧ k ≠ w.heap.size ∧ k ≠ w1.heap.size) w' 231 partT z ((List.range j).flatMap (oneP was c) ++ oneP was c j) ∧ Blk w' w.heap.size 92 (compC was) ∧ Blk w' w1.heap.size 92 (compC c) ∧ Fr None w w') ?_ fun z w' h => h
        refine condD (fun h16 => ?_) fun h16 => ?_
        · have e : oneP was c j = [(1, 1), (1, 1), (zigM (fl c j - fl was j) - 1, 4)] := by rw [oneP, if_neg hz, if_pos h16]
          have hz0 : 0 ≤ zigM (fl c j - fl was j) := by unfold zigM; split <;> omega
          have ew : IntKind.wrap .u64 (zigM (fl c j - fl was j) - 1) = zigM (fl c j - fl was j) - 1 := wU64 (by omega)
          rw [e, ew]
          refine app (z5 := z) (ps := [(1, 1), (1, 1), (zigM (fl c j - fl was j) - 1, 4)]) (n := 3) (f4.then0 f5) B15 B25 o5 rfl rfl rfl (by simp) ?_
          exact fun r v' o b1 b2 f => ⟨o, b1, b2, f⟩
        · have e : oneP was c j = [(1, 1), (0, 1), fieldP c j] := by rw [oneP, if_neg hz, if_neg h16]
          rw [e]
          refine aggI B25 (x := c) rfl (spec_comp_field hc (by omega) fun w6 f6 => ?_)
          refine app (z5 := z) (ps := [(1, 1), (0, 1), fieldP c j]) (n := 3) ((f4.then0 f5).then0 f6) (B15.fr f6 fun h => h) (B25.fr f6 fun h => h) (o5.none f6) rfl rfl rfl (Nat.le_refl 3) ?_
          exact fun r v' o b1 b2 f => ⟨o, b1, b2, f⟩
    · rintro z w6 ⟨o6, b1, b2, f6⟩
      have hr : (List.range (j + 1)).flatMap (oneP was c) = (List.range j).flatMap (oneP was c) ++ oneP was c j := by rw [List.range_succ, List.flatMap_append]; simp
      exact hK _ _ ⟨wsucc hj (by omega), by rw [hr]; exact o6, b1, b2, f6⟩
  · rintro ⟨z, _⟩ w4 ⟨_, o4, _, _, f4⟩
    exact hk z w4 (o4.mono fun k _ e => e.1) f4

end Go.Proofs.YtchhhjlpnecjkaaGreat

namespace Go.Proofs.YtchhhjlpnecjkaaGreat
open Go Go.RowKit Go.Proofs.YtchhhjlpnecjkaaGreat.Den
variable {R : Type} {Q : R → World → Prop} {w : World}

theorem partsB_snoc (l : List Part) (p : Part) : partsB (l ++ [p]) = partsB l ++ bitsOf p.1.toNat p.2.toNat := by simp [partsB]
theorem partsB_take {l : List Part} {j : Nat} {p : Part} (h : l[j]? = some p) : partsB (l.take (j + 1)) = partsB (l.take j) ++ bitsOf p.1.toNat p.2.toNat := by rw [take_at h, partsB_snoc]
theorem partsB_le {l : List Part} (j : Nat) : (partsB (l.take j)).length ≤ (partsB l).length := by
  conv => rhs; rw [← List.take_append_drop j l]
  unfold partsB
  rw [List.flatMap_append, List.length_append]
  omega
theorem partsB_small {l : List Part} (hP : ∀ p ∈ l, PartOk p) : (partsB l).length ≤ 64 * l.length := by
  induction l with
  | nil => simp [partsB]
  | cons p r ih =>
    have h1 := ih fun q hq => hP q (List.mem_cons_of_mem _ hq)
    have h2 := (hP p List.mem_cons_self).2
    unfold partsB at h1 ⊢
    simp only [List.flatMap_cons, List.length_append, bitsOf_len, List.length_cons]
    omega
theorem spec_comp_size {ok : Nat → Prop} {s : Sl} {l : List Part} (hS : SlT ok w partT s l) (hP : ∀ p ∈ l, PartOk p) (hl : l.length ≤ 100) {K : Res [.sc (.int .i64)] → W R} (hk : ∀ w', Fr None w w' → K ((partsB l).length : Int) Q w') :
    callW Tryz.prog k_comp_size [.slice s.a s.n s.c] [.sc (.int .i64)] K Q w := by
  refine C_comp_size s K Q w ?_
  unfold F_comp_size
  have hlen := hS.len
  refine forI (N := s.n) (fun s : Int × Int => s.2) (fun j s w' => s = (((partsB (l.take j)).length : Int), (j : Int)) ∧ Fr None w w') ⟨rfl, Fr.refl _ _⟩ (fun j s w' h => by rw [h.1]) ?_ ?_
  · rintro j s1 w1 K' hj ⟨rfl, f1⟩ - hK
    refine (hS.fr0 f1).get rfl rfl (by omega) fun p hp => ?_
    refine newI fun w2 B2 f2 s2 => stoAll B2 rfl rfl fun w3 B3 f3 s3 => fldI B3 (i := 1) (x := p.2) rfl ?_
    have hpo := (hP p (List.mem_of_getElem? hp)).2
    have hsm := partsB_small (l := l.take j) fun q hq => hP q (List.mem_of_mem_take hq)
    rw [List.length_take] at hsm
    refine hK _ _ ⟨?_, f1.then0 (f2.newer f3 fun k e => by omega)⟩
    rw [wsucc hj (by omega), partsB_take hp, List.length_append, bitsOf_len, w64 (by omega)]
    have : (((partsB (l.take j)).length : Nat) : Int) + p.2 = (((partsB (l.take j)).length + p.2.toNat : Nat) : Int) := by omega
    rw [this]
  · rintro s1 w1 ⟨rfl, f1⟩
    rw [List.take_of_length_le (by omega)]
    exact hk w1 f1
def putP (L : List Bool) (l : List Part) : Int × List Bool := if 1048576 < L.length + (partsB l).length then (3, L) else (0, L ++ partsB l)
theorem spec_comp_put {b : Nat} {L : List Bool} {F : Nat → Prop} (h : Wr b L F w) {ok : Nat → Prop} {s : Sl} {l : List Part} (hS : SlT ok w partT s l) (hd : ∀ k, k < w.heap.size → ok k → ¬ F k) (hP : ∀ p ∈ l, PartOk p) (hl : l.length ≤ 100) {K : Res [.sc (.int .i64)] → W R}
    (hk : ∀ w', Wr b (putP L l).2 (Ex F w) w' → Fr F w w' → K (putP L l).1 Q w') : callW Tryz.prog k_comp_put [.pointer (some ⟨b, 0, none⟩), .slice s.a s.n s.c] [.sc (.int .i64)] K Q w := by
  refine C_comp_put _ s K Q w ?_
  unfold F_comp_put
  have hlen := hS.len
  have hL := h.1
  have hsm := partsB_small hP
  refine spec_bits_Len h (spec_comp_size hS hP hl fun w1 f1 => ?_)
  have hs1 := f1.size
  rw [w64 (by omega)]
  unfold putP at hk
  have h1 := Wr.st.fr0 h f1
  refine condD (fun h3 => ?_) fun h3 => ?_
  · have h3 : (1048576 : Int) < (L.length : Int) + ((partsB l).length : Int) := h3
    rw [if_pos (by omega)] at hk
    exact hk w1 (Wr.st.mono h1 fun k _ e => .inl e) f1.any
  have h3 : ¬ (1048576 : Int) < (L.length : Int) + ((partsB l).length : Int) := h3
  rw [if_neg (by omega)] at hk
  have hS0 : SlT (fun k => ok k ∧ k < w.heap.size) w partT s l := hS.mono fun k hk e => ⟨e, hk⟩
  refine forI (N := s.n) (fun s : Int => s) (fun j i w' => i = (j : Int) ∧ Wr b (L ++ partsB (l.take j)) (Ex F w) w' ∧ Fr F w w') ⟨rfl, by rw [List.take_zero]; simp only [partsB, List.flatMap_nil, List.append_nil]; exact Wr.st.mono h1 fun k _ e => .inl e, f1.any⟩ (fun j s w' h => h.1) ?_ ?_
  · rintro j i w2 K' hj ⟨rfl, hw, f2⟩ - hK
    have hs2 := f2.size
    refine (hS0.fr f2 fun k e e2 => hd k e.2 e.1 e2).get rfl rfl (by omega) fun p hp => ?_
    refine newI fun w3 B3 f3 s3 => stoAll B3 rfl rfl fun w4 B4 f4 s4 => fldI B4 (i := 0) (x := p.1) rfl (fldI B4 (i := 1) (x := p.2) rfl ?_)
    have f24 : Fr None w2 w4 := f3.newer f4 fun k e => by omega
    have hs4 := f24.size
    obtain ⟨⟨hp1, hp2⟩, hp3, hp4⟩ := hP p (List.mem_of_getElem? hp)
    have hle := partsB_le (l := l) (j + 1)
    rw [partsB_take hp, List.length_append, bitsOf_len] at hle
    have ep : putB (L ++ partsB (l.take j)) p.1 p.2 = (0, L ++ partsB (l.take (j + 1))) := by
      rw [putB, if_neg (by omega), if_neg, if_neg (by rw [List.length_append]; omega)]
      · rw [partsB_take hp, List.append_assoc]
      · rintro ⟨_, h⟩
        exact h (Nat.div_eq_of_lt hp2)
    have h64 : p.1.toNat < 2 ^ 64 := Nat.lt_of_lt_of_le hp2 (Nat.pow_le_pow_right (by decide) (by omega))
    refine spec_bits_Put (Wr.st.fr0 hw f24) (v := p.1) (n := p.2) (by omega) (by omega) fun w5 hw5 f5 => ?_
    rw [ep] at hw5
    have hs5 := f5.size
    refine hK _ _ ⟨wsucc hj (by omega), Wr.st.mono hw5 fun k _ e => ?_, (f2.then0 f24).exS f5 fun k e => e⟩
    rcases e with e | e
    · exact e
    · exact .inr (by omega)
  · rintro i w2 ⟨rfl, hw, f2⟩
    rw [List.take_of_length_le (by omega)] at hw
    exact hk w2 hw f2

/-! ### what is right has parts that fit -/
theorem width_lt {lo hi x : Int} (h1 : lo ≤ x) (h2 : x ≤ hi) (h3 : hi - lo ≤ 18446744073709551615) : (x - lo).toNat < 2 ^ widthM lo hi := by
  unfold widthM
  rw [if_neg (by omega)]
  by_cases h0 : (hi - lo).toNat = 0
  · have : (x - lo).toNat = 0 := by omega
    rw [this]
    exact Nat.two_pow_pos _
  · have := (Lib.bitLenAux_bounds 64 (hi - lo).toNat (by omega) h0).2.2
    have e : (x - lo).toNat ≤ (hi - lo).toNat := by omega
    exact Nat.lt_of_le_of_lt e this
theorem width_le {lo hi : Int} (h3 : hi - lo ≤ 18446744073709551615) : widthM lo hi ≤ 64 := by
  unfold widthM
  split
  · decide
  · exact Lib.bitLen_le _ 64 (by decide) (by omega)
theorem check_at {c : Comp} (h : checkM c = 0) {i : Nat} (hi : i < cntM c.1) : (rangeM c.1 (i : Int)).1 ≤ fl c i ∧ fl c i ≤ (rangeM c.1 (i : Int)).2.1 := by
  have h3 := cntM_le c.1
  have hall : (List.range 3).all (inR c) = true := by
    unfold checkM at h
    split at h
    · cases h
    · split at h
      · cases h
      · split at h
        · assumption
        · cases h
  have := List.all_eq_true.1 hall i (List.mem_range.2 (by omega))
  unfold inR at this
  obtain ⟨p, hp⟩ : ∃ p, (fieldsM c.1)[i]? = some p := ⟨_, List.getElem?_eq_getElem hi⟩
  rw [hp] at this
  simp only [Bool.and_eq_true, decide_eq_true_eq] at this
  unfold rangeM
  rw [if_pos (by omega), Int.toNat_natCast, hp]
  exact this
theorem fieldP_ok {c : Comp} (h : checkM c = 0) {i : Nat} (hi : i < cntM c.1) : PartOk (fieldP c i) := by
  obtain ⟨h1, h2⟩ := check_at h hi
  obtain ⟨r1, r2⟩ := rangeM_i32 c.1 (i : Int)
  have hw := width_le (lo := (rangeM c.1 (i : Int)).1) (hi := (rangeM c.1 (i : Int)).2.1) (by omega)
  have hl := width_lt h1 h2 (by omega)
  unfold PartOk fieldP
  dsimp only
  rw [wU64 (by omega), Int.toNat_natCast]
  exact ⟨⟨by omega, hl⟩, by omega, by omega⟩
theorem wholeP_ok {c : Comp} (h : checkM c = 0) : ∀ p ∈ wholeP c, PartOk p := fun p hp => by
  obtain ⟨i, hi, rfl⟩ := List.mem_map.1 hp
  exact fieldP_ok h (List.mem_range.1 hi)
theorem stepP_ok {was c : Comp} (h : checkM c = 0) : ∀ p ∈ stepP was c, PartOk p := fun p hp => by
  obtain ⟨i, hi, hp⟩ := List.mem_flatMap.1 hp
  have hi := List.mem_range.1 hi
  have hz0 : 0 ≤ zigM (fl c i - fl was i) := by unfold zigM; split <;> omega
  unfold oneP at hp
  split at hp
  · simp only [List.mem_singleton] at hp
    subst hp
    exact ⟨⟨by decide, by decide⟩, by decide, by decide⟩
  · split at hp
    · simp only [List.mem_cons, List.not_mem_nil, or_false] at hp
      rcases hp with rfl | rfl | rfl
      · exact ⟨⟨by decide, by decide⟩, by decide, by decide⟩
      · exact ⟨⟨by decide, by decide⟩, by decide, by decide⟩
      · refine ⟨⟨by dsimp only; omega, ?_⟩, (by decide : (0 : Int) ≤ 4), (by decide : (4 : Int) ≤ 64)⟩
        show (zigM (fl c i - fl was i) - 1).toNat < 2 ^ (4 : Int).toNat
        rw [show (2 : Nat) ^ (4 : Int).toNat = 16 from rfl]
        omega
    · simp only [List.mem_cons, List.not_mem_nil, or_false] at hp
      rcases hp with rfl | rfl | rfl
      · exact ⟨⟨by decide, by decide⟩, by decide, by decide⟩
      · exact ⟨⟨by decide, by decide⟩, by decide, by decide⟩
      · exact fieldP_ok h hi

/-! ### a component, and one behind another one -/
def putC (L : List Bool) (c : Comp) : Int × List Bool := if checkM c ≠ 0 then (checkM c, L) else putP L (wholeP c)
theorem spec_comp_Put {b : Nat} {L : List Bool} {F : Nat → Prop} (h : Wr b L F w) {c : Comp} (hc : CompOk c) (hF : ∀ k, F k → k < w.heap.size) {K : Res [.sc (.int .i64)] → W R} (hk : ∀ w', Wr b (putC L c).2 (Ex F w) w' → Fr F w w' → K (putC L c).1 Q w') :
    callW Tryz.prog k_comp_Put [.pointer (some ⟨b, 0, none⟩), .agg ⟨compC c⟩] [.sc (.int .i64)] K Q w := by
  refine C_comp_Put _ c K Q w ?_
  unfold F_comp_Put
  refine newI fun w1 B1 f1 s1 => condF rfl (aggI B1 (x := c) rfl (spec_schema_Check fun w2 f2 => ?_))
  have f02 := f1.then0 f2
  have hs2 := f02.size
  unfold putC at hk
  refine condN (fun hne => ?_) fun heq => ?_
  · rw [if_pos hne] at hk
    exact hk w2 (Wr.st.mono (Wr.st.fr0 h f02) fun k _ e => .inl e) f02.any
  · rw [if_neg (by omega)] at hk
    refine aggI (B1.fr f2 fun h => h) (x := c) rfl (spec_comp_whole hc fun r w3 o3 f3 => ?_)
    have f03 := f02.then0 f3
    have hs3 := f03.size
    refine spec_comp_put (Wr.st.fr0 h f03) o3.sl (fun k _ e e2 => by have e : w2.heap.size ≤ k := e; have := hF k e2; omega) (wholeP_ok (by omega)) (by have := cntM_le c.1; simp [wholeP]; omega) fun w4 hw f4 => ?_
    exact hk w4 (Wr.st.mono hw fun k _ e => e.imp id fun e => by omega) ((f03.any).exS f4 fun k e => .inl e)
def pairM (was c : Comp) : Int := if checkM was ≠ 0 then checkM was else if checkM c ≠ 0 then checkM c else if was.1 = c.1 then 0 else 4
theorem spec_comp_pair {was c : Comp} {K : Res [.sc (.int .i64)] → W R} (hk : ∀ w', Fr None w w' → K (pairM was c) Q w') : callW Tryz.prog k_comp_pair [.agg ⟨compC was⟩, .agg ⟨compC c⟩] [.sc (.int .i64)] K Q w := by
  refine C_comp_pair was c K Q w ?_
  unfold F_comp_pair
  unfold pairM at hk
  refine newI fun w1 B1 f1 s1 => newI fun w2 B2 f2 s2 => ?_
  have B1 := B1.fr f2 fun h => h
  refine aggI B1 (x := was) rfl (spec_schema_Check fun w3 f3 => ?_)
  have f03 := (f1.then0 f2).then0 f3
  refine condN (fun hne => ?_) fun heq => ?_
  · rw [if_pos hne] at hk
    exact hk w3 f03
  rw [if_neg (by omega)] at hk
  have B1 := B1.fr f3 fun h => h
  have B2 := B2.fr f3 fun h => h
  refine aggI B2 (x := c) rfl (spec_schema_Check fun w4 f4 => ?_)
  refine condN (fun hne => ?_) fun heq2 => ?_
  · rw [if_pos hne] at hk
    exact hk w4 (f03.then0 f4)
  rw [if_neg (by omega)] at hk
  refine fldI (B1.fr f4 fun h => h) (i := 0) (x := was.1) rfl (fldI (B2.fr f4 fun h => h) (i := 0) (x := c.1) rfl ?_)
  refine condN (fun hne => ?_) fun heq3 => ?_
  · rw [if_neg hne] at hk
    exact hk w4 (f03.then0 f4)
  · rw [if_pos heq3] at hk
    exact hk w4 (f03.then0 f4)
def putS (L : List Bool) (was c : Comp) : Int × List Bool := if pairM was c ≠ 0 then (pairM was c, L) else putP L (stepP was c)
theorem spec_comp_PutStep {b : Nat} {L : List Bool} {F : Nat → Prop} (h : Wr b L F w) {was c : Comp} (hw : CompOk was) (hc : CompOk c) (hF : ∀ k, F k → k < w.heap.size) {K : Res [.sc (.int .i64)] → W R} (hk : ∀ w', Wr b (putS L was c).2 (Ex F w) w' → Fr F w w' → K (putS L was c).1 Q w') :
    callW Tryz.prog k_comp_PutStep [.pointer (some ⟨b, 0, none⟩), .agg ⟨compC was⟩, .agg ⟨compC c⟩] [.sc (.int .i64)] K Q w := by
  refine C_comp_PutStep _ was c K Q w ?_
  unfold F_comp_PutStep
  refine newI fun w0 B0 f0 s0 => newI fun w1 B1 f1 s1 => condF rfl ?_
  have B0 := B0.fr f1 fun h => h
  refine aggI B0 (x := was) rfl (aggI B1 (x := c) rfl (spec_comp_pair fun w2 f2 => ?_))
  have f02 := (f0.then0 f1).then0 f2
  have hs2 := f02.size
  unfold putS at hk
  refine condN (fun hne => ?_) fun heq => ?_
  · rw [if_pos hne] at hk
    exact hk w2 (Wr.st.mono (Wr.st.fr0 h f02) fun k _ e => .inl e) f02.any
  · rw [if_neg (by omega)] at hk
    have hc0 : checkM c = 0 := by
      unfold pairM at heq
      split at heq
      · omega
      · split at heq
        · omega
        · omega
    refine aggI (B0.fr f2 fun h => h) (x := was) rfl (aggI (B1.fr f2 fun h => h) (x := c) rfl (spec_comp_step hw hc fun r w3 o3 f3 => ?_))
    have f03 := f02.then0 f3
    have hs3 := f03.size
    have hl : (stepP was c).length ≤ 100 := by have := stepPs_len was c (cntM c.1); have := cntM_le c.1; unfold stepP; omega
    refine spec_comp_put (Wr.st.fr0 h f03) o3.sl (fun k _ e e2 => by have e : w2.heap.size ≤ k := e; have := hF k e2; omega) (stepP_ok hc0) hl fun w4 hw f4 => ?_
    exact hk w4 (Wr.st.mono hw fun k _ e => e.imp id fun e => by omega) ((f03.any).exS f4 fun k e => .inl e)

end Go.Proofs.YtchhhjlpnecjkaaGreat

namespace Go.Proofs.YtchhhjlpnecjkaaGreat
open Go Go.RowKit Go.Proofs.YtchhhjlpnecjkaaGreat.Den
variable {R : Type} {Q : R → World → Prop} {w : World}

abbrev WS := List Bool × Int
def keepM (e x : Int) : Int := if e = 0 then x else e
def doM (s : WS) (p : Int × List Bool) : WS := (p.2, keepM s.2 p.1)
/-- a writer of packets. -/
def PW (bw b : Nat) (s : WS) : OB := fun F w => F bw ∧ (∀ k, F k → k < w.heap.size) ∧ Blk w bw 102 [.pointer (some ⟨b, 0, none⟩), .int .i64 s.2] ∧ Wr b s.1 (fun k => F k ∧ k ≠ bw) w
section
variable {bw b : Nat} {s : WS} {F : Nat → Prop}
theorem PW.fr0 (h : PW bw b s F w) {w' : World} (f : Fr None w w') : PW bw b s F w' := by
  obtain ⟨h1, h2, h3, h4⟩ := h
  have := f.size
  exact ⟨h1, fun k e => by have := h2 k e; omega, h3.fr f fun h => h, Wr.st.fr0 h4 f⟩
/-- F, and what is new. -/
abbrev Gw (F : Nat → Prop) (w w' : World) : Nat → Prop := fun k => F k ∨ (w.heap.size ≤ k ∧ k < w'.heap.size)
theorem spec_packet_keep (h : PW bw b s F w) {x : Int} {K : Res [] → W R} (hk : ∀ w', PW bw b (s.1, keepM s.2 x) F w' → Fr F w w' → w'.heap.size = w.heap.size → K () Q w') :
    callW Tryz.prog k_packet_writer_keep [.pointer (some ⟨bw, 0, none⟩), .int .i64 x] [] K Q w := by
  refine C_packet_writer_keep _ _ K Q w ?_
  unfold F_packet_writer_keep
  obtain ⟨h1, h2, B, hw⟩ := h
  refine ptrI (fldI B (i := 1) (x := s.2) rfl ?_)
  refine joinI (fun (_ : Unit) w' => PW bw b (s.1, keepM s.2 x) F w' ∧ Fr F w w' ∧ w'.heap.size = w.heap.size) ?_ fun _ w' ⟨a, b, c⟩ => hk w' a b c
  refine condE (fun he => ?_) fun he => ?_
  · refine ptrI ?_
    rw [add_lit]
    refine setI (i := 1) B (by simp) rfl fun w2 B2 f2 s2 => ?_
    have e : keepM s.2 x = x := by rw [keepM, if_pos he]
    rw [e]
    exact ⟨⟨h1, fun k e => by rw [s2]; exact h2 k e, B2, Wr.st.fr hw f2 fun k e e2 => e.2 e2⟩, f2.sub fun k e => by rw [e]; exact h1, s2⟩
  · have e : keepM s.2 x = s.2 := by rw [keepM, if_neg he]
    rw [e]
    exact ⟨⟨h1, h2, B, hw⟩, Fr.refl _ _, rfl⟩
/-- bits are put, and what goes wrong is kept. -/
theorem PW.put (h : PW bw b s F w) : Wr b s.1 (fun k => F k ∧ k ≠ bw) w ∧ (∀ k, F k ∧ k ≠ bw → k < w.heap.size) ∧ ∀ (p : Int × List Bool) (w' : World) {K : Res [] → W R}, Wr b p.2 (Ex (fun k => F k ∧ k ≠ bw) w) w' → Fr (fun k => F k ∧ k ≠ bw) w w' →
    (∀ w2, PW bw b (doM s p) (Gw F w w2) w2 → Fr F w w2 → K () Q w2) → callW Tryz.prog k_packet_writer_keep [.pointer (some ⟨bw, 0, none⟩), .int .i64 p.1] [] K Q w' := by
  obtain ⟨h1, h2, B, hw⟩ := h
  refine ⟨hw, fun k e => h2 k e.1, fun p w' K hw' f hk => ?_⟩
  have hs := f.size
  have hbw := h2 bw h1
  have pw : PW bw b (p.2, s.2) (Gw F w w') w' := by
    refine ⟨.inl h1, fun k e => ?_, B.fr f fun e => e.2 rfl, Wr.st.mono hw' fun k hk e => ?_⟩
    · rcases e with e | e
      · have := h2 k e; omega
      · exact e.2
    · rcases e with e | e
      · exact ⟨.inl e.1, e.2⟩
      · exact ⟨.inr ⟨e, hk⟩, by omega⟩
  refine spec_packet_keep pw fun w2 hp f2 s2 => hk w2 ?_ ?_
  · have e : Gw F w w2 = Gw F w w' := by unfold Gw; rw [s2]
    rw [e]
    exact hp
  · exact (f.sub fun k e => e.1).exS f2 fun k e => by
      rcases e with e | e
      · exact .inl e
      · exact .inr e.1
theorem PW.fr (h : PW bw b s F w) {S : Nat → Prop} {w' : World} (f : Fr S w w') (hS : ∀ k, F k → ¬ S k) : PW bw b s F w' := by
  obtain ⟨h1, h2, h3, h4⟩ := h
  have := f.size
  exact ⟨h1, fun k e => by have := h2 k e; omega, h3.fr f (hS bw h1), Wr.st.fr h4 f fun k e => hS k e.1⟩
theorem PW.mono (h : PW bw b s F w) {F' : Nat → Prop} (hs : ∀ k, k < w.heap.size → F k → F' k) (hb : ∀ k, F' k → k < w.heap.size) : PW bw b s F' w := by
  obtain ⟨h1, h2, h3, h4⟩ := h
  exact ⟨hs bw h3.lt h1, hb, h3, Wr.st.mono h4 fun k hk e => ⟨hs k hk e.1, e.2⟩⟩
theorem PW.ptr (h : PW bw b s F w) {K : Option Addr → W R} (hk : K (some ⟨b, 0, none⟩) Q w) : ld (.sc .ptr) (Addr.add ⟨bw, 0, none⟩ 0) K Q w := fldI h.2.2.1 (i := 0) (x := some ⟨b, 0, none⟩) rfl hk
theorem PW.err (h : PW bw b s F w) {K : Int → W R} (hk : K s.2 Q w) : ld (.sc (.int .i64)) (Addr.add ⟨bw, 0, none⟩ 1) K Q w := fldI h.2.2.1 (i := 1) (x := s.2) rfl hk
/-- two turns are one. -/
theorem PW.two {w1 w2 w3 : World} {s' : WS} {G : Nat → Prop} (hG : ∀ k, G k → Gw F w w1 k) (h : PW bw b s' (Gw G w2 w3) w3) (h1 : w.heap.size ≤ w1.heap.size) (h2 : w1.heap.size ≤ w2.heap.size) (h3 : w2.heap.size ≤ w3.heap.size) (hF : ∀ k, F k → k < w.heap.size) : PW bw b s' (Gw F w w3) w3 :=
  h.mono (fun k hk e => by
    rcases e with e | e
    · rcases hG k e with e | e
      · exact .inl e
      · exact .inr (by omega)
    · exact .inr (by omega)) fun k e => by
    rcases e with e | e
    · have := hF k e; omega
    · exact e.2

def plainM (s : WS) (v n : Int) : WS := doM s (putB s.1 v n)
def varM (s : WS) (v : Nat) : WS := doM s (putVarM s.1 v)
theorem spec_packet_plain (h : PW bw b s F w) {v n : Int} (hv : 0 ≤ v ∧ v ≤ 18446744073709551615) (hn : -9223372036854775808 ≤ n ∧ n ≤ 9223372036854775807) {K : Res [] → W R} (hk : ∀ w', PW bw b (plainM s v n) (Gw F w w') w' → Fr F w w' → K () Q w') :
    callW Tryz.prog k_packet_writer_plain [.pointer (some ⟨bw, 0, none⟩), .int .u64 v, .int .i64 n] [] K Q w := by
  refine C_packet_writer_plain _ _ _ K Q w ?_
  unfold F_packet_writer_plain
  obtain ⟨hw, hF, hk2⟩ := h.put
  exact ptrI (h.ptr (spec_bits_Put hw hv hn fun w1 hw1 f1 => hk2 (putB s.1 v n) w1 hw1 f1 hk))
theorem spec_packet_count (h : PW bw b s F w) {n : Nat} (hn : (n : Int) ≤ 18446744073709551615) {K : Res [] → W R} (hk : ∀ w', PW bw b (varM s n) (Gw F w w') w' → Fr F w w' → K () Q w') :
    callW Tryz.prog k_packet_writer_count [.pointer (some ⟨bw, 0, none⟩), .int .i64 (n : Int)] [] K Q w := by
  refine C_packet_writer_count _ _ K Q w ?_
  unfold F_packet_writer_count
  obtain ⟨hw, hF, hk2⟩ := h.put
  refine ptrI (h.ptr ?_)
  rw [wU64 (x := (n : Int)) (by omega)]
  refine spec_nums_PutVar hw (by omega) fun w1 hw1 f1 => ?_
  rw [Int.toNat_natCast] at hw1 ⊢
  exact hk2 (putVarM s.1 n) w1 hw1 f1 hk
/-- one ID behind another one. -/
def idD (last id : Int) : Nat := ((id - last - 1) % 4294967296).toNat
theorem spec_packet_id (h : PW bw b s F w) {bl : Nat} {T : TypeId} {last id : Int} (B : Blk w bl T [.int .u32 last]) (hbl : ¬ F bl) {K : Res [] → W R}
    (hk : ∀ w', PW bw b (varM s (idD last id)) (Gw F w w') w' → Blk w' bl T [.int .u32 id] → Fr (fun k => F k ∨ k = bl) w w' → K () Q w') :
    callW Tryz.prog k_packet_writer_id [.pointer (some ⟨bw, 0, none⟩), .pointer (some ⟨bl, 0, none⟩), .int .u32 id] [] K Q w := by
  refine C_packet_writer_id _ _ _ K Q w ?_
  unfold F_packet_writer_id
  have fd : Fr None w w.drew := (Fr.refl _ _).drew
  have hd : PW bw b s F w.drew := h.fr0 fd
  have hlt := B.lt
  obtain ⟨hw, hF, hk2⟩ := hd.put
  refine ptrI (hd.ptr (ptrI (fld0 (B.fr fd fun h => h) (i := 0) (x := last) rfl ?_)))
  have e : IntKind.wrap .u64 (IntKind.wrap .u32 (IntKind.wrap .u32 (id - last) - 1)) = ((idD last id : Nat) : Int) := by
    have a : ∀ x : Int, IntKind.wrap .u32 x = x % 4294967296 := fun x => by rw [IntKind.wrap_u32]
    rw [a, a, wU64 (by omega)]
    unfold idD
    omega
  rw [e]
  have hv : idD last id < 4294967296 := by unfold idD; omega
  refine spec_nums_PutVar hw (v := (idD last id : Int)) (by omega) fun w1 hw1 f1 => ?_
  rw [Int.toNat_natCast] at hw1 ⊢
  refine hk2 (putVarM s.1 (idD last id)) w1 hw1 f1 fun w2 hp f2 => ptrI ?_
  have B2 := (B.fr fd fun h => h).fr f2 hbl
  refine setI (i := 0) B2 (by simp) rfl fun w3 B3 f3 s3 => ?_
  refine hk w3 ?_ B3 ((fd.any.then (f2.sub fun k e => .inl e)).then (f3.sub fun k e => .inr e))
  have h3 := PW.fr hp f3 fun k e e2 => by
    subst e2
    rcases e with e | e
    · exact hbl e
    · have : k < w.drew.heap.size := hlt
      omega
  refine h3.mono (fun k _ e => e.imp (fun h => h) fun e => ?_) fun k e => ?_
  · have : w.drew.heap.size = w.heap.size := rfl
    omega
  · rcases e with e | e
    · have := h.2.1 k e; have := f2.size; have : w.drew.heap.size = w.heap.size := rfl; omega
    · exact e.2
def compsM (s : WS) (l : List Comp) : WS := l.foldl (fun s c => doM s (putC s.1 c)) s
theorem spec_packet_comps (h : PW bw b s F w) {ok : Nat → Prop} {r : Sl} {l : List Comp} (hS : SlT ok w compT r l) (hd : ∀ k, k < w.heap.size → ok k → ¬ F k) (hc : ∀ c ∈ l, CompOk c) (hm : l.length ≤ 9223372036854775807) {K : Res [] → W R} (hk : ∀ w', PW bw b (compsM s l) (Gw F w w') w' → Fr F w w' → K () Q w') :
    callW Tryz.prog k_packet_writer_comps [.pointer (some ⟨bw, 0, none⟩), .slice r.a r.n r.c] [] K Q w := by
  refine C_packet_writer_comps _ r K Q w ?_
  unfold F_packet_writer_comps
  have hlen := hS.len
  have hFb := h.2.1
  have hS0 : SlT (fun k => ok k ∧ k < w.heap.size) w compT r l := hS.mono fun k hk e => ⟨e, hk⟩
  refine forI (N := r.n) (fun s : Int => s) (fun j i w' => i = (j : Int) ∧ PW bw b (compsM s (l.take j)) (Gw F w w') w' ∧ Fr F w w') ⟨rfl, h.mono (fun k _ e => .inl e) fun k e => by
    rcases e with e | e
    · exact hFb k e
    · omega, Fr.refl _ _⟩ (fun j s w' h => h.1) ?_ ?_
  · rintro j i w1 K' hj ⟨rfl, h1, f1⟩ - hK
    have hs1 := f1.size
    refine (hS0.fr f1 fun k e e2 => hd k e.2 e.1 e2).get rfl rfl (by omega) fun c hcj => ?_
    refine newI fun w2 B2 f2 s2 => stoAll B2 rfl rfl fun w3 B3 f3 s3 => ?_
    have f13 : Fr None w1 w3 := f2.newer f3 fun k e => by omega
    have fd : Fr None w3 w3.drew := (Fr.refl _ _).drew
    have f1d := f13.then0 fd
    have hs3 := f1d.size
    have h3 := h1.fr0 f1d
    obtain ⟨hw, hF, hk2⟩ := h3.put
    refine ptrI (h3.ptr (aggI (B3.fr fd fun h => h) (x := c) rfl ?_))
    refine spec_comp_Put hw (hc c (List.mem_of_getElem? hcj)) hF fun w4 hw4 f4 => hk2 (putC (compsM s (l.take j)).1 c) w4 hw4 f4 fun w5 hp f5 => ?_
    have hs5 := f5.size
    have e : compsM s (l.take (j + 1)) = doM (compsM s (l.take j)) (putC (compsM s (l.take j)).1 c) := by unfold compsM; rw [take_at hcj, List.foldl_append]; rfl
    refine hK _ _ ⟨wsucc hj (by omega), ?_, ?_⟩
    · rw [e]
      exact PW.two (fun k e => e) hp hs1 hs3 hs5 hFb
    · exact (f1.then0 f1d).exS f5 fun k e => e.imp id fun e => e.1
  · rintro i w1 ⟨rfl, h1, f1⟩
    rw [List.take_of_length_le (by omega)] at h1
    exact hk w1 h1 f1
end

end Go.Proofs.YtchhhjlpnecjkaaGreat

namespace Go.Proofs.YtchhhjlpnecjkaaGreat
open Go Go.RowKit Go.Proofs.YtchhhjlpnecjkaaGreat.Den
variable {R : Type} {Q : R → World → Prop} {w : World}
variable {bw b : Nat} {s : WS} {F : Nat → Prop}

/-- Kind, Client, Epoch, Tick, Base. -/
abbrev Head := Int × Int × Int × Int × Int
def HeadOk (h : Head) : Prop := (0 ≤ h.1 ∧ h.1 ≤ 255) ∧ (0 ≤ h.2.1 ∧ h.2.1 ≤ 255) ∧ (0 ≤ h.2.2.1 ∧ h.2.2.1 ≤ 4294967295) ∧ (0 ≤ h.2.2.2.1 ∧ h.2.2.2.1 ≤ 4294967295) ∧ (0 ≤ h.2.2.2.2 ∧ h.2.2.2.2 ≤ 4294967295)
def inM (s : WS) (n lo hi : Int) : WS := doM s (putInM s.1 n lo hi)
def headM (s : WS) (h : Head) : WS :=
  let s3 := varM (inM (inM s h.1 1 5) h.2.1 0 15) h.2.2.1.toNat
  let s4 := if h.1 ≤ 3 then plainM s3 h.2.2.2.1 32 else s3
  if h.1 = 2 then varM s4 (idD h.2.2.2.2 h.2.2.2.1) else s4
theorem PW.self (h : PW bw b s F w) : PW bw b s (Gw F w w) w := h.mono (fun k _ e => .inl e) fun k e => by
  rcases e with e | e
  · exact h.2.1 k e
  · omega
/-- a number of a range, by a pointer to the bits' writer. -/
theorem pw_in {w0 : World} (h : PW bw b s (Gw F w0 w) w) (h0 : w0.heap.size ≤ w.heap.size) (hF : ∀ k, F k → k < w0.heap.size) (f0 : Fr F w0 w) {n lo hi : Int} (h1 : -9223372036854775808 ≤ lo ∧ lo ≤ 9223372036854775807) (h2 : -9223372036854775808 ≤ hi ∧ hi ≤ 9223372036854775807) {K : Unit → W R}
    (hk : ∀ w', PW bw b (inM s n lo hi) (Gw F w0 w') w' → Fr F w0 w' → Fr (Gw F w0 w) w w' → K () Q w') :
    callW Tryz.prog k_nums_PutIn [.pointer (some ⟨b, 0, none⟩), .int .i64 n, .int .i64 lo, .int .i64 hi] [.sc (.int .i64)] (fun x => callW Tryz.prog k_packet_writer_keep [.pointer (some ⟨bw, 0, none⟩), .int .i64 x] [] K) Q w := by
  obtain ⟨hw, _, hk2⟩ := h.put
  refine spec_nums_PutIn hw h1 h2 fun w1 hw1 f1 => hk2 (putInM s.1 n lo hi) w1 hw1 f1 fun w2 hp f2 => ?_
  have hs := f2.size
  exact hk w2 (PW.two (fun k e => e) hp h0 (Nat.le_refl _) hs hF) (f0.exS f2 fun k e => e.imp (fun h => h) fun e => e.1) f2
/-- .. one from 0 on. -/
theorem pw_var {w0 : World} (h : PW bw b s (Gw F w0 w) w) (h0 : w0.heap.size ≤ w.heap.size) (hF : ∀ k, F k → k < w0.heap.size) (f0 : Fr F w0 w) {v : Nat} (hv : v < 18446744073709551616) {K : Unit → W R}
    (hk : ∀ w', PW bw b (varM s v) (Gw F w0 w') w' → Fr F w0 w' → Fr (Gw F w0 w) w w' → K () Q w') :
    callW Tryz.prog k_nums_PutVar [.pointer (some ⟨b, 0, none⟩), .int .u64 (v : Int)] [.sc (.int .i64)] (fun x => callW Tryz.prog k_packet_writer_keep [.pointer (some ⟨bw, 0, none⟩), .int .i64 x] [] K) Q w := by
  obtain ⟨hw, _, hk2⟩ := h.put
  refine spec_nums_PutVar hw (v := (v : Int)) (by omega) fun w1 hw1 f1 => ?_
  rw [Int.toNat_natCast] at hw1 ⊢
  refine hk2 (putVarM s.1 v) w1 hw1 f1 fun w2 hp f2 => ?_
  have hs := f2.size
  exact hk w2 (PW.two (fun k e => e) hp h0 (Nat.le_refl _) hs hF) (f0.exS f2 fun k e => e.imp (fun h => h) fun e => e.1) f2
theorem pw_plain {w0 : World} (h : PW bw b s (Gw F w0 w) w) (h0 : w0.heap.size ≤ w.heap.size) (hF : ∀ k, F k → k < w0.heap.size) (f0 : Fr F w0 w) {v n : Int} (hv : 0 ≤ v ∧ v ≤ 18446744073709551615) (hn : -9223372036854775808 ≤ n ∧ n ≤ 9223372036854775807) {K : Res [] → W R}
    (hk : ∀ w', PW bw b (plainM s v n) (Gw F w0 w') w' → Fr F w0 w' → Fr (Gw F w0 w) w w' → K () Q w') :
    callW Tryz.prog k_packet_writer_plain [.pointer (some ⟨bw, 0, none⟩), .int .u64 v, .int .i64 n] [] K Q w :=
  spec_packet_plain h hv hn fun w2 hp f2 => by
    have hs := f2.size
    exact hk w2 (PW.two (fun k e => e) hp h0 (Nat.le_refl _) hs hF) (f0.exS f2 fun k e => e.imp (fun h => h) fun e => e.1) f2
theorem PW.draw {w0 : World} (h : PW bw b s (Gw F w0 w) w) : PW bw b s (Gw F w0 w.drew) w.drew := h.fr0 ((Fr.refl _ _).drew)
theorem spec_packet_head (h : PW bw b s F w) {hd : Head} (hok : HeadOk hd) {K : Res [] → W R} (hk : ∀ w', PW bw b (headM s hd) (Gw F w w') w' → Fr F w w' → K () Q w') :
    callW Tryz.prog k_packet_writer_head [.pointer (some ⟨bw, 0, none⟩), .agg ⟨[.int .u8 hd.1, .int .u8 hd.2.1, .int .u32 hd.2.2.1, .int .u32 hd.2.2.2.1, .int .u32 hd.2.2.2.2]⟩] [] K Q w := by
  refine C_packet_writer_head _ hd K Q w ?_
  unfold F_packet_writer_head
  obtain ⟨⟨k0, k1⟩, ⟨c0, c1⟩, ⟨e0, e1⟩, ⟨t0, t1⟩, ⟨b0, b1⟩⟩ := hok
  have hF := h.2.1
  refine newI fun w1 B1 f1 s1 => ?_
  have hs1 := f1.size
  have hF1 : ∀ k, F k → k < w1.heap.size := fun k e => by have := hF k e; omega
  have nb : ∀ v : World, ¬ Gw F w1 v w.heap.size := fun v e => by
    rcases e with e | e
    · have := hF _ e; omega
    · omega
  have dr : ∀ v : World, Fr None v v.drew := fun v => (Fr.refl _ _).drew
  have fin : ∀ {s' : WS} {v : World}, PW bw b s' (Gw F w1 v) v → PW bw b s' (Gw F w v) v := fun hp => hp.mono (fun k _ e => e.imp (fun h => h) fun e => by omega) fun k e => by
    rcases e with e | e
    · exact hp.2.1 k (.inl e)
    · exact e.2
  have q1 := ((h.fr0 f1).self).draw
  have B1 := B1.fr (dr w1) fun h => h
  refine ptrI (q1.ptr (fldI B1 (i := 0) (x := hd.1) rfl ?_))
  rw [w64 (x := hd.1) (by omega)]
  refine pw_in q1 (Nat.le_refl _) hF1 ((Fr.refl _ _).drew) (by decide) (by decide) fun w2 p2 f2 g2 => ?_
  have B2 := (B1.fr g2 (nb _)).fr (dr w2) fun h => h
  have q2 := p2.draw
  refine ptrI (q2.ptr (fldI B2 (i := 1) (x := hd.2.1) rfl ?_))
  rw [w64 (x := hd.2.1) (by omega)]
  refine pw_in q2 f2.size hF1 (f2.then0 (dr w2)) (by decide) (by decide) fun w3 p3 f3 g3 => ?_
  have B3 := (B2.fr g3 (nb _)).fr (dr w3) fun h => h
  have q3 := p3.draw
  refine ptrI (q3.ptr (fldI B3 (i := 2) (x := hd.2.2.1) rfl ?_))
  have ee : IntKind.wrap .u64 hd.2.2.1 = ((hd.2.2.1.toNat : Nat) : Int) := by rw [wU64 (by omega)]; omega
  rw [ee]
  refine pw_var q3 f3.size hF1 (f3.then0 (dr w3)) (by omega) fun w4 p4 f4 g4 => ?_
  have B4 := B3.fr g4 (nb _)
  refine fldI B4 (i := 0) (x := hd.1) rfl ?_
  refine joinI (fun (_ : Unit) w' => PW bw b (if hd.1 ≤ 3 then plainM (varM (inM (inM s hd.1 1 5) hd.2.1 0 15) hd.2.2.1.toNat) hd.2.2.2.1 32 else varM (inM (inM s hd.1 1 5) hd.2.1 0 15) hd.2.2.1.toNat) (Gw F w1 w') w' ∧ Fr F w1 w' ∧ Blk w' w.heap.size 30 [.int .u8 hd.1, .int .u8 hd.2.1, .int .u32 hd.2.2.1, .int .u32 hd.2.2.2.1, .int .u32 hd.2.2.2.2]) ?_ ?_
  · refine condD (fun h3 => ?_) fun h3 => ?_
    · rw [if_pos h3]
      refine fldI B4 (i := 3) (x := hd.2.2.2.1) rfl ?_
      rw [wU64 (x := hd.2.2.2.1) (by omega)]
      exact pw_plain p4 f4.size hF1 f4 (by omega) (by decide) fun w5 p5 f5 g5 => ⟨p5, f5, B4.fr g5 (nb _)⟩
    · rw [if_neg h3]
      exact ⟨p4, f4, B4⟩
  · rintro _ w5 ⟨p5, f5, B5⟩
    refine fldI B5 (i := 0) (x := hd.1) rfl ?_
    refine joinI (fun (_ : Unit) w' => PW bw b (headM s hd) (Gw F w1 w') w' ∧ Fr F w1 w') ?_ fun _ w6 ⟨p6, f6⟩ => hk w6 (fin p6) (f1.any.exS f6 fun k e => .inl e)
    unfold headM
    dsimp only
    refine condE (fun h2 => ?_) fun h2 => ?_
    · rw [if_pos h2]
      have q5 := p5.draw
      have B5 := B5.fr (dr w5) fun h => h
      refine ptrI (q5.ptr (fldI B5 (i := 3) (x := hd.2.2.2.1) rfl (fldI B5 (i := 4) (x := hd.2.2.2.2) rfl ?_)))
      have e : IntKind.wrap .u64 (IntKind.wrap .u32 (IntKind.wrap .u32 (hd.2.2.2.1 - hd.2.2.2.2) - 1)) = ((idD hd.2.2.2.2 hd.2.2.2.1 : Nat) : Int) := by
        have a : ∀ x : Int, IntKind.wrap .u32 x = x % 4294967296 := fun x => by rw [IntKind.wrap_u32]
        rw [a, a, wU64 (by omega)]
        unfold idD
        omega
      rw [e]
      exact pw_var q5 f5.size hF1 (f5.then0 (dr w5)) (by unfold idD; omega) fun w6 p6 f6 _ => ⟨p6, f6⟩
    · rw [if_neg h2]
      exact ⟨p5, f5⟩

end Go.Proofs.YtchhhjlpnecjkaaGreat

namespace Go.Proofs.YtchhhjlpnecjkaaGreat
open Go Go.RowKit Go.Proofs.YtchhhjlpnecjkaaGreat.Den
variable {R : Type} {Q : R → World → Prop} {w : World}
variable {bw b : Nat} {s : WS} {F : Nat → Prop}

def entM (p : WS × Int) (e : Ent) : WS × Int := (compsM (plainM (varM p.1 (idD p.2 e.1)) (maskN e.2) 5) e.2, e.1)
def entsW (s : WS) (l : List Ent) : WS := (l.foldl entM (varM s l.length, 0)).1
def EntFit (e : Ent) : Prop := (0 ≤ e.1 ∧ e.1 ≤ 4294967295) ∧ e.2.length ≤ 1048576 ∧ ∀ c ∈ e.2, CompOk c
theorem spec_packet_ents (h : PW bw b s F w) {ok : Nat → Prop} {r : Sl} {raws : List (Int × Sl)} {L : List Ent} (hS : SlT ok w entT r raws) (hE : EntsR ok w raws L) (hd : ∀ k, k < w.heap.size → ok k → ¬ F k) (hL : ∀ e ∈ L, EntFit e) (hm : L.length ≤ 1048576) {K : Res [] → W R} (hk : ∀ w', PW bw b (entsW s L) (Gw F w w') w' → Fr F w w' → K () Q w') :
    callW Tryz.prog k_packet_writer_ents [.pointer (some ⟨bw, 0, none⟩), .slice r.a r.n r.c] [] K Q w := by
  refine C_packet_writer_ents _ r K Q w ?_
  unfold F_packet_writer_ents
  have hF := h.2.1
  have hrn : r.n = L.length := hS.len.trans hE.len
  have hS0 : SlT (fun k => ok k ∧ k < w.heap.size) w entT r raws := hS.mono fun k hk e => ⟨e, hk⟩
  have hE0 : EntsR (fun k => ok k ∧ k < w.heap.size) w raws L := hE.mono fun k hk e => ⟨e, hk⟩
  refine spec_packet_count h (by omega) fun w1 p1 f1 => ?_
  rw [hrn] at p1
  have hs1 := f1.size
  refine newI fun w2 B2 f2 s2 => stoAll B2 rfl rfl fun w3 B3 f3 s3 => ?_
  have f13 : Fr None w1 w3 := f2.newer f3 fun k e => by omega
  have hs3 := f13.size
  have p3 : PW bw b (varM s L.length) (Gw F w w1) w3 := p1.fr0 f13
  -- the chain's own base: what is new behind w3
  have two : ∀ {v : World} {s' : WS}, w3.heap.size ≤ v.heap.size → PW bw b s' (Gw (Gw F w w1) w3 v) v → PW bw b s' (Gw F w v) v := fun hv hp => hp.mono (fun k _ e => by
    rcases e with (e | e) | e
    · exact .inl e
    · exact .inr (by omega)
    · exact .inr (by omega)) fun k e => by
    rcases e with e | e
    · have := hF k e; omega
    · exact e.2
  have nbl : ∀ v : World, ¬ Gw (Gw F w w1) w3 v w1.heap.size := fun v e => by
    rcases e with (e | e) | e
    · have := hF _ e; omega
    · omega
    · omega
  have b1 : ∀ k, Gw F w w1 k → k < w3.heap.size := fun k e => by
    rcases e with e | e
    · have := hF k e; omega
    · omega
  refine forI (N := r.n) (fun s : Int => s) (fun j i v => i = (j : Int) ∧ PW bw b ((L.take j).foldl entM (varM s L.length, 0)).1 (Gw (Gw F w w1) w3 v) v ∧ Blk v w1.heap.size 54 [.int .u32 ((L.take j).foldl entM (varM s L.length, 0)).2] ∧ Fr (fun k => F k ∨ w.heap.size ≤ k) w v ∧ w3.heap.size ≤ v.heap.size)
    ⟨rfl, p3.self, B3, (f1.sub fun k e => .inl e).then0 f13, Nat.le_refl _⟩ (fun j s w' h => h.1) ?_ ?_
  · rintro j i v K' hj ⟨rfl, hp, Bl, fv, hsv⟩ - hK
    obtain ⟨e, he⟩ : ∃ e, L[j]? = some e := ⟨_, List.getElem?_eq_getElem (by omega)⟩
    have hfit := hL e (List.mem_of_getElem? he)
    obtain ⟨r1, hr1, ha1, ha2⟩ := hE0.get he
    have hno : ∀ k, ok k ∧ k < w.heap.size → ¬ (F k ∨ w.heap.size ≤ k) := fun k e e2 => by
      rcases e2 with e2 | e2
      · exact hd k e.2 e.1 e2
      · omega
    have efold : (L.take (j + 1)).foldl entM (varM s L.length, 0) = entM ((L.take j).foldl entM (varM s L.length, 0)) e := by rw [take_at he, List.foldl_append]; rfl
    generalize (L.take j).foldl entM (varM s L.length, 0) = p at hp Bl efold
    refine (hS0.fr fv hno).get (j := j) rfl rfl (by have := hE.len; omega) fun y hy => ?_
    rw [hr1] at hy
    cases hy
    refine newI fun v1 C1 g1 t1 => stoAll C1 rfl rfl fun v2 C2 g2 t2 => ?_
    have gv2 : Fr None v v2 := g1.newer g2 fun k e => by omega
    have hsv2 := gv2.size
    obtain ⟨F', hF'⟩ : ∃ F', F' = Gw (Gw F w w1) w3 v := ⟨_, rfl⟩
    have hp2 : PW bw b p.1 F' v2 := by rw [hF']; exact hp.fr0 gv2
    have bF' : ∀ k, F' k → k < v.heap.size := fun k e => by rw [hF'] at e; exact hp.2.1 k e
    have nb' : ¬ F' w1.heap.size := by rw [hF']; exact nbl v
    have exF : ∀ k, F' k → F k ∨ w.heap.size ≤ k := fun k e => by
      rw [hF'] at e
      rcases e with (e | e) | e
      · exact .inl e
      · exact .inr e.1
      · exact .inr (by omega)
    have fv2 : Fr (fun k => F k ∨ w.heap.size ≤ k) w v2 := fv.then0 gv2
    refine fldI C2 (i := 0) (x := r1.1) rfl ?_
    rw [ha1]
    refine spec_packet_id hp2 (Bl.fr gv2 fun h => h) nb' fun v3 p4 Bl3 f4 => ?_
    have hs4 := f4.size
    have C3 := C2.fr f4 fun e => by
      rcases e with e | e
      · have := bF' _ e; omega
      · have := Bl.lt; omega
    have fv3 : Fr (fun k => F k ∨ w.heap.size ≤ k) w v3 := fv2.then (f4.sub fun k e => by
      rcases e with e | e
      · exact exF k e
      · exact .inr (by omega))
    refine fldI C3 (i := 1) (x := r1.2) rfl ?_
    refine spec_schema_Mask (ha2.fr fv3 hno) hfit.2.1 hfit.2.2 fun v4 f5 => ?_
    have hs5 := f5.size
    have fv4 := fv3.then0 f5
    have hmk := maskN_lt e.2
    rw [wU64 (x := ((maskN e.2 : Nat) : Int)) (by omega)]
    refine spec_packet_plain (p4.fr0 f5) (v := ((maskN e.2 : Nat) : Int)) (n := 5) (by omega) (by decide) fun v5 p6 f6 => ?_
    have hs6 := f6.size
    have p6 : PW bw b (plainM (varM p.1 (idD p.2 e.1)) (maskN e.2) 5) (Gw F' v2 v5) v5 := PW.two (fun k e => e) p6 hs4 hs5 hs6 fun k e => by have := bF' k e; omega
    have C5 := (C3.fr f5 fun h => h).fr f6 fun e => by
      rcases e with e | e
      · have := bF' _ e; omega
      · omega
    have Bl5 := (Bl3.fr f5 fun h => h).fr f6 fun e => by
      rcases e with e | e
      · exact nb' e
      · have := Bl.lt; omega
    have ex2 : ∀ {x y : World} k, w.heap.size ≤ x.heap.size → Gw F' x y k → F k ∨ w.heap.size ≤ k := fun k hx e => by
      rcases e with e | e
      · exact exF k e
      · exact .inr (by omega)
    have fv5 : Fr (fun k => F k ∨ w.heap.size ≤ k) w v5 := fv4.then (f6.sub fun k e => ex2 k (by omega) e)
    refine fldI C5 (i := 1) (x := r1.2) rfl ?_
    refine spec_packet_comps p6 (ha2.fr fv5 hno) (fun k hk e e2 => hno k e (ex2 k (by omega) e2)) hfit.2.2 (by have := hfit.2.1; omega) fun v6 p7 f7 => ?_
    have hs7 := f7.size
    have p7 : PW bw b (entM p e).1 (Gw F' v2 v6) v6 := PW.two (fun k e => e) p7 (by omega) (Nat.le_refl _) hs7 fun k e => by have := bF' k e; omega
    have Bl6 := Bl5.fr f7 fun e => by
      rcases e with e | e
      · exact nb' e
      · have := Bl.lt; omega
    refine hK _ _ ⟨wsucc hj (by omega), ?_, ?_, fv5.then (f7.sub fun k e => ex2 k (by omega) e), by omega⟩
    · rw [efold]
      refine p7.mono (fun k _ e => ?_) fun k e => ?_
      · rcases e with e | e
        · rw [hF'] at e
          exact e.imp (fun h => h) fun e => by omega
        · exact .inr (by omega)
      · rcases e with e | e
        · have := b1 k e; omega
        · exact e.2
    · rw [efold]
      exact Bl6
  · rintro i v ⟨_, hp, _, fv, hsv⟩
    rw [List.take_of_length_le (by omega)] at hp
    refine hk v (two hsv hp) ?_
    exact (Fr.refl F w).exS fv fun k e => e

end Go.Proofs.YtchhhjlpnecjkaaGreat
