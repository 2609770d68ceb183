/-
  comp: components as bits.
-/
import Derived.Test.YtcahnbflfehonaaNum
import Derived.Test.YtcahnbflfehonaaRng
import Derived.Lib.ItoaNum
namespace Go.Proofs.Ytcahnbflfehonaa
open Go Go.RowKit Go.Proofs.Ytcahnbflfehonaa.Den
variable {R : Type} {Q : R → World → Prop} {w : World}

/-! ### a number with a sign -/
def zigM (n : Int) : Int := if 0 ≤ n then 2 * n else -2 * n - 1
theorem xor_0 {x : Int} (h0 : 0 ≤ x) (h1 : x ≤ 18446744073709551615) : bXor .u64 x 0 = x := by
  unfold bXor
  rw [BitVec.toNat_xor, BitVec.toNat_ofInt, BitVec.toNat_ofInt]
  have e1 : (0 % ((2 ^ IntKind.bits .u64 : Nat) : Int)).toNat = 0 := by decide
  have e2 : (x % ((2 ^ IntKind.bits .u64 : Nat) : Int)).toNat = x.toNat := by
    have : ((2 ^ IntKind.bits .u64 : Nat) : Int) = 18446744073709551616 := by decide
    rw [this]; omega
  rw [e1, e2, Nat.xor_zero, IntKind.wrap_u64]
  omega
theorem xor_ones {x : Int} (h0 : 0 ≤ x) (h1 : x ≤ 18446744073709551615) : bXor .u64 x 18446744073709551615 = 18446744073709551615 - x := by
  change IntKind.wrap .u64 (((BitVec.ofInt 64 x ^^^ BitVec.ofInt 64 18446744073709551615).toNat : Nat) : Int) = _
  have e : BitVec.ofInt 64 18446744073709551615 = BitVec.allOnes 64 := by decide
  rw [e, BitVec.xor_allOnes, BitVec.toNat_not, BitVec.toNat_ofInt]
  have e2 : (x % ((2 ^ 64 : Nat) : Int)).toNat = x.toNat := by
    have : ((2 ^ 64 : Nat) : Int) = 18446744073709551616 := by decide
    rw [this]; omega
  rw [e2, IntKind.wrap_u64]
  omega
theorem spec_nums_Zig {n : Int} (hn : -4611686018427387904 ≤ n ∧ n ≤ 4611686018427387903) {K : Res [.sc (.int .u64)] → W R} (hk : K (zigM n) Q w) : callW Try.prog k_nums_Zig [.int .i64 n] [.sc (.int .u64)] K Q w := by
  refine C_nums_Zig _ K Q w ?_
  unfold F_nums_Zig
  have e1 : shL .i64 n 1 = n * 2 := by
    unfold shL
    have : (2 : Int) ^ (min (Int.toNat 1) (IntKind.bits .i64)) = 2 := by decide
    rw [this, w64 (by omega)]
  have e2 : shR .i64 n 63 = if 0 ≤ n then 0 else -1 := by
    unfold shR
    have : (2 : Int) ^ (min (Int.toNat 63) (IntKind.bits .i64)) = 9223372036854775808 := by decide
    rw [this, Int.fdiv_eq_ediv_of_nonneg _ (by decide)]
    split <;> omega
  rw [e1, e2]
  unfold zigM at hk
  by_cases h : 0 ≤ n
  · rw [if_pos h] at hk ⊢
    have : bXor .u64 (IntKind.wrap .u64 (n * 2)) (IntKind.wrap .u64 0) = 2 * n := by
      rw [wU64 (by omega), wU64 (by omega), xor_0 (by omega) (by omega)]
      omega
    rw [this]
    exact hk
  · rw [if_neg h] at hk ⊢
    have : bXor .u64 (IntKind.wrap .u64 (n * 2)) (IntKind.wrap .u64 (-1)) = -2 * n - 1 := by
      have a1 : IntKind.wrap .u64 (-1) = 18446744073709551615 := by decide
      have a2 : IntKind.wrap .u64 (n * 2) = 18446744073709551616 + n * 2 := by rw [IntKind.wrap_u64]; omega
      rw [a1, a2, xor_ones (by omega) (by omega)]
      omega
    rw [this]
    exact hk

/-! ### parts -/
abbrev Part := Int × Int
abbrev partT : Ty := .agg [.int .u64, .int .i64]
def fieldP (c : Comp) (i : Nat) : Part := (IntKind.wrap .u64 (fl c i - (rangeM c.1 (i : Int)).1), (widthM (rangeM c.1 (i : Int)).1 (rangeM c.1 (i : Int)).2.1 : Int))
def wholeP (c : Comp) : List Part := (List.range (cntM c.1)).map (fieldP c)
def oneP (was c : Comp) (i : Nat) : List Part :=
  if zigM (fl c i - fl was i) = 0 then [(0, 1)] else if zigM (fl c i - fl was i) ≤ 16 then [(1, 1), (1, 1), (zigM (fl c i - fl was i) - 1, 4)] else [(1, 1), (0, 1), fieldP c i]
def stepP (was c : Comp) : List Part := (List.range (cntM c.1)).flatMap (oneP was c)
def sizeP (l : List Part) : Int := l.foldl (fun n p => n + p.2) 0
def partsB (l : List Part) : List Bool := l.flatMap fun p => bitsOf p.1.toNat p.2.toNat
def PartOk (p : Part) : Prop := (0 ≤ p.1 ∧ p.1.toNat < 2 ^ p.2.toNat) ∧ 0 ≤ p.2 ∧ p.2 ≤ 64
theorem parts_ty : SlTy Try.prog 111 128 partT 16 := slTy (by kernel_rfl)
theorem flI {c : Comp} (h : CompOk c) : ∀ i, -2147483648 ≤ fl c i ∧ fl c i ≤ 2147483647
  | 0 => h.2.1
  | 1 => h.2.2.1
  | _ + 2 => h.2.2.2
theorem rangeM_i32 (k i : Int) : (-2147483648 ≤ (rangeM k i).1 ∧ (rangeM k i).1 ≤ 2147483647) ∧ (-2147483648 ≤ (rangeM k i).2.1 ∧ (rangeM k i).2.1 ≤ 2147483647) := by
  unfold rangeM
  split
  · split
    · rename_i p hp
      have hm := List.mem_of_getElem? hp
      unfold fieldsM at hm
      repeat' split at hm
      all_goals first
        | (simp only [List.mem_cons, List.not_mem_nil, or_false] at hm; rcases hm with rfl | rfl | rfl <;> decide)
        | (simp only [List.mem_cons, List.not_mem_nil, or_false] at hm; rcases hm with rfl | rfl <;> decide)
        | (simp only [List.mem_cons, List.not_mem_nil, or_false] at hm; subst hm; decide)
        | simp at hm
    · decide
  · decide
theorem spec_comp_field {c : Comp} (hc : CompOk c) {i : Nat} (hi : i < 3) {K : Res [.agg [.int .u64, .int .i64]] → W R} (hk : ∀ w', Fr None w w' → K (fieldP c i) Q w') :
    callW Try.prog k_comp_field [.agg ⟨compC c⟩, .int .i64 (i : Int)] [.agg [.int .u64, .int .i64]] K Q w := by
  refine C_comp_field c _ K Q w ?_
  unfold F_comp_field
  refine newI fun w1 B1 f1 s1 => newI fun w2 B2 f2 s2 => ?_
  have B1 := B1.fr f2 fun h => h
  refine fldI B1 (i := 0) (x := c.1) rfl (spec_schema_Range fun w3 f3 => ?_)
  have fd : Fr None w3 w3.drew := (Fr.refl _ _).drew
  have B1 := (B1.fr f3 fun h => h).fr fd fun h => h
  have B2 := (B2.fr f3 fun h => h).fr fd fun h => h
  refine fIdx (j := i) rfl hi (fld0 B1 (x := fl c i) (compC_fl c hi) ?_)
  obtain ⟨r1, r2⟩ := rangeM_i32 c.1 (i : Int)
  have hf := flI hc i
  rw [w64 (x := (rangeM c.1 (i : Int)).1) (by omega), w64 (x := (rangeM c.1 (i : Int)).2.1) (by omega), w64 (x := fl c i) (by omega), w64 (x := fl c i - _) (by omega)]
  refine spec_nums_Width (by omega) (by omega) (andI ?_ ?_)
  · exact (B1.cell (1 + i)).trans (compC_fl c hi)
  · refine stoAll B2 rfl rfl fun w4 B4 f4 s4 => aggI B4 (x := fieldP c i) rfl ?_
    exact hk w4 ((((f1.then0 f2).then0 f3).then0 fd).newer f4 fun k e => by omega)
theorem spec_schema_Count {k : Int} {K : Res [.sc (.int .i64)] → W R} (hk : ∀ w', Fr None w w' → K ((cntM k : Nat) : Int) Q w') : callW Try.prog k_schema_Count [.int .u8 k] [.sc (.int .i64)] K Q w := by
  refine C_schema_Count _ K Q w ?_
  unfold F_schema_Count
  refine spec_schema_of fun s w1 hS f1 => ?_
  have hn : s.n = cntM k := hS.len
  show K ((s.n : Nat) : Int) Q w1
  rw [hn]
  exact hk w1 f1
theorem spec_comp_whole {c : Comp} (hc : CompOk c) {K : Res [.sc .sl] → W R} (hk : ∀ r w', Own (Up w.heap.size) w' 128 partT r (wholeP c) → Fr None w w' → K r Q w') :
    callW Try.prog k_comp_whole [.agg ⟨compC c⟩] [.sc .sl] K Q w := by
  refine C_comp_whole c K Q w ?_
  unfold F_comp_whole
  refine newI fun w1 B1 f1 s1 => ?_
  have h3 := cntM_le c.1
  refine fldI B1 (i := 0) (x := c.1) rfl (spec_schema_Count fun w2 f2 => ?_)
  refine forI (N := cntM c.1) (fun s : Sl × Int => s.2) (fun j s w' => s.2 = (j : Int) ∧ Own (fun k => w.heap.size ≤ k ∧ k ≠ w.heap.size) w' 128 partT s.1 ((List.range j).map (fieldP c)) ∧ Blk w' w.heap.size 48 (compC c) ∧ Fr None w w') ⟨rfl, Own.nil _ _ _ _, B1.fr f2 fun h => h, f1.then0 f2⟩ (fun j s w' h => h.1) ?_ ?_
  · rintro j ⟨z, _⟩ w3 K' hj ⟨rfl, o3, B3, f3⟩ - hK
    have hs3 := f3.size
    refine aggI B3 (x := c) rfl (spec_comp_field hc (by omega) fun w4 f4 => ?_)
    have hs4 := f4.size
    refine appP (x := fieldP c j) parts_ty rfl (o3.none f4) (fun k e => ⟨by omega, by have := B3.lt; omega⟩) (by simp; omega) (by simp; omega) fun r w5 o5 f5 => ?_
    have hr : (List.range (j + 1)).map (fieldP c) = (List.range j).map (fieldP c) ++ [fieldP c j] := by rw [List.range_succ, List.map_append]; rfl
    refine hK _ _ ⟨wsucc hj (by omega), by rw [hr]; exact o5, ?_, (f3.then0 f4).newer f5 fun k e => (o3.own k e).1⟩
    exact (B3.fr f4 fun h => h).fr f5 fun e => (o3.own _ e).2 rfl
  · rintro ⟨z, _⟩ w3 ⟨_, o3, _, f3⟩
    exact hk z w3 (o3.mono fun k _ e => e.1) f3


theorem spec_comp_more {was c : Comp} (hw : CompOk was) (hc : CompOk c) {i : Nat} (hi : i < 3) {K : Res [.sc (.int .u64)] → W R} (hk : ∀ w', Fr None w w' → K (zigM (fl c i - fl was i)) Q w') :
    callW Try.prog k_comp_more [.agg ⟨compC was⟩, .agg ⟨compC c⟩, .int .i64 (i : Int)] [.sc (.int .u64)] K Q w := by
  refine C_comp_more was c _ K Q w ?_
  unfold F_comp_more
  refine newI fun w1 B1 f1 s1 => newI fun w2 B2 f2 s2 => ?_
  have fd : Fr None w2 w2.drew := (Fr.refl _ _).drew
  have B1 := (B1.fr f2 fun h => h).fr fd fun h => h
  have B2 := B2.fr fd fun h => h
  have a := flI hc i
  have b := flI hw i
  refine fIdx (j := i) rfl hi (fld0 B2 (x := fl c i) (compC_fl c hi) (fIdx (j := i) rfl hi (fld0 B1 (x := fl was i) (compC_fl was hi) ?_)))
  rw [w64 (x := fl c i) (by omega), w64 (x := fl was i) (by omega), w64 (x := fl c i - fl was i) (by omega)]
  exact spec_nums_Zig (by omega) (hk _ ((f1.then0 f2).then0 fd))
theorem oneP_len (was c : Comp) (i : Nat) : (oneP was c i).length ≤ 3 := by
  unfold oneP
  split
  · simp
  · split <;> simp
theorem stepPs_len (was c : Comp) (j : Nat) : ((List.range j).flatMap (oneP was c)).length ≤ 3 * j := by
  induction j with
  | zero => simp
  | succ j ih =>
    rw [List.range_succ, List.flatMap_append, List.length_append]
    have := oneP_len was c j
    simp only [List.flatMap_cons, List.flatMap_nil, List.append_nil]
    omega
theorem spec_comp_step {was c : Comp} (hw : CompOk was) (hc : CompOk c) {K : Res [.sc .sl] → W R} (hk : ∀ r w', Own (Up w.heap.size) w' 128 partT r (stepP was c) → Fr None w w' → K r Q w') :
    callW Try.prog k_comp_step [.agg ⟨compC was⟩, .agg ⟨compC c⟩] [.sc .sl] K Q w := by
  refine C_comp_step was c K Q w ?_
  unfold F_comp_step
  refine newI fun w1 B1 f1 s1 => newI fun w2 B2 f2 s2 => ?_
  have B1 := B1.fr f2 fun h => h
  have h3 := cntM_le c.1
  refine fldI B2 (i := 0) (x := c.1) rfl (spec_schema_Count fun w3 f3 => ?_)
  have fs := (f1.then0 f2).then0 f3
  refine forI (N := cntM c.1) (fun s : Sl × Int => s.2) (fun j s w' => s.2 = (j : Int) ∧ Own (fun k => w.heap.size ≤ k ∧ k ≠ w.heap.size ∧ k ≠ w1.heap.size) w' 128 partT s.1 ((List.range j).flatMap (oneP was c)) ∧ Blk w' w.heap.size 48 (compC was) ∧ Blk w' w1.heap.size 48 (compC c) ∧ Fr None w w') ⟨rfl, Own.nil _ _ _ _, B1.fr f3 fun h => h, B2.fr f3 fun h => h, fs⟩ (fun j s w' h => h.1) ?_ ?_
  · rintro j ⟨z, _⟩ w4 K' hj ⟨rfl, o4, B14, B24, f4⟩ - hK
    have hl1 := B14.lt
    have hl2 := B24.lt
    refine aggI B14 (x := was) rfl (aggI B24 (x := c) rfl (spec_comp_more hw hc (by omega) fun w5 f5 => ?_))
    have hs5 := f5.size
    have o5 := o4.none f5
    have B15 := B14.fr f5 fun h => h
    have B25 := B24.fr f5 fun h => h
    have hpl := stepPs_len was c j
    refine joinI (fun (z : Sl) w' => Own (fun k => w.heap.size ≤ k ∧ k ≠ w.heap.size ∧ k ≠ w1.heap.size) w' 128 partT z ((List.range j).flatMap (oneP was c) ++ oneP was c j) ∧ Blk w' w.heap.size 48 (compC was) ∧ Blk w' w1.heap.size 48 (compC c) ∧ Fr None w w') ?_ ?_
    · have app : ∀ {z5 : Sl} {v : World} {ps : List Part} {cs : List Value} {n : Nat} {R2 : Type} {K2 : Sl → W R2} {Q2 : R2 → World → Prop}, Fr None w v → Blk v w.heap.size 48 (compC was) → Blk v w1.heap.size 48 (compC c) → Own (fun k => w.heap.size ≤ k ∧ k ≠ w.heap.size ∧ k ≠ w1.heap.size) v 128 partT z5 ((List.range j).flatMap (oneP was c)) → cs = ps.flatMap partT.cells → cs.length = ps.length * 2 → n = ps.length → ps.length ≤ 3 →
          (∀ r v', Own (fun k => w.heap.size ≤ k ∧ k ≠ w.heap.size ∧ k ≠ w1.heap.size) v' 128 partT r ((List.range j).flatMap (oneP was c) ++ ps) → Blk v' w.heap.size 48 (compC was) → Blk v' w1.heap.size 48 (compC c) → Fr None w v' → K2 r Q2 v') →
          newW 128 cs (fun a => rawW Try.prog (Builtin.append_ #[111, 111] 111 #[.slice z5.a z5.n z5.c, .slice (some a) n n]) [.sc .sl] K2) Q2 v := by
        intro z5 v ps cs n R2 K2 Q2 fv V1 V2 ov hcs hcl hn hp hk2
        have hsv := fv.size
        refine newI fun v1 Bv g1 t1 => ?_
        subst hn
        have lit : Own (fun _ => True) v1 128 partT ⟨some ⟨v.heap.size, 0, none⟩, ps.length, ps.length⟩ ps := Own.mk' (S := fun _ => True) (E := 128) (t := partT) (l := ps) (g := v.heap.size) (c := ps.length) (cur := ⟨cs⟩) trivial Bv (Nat.le_refl _) (by rw [maxLen_eq]; omega) hcl (by rw [hcs, show partT.size = 2 from rfl, ← hcl, hcs]; exact List.take_length)
        refine appI (s := z5) (s2 := ⟨some ⟨v.heap.size, 0, none⟩, ps.length, ps.length⟩) (S' := fun k => w.heap.size ≤ k ∧ k ≠ w.heap.size ∧ k ≠ w1.heap.size) parts_ty (ov.none g1) lit.sl (by omega) (by rw [maxLen_eq]; omega) (fun _ h => h) ⟨by have := g1.size; omega, by have := V1.lt; have := g1.size; omega, by have := V2.lt; have := g1.size; omega⟩ fun r v2 o2 g2 _ => ?_
        exact hk2 r v2 o2 ((V1.fr g1 fun h => h).fr g2 fun e => (ov.own _ e).2.1 rfl) ((V2.fr g1 fun h => h).fr g2 fun e => (ov.own _ e).2.2 rfl) ((fv.then0 g1).newer g2 fun k e => (ov.own k e).1)
      refine condE (fun hz => ?_) fun hz => ?_
      · have e : oneP was c j = [(0, 1)] := by rw [oneP, if_pos hz]
        rw [e]
        refine app (z5 := z) (ps := [(0, 1)]) (n := 1) (f4.then0 f5) B15 B25 o5 rfl rfl rfl (by simp) ?_
        exact fun r v' o b1 b2 f => ⟨o, b1, b2, f⟩
      · refine joinI (fun (z : Sl) w' => Own (fun k => w.heap.size ≤ k ∧ k ≠ w.heap.size ∧ k ≠ w1.heap.size) w' 128 partT z ((List.range j).flatMap (oneP was c) ++ oneP was c j) ∧ Blk w' w.heap.size 48 (compC was) ∧ Blk w' w1.heap.size 48 (compC c) ∧ Fr None w w') ?_ fun z w' h => h
        refine condD (fun h16 => ?_) fun h16 => ?_
        · have e : oneP was c j = [(1, 1), (1, 1), (zigM (fl c j - fl was j) - 1, 4)] := by rw [oneP, if_neg hz, if_pos h16]
          have hz0 : 0 ≤ zigM (fl c j - fl was j) := by unfold zigM; split <;> omega
          have ew : IntKind.wrap .u64 (zigM (fl c j - fl was j) - 1) = zigM (fl c j - fl was j) - 1 := wU64 (by omega)
          rw [e, ew]
          refine app (z5 := z) (ps := [(1, 1), (1, 1), (zigM (fl c j - fl was j) - 1, 4)]) (n := 3) (f4.then0 f5) B15 B25 o5 rfl rfl rfl (by simp) ?_
          exact fun r v' o b1 b2 f => ⟨o, b1, b2, f⟩
        · have e : oneP was c j = [(1, 1), (0, 1), fieldP c j] := by rw [oneP, if_neg hz, if_neg h16]
          rw [e]
          refine aggI B25 (x := c) rfl (spec_comp_field hc (by omega) fun w6 f6 => ?_)
          refine app (z5 := z) (ps := [(1, 1), (0, 1), fieldP c j]) (n := 3) ((f4.then0 f5).then0 f6) (B15.fr f6 fun h => h) (B25.fr f6 fun h => h) (o5.none f6) rfl rfl rfl (Nat.le_refl 3) ?_
          exact fun r v' o b1 b2 f => ⟨o, b1, b2, f⟩
    · rintro z w6 ⟨o6, b1, b2, f6⟩
      have hr : (List.range (j + 1)).flatMap (oneP was c) = (List.range j).flatMap (oneP was c) ++ oneP was c j := by rw [List.range_succ, List.flatMap_append]; simp
      exact hK _ _ ⟨wsucc hj (by omega), by rw [hr]; exact o6, b1, b2, f6⟩
  · rintro ⟨z, _⟩ w4 ⟨_, o4, _, _, f4⟩
    exact hk z w4 (o4.mono fun k _ e => e.1) f4

end Go.Proofs.Ytcahnbflfehonaa

namespace Go.Proofs.Ytcahnbflfehonaa
open Go Go.RowKit Go.Proofs.Ytcahnbflfehonaa.Den
variable {R : Type} {Q : R → World → Prop} {w : World}

theorem partsB_snoc (l : List Part) (p : Part) : partsB (l ++ [p]) = partsB l ++ bitsOf p.1.toNat p.2.toNat := by simp [partsB]
theorem partsB_take {l : List Part} {j : Nat} {p : Part} (h : l[j]? = some p) : partsB (l.take (j + 1)) = partsB (l.take j) ++ bitsOf p.1.toNat p.2.toNat := by rw [take_at h, partsB_snoc]
theorem partsB_le {l : List Part} (j : Nat) : (partsB (l.take j)).length ≤ (partsB l).length := by
  conv => rhs; rw [← List.take_append_drop j l]
  unfold partsB
  rw [List.flatMap_append, List.length_append]
  omega
theorem partsB_small {l : List Part} (hP : ∀ p ∈ l, PartOk p) : (partsB l).length ≤ 64 * l.length := by
  induction l with
  | nil => simp [partsB]
  | cons p r ih =>
    have h1 := ih fun q hq => hP q (List.mem_cons_of_mem _ hq)
    have h2 := (hP p List.mem_cons_self).2
    unfold partsB at h1 ⊢
    simp only [List.flatMap_cons, List.length_append, bitsOf_len, List.length_cons]
    omega
theorem spec_comp_size {ok : Nat → Prop} {s : Sl} {l : List Part} (hS : SlT ok w partT s l) (hP : ∀ p ∈ l, PartOk p) (hl : l.length ≤ 100) {K : Res [.sc (.int .i64)] → W R} (hk : ∀ w', Fr None w w' → K ((partsB l).length : Int) Q w') :
    callW Try.prog k_comp_size [.slice s.a s.n s.c] [.sc (.int .i64)] K Q w := by
  refine C_comp_size s K Q w ?_
  unfold F_comp_size
  have hlen := hS.len
  refine forI (N := s.n) (fun s : Int × Int => s.2) (fun j s w' => s = (((partsB (l.take j)).length : Int), (j : Int)) ∧ Fr None w w') ⟨rfl, Fr.refl _ _⟩ (fun j s w' h => by rw [h.1]) ?_ ?_
  · rintro j s1 w1 K' hj ⟨rfl, f1⟩ - hK
    refine (hS.fr0 f1).get rfl rfl (by omega) fun p hp => ?_
    refine newI fun w2 B2 f2 s2 => stoAll B2 rfl rfl fun w3 B3 f3 s3 => fldI B3 (i := 1) (x := p.2) rfl ?_
    have hpo := (hP p (List.mem_of_getElem? hp)).2
    have hsm := partsB_small (l := l.take j) fun q hq => hP q (List.mem_of_mem_take hq)
    rw [List.length_take] at hsm
    refine hK _ _ ⟨?_, f1.then0 (f2.newer f3 fun k e => by omega)⟩
    rw [wsucc hj (by omega), partsB_take hp, List.length_append, bitsOf_len, w64 (by omega)]
    have : (((partsB (l.take j)).length : Nat) : Int) + p.2 = (((partsB (l.take j)).length + p.2.toNat : Nat) : Int) := by omega
    rw [this]
  · rintro s1 w1 ⟨rfl, f1⟩
    rw [List.take_of_length_le (by omega)]
    exact hk w1 f1
def putP (L : List Bool) (l : List Part) : Int × List Bool := if 1048576 < L.length + (partsB l).length then (3, L) else (0, L ++ partsB l)
theorem spec_comp_put {b : Nat} {L : List Bool} {F : Nat → Prop} (h : Wr b L F w) {ok : Nat → Prop} {s : Sl} {l : List Part} (hS : SlT ok w partT s l) (hd : ∀ k, k < w.heap.size → ok k → ¬ F k) (hP : ∀ p ∈ l, PartOk p) (hl : l.length ≤ 100) {K : Res [.sc (.int .i64)] → W R}
    (hk : ∀ w', Wr b (putP L l).2 (Ex F w) w' → Fr F w w' → K (putP L l).1 Q w') : callW Try.prog k_comp_put [.pointer (some ⟨b, 0, none⟩), .slice s.a s.n s.c] [.sc (.int .i64)] K Q w := by
  refine C_comp_put _ s K Q w ?_
  unfold F_comp_put
  have hlen := hS.len
  have hL := h.1
  have hsm := partsB_small hP
  refine spec_bits_Len h (spec_comp_size hS hP hl fun w1 f1 => ?_)
  have hs1 := f1.size
  rw [w64 (by omega)]
  unfold putP at hk
  have h1 := Wr.st.fr0 h f1
  refine condD (fun h3 => ?_) fun h3 => ?_
  · have h3 : (1048576 : Int) < (L.length : Int) + ((partsB l).length : Int) := h3
    rw [if_pos (by omega)] at hk
    exact hk w1 (Wr.st.mono h1 fun k _ e => .inl e) f1.any
  have h3 : ¬ (1048576 : Int) < (L.length : Int) + ((partsB l).length : Int) := h3
  rw [if_neg (by omega)] at hk
  have hS0 : SlT (fun k => ok k ∧ k < w.heap.size) w partT s l := hS.mono fun k hk e => ⟨e, hk⟩
  refine forI (N := s.n) (fun s : Int => s) (fun j i w' => i = (j : Int) ∧ Wr b (L ++ partsB (l.take j)) (Ex F w) w' ∧ Fr F w w') ⟨rfl, by rw [List.take_zero]; simp only [partsB, List.flatMap_nil, List.append_nil]; exact Wr.st.mono h1 fun k _ e => .inl e, f1.any⟩ (fun j s w' h => h.1) ?_ ?_
  · rintro j i w2 K' hj ⟨rfl, hw, f2⟩ - hK
    have hs2 := f2.size
    refine (hS0.fr f2 fun k e e2 => hd k e.2 e.1 e2).get rfl rfl (by omega) fun p hp => ?_
    refine newI fun w3 B3 f3 s3 => stoAll B3 rfl rfl fun w4 B4 f4 s4 => fldI B4 (i := 0) (x := p.1) rfl (fldI B4 (i := 1) (x := p.2) rfl ?_)
    have f24 : Fr None w2 w4 := f3.newer f4 fun k e => by omega
    have hs4 := f24.size
    obtain ⟨⟨hp1, hp2⟩, hp3, hp4⟩ := hP p (List.mem_of_getElem? hp)
    have hle := partsB_le (l := l) (j + 1)
    rw [partsB_take hp, List.length_append, bitsOf_len] at hle
    have ep : putB (L ++ partsB (l.take j)) p.1 p.2 = (0, L ++ partsB (l.take (j + 1))) := by
      rw [putB, if_neg (by omega), if_neg, if_neg (by rw [List.length_append]; omega)]
      · rw [partsB_take hp, List.append_assoc]
      · rintro ⟨_, h⟩
        exact h (Nat.div_eq_of_lt hp2)
    have h64 : p.1.toNat < 2 ^ 64 := Nat.lt_of_lt_of_le hp2 (Nat.pow_le_pow_right (by decide) (by omega))
    refine spec_bits_Put (Wr.st.fr0 hw f24) (v := p.1) (n := p.2) (by omega) (by omega) fun w5 hw5 f5 => ?_
    rw [ep] at hw5
    have hs5 := f5.size
    refine hK _ _ ⟨wsucc hj (by omega), Wr.st.mono hw5 fun k _ e => ?_, (f2.then0 f24).exS f5 fun k e => e⟩
    rcases e with e | e
    · exact e
    · exact .inr (by omega)
  · rintro i w2 ⟨rfl, hw, f2⟩
    rw [List.take_of_length_le (by omega)] at hw
    exact hk w2 hw f2

/-! ### what is right has parts that fit -/
theorem width_lt {lo hi x : Int} (h1 : lo ≤ x) (h2 : x ≤ hi) (h3 : hi - lo ≤ 18446744073709551615) : (x - lo).toNat < 2 ^ widthM lo hi := by
  unfold widthM
  rw [if_neg (by omega)]
  by_cases h0 : (hi - lo).toNat = 0
  · have : (x - lo).toNat = 0 := by omega
    rw [this]
    exact Nat.two_pow_pos _
  · have := (Lib.bitLenAux_bounds 64 (hi - lo).toNat (by omega) h0).2.2
    have e : (x - lo).toNat ≤ (hi - lo).toNat := by omega
    exact Nat.lt_of_le_of_lt e this
theorem width_le {lo hi : Int} (h3 : hi - lo ≤ 18446744073709551615) : widthM lo hi ≤ 64 := by
  unfold widthM
  split
  · decide
  · exact Lib.bitLen_le _ 64 (by decide) (by omega)
theorem check_at {c : Comp} (h : checkM c = 0) {i : Nat} (hi : i < cntM c.1) : (rangeM c.1 (i : Int)).1 ≤ fl c i ∧ fl c i ≤ (rangeM c.1 (i : Int)).2.1 := by
  have h3 := cntM_le c.1
  have hall : (List.range 3).all (inR c) = true := by
    unfold checkM at h
    split at h
    · cases h
    · split at h
      · cases h
      · split at h
        · assumption
        · cases h
  have := List.all_eq_true.1 hall i (List.mem_range.2 (by omega))
  unfold inR at this
  obtain ⟨p, hp⟩ : ∃ p, (fieldsM c.1)[i]? = some p := ⟨_, List.getElem?_eq_getElem hi⟩
  rw [hp] at this
  simp only [Bool.and_eq_true, decide_eq_true_eq] at this
  unfold rangeM
  rw [if_pos (by omega), Int.toNat_natCast, hp]
  exact this
theorem fieldP_ok {c : Comp} (h : checkM c = 0) {i : Nat} (hi : i < cntM c.1) : PartOk (fieldP c i) := by
  obtain ⟨h1, h2⟩ := check_at h hi
  obtain ⟨r1, r2⟩ := rangeM_i32 c.1 (i : Int)
  have hw := width_le (lo := (rangeM c.1 (i : Int)).1) (hi := (rangeM c.1 (i : Int)).2.1) (by omega)
  have hl := width_lt h1 h2 (by omega)
  unfold PartOk fieldP
  dsimp only
  rw [wU64 (by omega), Int.toNat_natCast]
  exact ⟨⟨by omega, hl⟩, by omega, by omega⟩
theorem wholeP_ok {c : Comp} (h : checkM c = 0) : ∀ p ∈ wholeP c, PartOk p := fun p hp => by
  obtain ⟨i, hi, rfl⟩ := List.mem_map.1 hp
  exact fieldP_ok h (List.mem_range.1 hi)
theorem stepP_ok {was c : Comp} (h : checkM c = 0) : ∀ p ∈ stepP was c, PartOk p := fun p hp => by
  obtain ⟨i, hi, hp⟩ := List.mem_flatMap.1 hp
  have hi := List.mem_range.1 hi
  have hz0 : 0 ≤ zigM (fl c i - fl was i) := by unfold zigM; split <;> omega
  unfold oneP at hp
  split at hp
  · simp only [List.mem_singleton] at hp
    subst hp
    exact ⟨⟨by decide, by decide⟩, by decide, by decide⟩
  · split at hp
    · simp only [List.mem_cons, List.not_mem_nil, or_false] at hp
      rcases hp with rfl | rfl | rfl
      · exact ⟨⟨by decide, by decide⟩, by decide, by decide⟩
      · exact ⟨⟨by decide, by decide⟩, by decide, by decide⟩
      · refine ⟨⟨by dsimp only; omega, ?_⟩, (by decide : (0 : Int) ≤ 4), (by decide : (4 : Int) ≤ 64)⟩
        show (zigM (fl c i - fl was i) - 1).toNat < 2 ^ (4 : Int).toNat
        rw [show (2 : Nat) ^ (4 : Int).toNat = 16 from rfl]
        omega
    · simp only [List.mem_cons, List.not_mem_nil, or_false] at hp
      rcases hp with rfl | rfl | rfl
      · exact ⟨⟨by decide, by decide⟩, by decide, by decide⟩
      · exact ⟨⟨by decide, by decide⟩, by decide, by decide⟩
      · exact fieldP_ok h hi

/-! ### a component, and one behind another one -/
def putC (L : List Bool) (c : Comp) : Int × List Bool := if checkM c ≠ 0 then (checkM c, L) else putP L (wholeP c)
theorem spec_comp_Put {b : Nat} {L : List Bool} {F : Nat → Prop} (h : Wr b L F w) {c : Comp} (hc : CompOk c) (hF : ∀ k, F k → k < w.heap.size) {K : Res [.sc (.int .i64)] → W R} (hk : ∀ w', Wr b (putC L c).2 (Ex F w) w' → Fr F w w' → K (putC L c).1 Q w') :
    callW Try.prog k_comp_Put [.pointer (some ⟨b, 0, none⟩), .agg ⟨compC c⟩] [.sc (.int .i64)] K Q w := by
  refine C_comp_Put _ c K Q w ?_
  unfold F_comp_Put
  refine newI fun w1 B1 f1 s1 => condF rfl (aggI B1 (x := c) rfl (spec_schema_Check fun w2 f2 => ?_))
  have f02 := f1.then0 f2
  have hs2 := f02.size
  unfold putC at hk
  refine condN (fun hne => ?_) fun heq => ?_
  · rw [if_pos hne] at hk
    exact hk w2 (Wr.st.mono (Wr.st.fr0 h f02) fun k _ e => .inl e) f02.any
  · rw [if_neg (by omega)] at hk
    refine aggI (B1.fr f2 fun h => h) (x := c) rfl (spec_comp_whole hc fun r w3 o3 f3 => ?_)
    have f03 := f02.then0 f3
    have hs3 := f03.size
    refine spec_comp_put (Wr.st.fr0 h f03) o3.sl (fun k _ e e2 => by have e : w2.heap.size ≤ k := e; have := hF k e2; omega) (wholeP_ok (by omega)) (by have := cntM_le c.1; simp [wholeP]; omega) fun w4 hw f4 => ?_
    exact hk w4 (Wr.st.mono hw fun k _ e => e.imp id fun e => by omega) ((f03.any).exS f4 fun k e => .inl e)
def pairM (was c : Comp) : Int := if checkM was ≠ 0 then checkM was else if checkM c ≠ 0 then checkM c else if was.1 = c.1 then 0 else 4
theorem spec_comp_pair {was c : Comp} {K : Res [.sc (.int .i64)] → W R} (hk : ∀ w', Fr None w w' → K (pairM was c) Q w') : callW Try.prog k_comp_pair [.agg ⟨compC was⟩, .agg ⟨compC c⟩] [.sc (.int .i64)] K Q w := by
  refine C_comp_pair was c K Q w ?_
  unfold F_comp_pair
  unfold pairM at hk
  refine newI fun w1 B1 f1 s1 => newI fun w2 B2 f2 s2 => ?_
  have B1 := B1.fr f2 fun h => h
  refine aggI B1 (x := was) rfl (spec_schema_Check fun w3 f3 => ?_)
  have f03 := (f1.then0 f2).then0 f3
  refine condN (fun hne => ?_) fun heq => ?_
  · rw [if_pos hne] at hk
    exact hk w3 f03
  rw [if_neg (by omega)] at hk
  have B1 := B1.fr f3 fun h => h
  have B2 := B2.fr f3 fun h => h
  refine aggI B2 (x := c) rfl (spec_schema_Check fun w4 f4 => ?_)
  refine condN (fun hne => ?_) fun heq2 => ?_
  · rw [if_pos hne] at hk
    exact hk w4 (f03.then0 f4)
  rw [if_neg (by omega)] at hk
  refine fldI (B1.fr f4 fun h => h) (i := 0) (x := was.1) rfl (fldI (B2.fr f4 fun h => h) (i := 0) (x := c.1) rfl ?_)
  refine condN (fun hne => ?_) fun heq3 => ?_
  · rw [if_neg hne] at hk
    exact hk w4 (f03.then0 f4)
  · rw [if_pos heq3] at hk
    exact hk w4 (f03.then0 f4)
def putS (L : List Bool) (was c : Comp) : Int × List Bool := if pairM was c ≠ 0 then (pairM was c, L) else putP L (stepP was c)
theorem spec_comp_PutStep {b : Nat} {L : List Bool} {F : Nat → Prop} (h : Wr b L F w) {was c : Comp} (hw : CompOk was) (hc : CompOk c) (hF : ∀ k, F k → k < w.heap.size) {K : Res [.sc (.int .i64)] → W R} (hk : ∀ w', Wr b (putS L was c).2 (Ex F w) w' → Fr F w w' → K (putS L was c).1 Q w') :
    callW Try.prog k_comp_PutStep [.pointer (some ⟨b, 0, none⟩), .agg ⟨compC was⟩, .agg ⟨compC c⟩] [.sc (.int .i64)] K Q w := by
  refine C_comp_PutStep _ was c K Q w ?_
  unfold F_comp_PutStep
  refine newI fun w0 B0 f0 s0 => newI fun w1 B1 f1 s1 => condF rfl ?_
  have B0 := B0.fr f1 fun h => h
  refine aggI B0 (x := was) rfl (aggI B1 (x := c) rfl (spec_comp_pair fun w2 f2 => ?_))
  have f02 := (f0.then0 f1).then0 f2
  have hs2 := f02.size
  unfold putS at hk
  refine condN (fun hne => ?_) fun heq => ?_
  · rw [if_pos hne] at hk
    exact hk w2 (Wr.st.mono (Wr.st.fr0 h f02) fun k _ e => .inl e) f02.any
  · rw [if_neg (by omega)] at hk
    have hc0 : checkM c = 0 := by
      unfold pairM at heq
      split at heq
      · omega
      · split at heq
        · omega
        · omega
    refine aggI (B0.fr f2 fun h => h) (x := was) rfl (aggI (B1.fr f2 fun h => h) (x := c) rfl (spec_comp_step hw hc fun r w3 o3 f3 => ?_))
    have f03 := f02.then0 f3
    have hs3 := f03.size
    have hl : (stepP was c).length ≤ 100 := by have := stepPs_len was c (cntM c.1); have := cntM_le c.1; unfold stepP; omega
    refine spec_comp_put (Wr.st.fr0 h f03) o3.sl (fun k _ e e2 => by have e : w2.heap.size ≤ k := e; have := hF k e2; omega) (stepP_ok hc0) hl fun w4 hw f4 => ?_
    exact hk w4 (Wr.st.mono hw fun k _ e => e.imp id fun e => by omega) ((f03.any).exS f4 fun k e => .inl e)

end Go.Proofs.Ytcahnbflfehonaa
