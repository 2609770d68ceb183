/-
  Bits turned within 32 that follow one another break the sum (plainly).
-/
import Derived.Test.YtchhhjlpnecjkaaGreatApt
import Derived.Test.YtchhhjlpnecjkaaGreatR20c
namespace Go.Proofs.YtchhhjlpnecjkaaGreat
open Go Go.RowKit Go.Proofs.YtchhhjlpnecjkaaGreat.Den

/-! ### the register forgets nothing -/
theorem stepB_inj {a b : BitVec 32} (h : stepB a = stepB b) : a = b := by
  have h0 : a.getLsbD 0 = b.getLsbD 0 := by
    have e := congrArg (fun c => c.getLsbD 31) h
    simp only [stepB_at] at e
    rw [BitVec.getLsbD_of_ge a 32 (by decide), BitVec.getLsbD_of_ge b 32 (by decide), show polyB.getLsbD 31 = true from by decide] at e
    simpa using e
  apply BitVec.eq_of_getLsbD_eq
  intro p _
  rcases p with _ | p
  · exact h0
  · have e := congrArg (fun c => c.getLsbD p) h
    simp only [stepB_at] at e
    rw [h0] at e
    revert e
    generalize a.getLsbD (p + 1) = x
    generalize b.getLsbD (p + 1) = y
    generalize (b.getLsbD 0 && polyB.getLsbD p) = z
    cases x <;> cases y <;> cases z <;> decide
theorem xor_inj {a b c : BitVec 32} (h : a ^^^ c = b ^^^ c) : a = b := by
  have := congrArg (· ^^^ c) h
  simpa [BitVec.xor_assoc] using this
theorem xor_injL {a b c : BitVec 32} (h : c ^^^ a = c ^^^ b) : a = b := xor_inj (c := c) (by rw [BitVec.xor_comm a, BitVec.xor_comm b]; exact h)
theorem stepsB_inj : ∀ (n : Nat) {a b : BitVec 32}, stepsB n a = stepsB n b → a = b
  | 0, _, _, h => h
  | n + 1, _, _, h => stepsB_inj n (stepB_inj h)
theorem bits_inj : ∀ (l : List Bool) {a b : BitVec 32}, l.foldl bitB a = l.foldl bitB b → a = b
  | [], _, _, h => h
  | x :: r, _, _, h => xor_inj (stepB_inj (bits_inj r h))
theorem valB_lt : ∀ l : List Bool, valB l < 2 ^ l.length
  | [] => by simp [valB]
  | b :: r => by
    have := valB_lt r
    have := bitN_lt b
    rw [valB, List.length_cons, Nat.pow_succ]
    omega
theorem bits_val : ∀ l : List Bool, bitsOf (valB l) l.length = l
  | [] => rfl
  | b :: r => by
    have hb := bitN_lt b
    have e1 : (valB (b :: r)).testBit 0 = b := by
      rw [valB, Nat.testBit_zero]
      cases b
      · simp [bitN]
      · simp [bitN]
    have e2 : valB (b :: r) / 2 = valB r := by rw [valB]; omega
    rw [List.length_cons, front_bits, e1, e2, bits_val r]
theorem fold_val (c : BitVec 32) {l : List Bool} (h : l.length ≤ 32) : l.foldl bitB c = stepsB l.length (c ^^^ BitVec.ofNat 32 (valB l)) := by
  have hv := valB_lt l
  have h2 : 2 ^ l.length ≤ 2 ^ 32 := Nat.pow_le_pow_right (by decide) h
  have e : (BitVec.ofNat 32 (valB l)).toNat = valB l := by rw [BitVec.toNat_ofNat, Nat.mod_eq_of_lt (by omega)]
  rw [stepsB_bits l.length c _ (by rw [e]; exact hv), e, bits_val]
theorem fold_same {c : BitVec 32} {x y : List Bool} (hl : x.length = y.length) (h : x.length ≤ 32) (e : x.foldl bitB c = y.foldl bitB c) : x = y := by
  rw [fold_val c h, fold_val c (by omega), ← hl] at e
  have e := xor_injL (stepsB_inj _ e)
  have hx := valB_lt x
  have hy := valB_lt y
  have h2 : 2 ^ x.length ≤ 2 ^ 32 := Nat.pow_le_pow_right (by decide) h
  rw [← hl] at hy
  have := congrArg BitVec.toNat e
  rw [BitVec.toNat_ofNat, BitVec.toNat_ofNat, Nat.mod_eq_of_lt (by omega), Nat.mod_eq_of_lt (by omega)] at this
  rw [← bits_val x, ← bits_val y, this, hl]
theorem burst {P Q : List Bool} {at_ : Nat} (hl : P.length = Q.length) (h1 : P.take at_ = Q.take at_) (h2 : P.drop (at_ + 32) = Q.drop (at_ + 32)) (h : regB P = regB Q) : P = Q := by
  have sp : ∀ X : List Bool, X = X.take at_ ++ ((X.drop at_).take 32 ++ X.drop (at_ + 32)) := fun X => by
    rw [← List.drop_drop, List.take_append_drop, List.take_append_drop]
  unfold regB at h
  rw [sp P, sp Q, List.foldl_append, List.foldl_append, List.foldl_append, List.foldl_append, h1, h2] at h
  have e := fold_same (by simp [hl]) (by simp; omega) (bits_inj _ h)
  rw [sp P, sp Q, h1, h2, e]

/-! ### a frame's register -/
theorem tail_bits {s : Int} (h : 0 ≤ s ∧ s ≤ 4294967295) : bitsU (tailF s) = bitsOf s.toNat 32 := by
  refine list_bits (by rw [bitsU_len, tailF_len, bitsOf_len]) fun k hk => ?_
  rw [bitsU_len, tailF_len] at hk
  have hj : k / 8 < 4 := by omega
  have hx : (tailF s)[k / 8]? = some (IntKind.wrap .u8 (shR .u32 s (8 * ((k / 8 : Nat) : Int)))) := by
    unfold tailF
    rw [List.getElem?_map, List.getElem?_range hj]
    rfl
  have := bitAt_bitsU (tailF s) (k / 8) (k % 8) _ hx (Nat.mod_lt _ (by decide))
  rw [show 8 * (k / 8) + k % 8 = k by omega] at this
  rw [this, bitAt_bits, decide_eq_true (by omega), Bool.true_and]
  have e : IntKind.wrap .u8 (shR .u32 s (8 * ((k / 8 : Nat) : Int))) = ((s.toNat / 2 ^ (8 * (k / 8)) % 2 ^ 8 : Nat) : Int) := by
    unfold shR
    have hm : min (8 * ((k / 8 : Nat) : Int)).toNat (IntKind.bits .u32) = 8 * (k / 8) := by
      show min (8 * ((k / 8 : Nat) : Int)).toNat 32 = 8 * (k / 8)
      omega
    obtain ⟨n, rfl⟩ := Int.eq_ofNat_of_zero_le h.1
    have hM : (2 : Int) ^ (8 * (k / 8)) = ((2 ^ (8 * (k / 8)) : Nat) : Int) := by rw [Int.natCast_pow]; rfl
    rw [hm, hM, Int.fdiv_eq_ediv_of_nonneg _ (Int.natCast_nonneg _), IntKind.wrap_u8, Int.toNat_natCast]
    generalize 2 ^ (8 * (k / 8)) = M
    rw [show (2 ^ 8 : Nat) = 256 from rfl, Int.natCast_emod, Int.natCast_ediv]
    rfl
  rw [e, Int.toNat_natCast, Nat.testBit_mod_two_pow, Nat.testBit_div_two_pow, decide_eq_true (show k % 8 < 8 by omega), Bool.true_and]
  congr 1
  omega
def goodB : BitVec 32 := stepsB 32 4294967295#32
theorem frame_reg {b : List Int} (hb : BytesOk b) : regB (bitsU (sealF b)) = goodB := by
  have e : bitsU (sealF b) = bitsU b ++ bitsU (tailF (sumF b)) := by unfold sealF bitsU; rw [List.flatMap_append]
  rw [e, tail_bits (sumF_range hb)]
  unfold regB
  rw [List.foldl_append]
  have hr : (bitsU b).foldl bitB 4294967295#32 = regB (bitsU b) := rfl
  rw [hr, sumF_reg hb]
  generalize regB (bitsU b) = c
  have ht : (toI (4294967295#32 ^^^ c)).toNat = (4294967295#32 ^^^ c).toNat := rfl
  rw [ht, ← stepsB_bits 32 c _ (by exact (4294967295#32 ^^^ c).isLt)]
  unfold goodB
  congr 1
  rw [BitVec.xor_comm, BitVec.xor_assoc, BitVec.xor_self, BitVec.xor_zero]

/-! ### bits turned -/
theorem xor_byte : ∀ x : Fin 256, ∀ r : Fin 8, (0 ≤ bXor .u8 ((x.val : Nat) : Int) (shL .u8 1 ((r.val : Nat) : Int)) ∧ bXor .u8 ((x.val : Nat) : Int) (shL .u8 1 ((r.val : Nat) : Int)) ≤ 255) ∧ ∀ i : Fin 8, (bXor .u8 ((x.val : Nat) : Int) (shL .u8 1 ((r.val : Nat) : Int))).toNat.testBit i.val = (x.val.testBit i.val ^^ decide (i.val = r.val)) := by decide +kernel
def turnM (at_ pat : Nat) (l : List Int) : Nat → List Int
  | 0 => l
  | i + 1 => if pat.testBit i = true ∧ at_ + i < 8 * l.length then (turnM at_ pat l i).set ((at_ + i) / 8) (bXor .u8 (((turnM at_ pat l i)[(at_ + i) / 8]?).getD 0) (shL .u8 1 (((at_ + i) % 8 : Nat) : Int))) else turnM at_ pat l i
theorem turnM_len (at_ pat : Nat) (l : List Int) : ∀ i, (turnM at_ pat l i).length = l.length
  | 0 => rfl
  | i + 1 => by
    rw [turnM]
    split
    · rw [List.length_set, turnM_len at_ pat l i]
    · exact turnM_len at_ pat l i
theorem turnM_ok (at_ pat : Nat) {l : List Int} (h : BytesOk l) : ∀ i, BytesOk (turnM at_ pat l i)
  | 0 => h
  | i + 1 => by
    have ih := turnM_ok at_ pat h i
    rw [turnM]
    split
    · rename_i hc
      intro x hx
      have hlen := turnM_len at_ pat l i
      have hq : (at_ + i) / 8 < (turnM at_ pat l i).length := by omega
      rcases List.mem_or_eq_of_mem_set hx with hx | hx
      · exact ih x hx
      · rw [List.getElem?_eq_getElem hq] at hx
        have hb := ih _ (List.getElem_mem hq)
        have hv := (xor_byte ⟨((turnM at_ pat l i)[(at_ + i) / 8]).toNat, by omega⟩ ⟨(at_ + i) % 8, Nat.mod_lt _ (by decide)⟩).1
        dsimp only at hv
        rw [show (((turnM at_ pat l i)[(at_ + i) / 8]).toNat : Int) = (turnM at_ pat l i)[(at_ + i) / 8] by omega] at hv
        rw [hx]
        exact hv
    · exact ih
theorem flip_bits {l : List Int} (h : BytesOk l) {q r : Nat} (hr : r < 8) {x : Int} (hx : l[q]? = some x) (k : Nat) : bitAt (bitsU (l.set q (bXor .u8 x (shL .u8 1 ((r : Nat) : Int))))) k = (bitAt (bitsU l) k ^^ decide (k = 8 * q + r)) := by
  obtain ⟨hq, hg⟩ := List.getElem?_eq_some_iff.1 hx
  have hb := h x (List.mem_of_getElem? hx)
  by_cases hk : k / 8 < l.length
  · have hk8 : k % 8 < 8 := Nat.mod_lt _ (by decide)
    have ek : 8 * (k / 8) + k % 8 = k := by omega
    have h1 := bitAt_bitsU l (k / 8) (k % 8) _ (List.getElem?_eq_getElem hk) hk8
    rw [ek] at h1
    rw [h1]
    by_cases hkq : k / 8 = q
    · have h2 := bitAt_bitsU (l.set q (bXor .u8 x (shL .u8 1 ((r : Nat) : Int)))) (k / 8) (k % 8) (bXor .u8 x (shL .u8 1 ((r : Nat) : Int))) (by rw [hkq, List.getElem?_set_self hq]) hk8
      rw [ek] at h2
      have hv := (xor_byte ⟨x.toNat, by omega⟩ ⟨r, hr⟩).2 ⟨k % 8, hk8⟩
      dsimp only at hv
      rw [show (x.toNat : Int) = x by omega] at hv
      subst hkq
      rw [h2, hv, hg]
      congr 1
      rw [decide_eq_decide]
      omega
    · have h2 := bitAt_bitsU (l.set q (bXor .u8 x (shL .u8 1 ((r : Nat) : Int)))) (k / 8) (k % 8) l[k / 8] (by rw [List.getElem?_set_ne (fun e => hkq e.symm), List.getElem?_eq_getElem hk]) hk8
      rw [ek] at h2
      rw [h2, decide_eq_false (by omega), Bool.xor_false]
  · rw [bitAt_ge (by rw [bitsU_len, List.length_set]; omega), bitAt_ge (by rw [bitsU_len]; omega), decide_eq_false (by omega)]
    rfl
theorem turnM_bit (at_ pat : Nat) {l : List Int} (h : BytesOk l) (i k : Nat) : bitAt (bitsU (turnM at_ pat l (i + 1))) k = (bitAt (bitsU (turnM at_ pat l i)) k ^^ decide (k = at_ + i ∧ pat.testBit i = true ∧ at_ + i < 8 * l.length)) := by
  rw [turnM]
  split
  · rename_i hc
    have hlen := turnM_len at_ pat l i
    have hq : (at_ + i) / 8 < (turnM at_ pat l i).length := by omega
    have hx := List.getElem?_eq_getElem hq
    rw [hx, Option.getD_some, flip_bits (turnM_ok at_ pat h i) (Nat.mod_lt _ (by decide)) hx]
    congr 1
    rw [decide_eq_decide]
    constructor
    · intro e; exact ⟨by omega, hc⟩
    · intro e; omega
  · rename_i hc
    rw [decide_eq_false (fun e => hc e.2), Bool.xor_false]
theorem turnM_out (at_ pat : Nat) {l : List Int} (h : BytesOk l) (k : Nat) : ∀ i, (k < at_ ∨ at_ + i ≤ k) → bitAt (bitsU (turnM at_ pat l i)) k = bitAt (bitsU l) k
  | 0, _ => rfl
  | i + 1, hk => by
    rw [turnM_bit at_ pat h, turnM_out at_ pat h k i (by omega), decide_eq_false (by omega), Bool.xor_false]
theorem turnM_at (at_ pat : Nat) {l : List Int} (h : BytesOk l) (hp : pat.testBit 0 = true) (ha : at_ < 8 * l.length) : ∀ i, bitAt (bitsU (turnM at_ pat l (i + 1))) at_ = !bitAt (bitsU l) at_
  | 0 => by
    rw [turnM_bit at_ pat h, decide_eq_true ⟨rfl, hp, ha⟩, Bool.xor_true]
    rfl
  | i + 1 => by rw [turnM_bit at_ pat h, turnM_at at_ pat h hp ha i, decide_eq_false (by omega), Bool.xor_false]
/-- a frame of which such bits are turned is none. -/
theorem burst_breaks {b : List Int} (hb : BytesOk b) {at_ pat : Nat} (hp : pat.testBit 0 = true) (ha : at_ < 8 * (sealF b).length) {c : List Int} (hc : BytesOk c) : sealF c ≠ turnM at_ pat (sealF b) 32 := by
  intro e
  have hs := sealF_ok hb
  have r1 := frame_reg hb
  have r2 := frame_reg hc
  rw [e] at r2
  have hlen : (bitsU (sealF b)).length = (bitsU (turnM at_ pat (sealF b) 32)).length := by rw [bitsU_len, bitsU_len, turnM_len]
  have key : bitsU (sealF b) = bitsU (turnM at_ pat (sealF b) 32) := by
    refine burst (at_ := at_) hlen ?_ ?_ (r1.trans r2.symm)
    · refine list_bits (by simp [hlen]) fun k hk => ?_
      have hk : k < at_ := by rw [List.length_take] at hk; omega
      unfold bitAt
      rw [List.getElem?_take_of_lt hk, List.getElem?_take_of_lt hk]
      exact (turnM_out at_ pat hs k 32 (.inl hk)).symm
    · refine list_bits (by simp [hlen]) fun k hk => ?_
      unfold bitAt
      rw [List.getElem?_drop, List.getElem?_drop]
      exact (turnM_out at_ pat hs (at_ + 32 + k) 32 (.inr (by omega))).symm
  have := turnM_at at_ pat hs hp ha 31
  rw [← key] at this
  cases h : bitAt (bitsU (sealF b)) at_ <;> rw [h] at this <;> cases this

end Go.Proofs.YtchhhjlpnecjkaaGreat

namespace Go.Proofs.YtchhhjlpnecjkaaGreat
open Go Go.RowKit Go.Proofs.YtchhhjlpnecjkaaGreat.Den
variable {R : Type} {Q : R → World → Prop} {w : World}

theorem spec_bytes_Equal {ok ok2 : Nat → Prop} {s s2 : Sl} {l l2 : List Int} (hS : SlT ok w u8T s l) (hS2 : SlT ok2 w u8T s2 l2) (h1 : BytesOk l) (h2 : BytesOk l2) {K : Res [.sc .bool] → W R} (hk : K (decide (l = l2)) Q w) :
    callW Tryz.prog k_bytes_Equal [.slice s.a s.n s.c, .slice s2.a s2.n s2.c] [.sc .bool] K Q w := by
  refine C_bytes_Equal s s2 K Q w ?_
  unfold F_bytes_Equal
  refine strI hS (strI hS2 ?_)
  rw [str_eq h1 h2]
  exact hk
theorem spec_r3_Turn {ok : Nat → Prop} {s : Sl} {l : List Int} (hS : SlT ok w u8T s l) (hb : BytesOk l) (hm : l.length ≤ 1048576) {at_ pat : Nat} (ha : at_ ≤ 1073741824) (hp : pat < 4294967296) {K : Res [.sc .sl] → W R} (hk : ∀ r w', Own (Up w.heap.size) w' 5 u8T r (turnM at_ pat l 32) → Fr None w w' → K r Q w') :
    callW Tryz.prog k_pinnaceref03_Turn [.slice s.a s.n s.c, .int .i64 (at_ : Int), .int .u32 (pat : Int)] [.sc .sl] K Q w := by
  refine C_pinnaceref03_Turn s _ _ K Q w ?_
  unfold F_pinnaceref03_Turn
  refine freshB hS (by omega) fun r w1 o1 f1 => ?_
  refine forI (N := 32) (fun s : Int × Int => s.2) (fun j st v => st.2 = (j : Int) ∧ st.1 = ((pat / 2 ^ j : Nat) : Int) ∧ Own (Up w.heap.size) v 5 u8T r (turnM at_ pat l j) ∧ Fr None w v) ⟨rfl, by simp, o1, f1⟩ (fun j s w' h => h.1) ?_ ?_
  · rintro j ⟨p, _⟩ v K' hj ⟨rfl, rfl, o, fv⟩ - hK
    have hlen := turnM_len at_ pat l j
    have hrn := o.len
    have hok := turnM_ok at_ pat hb j
    have hd : pat / 2 ^ j ≤ 4294967295 := Nat.le_trans (Nat.div_le_self _ _) (by omega)
    have eb : pat.testBit j = (Int.tmod ((pat / 2 ^ j : Nat) : Int) 2 == 1) := by
      rw [Nat.testBit_eq_decide_div_mod_eq]
      generalize pat / 2 ^ j = q at hd ⊢
      rw [Int.tmod_eq_emod_of_nonneg (by omega), Bool.eq_iff_iff]
      simp only [decide_eq_true_eq, beq_iff_eq]
      omega
    have ew : IntKind.wrap .i64 ((at_ : Int) + (j : Int)) = ((at_ + j : Nat) : Int) := by rw [w64 (by omega)]; omega
    have e8 : IntKind.wrap .i64 (8 * (r.n : Int)) = ((8 * l.length : Nat) : Int) := by rw [w64 (by omega)]; omega
    rw [ew, e8]
    refine joinI (fun z x => z = decide (pat.testBit j = true ∧ at_ + j < 8 * l.length) ∧ x = v) ?_ ?_
    · rw [← eb]
      refine condI (fun h => ?_) fun h => ⟨by rw [h]; simp, rfl⟩
      refine condT (decide_eq_true (by omega)) ⟨?_, rfl⟩
      rw [h, decide_eq_decide]
      constructor
      · intro e; exact ⟨rfl, by omega⟩
      · intro e; have := e.2; omega
    rintro z x ⟨rfl, rfl⟩
    have next : IntKind.wrap .u32 (Int.tdiv ((pat / 2 ^ j : Nat) : Int) 2) = ((pat / 2 ^ (j + 1) : Nat) : Int) := by
      rw [Nat.pow_succ, ← Nat.div_div_eq_div_mul]
      generalize pat / 2 ^ j = q at hd ⊢
      rw [Int.tdiv_eq_ediv_of_nonneg (by omega), wu32 (by omega)]
      omega
    refine joinI (fun (_ : Unit) x' => Own (Up w.heap.size) x' 5 u8T r (turnM at_ pat l (j + 1)) ∧ Fr None w x') ?_ fun _ x' ⟨h1, h2⟩ => hK _ _ ⟨wsucc hj (by omega), next, h1, h2⟩
    refine condD (fun hc => ?_) fun hc => ?_
    · have hq : (at_ + j) / 8 < (turnM at_ pat l j).length := by have := hc.2; omega
      have ed : IntKind.wrap .i64 (Int.tdiv ((at_ + j : Nat) : Int) 8) = (((at_ + j) / 8 : Nat) : Int) := by
        rw [Int.tdiv_eq_ediv_of_nonneg (by omega), w64 (by omega)]
        omega
      have em : IntKind.wrap .u64 (Int.tmod ((at_ + j : Nat) : Int) 8) = (((at_ + j) % 8 : Nat) : Int) := by
        rw [Int.tmod_eq_emod_of_nonneg (by omega), wU64 (by omega)]
        omega
      rw [em]
      refine updI o (i := (at_ + j) / 8) (x := (turnM at_ pat l j)[(at_ + j) / 8]) (List.getElem?_eq_getElem hq) ed ed (c := 0 ≤ (((at_ + j) % 8 : Nat) : Int)) (by omega) (f := fun x => bXor .u8 x (shL .u8 1 (((at_ + j) % 8 : Nat) : Int))) fun v' o' f' _ => ⟨?_, fv.newer f' fun k e => o.own k e⟩
      rw [turnM, if_pos hc, List.getElem?_eq_getElem hq]
      exact o'
    · refine ⟨?_, fv⟩
      rw [turnM, if_neg hc]
      exact o
  · rintro ⟨p, _⟩ v ⟨_, _, o, fv⟩
    exact hk r v o fv
theorem spec_frame_Open {ok : Nat → Prop} {s : Sl} {l : List Int} (hS : SlT ok w u8T s l) (hb : BytesOk l) (hm : l.length ≤ 140737488355000) {K : Res [.sc .sl, .sc (.int .i64)] → W R} (h1 : ∀ w', Fr None w w' → (l.length < 4 → K (⟨none, 0, 0⟩, 2) Q w') ∧ (4100 < l.length → K (⟨none, 0, 0⟩, 3) Q w') ∧ (4 ≤ l.length → l.length ≤ 4100 → sealF (l.take (l.length - 4)) ≠ l → K (⟨none, 0, 0⟩, 6) Q w'))
    (hk : 4 ≤ l.length → l.length ≤ 4100 → sealF (l.take (l.length - 4)) = l → ∀ r w', Own (Up w.heap.size) w' 5 u8T r (l.take (l.length - 4)) → Fr None w w' → K (r, 0) Q w') :
    callW Tryz.prog k_frame_Open [.slice s.a s.n s.c] [.sc .sl, .sc (.int .i64)] K Q w := by
  refine C_frame_Open s K Q w ?_
  unfold F_frame_Open
  have hlen := hS.len
  rw [w64 (x := (s.n : Int) - 4) (by omega)]
  refine condD (fun h => (h1 w (Fr.refl _ _)).1 (by omega)) fun ha => ?_
  refine condD (fun h => (h1 w (Fr.refl _ _)).2.1 (by omega)) fun hc => ?_
  have fd : Fr None w w.drew := (Fr.refl _ _).drew
  have hSd := hS.fr0 fd
  have hbt : BytesOk (l.take (l.length - 4)) := fun x hx => hb x (List.mem_of_mem_take hx)
  have hbd : BytesOk (l.drop (l.length - 4)) := fun x hx => hb x (List.mem_of_mem_drop hx)
  have hlt : (l.take (l.length - 4)).length = l.length - 4 := by rw [List.length_take]; omega
  refine hSd.from (n := l.length - 4) rfl (by omega) (by omega) fun r1 hr1 _ => ?_
  refine hSd.cutI (n := l.length - 4) (by omega) (by omega) fun r2 _ hr2 => ?_
  refine spec_frame_Sum (hr2 _ _ hSd) (by omega) (spec_frame_tail fun t w1 o1 f1 => ?_)
  refine spec_bytes_Equal (hr1.fr0 f1) o1.sl hbd (tailF_ok _) ?_
  have key : (l.drop (l.length - 4) = tailF (sumF (l.take (l.length - 4)))) ↔ sealF (l.take (l.length - 4)) = l := by
    constructor
    · intro e
      unfold sealF
      rw [← e, List.take_append_drop]
    · intro e
      have := congrArg (List.drop (l.length - 4)) e
      unfold sealF at this
      rw [List.drop_left' hlt] at this
      exact this.symm
  have f01 := fd.then0 f1
  refine condI (fun h => ?_) fun h => ?_
  · refine (h1 w1 f01).2.2 (by omega) (by omega) fun e => ?_
    have := key.2 e
    simp [this] at h
  · have h : l.drop (l.length - 4) = tailF (sumF (l.take (l.length - 4))) := by simpa using h
    refine (hS.fr0 f01).cutI (n := l.length - 4) (by omega) (by omega) fun r3 _ hr3 => ?_
    refine spec_bytes_Clone (hr3 _ _ (hS.fr0 f01)) (by omega) fun r w2 o2 f2 => ?_
    have z1 := f01.size
    exact hk (by omega) (by omega) (key.1 h) r w2 (o2.up z1) (f01.then0 f2)
/-- bytes that are no frame. -/
def NoFrame (l : List Int) : Prop := 4 ≤ l.length ∧ l.length ≤ 4100 ∧ sealF (l.take (l.length - 4)) ≠ l
theorem spec_Peek_none {ok : Nat → Prop} {s : Sl} {l : List Int} (hS : SlT ok w u8T s l) (hb : BytesOk l) (hn : NoFrame l) {K : Res [.agg [.int .u8, .int .u8, .int .u32, .int .u32, .int .u32], .sc (.int .i64)] → W R} (hk : ∀ w', Fr None w w' → K ((0, 0, 0, 0, 0), 6) Q w') :
    callW Tryz.prog k_packet_Peek [.slice s.a s.n s.c] [.agg [.int .u8, .int .u8, .int .u32, .int .u32, .int .u32], .sc (.int .i64)] K Q w := by
  refine C_packet_Peek s K Q w ?_
  unfold F_packet_Peek
  obtain ⟨n1, n2, n3⟩ := hn
  refine newI fun w1 B1 f1 t1 => spec_frame_Open (hS.fr0 f1) hb (by omega) (fun w2 f2 => ⟨fun h => by omega, fun h => by omega, fun _ _ _ => ?_⟩) fun _ _ h => absurd h n3
  have z2 := f2.size
  refine condT rfl (stoAll (B1.fr f2 fun h => h) rfl rfl fun w3 B3 f3 t3 => aggI B3 (x := ((0, 0, 0, 0, 0) : Head)) rfl ?_)
  exact hk w3 ((f1.then0 f2).newer f3 fun k e => by omega)
theorem spec_Open_none {ok : Nat → Prop} {s s2 : Sl} {l : List Int} (hS : SlT ok w u8T s l) (hb : BytesOk l) (hn : NoFrame l) {K : Res [.agg [.int .u8, .int .u8, .int .u32, .int .u32, .int .u32], .sc .sl, .sc (.int .i64)] → W R} (hk : ∀ w', Fr None w w' → K ((0, 0, 0, 0, 0), ⟨none, 0, 0⟩, 6) Q w') :
    callW Tryz.prog k_packet_Open [.slice s.a s.n s.c, .slice s2.a s2.n s2.c] [.agg [.int .u8, .int .u8, .int .u32, .int .u32, .int .u32], .sc .sl, .sc (.int .i64)] K Q w := by
  refine C_packet_Open s s2 K Q w ?_
  unfold F_packet_Open
  obtain ⟨n1, n2, n3⟩ := hn
  refine newI fun w1 B1 f1 t1 => spec_frame_Open (hS.fr0 f1) hb (by omega) (fun w2 f2 => ⟨fun h => by omega, fun h => by omega, fun _ _ _ => ?_⟩) fun _ _ h => absurd h n3
  have z2 := f2.size
  refine condT rfl (stoAll (B1.fr f2 fun h => h) rfl rfl fun w3 B3 f3 t3 => aggI B3 (x := ((0, 0, 0, 0, 0) : Head)) rfl ?_)
  exact hk w3 ((f1.then0 f2).newer f3 fun k e => by omega)

end Go.Proofs.YtchhhjlpnecjkaaGreat
