/-
  What the proof of packetSeals_holds leans on, laid together by a program of this session (wip/pack.py) out of its own texts; the last of these texts holds packetSeals_holds.
-/
import Derived.Test.YtchhhjlpnecjkaaGreatS3
set_option linter.unusedVariables false
namespace Go.Proofs.YtchhhjlpnecjkaaGreat
open Go Go.RowKit Go.Proofs.YtchhhjlpnecjkaaGreat.Den
def hasE (L : List Ent) (id : Int) : Bool := L.any fun e => e.1 == id
def goneM (was now : List Ent) : List Int := (was.filter fun e => !hasE now e.1).map (·.1)
def comeM (was now : List Ent) : List Ent := now.filter fun e => !hasE was e.1
def nothingM (c : Chg) : Bool := decide (c.2.1 = 0 ∧ c.2.2.1.length = 0 ∧ c.2.2.2.length = 0)
def chgOne (was : List Ent) (e : Ent) : Option Chg := match was.find? (fun a => a.1 == e.1) with
  | none => none
  | some a => if nothingM (changeM a e) = true then none else some (changeM a e)
def chgsM (was now : List Ent) : List Chg := now.filterMap (chgOne was)
def goneP (was now : List Ent) : List Int := (was.filter fun e => !hasE now e.1).map (·.1)
theorem hasE_iff {L : List Ent} {id : Int} : hasE L id = true ↔ ∃ e ∈ L, e.1 = id := by simp [hasE]
theorem hasE_not {L : List Ent} {id : Int} : hasE L id = false ↔ ∀ e ∈ L, e.1 ≠ id := by simp [hasE]
structure FormOk (L : List Ent) : Prop where
  rise : L.Pairwise fun a b => a.1 < b.1
  one : ∀ e ∈ L, oneM e = 0
  told : ∀ e ∈ L, secretM e.2 = false
  pos : ∀ e ∈ L, 0 < e.1
theorem formM_ok : ∀ (L : List Ent) (prev : Int), formM prev L = 0 ↔ (∀ e ∈ L, prev < e.1) ∧ L.Pairwise (fun a b => a.1 < b.1) ∧ (∀ e ∈ L, oneM e = 0) ∧ (∀ e ∈ L, secretM e.2 = false)
  | [], _ => by simp [formM]
  | e :: r, prev => by
    have ih := formM_ok r e.1
    rw [formM]
    by_cases h1 : e.1 ≤ prev
    · rw [if_pos h1]
      refine ⟨fun h => absurd h (by decide), fun h => absurd (h.1 e List.mem_cons_self) (by omega)⟩
    · rw [if_neg h1]
      by_cases h2 : oneM e = 0
      · rw [if_neg (c := oneM e ≠ 0) (fun x => x h2)]
        by_cases h3 : secretM e.2 = true
        · rw [if_pos h3]
          refine ⟨fun h => absurd h (by decide), fun h => absurd (h.2.2.2 e List.mem_cons_self) (by rw [h3]; decide)⟩
        · rw [if_neg h3, ih]
          have h3 : secretM e.2 = false := by simpa using h3
          constructor
          · rintro ⟨a, b, c, d⟩
            refine ⟨fun x hx => ?_, List.pairwise_cons.2 ⟨a, b⟩, fun x hx => ?_, fun x hx => ?_⟩
            · rcases List.mem_cons.1 hx with rfl | hx
              · omega
              · have := a x hx; omega
            · rcases List.mem_cons.1 hx with rfl | hx
              · exact h2
              · exact c x hx
            · rcases List.mem_cons.1 hx with rfl | hx
              · exact h3
              · exact d x hx
          · rintro ⟨a, b, c, d⟩
            have hb := List.pairwise_cons.1 b
            exact ⟨hb.1, hb.2, fun x hx => c x (List.mem_cons_of_mem _ hx), fun x hx => d x (List.mem_cons_of_mem _ hx)⟩
      · rw [if_pos h2]
        exact ⟨fun h => absurd h h2, fun h => absurd (h.2.2.1 e List.mem_cons_self) h2⟩
theorem formOk {L : List Ent} : formM 0 L = 0 ↔ FormOk L := by
  rw [formM_ok]
  exact ⟨fun ⟨a, b, c, d⟩ => ⟨b, c, d, a⟩, fun ⟨a, b, c, d⟩ => ⟨d, a, b, c⟩⟩
theorem FormOk.list {L : List Ent} (h : FormOk L) {e : Ent} (he : e ∈ L) : listE e.2 = 0 := by
  have := h.one e he
  unfold oneM at this
  split at this
  · exact absurd this (by decide)
  · exact this
theorem find_at {L : List Ent} (hs : L.Pairwise fun a b => a.1 < b.1) {i : Nat} {a : Ent} (ha : L[i]? = some a) : L.find? (fun x => x.1 == a.1) = some a := by
  rw [List.find?_eq_some_iff_getElem]
  obtain ⟨hl, hg⟩ := List.getElem?_eq_some_iff.1 ha
  refine ⟨by simp, i, hl, hg, fun q hq => ?_⟩
  have := ids_lt hs hq (List.getElem?_eq_getElem (by omega)) ha
  simp
  omega
theorem goneM_step {was now : List Ent} {i : Nat} {a : Ent} (ha : was[i]? = some a) : goneP (was.take (i + 1)) now = goneP (was.take i) now ++ if hasE now a.1 = false then [a.1] else [] := by
  unfold goneP
  rw [take_at ha, List.filter_append, List.map_append]
  congr 1
  by_cases h : hasE now a.1 = true
  · simp [List.filter, h]
  · simp [List.filter, h]
theorem comeM_step {was now : List Ent} {i : Nat} {a : Ent} (ha : now[i]? = some a) : comeM was (now.take (i + 1)) = comeM was (now.take i) ++ if hasE was a.1 = false then [a] else [] := by
  unfold comeM
  rw [take_at ha, List.filter_append]
  congr 1
  by_cases h : hasE was a.1 = true
  · simp [List.filter, h]
  · simp [List.filter, h]
theorem chgsM_step {was now : List Ent} {i : Nat} {a : Ent} (ha : now[i]? = some a) : chgsM was (now.take (i + 1)) = chgsM was (now.take i) ++ match chgOne was a with
    | some c => [c]
    | none => [] := by
  unfold chgsM
  rw [take_at ha, List.filterMap_append]
  congr 1
  cases h : chgOne was a <;> simp [h]
structure Side (was now : List Ent) (i k : Nat) : Prop where
  lt : ∀ (p q : Nat) a b, p < i → k ≤ q → was[p]? = some a → now[q]? = some b → a.1 < b.1
  gt : ∀ (p q : Nat) a b, i ≤ p → q < k → was[p]? = some a → now[q]? = some b → b.1 < a.1
theorem Side.zero (was now : List Ent) : Side was now 0 0 := ⟨fun p q a b h => absurd h (by omega), fun p q a b h h2 => absurd h2 (by omega)⟩
section
variable {was now : List Ent} {i k : Nat}
theorem Side.left (h : Side was now i k) (_hw : was.Pairwise fun a b => a.1 < b.1) (hn : now.Pairwise fun a b => a.1 < b.1) {a : Ent} (ha : was[i]? = some a) (hb : ∀ b, now[k]? = some b → a.1 < b.1) : Side was now (i + 1) k ∧ hasE now a.1 = false := by
  have key : ∀ (q : Nat) b, k ≤ q → now[q]? = some b → a.1 < b.1 := fun q b hq hb2 => by
    rcases Nat.lt_or_ge k q with h1 | h1
    · obtain ⟨c, hc⟩ : ∃ c, now[k]? = some c := ⟨_, List.getElem?_eq_getElem (by have := (List.getElem?_eq_some_iff.1 hb2).1; omega)⟩
      have := hb c hc
      have := ids_lt hn h1 hc hb2
      omega
    · have : q = k := by omega
      subst this
      exact hb b hb2
  refine ⟨⟨fun p q x y hp hq hx hy => ?_, fun p q x y hp hq hx hy => h.gt p q x y (by omega) hq hx hy⟩, hasE_not.2 fun e he => ?_⟩
  · rcases Nat.lt_or_ge p i with h1 | h1
    · exact h.lt p q x y h1 hq hx hy
    · have : p = i := by omega
      subst this
      rw [ha] at hx; cases hx
      exact key q y hq hy
  · obtain ⟨q, hq⟩ := List.mem_iff_getElem?.1 he
    rcases Nat.lt_or_ge q k with h1 | h1
    · have := h.gt i q a e (Nat.le_refl _) h1 ha hq; omega
    · have := key q e h1 hq; omega
theorem Side.right (h : Side was now i k) (hw : was.Pairwise fun a b => a.1 < b.1) (_hn : now.Pairwise fun a b => a.1 < b.1) {b : Ent} (hb : now[k]? = some b) (ha : ∀ a, was[i]? = some a → b.1 < a.1) : Side was now i (k + 1) ∧ hasE was b.1 = false := by
  have key : ∀ (p : Nat) a, i ≤ p → was[p]? = some a → b.1 < a.1 := fun p a hp ha2 => by
    rcases Nat.lt_or_ge i p with h1 | h1
    · obtain ⟨c, hc⟩ : ∃ c, was[i]? = some c := ⟨_, List.getElem?_eq_getElem (by have := (List.getElem?_eq_some_iff.1 ha2).1; omega)⟩
      have := ha c hc
      have := ids_lt hw h1 hc ha2
      omega
    · have : p = i := by omega
      subst this
      exact ha a ha2
  refine ⟨⟨fun p q x y hp hq hx hy => h.lt p q x y hp (by omega) hx hy, fun p q x y hp hq hx hy => ?_⟩, hasE_not.2 fun e he => ?_⟩
  · rcases Nat.lt_or_ge q k with h1 | h1
    · exact h.gt p q x y hp h1 hx hy
    · have : q = k := by omega
      subst this
      rw [hb] at hy; cases hy
      exact key p x hp hx
  · obtain ⟨p, hp⟩ := List.mem_iff_getElem?.1 he
    rcases Nat.lt_or_ge p i with h1 | h1
    · have := h.lt p k e b h1 (Nat.le_refl _) hp hb; omega
    · have := key p e h1 hp; omega
theorem Side.both (h : Side was now i k) (hw : was.Pairwise fun a b => a.1 < b.1) (hn : now.Pairwise fun a b => a.1 < b.1) {a b : Ent} (ha : was[i]? = some a) (hb : now[k]? = some b) (hab : a.1 = b.1) : Side was now (i + 1) (k + 1) ∧ hasE now a.1 = true ∧ hasE was b.1 = true ∧ chgOne was b = if nothingM (changeM a b) = true then none else some (changeM a b) := by
  refine ⟨⟨fun p q x y hp hq hx hy => ?_, fun p q x y hp hq hx hy => ?_⟩, hasE_iff.2 ⟨b, List.mem_of_getElem? hb, hab.symm⟩, hasE_iff.2 ⟨a, List.mem_of_getElem? ha, hab⟩, ?_⟩
  · have h1 := ids_lt hn (show k < q by omega) hb hy
    rcases Nat.lt_or_ge p i with h2 | h2
    · have := ids_lt hw h2 hx ha; omega
    · have : p = i := by omega
      subst this
      rw [ha] at hx; cases hx
      omega
  · have h1 := ids_lt hw (show i < p by omega) ha hx
    rcases Nat.lt_or_ge q k with h2 | h2
    · have := ids_lt hn h2 hy hb; omega
    · have : q = k := by omega
      subst this
      rw [hb] at hy; cases hy
      omega
  · unfold chgOne
    rw [← hab, find_at hw ha]
end
end Go.Proofs.YtchhhjlpnecjkaaGreat
namespace Go.Proofs.YtchhhjlpnecjkaaGreat
open Go Go.RowKit Go.Proofs.YtchhhjlpnecjkaaGreat.Den
variable {R : Type} {Q : R → World → Prop} {w : World}
theorem spec_Clone_Comp {ok : Nat → Prop} {s : Sl} {l : List Comp} (hS : SlT ok w compT s l) (hm : l.length * 16 ≤ 140737488355328) {K : Res [.sc .sl] → W R} (hk : ∀ r w', Own (Up w.heap.size) w' 92 compT r l → Fr None w w' → K r Q w') :
    callW Tryz.prog k_slices_Clone_Comp [.slice s.a s.n s.c] [.sc .sl] K Q w := by
  refine C_slices_Clone_Comp _ K Q w ?_
  unfold F_slices_Clone_Comp
  rcases hS.at_ with rfl | ⟨b, o, ha, _⟩
  · cases hsa : s.a with
    | none => exact condT rfl (hk _ w (Own.nil _ _ _ _) (Fr.refl _ _))
    | some a =>
      refine condF rfl ?_
      rw [← hsa]
      refine newI fun w1 B1 f1 s1 => ?_
      have own := Own.mk' (S := Up w.heap.size) (w := w1) (E := 92) (t := compT) (l := []) (g := w.heap.size) (c := 0) (cur := ⟨[]⟩) (Nat.le_refl _) B1 (Nat.le_refl _) (Nat.zero_le _) (by simp) (by simp)
      refine appI (s := ⟨some ⟨w.heap.size, 0, none⟩, 0, 0⟩) (s2 := s) (S' := Up w.heap.size) comps_ty own (hS.fr0 f1) (by simp) (by simp) (fun _ h => h) (by show _ ≤ _; omega) fun r w2 o2 f2 s2 => hk r w2 (by simpa using o2) (f1.newer f2 (fun x e => own.own x e))
  · rw [ha]
    refine condF rfl ?_
    rw [← ha]
    exact cloneI comps_ty hS hm (by omega) hk
end Go.Proofs.YtchhhjlpnecjkaaGreat
namespace Go.Proofs.YtchhhjlpnecjkaaGreat
open Go Go.RowKit Go.Proofs.YtchhhjlpnecjkaaGreat.Den
variable {R : Type} {Q : R → World → Prop} {w : World}
def zigM (n : Int) : Int := if 0 ≤ n then 2 * n else -2 * n - 1
theorem xor_0 {x : Int} (h0 : 0 ≤ x) (h1 : x ≤ 18446744073709551615) : bXor .u64 x 0 = x := by
  unfold bXor
  rw [BitVec.toNat_xor, BitVec.toNat_ofInt, BitVec.toNat_ofInt]
  have e1 : (0 % ((2 ^ IntKind.bits .u64 : Nat) : Int)).toNat = 0 := by decide
  have e2 : (x % ((2 ^ IntKind.bits .u64 : Nat) : Int)).toNat = x.toNat := by
    have : ((2 ^ IntKind.bits .u64 : Nat) : Int) = 18446744073709551616 := by decide
    rw [this]; omega
  rw [e1, e2, Nat.xor_zero, IntKind.wrap_u64]
  omega
theorem xor_ones {x : Int} (h0 : 0 ≤ x) (h1 : x ≤ 18446744073709551615) : bXor .u64 x 18446744073709551615 = 18446744073709551615 - x := by
  change IntKind.wrap .u64 (((BitVec.ofInt 64 x ^^^ BitVec.ofInt 64 18446744073709551615).toNat : Nat) : Int) = _
  have e : BitVec.ofInt 64 18446744073709551615 = BitVec.allOnes 64 := by decide
  rw [e, BitVec.xor_allOnes, BitVec.toNat_not, BitVec.toNat_ofInt]
  have e2 : (x % ((2 ^ 64 : Nat) : Int)).toNat = x.toNat := by
    have : ((2 ^ 64 : Nat) : Int) = 18446744073709551616 := by decide
    rw [this]; omega
  rw [e2, IntKind.wrap_u64]
  omega
theorem spec_nums_Zig {n : Int} (hn : -4611686018427387904 ≤ n ∧ n ≤ 4611686018427387903) {K : Res [.sc (.int .u64)] → W R} (hk : K (zigM n) Q w) : callW Tryz.prog k_nums_Zig [.int .i64 n] [.sc (.int .u64)] K Q w := by
  refine C_nums_Zig _ K Q w ?_
  unfold F_nums_Zig
  have e1 : shL .i64 n 1 = n * 2 := by
    unfold shL
    have : (2 : Int) ^ (min (Int.toNat 1) (IntKind.bits .i64)) = 2 := by decide
    rw [this, w64 (by omega)]
  have e2 : shR .i64 n 63 = if 0 ≤ n then 0 else -1 := by
    unfold shR
    have : (2 : Int) ^ (min (Int.toNat 63) (IntKind.bits .i64)) = 9223372036854775808 := by decide
    rw [this, Int.fdiv_eq_ediv_of_nonneg _ (by decide)]
    split <;> omega
  rw [e1, e2]
  unfold zigM at hk
  by_cases h : 0 ≤ n
  · rw [if_pos h] at hk ⊢
    have : bXor .u64 (IntKind.wrap .u64 (n * 2)) (IntKind.wrap .u64 0) = 2 * n := by
      rw [wU64 (by omega), wU64 (by omega), xor_0 (by omega) (by omega)]
      omega
    rw [this]
    exact hk
  · rw [if_neg h] at hk ⊢
    have : bXor .u64 (IntKind.wrap .u64 (n * 2)) (IntKind.wrap .u64 (-1)) = -2 * n - 1 := by
      have a1 : IntKind.wrap .u64 (-1) = 18446744073709551615 := by decide
      have a2 : IntKind.wrap .u64 (n * 2) = 18446744073709551616 + n * 2 := by rw [IntKind.wrap_u64]; omega
      rw [a1, a2, xor_ones (by omega) (by omega)]
      omega
    rw [this]
    exact hk
abbrev Part := Int × Int
abbrev partT : Ty := .agg [.int .u64, .int .i64]
def fieldP (c : Comp) (i : Nat) : Part := (IntKind.wrap .u64 (fl c i - (rangeM c.1 (i : Int)).1), (widthM (rangeM c.1 (i : Int)).1 (rangeM c.1 (i : Int)).2.1 : Int))
def wholeP (c : Comp) : List Part := (List.range (cntM c.1)).map (fieldP c)
def oneP (was c : Comp) (i : Nat) : List Part :=
  if zigM (fl c i - fl was i) = 0 then [(0, 1)] else if zigM (fl c i - fl was i) ≤ 16 then [(1, 1), (1, 1), (zigM (fl c i - fl was i) - 1, 4)] else [(1, 1), (0, 1), fieldP c i]
def stepP (was c : Comp) : List Part := (List.range (cntM c.1)).flatMap (oneP was c)
def partsB (l : List Part) : List Bool := l.flatMap fun p => bitsOf p.1.toNat p.2.toNat
def PartOk (p : Part) : Prop := (0 ≤ p.1 ∧ p.1.toNat < 2 ^ p.2.toNat) ∧ 0 ≤ p.2 ∧ p.2 ≤ 64
theorem parts_ty : SlTy Tryz.prog 202 231 partT 16 := slTy (by kernel_rfl)
theorem flI {c : Comp} (h : CompOk c) : ∀ i, -2147483648 ≤ fl c i ∧ fl c i ≤ 2147483647
  | 0 => h.2.1
  | 1 => h.2.2.1
  | _ + 2 => h.2.2.2
theorem rangeM_i32 (k i : Int) : (-2147483648 ≤ (rangeM k i).1 ∧ (rangeM k i).1 ≤ 2147483647) ∧ (-2147483648 ≤ (rangeM k i).2.1 ∧ (rangeM k i).2.1 ≤ 2147483647) := by
  unfold rangeM
  split
  · split
    · rename_i p hp
      have hm := List.mem_of_getElem? hp
      unfold fieldsM at hm
      repeat' split at hm
      all_goals first
        | (simp only [List.mem_cons, List.not_mem_nil, or_false] at hm; rcases hm with rfl | rfl | rfl <;> decide)
        | (simp only [List.mem_cons, List.not_mem_nil, or_false] at hm; rcases hm with rfl | rfl <;> decide)
        | (simp only [List.mem_cons, List.not_mem_nil, or_false] at hm; subst hm; decide)
        | simp at hm
    · decide
  · decide
theorem spec_comp_field {c : Comp} (hc : CompOk c) {i : Nat} (hi : i < 3) {K : Res [.agg [.int .u64, .int .i64]] → W R} (hk : ∀ w', Fr None w w' → K (fieldP c i) Q w') :
    callW Tryz.prog k_comp_field [.agg ⟨compC c⟩, .int .i64 (i : Int)] [.agg [.int .u64, .int .i64]] K Q w := by
  refine C_comp_field c _ K Q w ?_
  unfold F_comp_field
  refine newI fun w1 B1 f1 s1 => newI fun w2 B2 f2 s2 => ?_
  have B1 := B1.fr f2 fun h => h
  refine fldI B1 (i := 0) (x := c.1) rfl (spec_schema_Range fun w3 f3 => ?_)
  have fd : Fr None w3 w3.drew := (Fr.refl _ _).drew
  have B1 := (B1.fr f3 fun h => h).fr fd fun h => h
  have B2 := (B2.fr f3 fun h => h).fr fd fun h => h
  refine fIdx (j := i) rfl hi (fld0 B1 (x := fl c i) (compC_fl c hi) ?_)
  obtain ⟨r1, r2⟩ := rangeM_i32 c.1 (i : Int)
  have hf := flI hc i
  rw [w64 (x := (rangeM c.1 (i : Int)).1) (by omega), w64 (x := (rangeM c.1 (i : Int)).2.1) (by omega), w64 (x := fl c i) (by omega), w64 (x := fl c i - _) (by omega)]
  refine spec_nums_Width (by omega) (by omega) (andI ?_ ?_)
  · exact (B1.cell (1 + i)).trans (compC_fl c hi)
  · refine stoAll B2 rfl rfl fun w4 B4 f4 s4 => aggI B4 (x := fieldP c i) rfl ?_
    exact hk w4 ((((f1.then0 f2).then0 f3).then0 fd).newer f4 fun k e => by omega)
theorem spec_schema_Count {k : Int} {K : Res [.sc (.int .i64)] → W R} (hk : ∀ w', Fr None w w' → K ((cntM k : Nat) : Int) Q w') : callW Tryz.prog k_schema_Count [.int .u8 k] [.sc (.int .i64)] K Q w := by
  refine C_schema_Count _ K Q w ?_
  unfold F_schema_Count
  refine spec_schema_of fun s w1 hS f1 => ?_
  have hn : s.n = cntM k := hS.len
  show K ((s.n : Nat) : Int) Q w1
  rw [hn]
  exact hk w1 f1
theorem spec_comp_whole {c : Comp} (hc : CompOk c) {K : Res [.sc .sl] → W R} (hk : ∀ r w', Own (Up w.heap.size) w' 231 partT r (wholeP c) → Fr None w w' → K r Q w') :
    callW Tryz.prog k_comp_whole [.agg ⟨compC c⟩] [.sc .sl] K Q w := by
  refine C_comp_whole c K Q w ?_
  unfold F_comp_whole
  refine newI fun w1 B1 f1 s1 => ?_
  have h3 := cntM_le c.1
  refine fldI B1 (i := 0) (x := c.1) rfl (spec_schema_Count fun w2 f2 => ?_)
  refine forI (N := cntM c.1) (fun s : Sl × Int => s.2) (fun j s w' => s.2 = (j : Int) ∧ Own (fun k => w.heap.size ≤ k ∧ k ≠ w.heap.size) w' 231 partT s.1 ((List.range j).map (fieldP c)) ∧ Blk w' w.heap.size 92 (compC c) ∧ Fr None w w') ⟨rfl, Own.nil _ _ _ _, B1.fr f2 fun h => h, f1.then0 f2⟩ (fun j s w' h => h.1) ?_ ?_
  · rintro j ⟨z, _⟩ w3 K' hj ⟨rfl, o3, B3, f3⟩ - hK
    have hs3 := f3.size
    refine aggI B3 (x := c) rfl (spec_comp_field hc (by omega) fun w4 f4 => ?_)
    have hs4 := f4.size
    refine appP (x := fieldP c j) parts_ty rfl (o3.none f4) (fun k e => ⟨by omega, by have := B3.lt; omega⟩) (by simp; omega) (by simp; omega) fun r w5 o5 f5 => ?_
    have hr : (List.range (j + 1)).map (fieldP c) = (List.range j).map (fieldP c) ++ [fieldP c j] := by rw [List.range_succ, List.map_append]; rfl
    refine hK _ _ ⟨wsucc hj (by omega), by rw [hr]; exact o5, ?_, (f3.then0 f4).newer f5 fun k e => (o3.own k e).1⟩
    exact (B3.fr f4 fun h => h).fr f5 fun e => (o3.own _ e).2 rfl
  · rintro ⟨z, _⟩ w3 ⟨_, o3, _, f3⟩
    exact hk z w3 (o3.mono fun k _ e => e.1) f3
theorem spec_comp_more {was c : Comp} (hw : CompOk was) (hc : CompOk c) {i : Nat} (hi : i < 3) {K : Res [.sc (.int .u64)] → W R} (hk : ∀ w', Fr None w w' → K (zigM (fl c i - fl was i)) Q w') :
    callW Tryz.prog k_comp_more [.agg ⟨compC was⟩, .agg ⟨compC c⟩, .int .i64 (i : Int)] [.sc (.int .u64)] K Q w := by
  refine C_comp_more was c _ K Q w ?_
  unfold F_comp_more
  refine newI fun w1 B1 f1 s1 => newI fun w2 B2 f2 s2 => ?_
  have fd : Fr None w2 w2.drew := (Fr.refl _ _).drew
  have B1 := (B1.fr f2 fun h => h).fr fd fun h => h
  have B2 := B2.fr fd fun h => h
  have a := flI hc i
  have b := flI hw i
  refine fIdx (j := i) rfl hi (fld0 B2 (x := fl c i) (compC_fl c hi) (fIdx (j := i) rfl hi (fld0 B1 (x := fl was i) (compC_fl was hi) ?_)))
  rw [w64 (x := fl c i) (by omega), w64 (x := fl was i) (by omega), w64 (x := fl c i - fl was i) (by omega)]
  exact spec_nums_Zig (by omega) (hk _ ((f1.then0 f2).then0 fd))
theorem oneP_len (was c : Comp) (i : Nat) : (oneP was c i).length ≤ 3 := by
  unfold oneP
  split
  · simp
  · split <;> simp
theorem stepPs_len (was c : Comp) (j : Nat) : ((List.range j).flatMap (oneP was c)).length ≤ 3 * j := by
  induction j with
  | zero => simp
  | succ j ih =>
    rw [List.range_succ, List.flatMap_append, List.length_append]
    have := oneP_len was c j
    simp only [List.flatMap_cons, List.flatMap_nil, List.append_nil]
    omega
theorem spec_comp_step {was c : Comp} (hw : CompOk was) (hc : CompOk c) {K : Res [.sc .sl] → W R} (hk : ∀ r w', Own (Up w.heap.size) w' 231 partT r (stepP was c) → Fr None w w' → K r Q w') :
    callW Tryz.prog k_comp_step [.agg ⟨compC was⟩, .agg ⟨compC c⟩] [.sc .sl] K Q w := by
  refine C_comp_step was c K Q w ?_
  unfold F_comp_step
  refine newI fun w1 B1 f1 s1 => newI fun w2 B2 f2 s2 => ?_
  have B1 := B1.fr f2 fun h => h
  have h3 := cntM_le c.1
  refine fldI B2 (i := 0) (x := c.1) rfl (spec_schema_Count fun w3 f3 => ?_)
  have fs := (f1.then0 f2).then0 f3
  refine forI (N := cntM c.1) (fun s : Sl × Int => s.2) (fun j s w' => s.2 = (j : Int) ∧ Own (fun k => w.heap.size ≤ k ∧ k ≠ w.heap.size ∧ k ≠ w1.heap.size) w' 231 partT s.1 ((List.range j).flatMap (oneP was c)) ∧ Blk w' w.heap.size 92 (compC was) ∧ Blk w' w1.heap.size 92 (compC c) ∧ Fr None w w') ⟨rfl, Own.nil _ _ _ _, B1.fr f3 fun h => h, B2.fr f3 fun h => h, fs⟩ (fun j s w' h => h.1) ?_ ?_
  · rintro j ⟨z, _⟩ w4 K' hj ⟨rfl, o4, B14, B24, f4⟩ - hK
    have hl1 := B14.lt
    have hl2 := B24.lt
    refine aggI B14 (x := was) rfl (aggI B24 (x := c) rfl (spec_comp_more hw hc (by omega) fun w5 f5 => ?_))
    have hs5 := f5.size
    have o5 := o4.none f5
    have B15 := B14.fr f5 fun h => h
    have B25 := B24.fr f5 fun h => h
    have hpl := stepPs_len was c j
    refine joinI (fun (z : Sl) w' => Own (fun k => w.heap.size ≤ k ∧ k ≠ w.heap.size ∧ k ≠ w1.heap.size) w' 231 partT z ((List.range j).flatMap (oneP was c) ++ oneP was c j) ∧ Blk w' w.heap.size 92 (compC was) ∧ Blk w' w1.heap.size 92 (compC c) ∧ Fr None w w') ?_ ?_
    · have app : ∀ {z5 : Sl} {v : World} {ps : List Part} {cs : List Value} {n : Nat} {R2 : Type} {K2 : Sl → W R2} {Q2 : R2 → World → Prop}, Fr None w v → Blk v w.heap.size 92 (compC was) → Blk v w1.heap.size 92 (compC c) → Own (fun k => w.heap.size ≤ k ∧ k ≠ w.heap.size ∧ k ≠ w1.heap.size) v 231 partT z5 ((List.range j).flatMap (oneP was c)) → cs = ps.flatMap partT.cells → cs.length = ps.length * 2 → n = ps.length → ps.length ≤ 3 →
          (∀ r v', Own (fun k => w.heap.size ≤ k ∧ k ≠ w.heap.size ∧ k ≠ w1.heap.size) v' 231 partT r ((List.range j).flatMap (oneP was c) ++ ps) → Blk v' w.heap.size 92 (compC was) → Blk v' w1.heap.size 92 (compC c) → Fr None w v' → K2 r Q2 v') →
          newW 231 cs (fun a => rawW Tryz.prog (Builtin.append_ #[202, 202] 202 #[.slice z5.a z5.n z5.c, .slice (some a) n n]) [.sc .sl] K2) Q2 v := by
        intro z5 v ps cs n R2 K2 Q2 fv V1 V2 ov hcs hcl hn hp hk2
        have hsv := fv.size
        refine newI fun v1 Bv g1 t1 => ?_
        subst hn
        have lit : Own (fun _ => True) v1 231 partT ⟨some ⟨v.heap.size, 0, none⟩, ps.length, ps.length⟩ ps := Own.mk' (S := fun _ => True) (E := 231) (t := partT) (l := ps) (g := v.heap.size) (c := ps.length) (cur := ⟨cs⟩) trivial Bv (Nat.le_refl _) (by rw [maxLen_eq]; omega) hcl (by rw [hcs, show partT.size = 2 from rfl, ← hcl, hcs]; exact List.take_length)
        refine appI (s := z5) (s2 := ⟨some ⟨v.heap.size, 0, none⟩, ps.length, ps.length⟩) (S' := fun k => w.heap.size ≤ k ∧ k ≠ w.heap.size ∧ k ≠ w1.heap.size) parts_ty (ov.none g1) lit.sl (by omega) (by rw [maxLen_eq]; omega) (fun _ h => h) ⟨by have := g1.size; omega, by have := V1.lt; have := g1.size; omega, by have := V2.lt; have := g1.size; omega⟩ fun r v2 o2 g2 _ => ?_
        exact hk2 r v2 o2 ((V1.fr g1 fun h => h).fr g2 fun e => (ov.own _ e).2.1 rfl) ((V2.fr g1 fun h => h).fr g2 fun e => (ov.own _ e).2.2 rfl) ((fv.then0 g1).newer g2 fun k e => (ov.own k e).1)
      refine condE (fun hz => ?_) fun hz => ?_
      · have e : oneP was c j = [(0, 1)] := by rw [oneP, if_pos hz]
        rw [e]
        refine app (z5 := z) (ps := [(0, 1)]) (n := 1) (f4.then0 f5) B15 B25 o5 rfl rfl rfl (by simp) ?_
        exact fun r v' o b1 b2 f => ⟨o, b1, b2, f⟩
      · refine joinI (fun (z : Sl) w' => Own (fun k => w.heap.size ≤ k ∧ k ≠ w.heap.size ∧ k ≠ w1.heap.size) w' 231 partT z ((List.range j).flatMap (oneP was c) ++ oneP was c j) ∧ Blk w' w.heap.size 92 (compC was) ∧ Blk w' w1.heap.size 92 (compC c) ∧ Fr None w w') ?_ fun z w' h => h
        refine condD (fun h16 => ?_) fun h16 => ?_
        · have e : oneP was c j = [(1, 1), (1, 1), (zigM (fl c j - fl was j) - 1, 4)] := by rw [oneP, if_neg hz, if_pos h16]
          have hz0 : 0 ≤ zigM (fl c j - fl was j) := by unfold zigM; split <;> omega
          have ew : IntKind.wrap .u64 (zigM (fl c j - fl was j) - 1) = zigM (fl c j - fl was j) - 1 := wU64 (by omega)
          rw [e, ew]
          refine app (z5 := z) (ps := [(1, 1), (1, 1), (zigM (fl c j - fl was j) - 1, 4)]) (n := 3) (f4.then0 f5) B15 B25 o5 rfl rfl rfl (by simp) ?_
          exact fun r v' o b1 b2 f => ⟨o, b1, b2, f⟩
        · have e : oneP was c j = [(1, 1), (0, 1), fieldP c j] := by rw [oneP, if_neg hz, if_neg h16]
          rw [e]
          refine aggI B25 (x := c) rfl (spec_comp_field hc (by omega) fun w6 f6 => ?_)
          refine app (z5 := z) (ps := [(1, 1), (0, 1), fieldP c j]) (n := 3) ((f4.then0 f5).then0 f6) (B15.fr f6 fun h => h) (B25.fr f6 fun h => h) (o5.none f6) rfl rfl rfl (Nat.le_refl 3) ?_
          exact fun r v' o b1 b2 f => ⟨o, b1, b2, f⟩
    · rintro z w6 ⟨o6, b1, b2, f6⟩
      have hr : (List.range (j + 1)).flatMap (oneP was c) = (List.range j).flatMap (oneP was c) ++ oneP was c j := by rw [List.range_succ, List.flatMap_append]; simp
      exact hK _ _ ⟨wsucc hj (by omega), by rw [hr]; exact o6, b1, b2, f6⟩
  · rintro ⟨z, _⟩ w4 ⟨_, o4, _, _, f4⟩
    exact hk z w4 (o4.mono fun k _ e => e.1) f4
end Go.Proofs.YtchhhjlpnecjkaaGreat
namespace Go.Proofs.YtchhhjlpnecjkaaGreat
open Go Go.RowKit Go.Proofs.YtchhhjlpnecjkaaGreat.Den
variable {R : Type} {Q : R → World → Prop} {w : World}
theorem partsB_snoc (l : List Part) (p : Part) : partsB (l ++ [p]) = partsB l ++ bitsOf p.1.toNat p.2.toNat := by simp [partsB]
theorem partsB_take {l : List Part} {j : Nat} {p : Part} (h : l[j]? = some p) : partsB (l.take (j + 1)) = partsB (l.take j) ++ bitsOf p.1.toNat p.2.toNat := by rw [take_at h, partsB_snoc]
theorem partsB_le {l : List Part} (j : Nat) : (partsB (l.take j)).length ≤ (partsB l).length := by
  conv => rhs; rw [← List.take_append_drop j l]
  unfold partsB
  rw [List.flatMap_append, List.length_append]
  omega
theorem partsB_small {l : List Part} (hP : ∀ p ∈ l, PartOk p) : (partsB l).length ≤ 64 * l.length := by
  induction l with
  | nil => simp [partsB]
  | cons p r ih =>
    have h1 := ih fun q hq => hP q (List.mem_cons_of_mem _ hq)
    have h2 := (hP p List.mem_cons_self).2
    unfold partsB at h1 ⊢
    simp only [List.flatMap_cons, List.length_append, bitsOf_len, List.length_cons]
    omega
theorem spec_comp_size {ok : Nat → Prop} {s : Sl} {l : List Part} (hS : SlT ok w partT s l) (hP : ∀ p ∈ l, PartOk p) (hl : l.length ≤ 100) {K : Res [.sc (.int .i64)] → W R} (hk : ∀ w', Fr None w w' → K ((partsB l).length : Int) Q w') :
    callW Tryz.prog k_comp_size [.slice s.a s.n s.c] [.sc (.int .i64)] K Q w := by
  refine C_comp_size s K Q w ?_
  unfold F_comp_size
  have hlen := hS.len
  refine forI (N := s.n) (fun s : Int × Int => s.2) (fun j s w' => s = (((partsB (l.take j)).length : Int), (j : Int)) ∧ Fr None w w') ⟨rfl, Fr.refl _ _⟩ (fun j s w' h => by rw [h.1]) ?_ ?_
  · rintro j s1 w1 K' hj ⟨rfl, f1⟩ - hK
    refine (hS.fr0 f1).get rfl rfl (by omega) fun p hp => ?_
    refine newI fun w2 B2 f2 s2 => stoAll B2 rfl rfl fun w3 B3 f3 s3 => fldI B3 (i := 1) (x := p.2) rfl ?_
    have hpo := (hP p (List.mem_of_getElem? hp)).2
    have hsm := partsB_small (l := l.take j) fun q hq => hP q (List.mem_of_mem_take hq)
    rw [List.length_take] at hsm
    refine hK _ _ ⟨?_, f1.then0 (f2.newer f3 fun k e => by omega)⟩
    rw [wsucc hj (by omega), partsB_take hp, List.length_append, bitsOf_len, w64 (by omega)]
    have : (((partsB (l.take j)).length : Nat) : Int) + p.2 = (((partsB (l.take j)).length + p.2.toNat : Nat) : Int) := by omega
    rw [this]
  · rintro s1 w1 ⟨rfl, f1⟩
    rw [List.take_of_length_le (by omega)]
    exact hk w1 f1
def putP (L : List Bool) (l : List Part) : Int × List Bool := if 1048576 < L.length + (partsB l).length then (3, L) else (0, L ++ partsB l)
theorem spec_comp_put {b : Nat} {L : List Bool} {F : Nat → Prop} (h : Wr b L F w) {ok : Nat → Prop} {s : Sl} {l : List Part} (hS : SlT ok w partT s l) (hd : ∀ k, k < w.heap.size → ok k → ¬ F k) (hP : ∀ p ∈ l, PartOk p) (hl : l.length ≤ 100) {K : Res [.sc (.int .i64)] → W R}
    (hk : ∀ w', Wr b (putP L l).2 (Ex F w) w' → Fr F w w' → K (putP L l).1 Q w') : callW Tryz.prog k_comp_put [.pointer (some ⟨b, 0, none⟩), .slice s.a s.n s.c] [.sc (.int .i64)] K Q w := by
  refine C_comp_put _ s K Q w ?_
  unfold F_comp_put
  have hlen := hS.len
  have hL := h.1
  have hsm := partsB_small hP
  refine spec_bits_Len h (spec_comp_size hS hP hl fun w1 f1 => ?_)
  have hs1 := f1.size
  rw [w64 (by omega)]
  unfold putP at hk
  have h1 := Wr.st.fr0 h f1
  refine condD (fun h3 => ?_) fun h3 => ?_
  · have h3 : (1048576 : Int) < (L.length : Int) + ((partsB l).length : Int) := h3
    rw [if_pos (by omega)] at hk
    exact hk w1 (Wr.st.mono h1 fun k _ e => .inl e) f1.any
  have h3 : ¬ (1048576 : Int) < (L.length : Int) + ((partsB l).length : Int) := h3
  rw [if_neg (by omega)] at hk
  have hS0 : SlT (fun k => ok k ∧ k < w.heap.size) w partT s l := hS.mono fun k hk e => ⟨e, hk⟩
  refine forI (N := s.n) (fun s : Int => s) (fun j i w' => i = (j : Int) ∧ Wr b (L ++ partsB (l.take j)) (Ex F w) w' ∧ Fr F w w') ⟨rfl, by rw [List.take_zero]; simp only [partsB, List.flatMap_nil, List.append_nil]; exact Wr.st.mono h1 fun k _ e => .inl e, f1.any⟩ (fun j s w' h => h.1) ?_ ?_
  · rintro j i w2 K' hj ⟨rfl, hw, f2⟩ - hK
    have hs2 := f2.size
    refine (hS0.fr f2 fun k e e2 => hd k e.2 e.1 e2).get rfl rfl (by omega) fun p hp => ?_
    refine newI fun w3 B3 f3 s3 => stoAll B3 rfl rfl fun w4 B4 f4 s4 => fldI B4 (i := 0) (x := p.1) rfl (fldI B4 (i := 1) (x := p.2) rfl ?_)
    have f24 : Fr None w2 w4 := f3.newer f4 fun k e => by omega
    have hs4 := f24.size
    obtain ⟨⟨hp1, hp2⟩, hp3, hp4⟩ := hP p (List.mem_of_getElem? hp)
    have hle := partsB_le (l := l) (j + 1)
    rw [partsB_take hp, List.length_append, bitsOf_len] at hle
    have ep : putB (L ++ partsB (l.take j)) p.1 p.2 = (0, L ++ partsB (l.take (j + 1))) := by
      rw [putB, if_neg (by omega), if_neg, if_neg (by rw [List.length_append]; omega)]
      · rw [partsB_take hp, List.append_assoc]
      · rintro ⟨_, h⟩
        exact h (Nat.div_eq_of_lt hp2)
    have h64 : p.1.toNat < 2 ^ 64 := Nat.lt_of_lt_of_le hp2 (Nat.pow_le_pow_right (by decide) (by omega))
    refine spec_bits_Put (Wr.st.fr0 hw f24) (v := p.1) (n := p.2) (by omega) (by omega) fun w5 hw5 f5 => ?_
    rw [ep] at hw5
    have hs5 := f5.size
    refine hK _ _ ⟨wsucc hj (by omega), Wr.st.mono hw5 fun k _ e => ?_, (f2.then0 f24).exS f5 fun k e => e⟩
    rcases e with e | e
    · exact e
    · exact .inr (by omega)
  · rintro i w2 ⟨rfl, hw, f2⟩
    rw [List.take_of_length_le (by omega)] at hw
    exact hk w2 hw f2
theorem width_lt {lo hi x : Int} (h1 : lo ≤ x) (h2 : x ≤ hi) (h3 : hi - lo ≤ 18446744073709551615) : (x - lo).toNat < 2 ^ widthM lo hi := by
  unfold widthM
  rw [if_neg (by omega)]
  by_cases h0 : (hi - lo).toNat = 0
  · have : (x - lo).toNat = 0 := by omega
    rw [this]
    exact Nat.two_pow_pos _
  · have := (Lib.bitLenAux_bounds 64 (hi - lo).toNat (by omega) h0).2.2
    have e : (x - lo).toNat ≤ (hi - lo).toNat := by omega
    exact Nat.lt_of_le_of_lt e this
theorem width_le {lo hi : Int} (h3 : hi - lo ≤ 18446744073709551615) : widthM lo hi ≤ 64 := by
  unfold widthM
  split
  · decide
  · exact Lib.bitLen_le _ 64 (by decide) (by omega)
theorem check_at {c : Comp} (h : checkM c = 0) {i : Nat} (hi : i < cntM c.1) : (rangeM c.1 (i : Int)).1 ≤ fl c i ∧ fl c i ≤ (rangeM c.1 (i : Int)).2.1 := by
  have h3 := cntM_le c.1
  have hall : (List.range 3).all (inR c) = true := by
    unfold checkM at h
    split at h
    · cases h
    · split at h
      · cases h
      · split at h
        · assumption
        · cases h
  have := List.all_eq_true.1 hall i (List.mem_range.2 (by omega))
  unfold inR at this
  obtain ⟨p, hp⟩ : ∃ p, (fieldsM c.1)[i]? = some p := ⟨_, List.getElem?_eq_getElem hi⟩
  rw [hp] at this
  simp only [Bool.and_eq_true, decide_eq_true_eq] at this
  unfold rangeM
  rw [if_pos (by omega), Int.toNat_natCast, hp]
  exact this
theorem fieldP_ok {c : Comp} (h : checkM c = 0) {i : Nat} (hi : i < cntM c.1) : PartOk (fieldP c i) := by
  obtain ⟨h1, h2⟩ := check_at h hi
  obtain ⟨r1, r2⟩ := rangeM_i32 c.1 (i : Int)
  have hw := width_le (lo := (rangeM c.1 (i : Int)).1) (hi := (rangeM c.1 (i : Int)).2.1) (by omega)
  have hl := width_lt h1 h2 (by omega)
  unfold PartOk fieldP
  dsimp only
  rw [wU64 (by omega), Int.toNat_natCast]
  exact ⟨⟨by omega, hl⟩, by omega, by omega⟩
theorem wholeP_ok {c : Comp} (h : checkM c = 0) : ∀ p ∈ wholeP c, PartOk p := fun p hp => by
  obtain ⟨i, hi, rfl⟩ := List.mem_map.1 hp
  exact fieldP_ok h (List.mem_range.1 hi)
theorem stepP_ok {was c : Comp} (h : checkM c = 0) : ∀ p ∈ stepP was c, PartOk p := fun p hp => by
  obtain ⟨i, hi, hp⟩ := List.mem_flatMap.1 hp
  have hi := List.mem_range.1 hi
  have hz0 : 0 ≤ zigM (fl c i - fl was i) := by unfold zigM; split <;> omega
  unfold oneP at hp
  split at hp
  · simp only [List.mem_singleton] at hp
    subst hp
    exact ⟨⟨by decide, by decide⟩, by decide, by decide⟩
  · split at hp
    · simp only [List.mem_cons, List.not_mem_nil, or_false] at hp
      rcases hp with rfl | rfl | rfl
      · exact ⟨⟨by decide, by decide⟩, by decide, by decide⟩
      · exact ⟨⟨by decide, by decide⟩, by decide, by decide⟩
      · refine ⟨⟨by dsimp only; omega, ?_⟩, (by decide : (0 : Int) ≤ 4), (by decide : (4 : Int) ≤ 64)⟩
        show (zigM (fl c i - fl was i) - 1).toNat < 2 ^ (4 : Int).toNat
        rw [show (2 : Nat) ^ (4 : Int).toNat = 16 from rfl]
        omega
    · simp only [List.mem_cons, List.not_mem_nil, or_false] at hp
      rcases hp with rfl | rfl | rfl
      · exact ⟨⟨by decide, by decide⟩, by decide, by decide⟩
      · exact ⟨⟨by decide, by decide⟩, by decide, by decide⟩
      · exact fieldP_ok h hi
def putC (L : List Bool) (c : Comp) : Int × List Bool := if checkM c ≠ 0 then (checkM c, L) else putP L (wholeP c)
theorem spec_comp_Put {b : Nat} {L : List Bool} {F : Nat → Prop} (h : Wr b L F w) {c : Comp} (hc : CompOk c) (hF : ∀ k, F k → k < w.heap.size) {K : Res [.sc (.int .i64)] → W R} (hk : ∀ w', Wr b (putC L c).2 (Ex F w) w' → Fr F w w' → K (putC L c).1 Q w') :
    callW Tryz.prog k_comp_Put [.pointer (some ⟨b, 0, none⟩), .agg ⟨compC c⟩] [.sc (.int .i64)] K Q w := by
  refine C_comp_Put _ c K Q w ?_
  unfold F_comp_Put
  refine newI fun w1 B1 f1 s1 => condF rfl (aggI B1 (x := c) rfl (spec_schema_Check fun w2 f2 => ?_))
  have f02 := f1.then0 f2
  have hs2 := f02.size
  unfold putC at hk
  refine condN (fun hne => ?_) fun heq => ?_
  · rw [if_pos hne] at hk
    exact hk w2 (Wr.st.mono (Wr.st.fr0 h f02) fun k _ e => .inl e) f02.any
  · rw [if_neg (by omega)] at hk
    refine aggI (B1.fr f2 fun h => h) (x := c) rfl (spec_comp_whole hc fun r w3 o3 f3 => ?_)
    have f03 := f02.then0 f3
    have hs3 := f03.size
    refine spec_comp_put (Wr.st.fr0 h f03) o3.sl (fun k _ e e2 => by have e : w2.heap.size ≤ k := e; have := hF k e2; omega) (wholeP_ok (by omega)) (by have := cntM_le c.1; simp [wholeP]; omega) fun w4 hw f4 => ?_
    exact hk w4 (Wr.st.mono hw fun k _ e => e.imp id fun e => by omega) ((f03.any).exS f4 fun k e => .inl e)
def pairM (was c : Comp) : Int := if checkM was ≠ 0 then checkM was else if checkM c ≠ 0 then checkM c else if was.1 = c.1 then 0 else 4
theorem spec_comp_pair {was c : Comp} {K : Res [.sc (.int .i64)] → W R} (hk : ∀ w', Fr None w w' → K (pairM was c) Q w') : callW Tryz.prog k_comp_pair [.agg ⟨compC was⟩, .agg ⟨compC c⟩] [.sc (.int .i64)] K Q w := by
  refine C_comp_pair was c K Q w ?_
  unfold F_comp_pair
  unfold pairM at hk
  refine newI fun w1 B1 f1 s1 => newI fun w2 B2 f2 s2 => ?_
  have B1 := B1.fr f2 fun h => h
  refine aggI B1 (x := was) rfl (spec_schema_Check fun w3 f3 => ?_)
  have f03 := (f1.then0 f2).then0 f3
  refine condN (fun hne => ?_) fun heq => ?_
  · rw [if_pos hne] at hk
    exact hk w3 f03
  rw [if_neg (by omega)] at hk
  have B1 := B1.fr f3 fun h => h
  have B2 := B2.fr f3 fun h => h
  refine aggI B2 (x := c) rfl (spec_schema_Check fun w4 f4 => ?_)
  refine condN (fun hne => ?_) fun heq2 => ?_
  · rw [if_pos hne] at hk
    exact hk w4 (f03.then0 f4)
  rw [if_neg (by omega)] at hk
  refine fldI (B1.fr f4 fun h => h) (i := 0) (x := was.1) rfl (fldI (B2.fr f4 fun h => h) (i := 0) (x := c.1) rfl ?_)
  refine condN (fun hne => ?_) fun heq3 => ?_
  · rw [if_neg hne] at hk
    exact hk w4 (f03.then0 f4)
  · rw [if_pos heq3] at hk
    exact hk w4 (f03.then0 f4)
def putS (L : List Bool) (was c : Comp) : Int × List Bool := if pairM was c ≠ 0 then (pairM was c, L) else putP L (stepP was c)
theorem spec_comp_PutStep {b : Nat} {L : List Bool} {F : Nat → Prop} (h : Wr b L F w) {was c : Comp} (hw : CompOk was) (hc : CompOk c) (hF : ∀ k, F k → k < w.heap.size) {K : Res [.sc (.int .i64)] → W R} (hk : ∀ w', Wr b (putS L was c).2 (Ex F w) w' → Fr F w w' → K (putS L was c).1 Q w') :
    callW Tryz.prog k_comp_PutStep [.pointer (some ⟨b, 0, none⟩), .agg ⟨compC was⟩, .agg ⟨compC c⟩] [.sc (.int .i64)] K Q w := by
  refine C_comp_PutStep _ was c K Q w ?_
  unfold F_comp_PutStep
  refine newI fun w0 B0 f0 s0 => newI fun w1 B1 f1 s1 => condF rfl ?_
  have B0 := B0.fr f1 fun h => h
  refine aggI B0 (x := was) rfl (aggI B1 (x := c) rfl (spec_comp_pair fun w2 f2 => ?_))
  have f02 := (f0.then0 f1).then0 f2
  have hs2 := f02.size
  unfold putS at hk
  refine condN (fun hne => ?_) fun heq => ?_
  · rw [if_pos hne] at hk
    exact hk w2 (Wr.st.mono (Wr.st.fr0 h f02) fun k _ e => .inl e) f02.any
  · rw [if_neg (by omega)] at hk
    have hc0 : checkM c = 0 := by
      unfold pairM at heq
      split at heq
      · omega
      · split at heq
        · omega
        · omega
    refine aggI (B0.fr f2 fun h => h) (x := was) rfl (aggI (B1.fr f2 fun h => h) (x := c) rfl (spec_comp_step hw hc fun r w3 o3 f3 => ?_))
    have f03 := f02.then0 f3
    have hs3 := f03.size
    have hl : (stepP was c).length ≤ 100 := by have := stepPs_len was c (cntM c.1); have := cntM_le c.1; unfold stepP; omega
    refine spec_comp_put (Wr.st.fr0 h f03) o3.sl (fun k _ e e2 => by have e : w2.heap.size ≤ k := e; have := hF k e2; omega) (stepP_ok hc0) hl fun w4 hw f4 => ?_
    exact hk w4 (Wr.st.mono hw fun k _ e => e.imp id fun e => by omega) ((f03.any).exS f4 fun k e => .inl e)
end Go.Proofs.YtchhhjlpnecjkaaGreat
namespace Go.Proofs.YtchhhjlpnecjkaaGreat
open Go Go.RowKit Go.Proofs.YtchhhjlpnecjkaaGreat.Den
variable {R : Type} {Q : R → World → Prop} {w : World}
abbrev WS := List Bool × Int
def keepM (e x : Int) : Int := if e = 0 then x else e
def doM (s : WS) (p : Int × List Bool) : WS := (p.2, keepM s.2 p.1)
def PW (bw b : Nat) (s : WS) : OB := fun F w => F bw ∧ (∀ k, F k → k < w.heap.size) ∧ Blk w bw 102 [.pointer (some ⟨b, 0, none⟩), .int .i64 s.2] ∧ Wr b s.1 (fun k => F k ∧ k ≠ bw) w
section
variable {bw b : Nat} {s : WS} {F : Nat → Prop}
theorem PW.fr0 (h : PW bw b s F w) {w' : World} (f : Fr None w w') : PW bw b s F w' := by
  obtain ⟨h1, h2, h3, h4⟩ := h
  have := f.size
  exact ⟨h1, fun k e => by have := h2 k e; omega, h3.fr f fun h => h, Wr.st.fr0 h4 f⟩
abbrev Gw (F : Nat → Prop) (w w' : World) : Nat → Prop := fun k => F k ∨ (w.heap.size ≤ k ∧ k < w'.heap.size)
theorem spec_packet_keep (h : PW bw b s F w) {x : Int} {K : Res [] → W R} (hk : ∀ w', PW bw b (s.1, keepM s.2 x) F w' → Fr F w w' → w'.heap.size = w.heap.size → K () Q w') :
    callW Tryz.prog k_packet_writer_keep [.pointer (some ⟨bw, 0, none⟩), .int .i64 x] [] K Q w := by
  refine C_packet_writer_keep _ _ K Q w ?_
  unfold F_packet_writer_keep
  obtain ⟨h1, h2, B, hw⟩ := h
  refine ptrI (fldI B (i := 1) (x := s.2) rfl ?_)
  refine joinI (fun (_ : Unit) w' => PW bw b (s.1, keepM s.2 x) F w' ∧ Fr F w w' ∧ w'.heap.size = w.heap.size) ?_ fun _ w' ⟨a, b, c⟩ => hk w' a b c
  refine condE (fun he => ?_) fun he => ?_
  · refine ptrI ?_
    rw [add_lit]
    refine setI (i := 1) B (by simp) rfl fun w2 B2 f2 s2 => ?_
    have e : keepM s.2 x = x := by rw [keepM, if_pos he]
    rw [e]
    exact ⟨⟨h1, fun k e => by rw [s2]; exact h2 k e, B2, Wr.st.fr hw f2 fun k e e2 => e.2 e2⟩, f2.sub fun k e => by rw [e]; exact h1, s2⟩
  · have e : keepM s.2 x = s.2 := by rw [keepM, if_neg he]
    rw [e]
    exact ⟨⟨h1, h2, B, hw⟩, Fr.refl _ _, rfl⟩
theorem PW.put (h : PW bw b s F w) : Wr b s.1 (fun k => F k ∧ k ≠ bw) w ∧ (∀ k, F k ∧ k ≠ bw → k < w.heap.size) ∧ ∀ (p : Int × List Bool) (w' : World) {K : Res [] → W R}, Wr b p.2 (Ex (fun k => F k ∧ k ≠ bw) w) w' → Fr (fun k => F k ∧ k ≠ bw) w w' →
    (∀ w2, PW bw b (doM s p) (Gw F w w2) w2 → Fr F w w2 → K () Q w2) → callW Tryz.prog k_packet_writer_keep [.pointer (some ⟨bw, 0, none⟩), .int .i64 p.1] [] K Q w' := by
  obtain ⟨h1, h2, B, hw⟩ := h
  refine ⟨hw, fun k e => h2 k e.1, fun p w' K hw' f hk => ?_⟩
  have hs := f.size
  have hbw := h2 bw h1
  have pw : PW bw b (p.2, s.2) (Gw F w w') w' := by
    refine ⟨.inl h1, fun k e => ?_, B.fr f fun e => e.2 rfl, Wr.st.mono hw' fun k hk e => ?_⟩
    · rcases e with e | e
      · have := h2 k e; omega
      · exact e.2
    · rcases e with e | e
      · exact ⟨.inl e.1, e.2⟩
      · exact ⟨.inr ⟨e, hk⟩, by omega⟩
  refine spec_packet_keep pw fun w2 hp f2 s2 => hk w2 ?_ ?_
  · have e : Gw F w w2 = Gw F w w' := by unfold Gw; rw [s2]
    rw [e]
    exact hp
  · exact (f.sub fun k e => e.1).exS f2 fun k e => by
      rcases e with e | e
      · exact .inl e
      · exact .inr e.1
theorem PW.fr (h : PW bw b s F w) {S : Nat → Prop} {w' : World} (f : Fr S w w') (hS : ∀ k, F k → ¬ S k) : PW bw b s F w' := by
  obtain ⟨h1, h2, h3, h4⟩ := h
  have := f.size
  exact ⟨h1, fun k e => by have := h2 k e; omega, h3.fr f (hS bw h1), Wr.st.fr h4 f fun k e => hS k e.1⟩
theorem PW.mono (h : PW bw b s F w) {F' : Nat → Prop} (hs : ∀ k, k < w.heap.size → F k → F' k) (hb : ∀ k, F' k → k < w.heap.size) : PW bw b s F' w := by
  obtain ⟨h1, h2, h3, h4⟩ := h
  exact ⟨hs bw h3.lt h1, hb, h3, Wr.st.mono h4 fun k hk e => ⟨hs k hk e.1, e.2⟩⟩
theorem PW.ptr (h : PW bw b s F w) {K : Option Addr → W R} (hk : K (some ⟨b, 0, none⟩) Q w) : ld (.sc .ptr) (Addr.add ⟨bw, 0, none⟩ 0) K Q w := fldI h.2.2.1 (i := 0) (x := some ⟨b, 0, none⟩) rfl hk
theorem PW.err (h : PW bw b s F w) {K : Int → W R} (hk : K s.2 Q w) : ld (.sc (.int .i64)) (Addr.add ⟨bw, 0, none⟩ 1) K Q w := fldI h.2.2.1 (i := 1) (x := s.2) rfl hk
theorem PW.two {w1 w2 w3 : World} {s' : WS} {G : Nat → Prop} (hG : ∀ k, G k → Gw F w w1 k) (h : PW bw b s' (Gw G w2 w3) w3) (h1 : w.heap.size ≤ w1.heap.size) (h2 : w1.heap.size ≤ w2.heap.size) (h3 : w2.heap.size ≤ w3.heap.size) (hF : ∀ k, F k → k < w.heap.size) : PW bw b s' (Gw F w w3) w3 :=
  h.mono (fun k hk e => by
    rcases e with e | e
    · rcases hG k e with e | e
      · exact .inl e
      · exact .inr (by omega)
    · exact .inr (by omega)) fun k e => by
    rcases e with e | e
    · have := hF k e; omega
    · exact e.2
def plainM (s : WS) (v n : Int) : WS := doM s (putB s.1 v n)
def varM (s : WS) (v : Nat) : WS := doM s (putVarM s.1 v)
theorem spec_packet_plain (h : PW bw b s F w) {v n : Int} (hv : 0 ≤ v ∧ v ≤ 18446744073709551615) (hn : -9223372036854775808 ≤ n ∧ n ≤ 9223372036854775807) {K : Res [] → W R} (hk : ∀ w', PW bw b (plainM s v n) (Gw F w w') w' → Fr F w w' → K () Q w') :
    callW Tryz.prog k_packet_writer_plain [.pointer (some ⟨bw, 0, none⟩), .int .u64 v, .int .i64 n] [] K Q w := by
  refine C_packet_writer_plain _ _ _ K Q w ?_
  unfold F_packet_writer_plain
  obtain ⟨hw, hF, hk2⟩ := h.put
  exact ptrI (h.ptr (spec_bits_Put hw hv hn fun w1 hw1 f1 => hk2 (putB s.1 v n) w1 hw1 f1 hk))
theorem spec_packet_count (h : PW bw b s F w) {n : Nat} (hn : (n : Int) ≤ 18446744073709551615) {K : Res [] → W R} (hk : ∀ w', PW bw b (varM s n) (Gw F w w') w' → Fr F w w' → K () Q w') :
    callW Tryz.prog k_packet_writer_count [.pointer (some ⟨bw, 0, none⟩), .int .i64 (n : Int)] [] K Q w := by
  refine C_packet_writer_count _ _ K Q w ?_
  unfold F_packet_writer_count
  obtain ⟨hw, hF, hk2⟩ := h.put
  refine ptrI (h.ptr ?_)
  rw [wU64 (x := (n : Int)) (by omega)]
  refine spec_nums_PutVar hw (by omega) fun w1 hw1 f1 => ?_
  rw [Int.toNat_natCast] at hw1 ⊢
  exact hk2 (putVarM s.1 n) w1 hw1 f1 hk
def idD (last id : Int) : Nat := ((id - last - 1) % 4294967296).toNat
theorem spec_packet_id (h : PW bw b s F w) {bl : Nat} {T : TypeId} {last id : Int} (B : Blk w bl T [.int .u32 last]) (hbl : ¬ F bl) {K : Res [] → W R}
    (hk : ∀ w', PW bw b (varM s (idD last id)) (Gw F w w') w' → Blk w' bl T [.int .u32 id] → Fr (fun k => F k ∨ k = bl) w w' → K () Q w') :
    callW Tryz.prog k_packet_writer_id [.pointer (some ⟨bw, 0, none⟩), .pointer (some ⟨bl, 0, none⟩), .int .u32 id] [] K Q w := by
  refine C_packet_writer_id _ _ _ K Q w ?_
  unfold F_packet_writer_id
  have fd : Fr None w w.drew := (Fr.refl _ _).drew
  have hd : PW bw b s F w.drew := h.fr0 fd
  have hlt := B.lt
  obtain ⟨hw, hF, hk2⟩ := hd.put
  refine ptrI (hd.ptr (ptrI (fld0 (B.fr fd fun h => h) (i := 0) (x := last) rfl ?_)))
  have e : IntKind.wrap .u64 (IntKind.wrap .u32 (IntKind.wrap .u32 (id - last) - 1)) = ((idD last id : Nat) : Int) := by
    have a : ∀ x : Int, IntKind.wrap .u32 x = x % 4294967296 := fun x => by rw [IntKind.wrap_u32]
    rw [a, a, wU64 (by omega)]
    unfold idD
    omega
  rw [e]
  have hv : idD last id < 4294967296 := by unfold idD; omega
  refine spec_nums_PutVar hw (v := (idD last id : Int)) (by omega) fun w1 hw1 f1 => ?_
  rw [Int.toNat_natCast] at hw1 ⊢
  refine hk2 (putVarM s.1 (idD last id)) w1 hw1 f1 fun w2 hp f2 => ptrI ?_
  have B2 := (B.fr fd fun h => h).fr f2 hbl
  refine setI (i := 0) B2 (by simp) rfl fun w3 B3 f3 s3 => ?_
  refine hk w3 ?_ B3 ((fd.any.then (f2.sub fun k e => .inl e)).then (f3.sub fun k e => .inr e))
  have h3 := PW.fr hp f3 fun k e e2 => by
    subst e2
    rcases e with e | e
    · exact hbl e
    · have : k < w.drew.heap.size := hlt
      omega
  refine h3.mono (fun k _ e => e.imp (fun h => h) fun e => ?_) fun k e => ?_
  · have : w.drew.heap.size = w.heap.size := rfl
    omega
  · rcases e with e | e
    · have := h.2.1 k e; have := f2.size; have : w.drew.heap.size = w.heap.size := rfl; omega
    · exact e.2
def compsM (s : WS) (l : List Comp) : WS := l.foldl (fun s c => doM s (putC s.1 c)) s
theorem spec_packet_comps (h : PW bw b s F w) {ok : Nat → Prop} {r : Sl} {l : List Comp} (hS : SlT ok w compT r l) (hd : ∀ k, k < w.heap.size → ok k → ¬ F k) (hc : ∀ c ∈ l, CompOk c) (hm : l.length ≤ 9223372036854775807) {K : Res [] → W R} (hk : ∀ w', PW bw b (compsM s l) (Gw F w w') w' → Fr F w w' → K () Q w') :
    callW Tryz.prog k_packet_writer_comps [.pointer (some ⟨bw, 0, none⟩), .slice r.a r.n r.c] [] K Q w := by
  refine C_packet_writer_comps _ r K Q w ?_
  unfold F_packet_writer_comps
  have hlen := hS.len
  have hFb := h.2.1
  have hS0 : SlT (fun k => ok k ∧ k < w.heap.size) w compT r l := hS.mono fun k hk e => ⟨e, hk⟩
  refine forI (N := r.n) (fun s : Int => s) (fun j i w' => i = (j : Int) ∧ PW bw b (compsM s (l.take j)) (Gw F w w') w' ∧ Fr F w w') ⟨rfl, h.mono (fun k _ e => .inl e) fun k e => by
    rcases e with e | e
    · exact hFb k e
    · omega, Fr.refl _ _⟩ (fun j s w' h => h.1) ?_ ?_
  · rintro j i w1 K' hj ⟨rfl, h1, f1⟩ - hK
    have hs1 := f1.size
    refine (hS0.fr f1 fun k e e2 => hd k e.2 e.1 e2).get rfl rfl (by omega) fun c hcj => ?_
    refine newI fun w2 B2 f2 s2 => stoAll B2 rfl rfl fun w3 B3 f3 s3 => ?_
    have f13 : Fr None w1 w3 := f2.newer f3 fun k e => by omega
    have fd : Fr None w3 w3.drew := (Fr.refl _ _).drew
    have f1d := f13.then0 fd
    have hs3 := f1d.size
    have h3 := h1.fr0 f1d
    obtain ⟨hw, hF, hk2⟩ := h3.put
    refine ptrI (h3.ptr (aggI (B3.fr fd fun h => h) (x := c) rfl ?_))
    refine spec_comp_Put hw (hc c (List.mem_of_getElem? hcj)) hF fun w4 hw4 f4 => hk2 (putC (compsM s (l.take j)).1 c) w4 hw4 f4 fun w5 hp f5 => ?_
    have hs5 := f5.size
    have e : compsM s (l.take (j + 1)) = doM (compsM s (l.take j)) (putC (compsM s (l.take j)).1 c) := by unfold compsM; rw [take_at hcj, List.foldl_append]; rfl
    refine hK _ _ ⟨wsucc hj (by omega), ?_, ?_⟩
    · rw [e]
      exact PW.two (fun k e => e) hp hs1 hs3 hs5 hFb
    · exact (f1.then0 f1d).exS f5 fun k e => e.imp id fun e => e.1
  · rintro i w1 ⟨rfl, h1, f1⟩
    rw [List.take_of_length_le (by omega)] at h1
    exact hk w1 h1 f1
end
end Go.Proofs.YtchhhjlpnecjkaaGreat
namespace Go.Proofs.YtchhhjlpnecjkaaGreat
open Go Go.RowKit Go.Proofs.YtchhhjlpnecjkaaGreat.Den
variable {R : Type} {Q : R → World → Prop} {w : World}
variable {bw b : Nat} {s : WS} {F : Nat → Prop}
abbrev Head := Int × Int × Int × Int × Int
def HeadOk (h : Head) : Prop := (0 ≤ h.1 ∧ h.1 ≤ 255) ∧ (0 ≤ h.2.1 ∧ h.2.1 ≤ 255) ∧ (0 ≤ h.2.2.1 ∧ h.2.2.1 ≤ 4294967295) ∧ (0 ≤ h.2.2.2.1 ∧ h.2.2.2.1 ≤ 4294967295) ∧ (0 ≤ h.2.2.2.2 ∧ h.2.2.2.2 ≤ 4294967295)
def inM (s : WS) (n lo hi : Int) : WS := doM s (putInM s.1 n lo hi)
def headM (s : WS) (h : Head) : WS :=
  let s3 := varM (inM (inM s h.1 1 5) h.2.1 0 15) h.2.2.1.toNat
  let s4 := if h.1 ≤ 3 then plainM s3 h.2.2.2.1 32 else s3
  if h.1 = 2 then varM s4 (idD h.2.2.2.2 h.2.2.2.1) else s4
theorem PW.self (h : PW bw b s F w) : PW bw b s (Gw F w w) w := h.mono (fun k _ e => .inl e) fun k e => by
  rcases e with e | e
  · exact h.2.1 k e
  · omega
theorem pw_in {w0 : World} (h : PW bw b s (Gw F w0 w) w) (h0 : w0.heap.size ≤ w.heap.size) (hF : ∀ k, F k → k < w0.heap.size) (f0 : Fr F w0 w) {n lo hi : Int} (h1 : -9223372036854775808 ≤ lo ∧ lo ≤ 9223372036854775807) (h2 : -9223372036854775808 ≤ hi ∧ hi ≤ 9223372036854775807) {K : Unit → W R}
    (hk : ∀ w', PW bw b (inM s n lo hi) (Gw F w0 w') w' → Fr F w0 w' → Fr (Gw F w0 w) w w' → K () Q w') :
    callW Tryz.prog k_nums_PutIn [.pointer (some ⟨b, 0, none⟩), .int .i64 n, .int .i64 lo, .int .i64 hi] [.sc (.int .i64)] (fun x => callW Tryz.prog k_packet_writer_keep [.pointer (some ⟨bw, 0, none⟩), .int .i64 x] [] K) Q w := by
  obtain ⟨hw, _, hk2⟩ := h.put
  refine spec_nums_PutIn hw h1 h2 fun w1 hw1 f1 => hk2 (putInM s.1 n lo hi) w1 hw1 f1 fun w2 hp f2 => ?_
  have hs := f2.size
  exact hk w2 (PW.two (fun k e => e) hp h0 (Nat.le_refl _) hs hF) (f0.exS f2 fun k e => e.imp (fun h => h) fun e => e.1) f2
theorem pw_var {w0 : World} (h : PW bw b s (Gw F w0 w) w) (h0 : w0.heap.size ≤ w.heap.size) (hF : ∀ k, F k → k < w0.heap.size) (f0 : Fr F w0 w) {v : Nat} (hv : v < 18446744073709551616) {K : Unit → W R}
    (hk : ∀ w', PW bw b (varM s v) (Gw F w0 w') w' → Fr F w0 w' → Fr (Gw F w0 w) w w' → K () Q w') :
    callW Tryz.prog k_nums_PutVar [.pointer (some ⟨b, 0, none⟩), .int .u64 (v : Int)] [.sc (.int .i64)] (fun x => callW Tryz.prog k_packet_writer_keep [.pointer (some ⟨bw, 0, none⟩), .int .i64 x] [] K) Q w := by
  obtain ⟨hw, _, hk2⟩ := h.put
  refine spec_nums_PutVar hw (v := (v : Int)) (by omega) fun w1 hw1 f1 => ?_
  rw [Int.toNat_natCast] at hw1 ⊢
  refine hk2 (putVarM s.1 v) w1 hw1 f1 fun w2 hp f2 => ?_
  have hs := f2.size
  exact hk w2 (PW.two (fun k e => e) hp h0 (Nat.le_refl _) hs hF) (f0.exS f2 fun k e => e.imp (fun h => h) fun e => e.1) f2
theorem pw_plain {w0 : World} (h : PW bw b s (Gw F w0 w) w) (h0 : w0.heap.size ≤ w.heap.size) (hF : ∀ k, F k → k < w0.heap.size) (f0 : Fr F w0 w) {v n : Int} (hv : 0 ≤ v ∧ v ≤ 18446744073709551615) (hn : -9223372036854775808 ≤ n ∧ n ≤ 9223372036854775807) {K : Res [] → W R}
    (hk : ∀ w', PW bw b (plainM s v n) (Gw F w0 w') w' → Fr F w0 w' → Fr (Gw F w0 w) w w' → K () Q w') :
    callW Tryz.prog k_packet_writer_plain [.pointer (some ⟨bw, 0, none⟩), .int .u64 v, .int .i64 n] [] K Q w :=
  spec_packet_plain h hv hn fun w2 hp f2 => by
    have hs := f2.size
    exact hk w2 (PW.two (fun k e => e) hp h0 (Nat.le_refl _) hs hF) (f0.exS f2 fun k e => e.imp (fun h => h) fun e => e.1) f2
theorem PW.draw {w0 : World} (h : PW bw b s (Gw F w0 w) w) : PW bw b s (Gw F w0 w.drew) w.drew := h.fr0 ((Fr.refl _ _).drew)
theorem spec_packet_head (h : PW bw b s F w) {hd : Head} (hok : HeadOk hd) {K : Res [] → W R} (hk : ∀ w', PW bw b (headM s hd) (Gw F w w') w' → Fr F w w' → K () Q w') :
    callW Tryz.prog k_packet_writer_head [.pointer (some ⟨bw, 0, none⟩), .agg ⟨[.int .u8 hd.1, .int .u8 hd.2.1, .int .u32 hd.2.2.1, .int .u32 hd.2.2.2.1, .int .u32 hd.2.2.2.2]⟩] [] K Q w := by
  refine C_packet_writer_head _ hd K Q w ?_
  unfold F_packet_writer_head
  obtain ⟨⟨k0, k1⟩, ⟨c0, c1⟩, ⟨e0, e1⟩, ⟨t0, t1⟩, ⟨b0, b1⟩⟩ := hok
  have hF := h.2.1
  refine newI fun w1 B1 f1 s1 => ?_
  have hs1 := f1.size
  have hF1 : ∀ k, F k → k < w1.heap.size := fun k e => by have := hF k e; omega
  have nb : ∀ v : World, ¬ Gw F w1 v w.heap.size := fun v e => by
    rcases e with e | e
    · have := hF _ e; omega
    · omega
  have dr : ∀ v : World, Fr None v v.drew := fun v => (Fr.refl _ _).drew
  have fin : ∀ {s' : WS} {v : World}, PW bw b s' (Gw F w1 v) v → PW bw b s' (Gw F w v) v := fun hp => hp.mono (fun k _ e => e.imp (fun h => h) fun e => by omega) fun k e => by
    rcases e with e | e
    · exact hp.2.1 k (.inl e)
    · exact e.2
  have q1 := ((h.fr0 f1).self).draw
  have B1 := B1.fr (dr w1) fun h => h
  refine ptrI (q1.ptr (fldI B1 (i := 0) (x := hd.1) rfl ?_))
  rw [w64 (x := hd.1) (by omega)]
  refine pw_in q1 (Nat.le_refl _) hF1 ((Fr.refl _ _).drew) (by decide) (by decide) fun w2 p2 f2 g2 => ?_
  have B2 := (B1.fr g2 (nb _)).fr (dr w2) fun h => h
  have q2 := p2.draw
  refine ptrI (q2.ptr (fldI B2 (i := 1) (x := hd.2.1) rfl ?_))
  rw [w64 (x := hd.2.1) (by omega)]
  refine pw_in q2 f2.size hF1 (f2.then0 (dr w2)) (by decide) (by decide) fun w3 p3 f3 g3 => ?_
  have B3 := (B2.fr g3 (nb _)).fr (dr w3) fun h => h
  have q3 := p3.draw
  refine ptrI (q3.ptr (fldI B3 (i := 2) (x := hd.2.2.1) rfl ?_))
  have ee : IntKind.wrap .u64 hd.2.2.1 = ((hd.2.2.1.toNat : Nat) : Int) := by rw [wU64 (by omega)]; omega
  rw [ee]
  refine pw_var q3 f3.size hF1 (f3.then0 (dr w3)) (by omega) fun w4 p4 f4 g4 => ?_
  have B4 := B3.fr g4 (nb _)
  refine fldI B4 (i := 0) (x := hd.1) rfl ?_
  refine joinI (fun (_ : Unit) w' => PW bw b (if hd.1 ≤ 3 then plainM (varM (inM (inM s hd.1 1 5) hd.2.1 0 15) hd.2.2.1.toNat) hd.2.2.2.1 32 else varM (inM (inM s hd.1 1 5) hd.2.1 0 15) hd.2.2.1.toNat) (Gw F w1 w') w' ∧ Fr F w1 w' ∧ Blk w' w.heap.size 30 [.int .u8 hd.1, .int .u8 hd.2.1, .int .u32 hd.2.2.1, .int .u32 hd.2.2.2.1, .int .u32 hd.2.2.2.2]) ?_ ?_
  · refine condD (fun h3 => ?_) fun h3 => ?_
    · rw [if_pos h3]
      refine fldI B4 (i := 3) (x := hd.2.2.2.1) rfl ?_
      rw [wU64 (x := hd.2.2.2.1) (by omega)]
      exact pw_plain p4 f4.size hF1 f4 (by omega) (by decide) fun w5 p5 f5 g5 => ⟨p5, f5, B4.fr g5 (nb _)⟩
    · rw [if_neg h3]
      exact ⟨p4, f4, B4⟩
  · rintro _ w5 ⟨p5, f5, B5⟩
    refine fldI B5 (i := 0) (x := hd.1) rfl ?_
    refine joinI (fun (_ : Unit) w' => PW bw b (headM s hd) (Gw F w1 w') w' ∧ Fr F w1 w') ?_ fun _ w6 ⟨p6, f6⟩ => hk w6 (fin p6) (f1.any.exS f6 fun k e => .inl e)
    unfold headM
    dsimp only
    refine condE (fun h2 => ?_) fun h2 => ?_
    · rw [if_pos h2]
      have q5 := p5.draw
      have B5 := B5.fr (dr w5) fun h => h
      refine ptrI (q5.ptr (fldI B5 (i := 3) (x := hd.2.2.2.1) rfl (fldI B5 (i := 4) (x := hd.2.2.2.2) rfl ?_)))
      have e : IntKind.wrap .u64 (IntKind.wrap .u32 (IntKind.wrap .u32 (hd.2.2.2.1 - hd.2.2.2.2) - 1)) = ((idD hd.2.2.2.2 hd.2.2.2.1 : Nat) : Int) := by
        have a : ∀ x : Int, IntKind.wrap .u32 x = x % 4294967296 := fun x => by rw [IntKind.wrap_u32]
        rw [a, a, wU64 (by omega)]
        unfold idD
        omega
      rw [e]
      exact pw_var q5 f5.size hF1 (f5.then0 (dr w5)) (by unfold idD; omega) fun w6 p6 f6 _ => ⟨p6, f6⟩
    · rw [if_neg h2]
      exact ⟨p5, f5⟩
end Go.Proofs.YtchhhjlpnecjkaaGreat
namespace Go.Proofs.YtchhhjlpnecjkaaGreat
open Go Go.RowKit Go.Proofs.YtchhhjlpnecjkaaGreat.Den
variable {R : Type} {Q : R → World → Prop} {w : World}
variable {bw b : Nat} {s : WS} {F : Nat → Prop}
def entM (p : WS × Int) (e : Ent) : WS × Int := (compsM (plainM (varM p.1 (idD p.2 e.1)) (maskN e.2) 5) e.2, e.1)
def entsW (s : WS) (l : List Ent) : WS := (l.foldl entM (varM s l.length, 0)).1
def EntFit (e : Ent) : Prop := (0 ≤ e.1 ∧ e.1 ≤ 4294967295) ∧ e.2.length ≤ 1048576 ∧ ∀ c ∈ e.2, CompOk c
theorem spec_packet_ents (h : PW bw b s F w) {ok : Nat → Prop} {r : Sl} {raws : List (Int × Sl)} {L : List Ent} (hS : SlT ok w entT r raws) (hE : EntsR ok w raws L) (hd : ∀ k, k < w.heap.size → ok k → ¬ F k) (hL : ∀ e ∈ L, EntFit e) (hm : L.length ≤ 1048576) {K : Res [] → W R} (hk : ∀ w', PW bw b (entsW s L) (Gw F w w') w' → Fr F w w' → K () Q w') :
    callW Tryz.prog k_packet_writer_ents [.pointer (some ⟨bw, 0, none⟩), .slice r.a r.n r.c] [] K Q w := by
  refine C_packet_writer_ents _ r K Q w ?_
  unfold F_packet_writer_ents
  have hF := h.2.1
  have hrn : r.n = L.length := hS.len.trans hE.len
  have hS0 : SlT (fun k => ok k ∧ k < w.heap.size) w entT r raws := hS.mono fun k hk e => ⟨e, hk⟩
  have hE0 : EntsR (fun k => ok k ∧ k < w.heap.size) w raws L := hE.mono fun k hk e => ⟨e, hk⟩
  refine spec_packet_count h (by omega) fun w1 p1 f1 => ?_
  rw [hrn] at p1
  have hs1 := f1.size
  refine newI fun w2 B2 f2 s2 => stoAll B2 rfl rfl fun w3 B3 f3 s3 => ?_
  have f13 : Fr None w1 w3 := f2.newer f3 fun k e => by omega
  have hs3 := f13.size
  have p3 : PW bw b (varM s L.length) (Gw F w w1) w3 := p1.fr0 f13
  have two : ∀ {v : World} {s' : WS}, w3.heap.size ≤ v.heap.size → PW bw b s' (Gw (Gw F w w1) w3 v) v → PW bw b s' (Gw F w v) v := fun hv hp => hp.mono (fun k _ e => by
    rcases e with (e | e) | e
    · exact .inl e
    · exact .inr (by omega)
    · exact .inr (by omega)) fun k e => by
    rcases e with e | e
    · have := hF k e; omega
    · exact e.2
  have nbl : ∀ v : World, ¬ Gw (Gw F w w1) w3 v w1.heap.size := fun v e => by
    rcases e with (e | e) | e
    · have := hF _ e; omega
    · omega
    · omega
  have b1 : ∀ k, Gw F w w1 k → k < w3.heap.size := fun k e => by
    rcases e with e | e
    · have := hF k e; omega
    · omega
  refine forI (N := r.n) (fun s : Int => s) (fun j i v => i = (j : Int) ∧ PW bw b ((L.take j).foldl entM (varM s L.length, 0)).1 (Gw (Gw F w w1) w3 v) v ∧ Blk v w1.heap.size 54 [.int .u32 ((L.take j).foldl entM (varM s L.length, 0)).2] ∧ Fr (fun k => F k ∨ w.heap.size ≤ k) w v ∧ w3.heap.size ≤ v.heap.size)
    ⟨rfl, p3.self, B3, (f1.sub fun k e => .inl e).then0 f13, Nat.le_refl _⟩ (fun j s w' h => h.1) ?_ ?_
  · rintro j i v K' hj ⟨rfl, hp, Bl, fv, hsv⟩ - hK
    obtain ⟨e, he⟩ : ∃ e, L[j]? = some e := ⟨_, List.getElem?_eq_getElem (by omega)⟩
    have hfit := hL e (List.mem_of_getElem? he)
    obtain ⟨r1, hr1, ha1, ha2⟩ := hE0.get he
    have hno : ∀ k, ok k ∧ k < w.heap.size → ¬ (F k ∨ w.heap.size ≤ k) := fun k e e2 => by
      rcases e2 with e2 | e2
      · exact hd k e.2 e.1 e2
      · omega
    have efold : (L.take (j + 1)).foldl entM (varM s L.length, 0) = entM ((L.take j).foldl entM (varM s L.length, 0)) e := by rw [take_at he, List.foldl_append]; rfl
    generalize (L.take j).foldl entM (varM s L.length, 0) = p at hp Bl efold
    refine (hS0.fr fv hno).get (j := j) rfl rfl (by have := hE.len; omega) fun y hy => ?_
    rw [hr1] at hy
    cases hy
    refine newI fun v1 C1 g1 t1 => stoAll C1 rfl rfl fun v2 C2 g2 t2 => ?_
    have gv2 : Fr None v v2 := g1.newer g2 fun k e => by omega
    have hsv2 := gv2.size
    obtain ⟨F', hF'⟩ : ∃ F', F' = Gw (Gw F w w1) w3 v := ⟨_, rfl⟩
    have hp2 : PW bw b p.1 F' v2 := by rw [hF']; exact hp.fr0 gv2
    have bF' : ∀ k, F' k → k < v.heap.size := fun k e => by rw [hF'] at e; exact hp.2.1 k e
    have nb' : ¬ F' w1.heap.size := by rw [hF']; exact nbl v
    have exF : ∀ k, F' k → F k ∨ w.heap.size ≤ k := fun k e => by
      rw [hF'] at e
      rcases e with (e | e) | e
      · exact .inl e
      · exact .inr e.1
      · exact .inr (by omega)
    have fv2 : Fr (fun k => F k ∨ w.heap.size ≤ k) w v2 := fv.then0 gv2
    refine fldI C2 (i := 0) (x := r1.1) rfl ?_
    rw [ha1]
    refine spec_packet_id hp2 (Bl.fr gv2 fun h => h) nb' fun v3 p4 Bl3 f4 => ?_
    have hs4 := f4.size
    have C3 := C2.fr f4 fun e => by
      rcases e with e | e
      · have := bF' _ e; omega
      · have := Bl.lt; omega
    have fv3 : Fr (fun k => F k ∨ w.heap.size ≤ k) w v3 := fv2.then (f4.sub fun k e => by
      rcases e with e | e
      · exact exF k e
      · exact .inr (by omega))
    refine fldI C3 (i := 1) (x := r1.2) rfl ?_
    refine spec_schema_Mask (ha2.fr fv3 hno) hfit.2.1 hfit.2.2 fun v4 f5 => ?_
    have hs5 := f5.size
    have fv4 := fv3.then0 f5
    have hmk := maskN_lt e.2
    rw [wU64 (x := ((maskN e.2 : Nat) : Int)) (by omega)]
    refine spec_packet_plain (p4.fr0 f5) (v := ((maskN e.2 : Nat) : Int)) (n := 5) (by omega) (by decide) fun v5 p6 f6 => ?_
    have hs6 := f6.size
    have p6 : PW bw b (plainM (varM p.1 (idD p.2 e.1)) (maskN e.2) 5) (Gw F' v2 v5) v5 := PW.two (fun k e => e) p6 hs4 hs5 hs6 fun k e => by have := bF' k e; omega
    have C5 := (C3.fr f5 fun h => h).fr f6 fun e => by
      rcases e with e | e
      · have := bF' _ e; omega
      · omega
    have Bl5 := (Bl3.fr f5 fun h => h).fr f6 fun e => by
      rcases e with e | e
      · exact nb' e
      · have := Bl.lt; omega
    have ex2 : ∀ {x y : World} k, w.heap.size ≤ x.heap.size → Gw F' x y k → F k ∨ w.heap.size ≤ k := fun k hx e => by
      rcases e with e | e
      · exact exF k e
      · exact .inr (by omega)
    have fv5 : Fr (fun k => F k ∨ w.heap.size ≤ k) w v5 := fv4.then (f6.sub fun k e => ex2 k (by omega) e)
    refine fldI C5 (i := 1) (x := r1.2) rfl ?_
    refine spec_packet_comps p6 (ha2.fr fv5 hno) (fun k hk e e2 => hno k e (ex2 k (by omega) e2)) hfit.2.2 (by have := hfit.2.1; omega) fun v6 p7 f7 => ?_
    have hs7 := f7.size
    have p7 : PW bw b (entM p e).1 (Gw F' v2 v6) v6 := PW.two (fun k e => e) p7 (by omega) (Nat.le_refl _) hs7 fun k e => by have := bF' k e; omega
    have Bl6 := Bl5.fr f7 fun e => by
      rcases e with e | e
      · exact nb' e
      · have := Bl.lt; omega
    refine hK _ _ ⟨wsucc hj (by omega), ?_, ?_, fv5.then (f7.sub fun k e => ex2 k (by omega) e), by omega⟩
    · rw [efold]
      refine p7.mono (fun k _ e => ?_) fun k e => ?_
      · rcases e with e | e
        · rw [hF'] at e
          exact e.imp (fun h => h) fun e => by omega
        · exact .inr (by omega)
      · rcases e with e | e
        · have := b1 k e; omega
        · exact e.2
    · rw [efold]
      exact Bl6
  · rintro i v ⟨_, hp, _, fv, hsv⟩
    rw [List.take_of_length_le (by omega)] at hp
    refine hk v (two hsv hp) ?_
    exact (Fr.refl F w).exS fv fun k e => e
end Go.Proofs.YtchhhjlpnecjkaaGreat
namespace Go.Proofs.YtchhhjlpnecjkaaGreat
open Go Go.RowKit Go.Proofs.YtchhhjlpnecjkaaGreat.Den
variable {R : Type} {Q : R → World → Prop} {w : World}
theorem EntsR.snoc {ok : Nat → Prop} {raws : List (Int × Sl)} {L : List Ent} (h : EntsR ok w raws L) {r : Int × Sl} {e : Ent} (h1 : r.1 = e.1) (h2 : SlT ok w compT r.2 e.2) : EntsR ok w (raws ++ [r]) (L ++ [e]) := by
  have := All2.snoc (p := fun (r : Int × Sl) (e : Ent) => r.1 = e.1 ∧ SlT ok w compT r.2 e.2) ⟨h.len, h.at_⟩ ⟨h1, h2⟩
  exact ⟨this.len, this.at_⟩
abbrev DRaw := Sl × Sl × Sl
structure DltI (n bx : Nat) (lab : Nat → Nat) (r : DRaw) (rc : List (Int × Sl)) (rd : List ChgRaw) (gone : List Int) (come : List Ent) (chg : List Chg) (w : World) : Prop where
  blk : Blk w bx 80 [.slice r.1.a r.1.n r.1.c, .slice r.2.1.a r.2.1.n r.2.1.c, .slice r.2.2.a r.2.2.n r.2.2.c]
  lb : lab bx = 6
  og : Own (fun k => lab k = 1) w 54 idT r.1 gone
  oc : Own (fun k => lab k = 2) w 57 entT r.2.1 rc
  ec : EntsR (fun k => lab k = 3) w rc come
  od : Own (fun k => lab k = 4) w 86 chgT r.2.2 rd
  ed : All2 (fun a b => chgR (fun k => lab k = 5) w a b) rd chg
  up : ∀ k, lab k ≠ 0 → n ≤ k ∧ k < w.heap.size
section
variable {n bx : Nat} {lab : Nat → Nat} {r : DRaw} {rc : List (Int × Sl)} {rd : List ChgRaw} {gone : List Int} {come : List Ent} {chg : List Chg}
theorem DltI.fr0 (h : DltI n bx lab r rc rd gone come chg w) {w' : World} (f : Fr None w w') : DltI n bx lab r rc rd gone come chg w' :=
  ⟨h.blk.fr f fun h => h, h.lb, h.og.none f, h.oc.none f, h.ec.fr f fun _ _ h => h, h.od.none f, h.ed.imp fun a b hab => St.fr0 (A := fun F w => chgR F w a b) (chgR_st a b) hab f, fun k e => ⟨(h.up k e).1, Nat.lt_of_lt_of_le (h.up k e).2 f.size⟩⟩
theorem DltI.rest (h : DltI n bx lab r rc rd gone come chg w) (hn : n ≤ w.heap.size) {c : Nat} {w' : World} (f : Fr (fun k => lab k = c) w w') :
    (1 ≠ c → Own (fun k => relab lab w.heap.size w'.heap.size c k = 1) w' 54 idT r.1 gone) ∧
    (2 ≠ c → Own (fun k => relab lab w.heap.size w'.heap.size c k = 2) w' 57 entT r.2.1 rc) ∧
    (3 ≠ c → EntsR (fun k => relab lab w.heap.size w'.heap.size c k = 3) w' rc come) ∧
    (4 ≠ c → Own (fun k => relab lab w.heap.size w'.heap.size c k = 4) w' 86 chgT r.2.2 rd) ∧
    (5 ≠ c → All2 (fun a b => chgR (fun k => relab lab w.heap.size w'.heap.size c k = 5) w' a b) rd chg) ∧
    (6 ≠ c → Blk w' bx 80 [.slice r.1.a r.1.n r.1.c, .slice r.2.1.a r.2.1.n r.2.1.c, .slice r.2.2.a r.2.2.n r.2.2.c]) ∧
    relab lab w.heap.size w'.heap.size c bx = 6 ∧ (∀ k, relab lab w.heap.size w'.heap.size c k ≠ 0 → n ≤ k ∧ k < w'.heap.size) := by
  have hs := f.size
  refine ⟨fun hc => St.other (A := fun F w => Own F w 54 idT r.1 gone) Own.st h.og f hc, fun hc => St.other (A := fun F w => Own F w 57 entT r.2.1 rc) Own.st h.oc f hc,
    fun hc => ⟨h.ec.len, fun i a b ha hb => ⟨(h.ec.at_ i a b ha hb).1, St.other (A := fun F w => SlT F w compT a.2 b.2) SlT.st (h.ec.at_ i a b ha hb).2 f hc⟩⟩,
    fun hc => St.other (A := fun F w => Own F w 86 chgT r.2.2 rd) Own.st h.od f hc, fun hc => h.ed.imp fun a b hab => St.other (A := fun F w => chgR F w a b) (chgR_st a b) hab f hc,
    fun hc => h.blk.fr f fun e => hc (h.lb.symm.trans e), by rw [relab_lt h.blk.lt]; exact h.lb, fun k e => ?_⟩
  rcases relab_ne e with e | e
  · have := h.up k e.1; omega
  · omega
theorem DltI.grow (h : DltI n bx lab r rc rd gone come chg w) (hn : n ≤ w.heap.size) (c : Nat) {w' : World} (f : Fr None w w') : DltI n bx (relab lab w.heap.size w'.heap.size c) r rc rd gone come chg w' := by
  have hs := f.size
  have k1 : ∀ {A : OB} (_ : St A) {i : Nat}, A (fun k => lab k = i) w → A (fun k => relab lab w.heap.size w'.heap.size c k = i) w' := fun hA i a => hA a f fun k hk e => ⟨fun h => h, by show relab _ _ _ _ _ = _; rw [relab_lt hk]; exact e⟩
  refine ⟨h.blk.fr f fun h => h, by rw [relab_lt h.blk.lt]; exact h.lb, k1 (A := fun F w => Own F w 54 idT r.1 gone) Own.st h.og, k1 (A := fun F w => Own F w 57 entT r.2.1 rc) Own.st h.oc,
    ⟨h.ec.len, fun i a b ha hb => ⟨(h.ec.at_ i a b ha hb).1, k1 (A := fun F w => SlT F w compT a.2 b.2) SlT.st (h.ec.at_ i a b ha hb).2⟩⟩, k1 (A := fun F w => Own F w 86 chgT r.2.2 rd) Own.st h.od,
    h.ed.imp fun a b hab => k1 (A := fun F w => chgR F w a b) (chgR_st a b) hab, fun k e => ?_⟩
  rcases relab_ne e with e | e
  · have := h.up k e.1; omega
  · omega
theorem DltI.turned {w' : World} (og : Own (fun k => lab k = 1) w 54 idT r.1 gone) (oc : Own (fun k => lab k = 2) w 57 entT r.2.1 rc) (ec : EntsR (fun k => lab k = 3) w rc come) (od : Own (fun k => lab k = 4) w 86 chgT r.2.2 rd)
    (ed : All2 (fun a b => chgR (fun k => lab k = 5) w a b) rd chg) (hl : lab bx = 6) (up : ∀ k, lab k ≠ 0 → n ≤ k ∧ k < w.heap.size) (B : Blk w' bx 80 [.slice r.1.a r.1.n r.1.c, .slice r.2.1.a r.2.1.n r.2.1.c, .slice r.2.2.a r.2.2.n r.2.2.c]) (f : Fr (fun k => k = bx) w w') : DltI n bx lab r rc rd gone come chg w' := by
  have hs := f.size
  have nb : ∀ {i : Nat}, i ≠ 6 → ∀ k, lab k = i → k ≠ bx := fun hi k e e2 => by subst e2; omega
  refine ⟨B, hl, og.fr f (nb (by decide)), oc.fr f (nb (by decide)), ec.fr f (nb (by decide)), od.fr f (nb (by decide)), ed.imp fun a b hab => St.fr (A := fun F w => chgR F w a b) (chgR_st a b) hab f (nb (by decide)), fun k e => ?_⟩
  have := up k e; omega
theorem DltI.addGone (h : DltI n bx lab r rc rd gone come chg w) (hn : n ≤ w.heap.size) (hm : gone.length < 2097152) {x : Int} {K : W R} (hk : ∀ lab' r' w', DltI n bx lab' r' rc rd (gone ++ [x]) come chg w' → Fr (Up n) w w' → ((∀ k, k < w.heap.size → lab' k = lab k) ∧ Fr (fun k => lab k ≠ 0) w w') → K Q w') :
    newW 54 [.int .u32 x] (fun a => rawW Tryz.prog (Builtin.append_ #[77, 77] 77 #[.slice r.1.a r.1.n r.1.c, .slice (some a) 1 1]) [.sc .sl] fun (z : Sl) => stoL (Addr.add ⟨bx, 0, none⟩ 0) [.slice z.a z.n z.c] 0 K) Q w := by
  refine appLab (x := x) ids_ty rfl h.og (by omega) (by omega) fun z w1 o1 f1 => ?_
  obtain ⟨-, a2, a3, a4, a5, a6, a7, a8⟩ := h.rest hn f1
  rw [add_lit]
  refine setI (i := 0) (a6 (by decide)) (by simp) rfl fun w2 B2 f2 s2 => hk (relab lab w.heap.size w1.heap.size 1) (z, r.2) w2 (DltI.turned o1 (a2 (by decide)) (a3 (by decide)) (a4 (by decide)) (a5 (by decide)) a7 a8 B2 f2) ?_ ⟨fun k hk => relab_lt hk, ?_⟩
  · exact (f1.sub fun k e => (h.up k (by omega)).1).then (f2.sub fun k e => by rw [e]; exact (h.up bx (by rw [h.lb]; decide)).1)
  · exact (f1.sub fun k e e2 => by omega).then (f2.sub fun k e => by rw [e, h.lb]; decide)
theorem DltI.addCome (h : DltI n bx lab r rc rd gone come chg w) (hn : n ≤ w.heap.size) (hm : come.length < 2097152) {e : Ent} {t : Sl} (ht : SlT (fun k => lab k = 3) w compT t e.2) {K : W R} (hk : ∀ lab' r' w', DltI n bx lab' r' (rc ++ [(e.1, t)]) rd gone (come ++ [e]) chg w' → Fr (Up n) w w' → K Q w') :
    newW 57 [.int .u32 e.1, .slice t.a t.n t.c] (fun a => rawW Tryz.prog (Builtin.append_ #[23, 23] 23 #[.slice r.2.1.a r.2.1.n r.2.1.c, .slice (some a) 1 1]) [.sc .sl] fun (z : Sl) => stoL (Addr.add ⟨bx, 0, none⟩ 1) [.slice z.a z.n z.c] 0 K) Q w := by
  have hl := h.ec.len
  refine appLab (x := ((e.1, t) : Int × Sl)) ents_ty rfl h.oc (by omega) (by omega) fun z w1 o1 f1 => ?_
  obtain ⟨a1, -, a3, a4, a5, a6, a7, a8⟩ := h.rest hn f1
  rw [add_lit]
  have t1 := St.other (A := fun F w => SlT F w compT t e.2) (c := 2) SlT.st ht f1 (by decide)
  refine setI (i := 1) (a6 (by decide)) (by simp) rfl fun w2 B2 f2 s2 => hk (relab lab w.heap.size w1.heap.size 2) (r.1, z, r.2.2) w2 (DltI.turned (a1 (by decide)) o1 ((a3 (by decide)).snoc rfl t1) (a4 (by decide)) (a5 (by decide)) a7 a8 B2 f2) ?_
  exact (f1.sub fun k e => (h.up k (by omega)).1).then (f2.sub fun k e => by rw [e]; exact (h.up bx (by rw [h.lb]; decide)).1)
theorem DltI.addChg (h : DltI n bx lab r rc rd gone come chg w) (hn : n ≤ w.heap.size) (hm : chg.length < 2097152) {d : Chg} {t : ChgRaw} (ht : chgR (fun k => lab k = 5) w t d) {K : W R} (hk : ∀ lab' r' w', DltI n bx lab' r' rc (rd ++ [t]) gone come (chg ++ [d]) w' → Fr (Up n) w w' → ((∀ k, k < w.heap.size → lab' k = lab k) ∧ Fr (fun k => lab k ≠ 0) w w') → K Q w') :
    newW 86 [.int .u32 t.1, .int .u8 t.2.1, .slice t.2.2.1.a t.2.2.1.n t.2.2.1.c, .slice t.2.2.2.a t.2.2.2.n t.2.2.2.c] (fun a => rawW Tryz.prog (Builtin.append_ #[78, 78] 78 #[.slice r.2.2.a r.2.2.n r.2.2.c, .slice (some a) 1 1]) [.sc .sl] fun (z : Sl) => stoL (Addr.add ⟨bx, 0, none⟩ 2) [.slice z.a z.n z.c] 0 K) Q w := by
  have hl := h.ed.len
  refine appLab (x := t) chgs_ty rfl h.od (by omega) (by omega) fun z w1 o1 f1 => ?_
  obtain ⟨a1, a2, a3, -, a5, a6, a7, a8⟩ := h.rest hn f1
  rw [add_lit]
  have t1 := St.other (A := fun F w => chgR F w t d) (c := 4) (chgR_st t d) ht f1 (by decide)
  refine setI (i := 2) (a6 (by decide)) (by simp) rfl fun w2 B2 f2 s2 => hk (relab lab w.heap.size w1.heap.size 4) (r.1, r.2.1, z) w2 (DltI.turned (a1 (by decide)) (a2 (by decide)) (a3 (by decide)) o1 ((a5 (by decide)).snoc t1) a7 a8 B2 f2) ?_ ⟨fun k hk => relab_lt hk, ?_⟩
  · exact (f1.sub fun k e => (h.up k (by omega)).1).then (f2.sub fun k e => by rw [e]; exact (h.up bx (by rw [h.lb]; decide)).1)
  · exact (f1.sub fun k e e2 => by omega).then (f2.sub fun k e => by rw [e, h.lb]; decide)
end
structure DltR (ok : Nat → Prop) (w : World) (r : DRaw) (gone : List Int) (come : List Ent) (chg : List Chg) : Prop where
  g : SlT ok w idT r.1 gone
  c : ∃ rc, SlT ok w entT r.2.1 rc ∧ EntsR ok w rc come
  d : ∃ rd, SlT ok w chgT r.2.2 rd ∧ All2 (fun a b => chgR ok w a b) rd chg
theorem DltR.st {r : DRaw} {gone : List Int} {come : List Ent} {chg : List Chg} : St fun F w => DltR F w r gone come chg := fun {F F' S w w'} h f hs => by
  obtain ⟨g, ⟨rc, c1, c2⟩, ⟨rd, d1, d2⟩⟩ := h
  exact ⟨SlT.st g f hs, ⟨rc, SlT.st c1 f hs, c2.len, fun i a b ha hb => ⟨(c2.at_ i a b ha hb).1, SlT.st (c2.at_ i a b ha hb).2 f hs⟩⟩, ⟨rd, SlT.st d1 f hs, d2.imp fun a b hab => chgR_st a b hab f hs⟩⟩
def diffE (was now : List Ent) : Int := if formM 0 was ≠ 0 then formM 0 was else formM 0 now
theorem EntFit.idOk {e : Ent} (h : EntFit e) : IdOk e.1 ∧ Small e.2 := ⟨h.1, h.2.1⟩
theorem filterMap_le {α β : Type} (f : α → Option β) (l : List α) : (l.filterMap f).length ≤ l.length := List.length_filterMap_le _ _
theorem spec_diff_Diff {ok1 ok2 : Nat → Prop} {s1 s2 : Sl} {raws1 raws2 : List (Int × Sl)} {was now : List Ent} (hS1 : SlT ok1 w entT s1 raws1) (hE1 : EntsR ok1 w raws1 was) (hS2 : SlT ok2 w entT s2 raws2) (hE2 : EntsR ok2 w raws2 now)
    (hm1 : was.length ≤ 1048576) (hm2 : now.length ≤ 1048576) (hL1 : ∀ e ∈ was, EntFit e) (hL2 : ∀ e ∈ now, EntFit e) {K : Res [.agg [.sl, .sl, .sl], .sc (.int .i64)] → W R}
    (hbad : diffE was now ≠ 0 → ∀ w', Fr None w w' → K ((⟨none, 0, 0⟩, ⟨none, 0, 0⟩, ⟨none, 0, 0⟩), diffE was now) Q w')
    (hk : diffE was now = 0 → ∀ r w', DltR (Up w.heap.size) w' r (goneM was now) (comeM was now) (chgsM was now) → Fr None w w' → K (r, 0) Q w') :
    callW Tryz.prog k_diff_Diff [.slice s1.a s1.n s1.c, .slice s2.a s2.n s2.c] [.agg [.sl, .sl, .sl], .sc (.int .i64)] K Q w := by
  refine C_diff_Diff s1 s2 K Q w ?_
  unfold F_diff_Diff
  have l1 := hS1.len.trans hE1.len
  have l2 := hS2.len.trans hE2.len
  refine newI fun w1 B1 f1 t1 => newI fun w2 B2 f2 t2 => ?_
  have f02 := f1.then0 f2
  have B1 := B1.fr f2 fun h => h
  have hz2 := f02.size
  refine forI (N := 2) (fun s : Int => s) (fun j i v => i = (j : Int) ∧ Fr None w2 v ∧ (1 ≤ j → formM 0 was = 0) ∧ (2 ≤ j → formM 0 now = 0)) ⟨rfl, Fr.refl _ _, by omega, by omega⟩ (fun j s w' h => h.1) ?_ ?_
  · rintro j i v K' hj ⟨rfl, fv, p1, p2⟩ - hK
    have Bv := B2.fr fv fun h => h
    refine idxB (by omega) (by omega) ?_
    have go : ∀ {ok : Nat → Prop} {s : Sl} {raws : List (Int × Sl)} {L : List Ent}, SlT ok w entT s raws → EntsR ok w raws L → L.length ≤ 1048576 → (∀ e ∈ L, EntFit e) → (formM 0 L ≠ 0 → diffE was now = formM 0 L) → (formM 0 L = 0 → (1 ≤ j + 1 → formM 0 was = 0) ∧ (2 ≤ j + 1 → formM 0 now = 0)) →
        callW Tryz.prog k_snap_Form [.slice s.a s.n s.c] [.sc (.int .i64)] (fun (x_7 : Int) => cond (x_7 != 0) (stoL ⟨w.heap.size, 0, none⟩ [.slice none 0 0, .slice none 0 0, .slice none 0 0] 0 <| ld (.agg [.sl, .sl, .sl]) ⟨w.heap.size, 0, none⟩ fun (x_8 : DRaw) => retW (x_8, x_7)) (K' (IntKind.wrap .i64 ((j : Int) + 1)))) (fun r w => K r Q w) v := by
      intro ok s raws L hS hE hm hL hne he
      refine spec_snap_Form ((hS.fr0 f02).fr0 fv) ((hE.fr f02 fun _ _ h => h).fr fv fun _ _ h => h) (by omega) (fun e he => (hL e he).idOk) fun v2 g2 => ?_
      refine condN (fun h => ?_) fun h => ?_
      · refine stoAll ((B1.fr fv fun h => h).fr g2 fun h => h) rfl rfl fun v3 B3 g3 t3 => aggI B3 (x := ((⟨none, 0, 0⟩, ⟨none, 0, 0⟩, ⟨none, 0, 0⟩) : DRaw)) rfl ?_
        have e := hne h
        rw [← e]
        refine hbad (by rw [e]; exact h) v3 (((f02.then0 fv).then0 g2).newer g3 fun k e => by omega)
      · obtain ⟨a, b⟩ := he h
        exact hK _ _ ⟨wsucc hj (by omega), fv.then0 g2, a, b⟩
    rcases (show j = 0 ∨ j = 1 by omega) with rfl | rfl
    · refine fld0 Bv (i := 0) (x := s1) rfl (go hS1 hE1 hm1 hL1 (fun h => if_pos h) fun h => ⟨fun _ => h, fun h => by omega⟩)
    · have h0 := p1 (by omega)
      refine fld0 Bv (i := 1) (x := s2) rfl (go hS2 hE2 hm2 hL2 (fun h => if_neg (by rw [h0]; simp)) fun h => ⟨fun _ => h0, fun _ => h⟩)
  rintro i2 v ⟨_, fv, p1, p2⟩
  have z1 := p1 (by omega)
  have z2 := p2 (by omega)
  have hE0 : diffE was now = 0 := by unfold diffE; rw [if_neg (by rw [z1]; simp)]; exact z2
  have hk := hk hE0
  have fw := formOk.1 z1
  have fn := formOk.1 z2
  have f0v := f02.then0 fv
  refine newI fun v1 B3 g1 t3 => ?_
  have f01 := f0v.then0 g1
  have hz1 := f01.size
  have hzv := f0v.size
  have BX := ((B1.fr fv fun h => h).fr g1 fun h => h)
  have hzw : w.heap.size < w2.heap.size := by omega
  have BX0 := B1.fr fv fun h => h
  have hzv2 := fv.size
  refine loopI (fun (st : Int × Int) u => ∃ i k : Nat, st = ((i : Int), (k : Int)) ∧ i ≤ was.length ∧ k ≤ now.length ∧ Side was now i k ∧ (∃ lab r rc rd, DltI v.heap.size v.heap.size lab r rc rd (goneP (was.take i) now) (comeM was (now.take k)) (chgsM was (now.take k)) u) ∧ Fr None v u ∧ v.heap.size ≤ u.heap.size)
    (fun st _ => (was.length - st.1.toNat) + (now.length - st.2.toNat)) ⟨0, 0, rfl, by omega, by omega, Side.zero _ _, ⟨fun k => if k = v.heap.size then 6 else 0, (⟨none, 0, 0⟩, ⟨none, 0, 0⟩, ⟨none, 0, 0⟩), [], [], B3, by simp, Own.nil _ _ _ _, Own.nil _ _ _ _, EntsR.nil _ _, Own.nil _ _ _ _, All2.nil _, fun k e => by
      by_cases hkb : k = v.heap.size
      · omega
      · exact absurd (if_neg hkb) e⟩, g1, by omega⟩ ?_
  rintro st u ⟨i, k, rfl, hi, hk2, sd, ⟨lab, r, rc, rd, D⟩, fu, hzu⟩
  dsimp only
  have f0u := f0v.then0 fu
  have hS1u := hS1.fr0 f0u
  have hS2u := hS2.fr0 f0u
  refine joinI (fun z u' => z = decide (i < was.length ∨ k < now.length) ∧ u = u') ?_ ?_
  · refine condD (fun h => ⟨by simp; omega, rfl⟩) fun h => ⟨decide_eq_decide.2 (by omega), rfl⟩
  rintro z u' ⟨rfl, rfl⟩
  refine condD (fun hlt => ?_) fun hge => ?_
  rotate_left
  · rw [List.take_of_length_le (by omega), List.take_of_length_le (by omega)] at D
    refine aggI D.blk (x := r) rfl ?_
    have BXu := (BX0.fr fu fun h => h)
    refine stoAll BXu rfl rfl fun u1 C1 e1 m1 => aggI C1 (x := r) rfl ?_
    have nb : ∀ {i : Nat}, i ≠ 0 → ∀ k, k < u.heap.size → lab k = i → ¬ k = w.heap.size ∧ w.heap.size ≤ k := fun hi k hk e => by have := D.up k (by omega); omega
    refine hk r u1 ⟨SlT.st D.og.sl e1 (nb (by decide)), ⟨rc, SlT.st D.oc.sl e1 (nb (by decide)), D.ec.len, fun i a b ha hb => ⟨(D.ec.at_ i a b ha hb).1, SlT.st (D.ec.at_ i a b ha hb).2 e1 (nb (by decide))⟩⟩,
      ⟨rd, SlT.st D.od.sl e1 (nb (by decide)), D.ed.imp fun a b hab => chgR_st a b hab e1 (nb (by decide))⟩⟩ (f0u.newer e1 fun k e => by omega)
  have fd : Fr None u u.drew := (Fr.refl _ _).drew
  have fud := fu.then0 fd
  have Dd := D.fr0 fd
  have hS1d := hS1u.fr0 fd
  have hS2d := hS2u.fr0 fd
  have hE1d := (hE1.fr f0u fun _ _ h => h).fr fd fun _ _ h => h
  have hE2d := (hE2.fr f0u fun _ _ h => h).fr fd fun _ _ h => h
  have glen : (goneP (was.take i) now).length ≤ 1048576 := by
    unfold goneP; rw [List.length_map]; exact Nat.le_trans (List.length_filter_le _ _) (by simp; omega)
  have clen : (comeM was (now.take k)).length ≤ 1048576 := by
    unfold comeM; exact Nat.le_trans (List.length_filter_le _ _) (by simp; omega)
  have dlen : (chgsM was (now.take k)).length ≤ 1048576 := by
    unfold chgsM; exact Nat.le_trans (filterMap_le _ _) (by simp; omega)
  refine joinI (fun z u' => (z = true ↔ (k = now.length ∨ ∃ a b, was[i]? = some a ∧ now[k]? = some b ∧ a.1 < b.1)) ∧ u' = u.drew) ?_ ?_
  · refine condE (fun h => ⟨⟨fun _ => .inl (by have h : (k : Int) = (s2.n : Int) := h; omega), fun _ => rfl⟩, rfl⟩) fun h => ?_
    have h : k ≠ now.length := fun e => h (by show (k : Int) = (s2.n : Int); omega)
    refine condD (fun h2 => ?_) fun h2 => ⟨⟨fun h => (by cases h), ?_⟩, rfl⟩
    · have h2 : (i : Int) < (s1.n : Int) := h2
      obtain ⟨a, ha⟩ : ∃ a, was[i]? = some a := ⟨_, List.getElem?_eq_getElem (by omega)⟩
      obtain ⟨b, hb⟩ : ∃ b, now[k]? = some b := ⟨_, List.getElem?_eq_getElem (by omega)⟩
      obtain ⟨q1, hq1, hq2, _⟩ := hE1.get ha
      obtain ⟨y1, hy1, hy2, _⟩ := hE2.get hb
      refine hS1d.readK rfl rfl hq1 fun ad had => (had _ hS1d).fld (i := 0) (s := .int .u32) (y := q1.1) rfl ?_
      refine hS2d.readK rfl rfl hy1 fun ad2 had2 => (had2 _ hS2d).fld (i := 0) (s := .int .u32) (y := y1.1) rfl ?_
      refine ⟨⟨fun hz => .inr ⟨a, b, ha, hb, ?_⟩, fun hz => ?_⟩, rfl⟩
      · rw [← hq2, ← hy2]; simpa using hz
      · rcases hz with hz | ⟨a', b', ha', hb', hlt⟩
        · exact absurd hz h
        · rw [ha] at ha'; rw [hb] at hb'; cases ha'; cases hb'
          rw [hq2, hy2]; simpa using hlt
    · rintro (hz | ⟨a, b, ha, _⟩)
      · exact absurd hz h
      · have h2 : ¬ (i : Int) < (s1.n : Int) := h2
        have := (List.getElem?_eq_some_iff.1 ha).1
        omega
  rintro z u1 ⟨hz, rfl⟩
  have next : ∀ (i' k' : Nat) (st : Int × Int) (u' : World), st = ((i' : Int), (k' : Int)) → i ≤ i' → k ≤ k' → i + k < i' + k' → i' ≤ was.length → k' ≤ now.length → Side was now i' k' → (∃ lab r rc rd, DltI v.heap.size v.heap.size lab r rc rd (goneP (was.take i') now) (comeM was (now.take k')) (chgsM was (now.take k')) u') → Fr None v u' → v.heap.size ≤ u'.heap.size →
      (∃ i k : Nat, st = ((i : Int), (k : Int)) ∧ i ≤ was.length ∧ k ≤ now.length ∧ Side was now i k ∧ (∃ lab r rc rd, DltI v.heap.size v.heap.size lab r rc rd (goneP (was.take i) now) (comeM was (now.take k)) (chgsM was (now.take k)) u') ∧ Fr None v u' ∧ v.heap.size ≤ u'.heap.size) ∧ (was.length - st.1.toNat) + (now.length - st.2.toNat) < (was.length - i) + (now.length - k) := by
    intro i' k' st u' e h1 h2 h3 h4 h5 h6 h7 h8 h9
    subst e
    exact ⟨⟨i', k', rfl, h4, h5, h6, h7, h8, h9⟩, by simp only [Int.toNat_natCast]; omega⟩
  refine joinI (fun (st : Int × Int) u' => (∃ i' k' : Nat, st = ((i' : Int), (k' : Int)) ∧ i ≤ i' ∧ k ≤ k' ∧ i + k < i' + k' ∧ i' ≤ was.length ∧ k' ≤ now.length ∧ Side was now i' k' ∧ (∃ lab r rc rd, DltI v.heap.size v.heap.size lab r rc rd (goneP (was.take i') now) (comeM was (now.take k')) (chgsM was (now.take k')) u') ∧ Fr None v u' ∧ v.heap.size ≤ u'.heap.size)) ?_ ?_
  rotate_left
  · rintro st u2 ⟨i', k', e, h1, h2, h3, h4, h5, h6, h7, h8, h9⟩
    exact next i' k' (st.1, st.2) u2 (by rw [e]) h1 h2 h3 h4 h5 h6 h7 h8 h9
  have hup : ∀ {a b : World}, Fr None v a → Fr (Up v.heap.size) a b → Fr None v b := fun f g => f.newer g fun k e => e
  refine condI (fun hzt => ?_) fun hzf => ?_
  ·
    have hz := hz.1 hzt
    have hil : i < was.length := by
      rcases hz with h | ⟨a, b, ha, _⟩
      · omega
      · exact (List.getElem?_eq_some_iff.1 ha).1
    obtain ⟨a, ha⟩ : ∃ a, was[i]? = some a := ⟨_, List.getElem?_eq_getElem hil⟩
    obtain ⟨q1, hq1, hq2, _⟩ := hE1.get ha
    have ed : Fr None u.drew u.drew.drew := (Fr.refl _ _).drew
    have D2 := Dd.fr0 ed
    obtain ⟨sd', hno⟩ := sd.left fw.rise fn.rise ha fun b hb => by
      rcases hz with h | ⟨a', b', ha', hb', hlt⟩
      · have := (List.getElem?_eq_some_iff.1 hb).1; omega
      · rw [ha] at ha'; rw [hb] at hb'; cases ha'; cases hb'; exact hlt
    refine fldI D2.blk (i := 0) (x := r.1) rfl ?_
    refine (hS1d.fr0 ed).readK rfl rfl hq1 fun ad had => (had _ (hS1d.fr0 ed)).fld (i := 0) (s := .int .u32) (y := q1.1) rfl ?_
    have hzd : u.drew.drew.heap.size = u.heap.size := rfl
    refine D2.addGone (by omega) (by omega) fun lab' r' u2 D3 g3 _ => ?_
    have hz3 := g3.size
    refine ⟨i + 1, k, by rw [w64 (by omega)]; rfl, by omega, by omega, by omega, by omega, hk2, sd', ⟨lab', r', rc, rd, ?_⟩, hup (fud.then0 ed) g3, by omega⟩
    rw [goneM_step ha, if_pos hno, ← hq2]
    exact D3
  have hz : ¬ (k = now.length ∨ ∃ a b, was[i]? = some a ∧ now[k]? = some b ∧ a.1 < b.1) := fun h => by have := hz.2 h; rw [hzf] at this; cases this
  have hkl : k < now.length := by have : k ≠ now.length := fun e => hz (.inl e); omega
  obtain ⟨b, hb⟩ : ∃ b, now[k]? = some b := ⟨_, List.getElem?_eq_getElem hkl⟩
  obtain ⟨y1, hy1, hy2, hy3⟩ := hE2d.get hb
  have fitb := hL2 b (List.mem_of_getElem? hb)
  have ed : Fr None u.drew u.drew.drew := (Fr.refl _ _).drew
  have D2 := Dd.fr0 ed
  have fu2 := fud.then0 ed
  have hS1e := hS1d.fr0 ed
  have hS2e := hS2d.fr0 ed
  have hzd : u.drew.drew.heap.size = u.heap.size := rfl
  refine joinI (fun z u' => (z = true ↔ ∀ a, was[i]? = some a → b.1 < a.1) ∧ u' = u.drew.drew) ?_ ?_
  · refine condE (fun h => ⟨⟨fun _ a ha => ?_, fun _ => rfl⟩, rfl⟩) fun h => ?_
    · have h : (i : Int) = (s1.n : Int) := h
      have := (List.getElem?_eq_some_iff.1 ha).1
      omega
    have h : i ≠ was.length := fun e => h (by show (i : Int) = (s1.n : Int); omega)
    obtain ⟨a, ha⟩ : ∃ a, was[i]? = some a := ⟨_, List.getElem?_eq_getElem (by omega)⟩
    obtain ⟨q1, hq1, hq2, _⟩ := hE1.get ha
    refine hS2e.readK rfl rfl hy1 fun ad2 had2 => (had2 _ hS2e).fld (i := 0) (s := .int .u32) (y := y1.1) rfl ?_
    refine hS1e.readK rfl rfl hq1 fun ad had => (had _ hS1e).fld (i := 0) (s := .int .u32) (y := q1.1) rfl ?_
    refine ⟨⟨fun hz a' ha' => ?_, fun hz => ?_⟩, rfl⟩
    · rw [ha] at ha'; cases ha'
      rw [← hq2, ← hy2]; simpa using hz
    · have := hz a ha
      rw [hq2, hy2]; simpa using this
  rintro z2 u3 ⟨hz2', rfl⟩
  refine joinI (fun (st : Int × Int) u' => (∃ i' k' : Nat, st = ((i' : Int), (k' : Int)) ∧ i ≤ i' ∧ k ≤ k' ∧ i + k < i' + k' ∧ i' ≤ was.length ∧ k' ≤ now.length ∧ Side was now i' k' ∧ (∃ lab r rc rd, DltI v.heap.size v.heap.size lab r rc rd (goneP (was.take i') now) (comeM was (now.take k')) (chgsM was (now.take k')) u') ∧ Fr None v u' ∧ v.heap.size ≤ u'.heap.size)) ?_ ?_
  rotate_left
  · rintro st u2 ⟨i', k', rfl, h⟩
    exact ⟨i', k', rfl, h⟩
  have ed2 : Fr None u.drew.drew u.drew.drew.drew := (Fr.refl _ _).drew
  have D3 := D2.fr0 ed2
  have fu3 := fu2.then0 ed2
  have hS1f := hS1e.fr0 ed2
  have hS2f := hS2e.fr0 ed2
  have hzd2 : u.drew.drew.drew.heap.size = u.heap.size := rfl
  have hE2f := (hE2d.fr ed fun _ _ h => h).fr ed2 fun _ _ h => h
  have hE1f := (hE1d.fr ed fun _ _ h => h).fr ed2 fun _ _ h => h
  refine condI (fun hzt => ?_) fun hzf2 => ?_
  ·
    have hz2 := hz2'.1 hzt
    obtain ⟨sd', hno⟩ := sd.right fw.rise fn.rise hb hz2
    have hy3' := (hE2f.at_ _ _ _ hy1 hb).2
    refine fldI D3.blk (i := 1) (x := r.2.1) rfl ?_
    refine hS2f.readK rfl rfl hy1 fun ad had => (had _ hS2f).fld (i := 0) (s := .int .u32) (y := y1.1) rfl ?_
    refine hS2f.readK rfl rfl hy1 fun ad2 had2 => (had2 _ hS2f).fld (i := 1) (s := .sl) (y := y1.2) rfl ?_
    refine spec_Clone_Comp hy3' (by have := fitb.2.1; omega) fun t u4 o4 g4 => ?_
    have hz4 := g4.size
    have rd1 : Rd u4 (Addr.add ad 0) (.sc (.int .u32)) y1.1 := (had _ (hS2f.fr0 g4)) 0 _ rfl
    have D4 := D3.grow (by omega) 3 g4
    refine andI rd1 (andI (D4.blk.rd (s := .sl) (i := 1) (x := r.2.1) rfl) ?_)
    rw [hy2]
    refine D4.addCome (by omega) (by omega) (e := b) (o4.sl.mono fun q hq e => relab_new e hq) fun lab' r' u5 D5 g5 => ?_
    have hz5 := g5.size
    refine ⟨i, k + 1, by rw [w64 (by omega)]; rfl, by omega, by omega, by omega, hi, by omega, sd', ⟨lab', r', rc ++ [(b.1, t)], rd, ?_⟩, hup (fu3.then0 g4) g5, by omega⟩
    have ec : chgsM was (now.take (k + 1)) = chgsM was (now.take k) := by
      rw [chgsM_step hb]
      have : chgOne was b = none := by
        unfold chgOne
        have : was.find? (fun a => a.1 == b.1) = none := by
          rw [List.find?_eq_none]
          intro x hx
          simpa using hasE_not.1 hno x hx
        rw [this]
      rw [this, List.append_nil]
    rw [comeM_step hb, if_pos hno, ec]
    exact D5
  have hz2 : ∃ a, was[i]? = some a ∧ ¬ b.1 < a.1 := by
    refine Classical.byContradiction fun hc => ?_
    have : z2 = true := hz2'.2 fun a ha => Classical.byContradiction fun hn => hc ⟨a, ha, hn⟩
    rw [hzf2] at this; cases this
  obtain ⟨a, ha, hab⟩ := hz2
  have hab : a.1 = b.1 := by
    have : ¬ a.1 < b.1 := fun h => hz (.inr ⟨a, b, ha, hb, h⟩)
    omega
  obtain ⟨q1, hq1, hq2, hq3⟩ := hE1f.get ha
  have hy3' := (hE2f.at_ _ _ _ hy1 hb).2
  have fita := hL1 a (List.mem_of_getElem? ha)
  obtain ⟨sd', ho1, ho2, hone⟩ := sd.both fw.rise fn.rise ha hb hab
  have hil := (List.getElem?_eq_some_iff.1 ha).1
  refine joinI (fun s u' => ∃ bc t lab' , s = some ⟨bc, 0, none⟩ ∧ Blk u' bc 86 [.int .u32 t.1, .int .u8 t.2.1, .slice t.2.2.1.a t.2.2.1.n t.2.2.1.c, .slice t.2.2.2.a t.2.2.2.n t.2.2.2.c] ∧ chgR (fun k => lab' k = 5) u' t (changeM a b) ∧ DltI v.heap.size v.heap.size lab' r rc rd (goneP (was.take i) now) (comeM was (now.take k)) (chgsM was (now.take k)) u' ∧ Fr None v u' ∧ v.heap.size ≤ u'.heap.size) ?_ ?_
  · refine bothI ?_ ?_
    · refine hS1f.get rfl rfl (by have := hE1.len; omega) fun x hx => ?_
      rw [hq1] at hx; cases hx
      refine hS2f.get rfl rfl (by have := hE2.len; omega) fun x hx => ?_
      rw [hy1] at hx; cases hx
      refine spec_diff_change hq3 hy3' hy2 fita.2.1 fitb.2.1 fita.2.2 fitb.2.2 fun t u4 ht g4 => ?_
      have hz4 := g4.size
      refine newI fun u5 B5 g5 m5 => stoAll B5 rfl rfl fun u6 B6 g6 m6 => ?_
      have g46 : Fr None u4 u6 := g5.newer g6 fun k e => by omega
      have g6' := g4.then0 g46
      refine ⟨_, t, relab lab u.drew.drew.drew.heap.size u6.heap.size 5, rfl, B6, ?_, D3.grow (by omega) 5 g6', fu3.then0 g6', by omega⟩
      refine chgR_st _ _ ht g46 fun q hq e => ⟨fun h => h, ?_⟩
      have e : u.drew.drew.drew.heap.size ≤ q := e
      exact relab_new e (by omega)
    · refine hS1f.get rfl rfl (by have := hE1.len; omega) fun x hx => ?_
      rw [hq1] at hx; cases hx
      refine hS2f.get rfl rfl (by have := hE2.len; omega) fun x hx => ?_
      rw [hy1] at hx; cases hx
      refine newI fun u4 B4 g4 m4 => ?_
      refine spec_diff_change (hq3.fr0 g4) (hy3'.fr0 g4) hy2 fita.2.1 fitb.2.1 fita.2.2 fitb.2.2 fun t u5 ht g5 => ?_
      have hz5 := g5.size
      refine stoAll (B4.fr g5 fun h => h) rfl rfl fun u6 B6 g6 m6 => ?_
      have g06 : Fr None u.drew.drew.drew u6 := (g4.then0 g5).newer g6 fun k e => by omega
      refine ⟨_, t, relab lab u.drew.drew.drew.heap.size u6.heap.size 5, rfl, B6, ?_, D3.grow (by omega) 5 g06, fu3.then0 g06, by omega⟩
      refine chgR_st _ _ ht g6 fun q hq e => ⟨by have e : u4.heap.size ≤ q := e; omega, ?_⟩
      have e : u4.heap.size ≤ q := e
      exact relab_new (by omega) (by omega)
  rintro s u4 ⟨bc, t, lab', rfl, Bc, ht, D4, fu4, hz4⟩
  refine ptrI (aggI Bc (x := t) rfl (spec_diff_nothing fun u5 g5 => ?_))
  have D5 := D4.fr0 g5
  have ht5 := St.fr0 (A := fun F w => chgR F w t (changeM a b)) (chgR_st _ _) ht g5
  have fu5 := fu4.then0 g5
  have hz5 := g5.size
  have Bc5 := Bc.fr g5 fun h => h
  have en : decide (t.2.1 = 0 ∧ t.2.2.1.n = 0 ∧ t.2.2.2.n = 0) = nothingM (changeM a b) := by
    unfold nothingM
    rw [ht.2.1, ht.2.2.1.len, ht.2.2.2.len]
  rw [en]
  have eg : goneP (was.take (i + 1)) now = goneP (was.take i) now := by rw [goneM_step ha, if_neg (by rw [ho1]; decide), List.append_nil]
  have ec : comeM was (now.take (k + 1)) = comeM was (now.take k) := by rw [comeM_step hb, if_neg (by rw [ho2]; decide), List.append_nil]
  have ed' := chgsM_step (was := was) hb
  rw [hone] at ed'
  refine joinI (fun (_ : Unit) u' => (∃ lab r rc rd, DltI v.heap.size v.heap.size lab r rc rd (goneP (was.take (i + 1)) now) (comeM was (now.take (k + 1))) (chgsM was (now.take (k + 1))) u') ∧ Fr None v u' ∧ v.heap.size ≤ u'.heap.size) ?_ ?_
  · refine condI (fun hn => ?_) fun hn => ?_
    · have hn : nothingM (changeM a b) = false := by simpa using hn
      refine fldI D5.blk (i := 2) (x := r.2.2) rfl (ptrI (aggI Bc5 (x := t) rfl ?_))
      refine D5.addChg (by omega) (by omega) ht5 fun lab'' r' u6 D6 g6 _ => ?_
      have hz6 := g6.size
      refine ⟨⟨lab'', r', rc, rd ++ [t], ?_⟩, hup fu5 g6, by omega⟩
      rw [eg, ec, ed', hn]
      exact D6
    · have hn : nothingM (changeM a b) = true := by simpa using hn
      refine ⟨⟨lab', r, rc, rd, ?_⟩, fu5, by omega⟩
      rw [eg, ec, ed', hn, if_pos rfl, List.append_nil]
      exact D5
  rintro _ u6 ⟨h1, h2, h3⟩
  exact ⟨i + 1, k + 1, by rw [w64 (by omega), w64 (by omega)]; rfl, by omega, by omega, by omega, by omega, by omega, sd', h1, h2, h3⟩
end Go.Proofs.YtchhhjlpnecjkaaGreat
namespace Go.Proofs.YtchhhjlpnecjkaaGreat
open Go Go.RowKit Go.Proofs.YtchhhjlpnecjkaaGreat.Den
variable {R : Type} {Q : R → World → Prop} {w : World}
abbrev PS (n : Nat) (F : Nat → Prop) (nots : List Nat) : Nat → Prop := fun k => (F k ∨ n ≤ k) ∧ k ∉ nots
def PX (n : Nat) (F : Nat → Prop) (bw b : Nat) (s : WS) (nots : List Nat) (v : World) : Prop :=
  ∃ G, PW bw b s G v ∧ (∀ k, G k → F k ∨ n ≤ k) ∧ (∀ x ∈ nots, ¬ G x ∧ x < v.heap.size)
section
variable {n : Nat} {F : Nat → Prop} {bw b : Nat} {s : WS} {nots : List Nat} {v : World}
theorem PX.use (h : PX n F bw b s nots v) (hn : n ≤ v.heap.size) : ∃ G, PW bw b s G v ∧ (∀ s' v', PW bw b s' (Gw G v v') v' → v.heap.size ≤ v'.heap.size → PX n F bw b s' nots v') ∧ (∀ v', Fr G v v' → Fr (PS n F nots) v v') ∧ (∀ x ∈ nots, ¬ G x) ∧ (∀ k, G k → PS n F nots k) := by
  obtain ⟨G, h1, h2, h3⟩ := h
  refine ⟨G, h1, fun s' v' hp hs => ⟨_, hp, fun k e => ?_, fun x hx => ⟨fun e => ?_, by have := (h3 x hx).2; omega⟩⟩, fun v' f => f.sub fun k e => ⟨h2 k e, fun hx => (h3 k hx).1 e⟩, fun x hx => (h3 x hx).1, fun k e => ⟨h2 k e, fun hx => (h3 k hx).1 e⟩⟩
  · rcases e with e | e
    · exact h2 k e
    · exact .inr (by omega)
  · rcases e with e | e
    · exact (h3 x hx).1 e
    · have := (h3 x hx).2; omega
theorem PX.fr0 (h : PX n F bw b s nots v) {v' : World} (f : Fr None v v') : PX n F bw b s nots v' := by
  obtain ⟨G, h1, h2, h3⟩ := h
  exact ⟨G, h1.fr0 f, h2, fun x hx => ⟨(h3 x hx).1, Nat.lt_of_lt_of_le (h3 x hx).2 f.size⟩⟩
theorem PX.frN (h : PX n F bw b s nots v) {v' : World} {x : Nat} (hx : x ∈ nots) (f : Fr (fun k => k = x) v v') : PX n F bw b s nots v' := by
  obtain ⟨G, h1, h2, h3⟩ := h
  exact ⟨G, h1.fr f fun k e e2 => by subst e2; exact (h3 k hx).1 e, h2, fun x hx => ⟨(h3 x hx).1, Nat.lt_of_lt_of_le (h3 x hx).2 f.size⟩⟩
theorem PX.more (h : PX n F bw b s nots v) {v' : World} (f : Fr None v v') {x : Nat} (h1 : v.heap.size ≤ x) (h2 : x < v'.heap.size) : PX n F bw b s (x :: nots) v' := by
  obtain ⟨G, g1, g2, g3⟩ := h
  refine ⟨G, g1.fr0 f, g2, fun y hy => ?_⟩
  rcases List.mem_cons.1 hy with rfl | hy
  · exact ⟨fun e => by have := g1.2.1 y e; omega, h2⟩
  · exact ⟨(g3 y hy).1, Nat.lt_of_lt_of_le (g3 y hy).2 f.size⟩
theorem PX.less (h : PX n F bw b s nots v) {l : List Nat} (hl : ∀ x ∈ l, x ∈ nots) : PX n F bw b s l v := by
  obtain ⟨G, g1, g2, g3⟩ := h
  exact ⟨G, g1, g2, fun x hx => g3 x (hl x hx)⟩
theorem PX.of (h : PW bw b s F v) : PX v.heap.size F bw b s [] v := ⟨F, h, fun k e => .inl e, fun x hx => by cases hx⟩
theorem PX.done {v0 : World} (h : PX v0.heap.size F bw b s nots v) (hF : ∀ k, F k → k < v0.heap.size) (hs : v0.heap.size ≤ v.heap.size) : PW bw b s (Gw F v0 v) v := by
  obtain ⟨G, g1, g2, g3⟩ := h
  refine g1.mono (fun k hk e => ?_) fun k e => ?_
  · rcases g2 k e with e | e
    · exact .inl e
    · exact .inr ⟨e, hk⟩
  · rcases e with e | e
    · have := hF k e; omega
    · exact e.2
theorem PX.plain (h : PX n F bw b s nots v) (hn : n ≤ v.heap.size) {x m : Int} (hv : 0 ≤ x ∧ x ≤ 18446744073709551615) (hm : -9223372036854775808 ≤ m ∧ m ≤ 9223372036854775807) {K : Res [] → W R} (hk : ∀ v', PX n F bw b (plainM s x m) nots v' → Fr (PS n F nots) v v' → K () Q v') :
    callW Tryz.prog k_packet_writer_plain [.pointer (some ⟨bw, 0, none⟩), .int .u64 x, .int .i64 m] [] K Q v := by
  obtain ⟨G, hp, up, uf, -, -⟩ := h.use hn
  exact spec_packet_plain hp hv hm fun v' hp' f' => hk v' (up _ _ hp' f'.size) (uf _ f')
theorem PX.count (h : PX n F bw b s nots v) (hn : n ≤ v.heap.size) {x : Nat} (hx : (x : Int) ≤ 18446744073709551615) {K : Res [] → W R} (hk : ∀ v', PX n F bw b (varM s x) nots v' → Fr (PS n F nots) v v' → K () Q v') :
    callW Tryz.prog k_packet_writer_count [.pointer (some ⟨bw, 0, none⟩), .int .i64 (x : Int)] [] K Q v := by
  obtain ⟨G, hp, up, uf, -, -⟩ := h.use hn
  exact spec_packet_count hp hx fun v' hp' f' => hk v' (up _ _ hp' f'.size) (uf _ f')
theorem PX.id (h : PX n F bw b s nots v) (hn : n ≤ v.heap.size) {bl : Nat} (hbl : bl ∈ nots) {T : TypeId} {last id : Int} (B : Blk v bl T [.int .u32 last]) {K : Res [] → W R}
    (hk : ∀ v', PX n F bw b (varM s (idD last id)) nots v' → Blk v' bl T [.int .u32 id] → Fr (fun k => PS n F nots k ∨ k = bl) v v' → K () Q v') :
    callW Tryz.prog k_packet_writer_id [.pointer (some ⟨bw, 0, none⟩), .pointer (some ⟨bl, 0, none⟩), .int .u32 id] [] K Q v := by
  obtain ⟨G, hp, up, uf, un, us⟩ := h.use hn
  exact spec_packet_id hp B (un bl hbl) fun v' hp' B' f' => hk v' (up _ _ hp' f'.size) B' (f'.sub fun k e => e.imp (us k) fun h => h)
theorem PX.comps (h : PX n F bw b s nots v) (hn : n ≤ v.heap.size) {ok : Nat → Prop} {r : Sl} {l : List Comp} (hS : SlT ok v compT r l) (hd : ∀ k, ok k → k ∈ nots ∨ ¬ (F k ∨ n ≤ k)) (hc : ∀ c ∈ l, CompOk c) (hm : l.length ≤ 1048576) {K : Res [] → W R} (hk : ∀ v', PX n F bw b (compsM s l) nots v' → Fr (PS n F nots) v v' → K () Q v') :
    callW Tryz.prog k_packet_writer_comps [.pointer (some ⟨bw, 0, none⟩), .slice r.a r.n r.c] [] K Q v := by
  obtain ⟨G, hp, up, uf, un, us⟩ := h.use hn
  refine spec_packet_comps hp hS (fun k _ e e2 => ?_) hc (by omega) fun v' hp' f' => hk v' (up _ _ hp' f'.size) (uf _ f')
  rcases hd k e with h | h
  · exact un k h e2
  · exact h (us k e2).1
theorem PX.ents (h : PX n F bw b s nots v) (hn : n ≤ v.heap.size) {ok : Nat → Prop} {r : Sl} {raws : List (Int × Sl)} {L : List Ent} (hS : SlT ok v entT r raws) (hE : EntsR ok v raws L) (hd : ∀ k, ok k → ¬ (F k ∨ n ≤ k)) (hL : ∀ e ∈ L, EntFit e) (hm : L.length ≤ 1048576) {K : Res [] → W R} (hk : ∀ v', PX n F bw b (entsW s L) nots v' → Fr (PS n F nots) v v' → K () Q v') :
    callW Tryz.prog k_packet_writer_ents [.pointer (some ⟨bw, 0, none⟩), .slice r.a r.n r.c] [] K Q v := by
  obtain ⟨G, hp, up, uf, un, us⟩ := h.use hn
  exact spec_packet_ents hp hS hE (fun k _ e e2 => hd k e (us k e2).1) hL hm fun v' hp' f' => hk v' (up _ _ hp' f'.size) (uf _ f')
theorem PX.bits (h : PX n F bw b s nots v) (hn : n ≤ v.heap.size) : ∃ G, Wr b s.1 G v ∧ (∀ k, G k → k < v.heap.size) ∧ ∀ (p : Int × List Bool) (v' : World) {K : Res [] → W R}, Wr b p.2 (Ex G v) v' → Fr G v v' →
    (∀ v2, PX n F bw b (doM s p) nots v2 → Fr (PS n F nots) v v2 → K () Q v2) → callW Tryz.prog k_packet_writer_keep [.pointer (some ⟨bw, 0, none⟩), .int .i64 p.1] [] K Q v' := by
  obtain ⟨G, hp, up, uf, un, us⟩ := h.use hn
  obtain ⟨h1, h2, h3⟩ := PW.put (Q := Q) hp
  refine ⟨_, h1, h2, fun p v' K hw f hk => h3 p v' hw f fun v2 hp2 f2 => hk v2 (up _ _ hp2 f2.size) (uf _ f2)⟩
theorem PX.ptr (h : PX n F bw b s nots v) {K : Option Addr → W R} (hk : K (some ⟨b, 0, none⟩) Q v) : ld (.sc .ptr) (Addr.add ⟨bw, 0, none⟩ 0) K Q v := by
  obtain ⟨G, h1, _⟩ := h
  exact h1.ptr hk
theorem PX.rdp (h : PX n F bw b s nots v) : Rd v (Addr.add ⟨bw, 0, none⟩ 0) (.sc .ptr) (some ⟨b, 0, none⟩) := by
  obtain ⟨G, h1, _⟩ := h
  exact h1.2.2.1.rd (s := .ptr) (i := 0) rfl
end
def idM (p : WS × Int) (id : Int) : WS × Int := (varM p.1 (idD p.2 id), id)
def goneW (s : WS) (l : List Int) : WS := (l.foldl idM (varM s l.length, 0)).1
def setsM (was : List Ent) (id : Int) (s : WS) (l : List Comp) : WS := l.foldl (fun s c => doM s (putS s.1 (oldM was id c.1) c)) s
def chgM1 (was : List Ent) (p : WS × Int) (d : Chg) : WS × Int :=
  (setsM was d.1 (compsM (plainM (plainM (plainM (varM p.1 (idD p.2 d.1)) d.2.1 5) (maskN d.2.2.1) 5) (maskN d.2.2.2) 5) d.2.2.1) d.2.2.2, d.1)
def chgsW (was : List Ent) (s : WS) (l : List Chg) : WS := (l.foldl (chgM1 was) (varM s l.length, 0)).1
def deltaW (was : List Ent) (s : WS) (gone : List Int) (come : List Ent) (chg : List Chg) : WS := chgsW was (entsW (goneW s gone) come) chg
def ChgFit (d : Chg) : Prop := (0 ≤ d.1 ∧ d.1 ≤ 4294967295) ∧ (0 ≤ d.2.1 ∧ d.2.1 ≤ 255) ∧ (d.2.2.1.length ≤ 1048576 ∧ ∀ c ∈ d.2.2.1, CompOk c) ∧ (d.2.2.2.length ≤ 1048576 ∧ ∀ c ∈ d.2.2.2, CompOk c)
theorem oldM_ok {was : List Ent} (hL : ∀ e ∈ was, EntFit e) (id k : Int) : CompOk (oldM was id k) := by
  have z : CompOk (0, 0, 0, 0) := by unfold CompOk i32; simp
  unfold oldM
  split
  · rename_i i hi
    cases he : was[i]? with
    | none => exact z
    | some e =>
      simp only [Option.bind_some]
      cases hf : e.2.find? (fun c => c.1 == k) with
      | none => exact z
      | some c => exact (hL e (List.mem_of_getElem? he)).2.2 c (List.mem_of_find?_eq_some hf)
  · exact z
theorem spec_packet_delta {bw b : Nat} {s : WS} {F : Nat → Prop} (h : PW bw b s F w) {okw ok : Nat → Prop} {sw : Sl} {raws : List (Int × Sl)} {was : List Ent} (hS : SlT okw w entT sw raws) (hE : EntsR okw w raws was) (hr : was.Pairwise fun a b => a.1 < b.1) (hm : was.length ≤ 1048576) (hL : ∀ e ∈ was, EntFit e) (hd1 : ∀ k, k < w.heap.size → okw k → ¬ F k)
    {d : DRaw} {gone : List Int} {come : List Ent} {chg : List Chg} (D : DltR ok w d gone come chg) (hd2 : ∀ k, k < w.heap.size → ok k → ¬ F k) (hg : gone.length ≤ 1048576 ∧ ∀ x ∈ gone, 0 ≤ x ∧ x ≤ 4294967295) (hc : come.length ≤ 1048576 ∧ ∀ e ∈ come, EntFit e) (hh : chg.length ≤ 1048576 ∧ ∀ c ∈ chg, ChgFit c)
    {K : Res [] → W R} (hk : ∀ w', PW bw b (deltaW was s gone come chg) (Gw F w w') w' → Fr F w w' → K () Q w') :
    callW Tryz.prog k_packet_writer_delta [.pointer (some ⟨bw, 0, none⟩), .slice sw.a sw.n sw.c, .agg ⟨[.slice d.1.a d.1.n d.1.c, .slice d.2.1.a d.2.1.n d.2.1.c, .slice d.2.2.a d.2.2.n d.2.2.c]⟩] [] K Q w := by
  refine C_packet_writer_delta _ sw d K Q w ?_
  unfold F_packet_writer_delta
  have hF := h.2.1
  have hS0 : SlT (fun k => okw k ∧ k < w.heap.size) w entT sw raws := hS.mono fun k hk e => ⟨e, hk⟩
  have hE0 : EntsR (fun k => okw k ∧ k < w.heap.size) w raws was := hE.mono fun k hk e => ⟨e, hk⟩
  have D0 : DltR (fun k => ok k ∧ k < w.heap.size) w d gone come chg := DltR.st.mono D fun k hk e => ⟨e, hk⟩
  obtain ⟨Dg, ⟨rc, Dc, DcE⟩, ⟨rd, Dd, DdE⟩⟩ := D0
  have no1 : ∀ k, okw k ∧ k < w.heap.size → ¬ (F k ∨ w.heap.size ≤ k) := fun k e e2 => by
    rcases e2 with e2 | e2
    · exact hd1 k e.2 e.1 e2
    · omega
  have no2 : ∀ k, ok k ∧ k < w.heap.size → ¬ (F k ∨ w.heap.size ≤ k) := fun k e e2 => by
    rcases e2 with e2 | e2
    · exact hd2 k e.2 e.1 e2
    · omega
  have lg := Dg.len
  have lc := DcE.len
  have lc' := Dc.len
  have ld' := Dd.len
  have ldE := DdE.len
  refine newI fun w1 B1 f1 t1 => fldI B1 (i := 0) (x := d.1) rfl ?_
  have X1 : PX w.heap.size F bw b s [w.heap.size] w1 := (PX.of h).more f1 (Nat.le_refl _) (by omega)
  rw [lg]
  refine X1.count (by omega) (by omega) fun w2 X2 f2 => ?_
  have z2 := f2.size
  have B2 := B1.fr f2 fun e => e.2 (by simp)
  have g2 : Fr (fun k => F k ∨ w.heap.size ≤ k) w w2 := f1.any.then (f2.sub fun k e => e.1)
  refine newI fun w3 B3 f3 t3 => stoAll B3 rfl rfl fun w4 B4 f4 t4 => ?_
  have f24 : Fr None w2 w4 := f3.newer f4 fun k e => by omega
  have X4 : PX w.heap.size F bw b (varM s gone.length) [w2.heap.size, w.heap.size] w4 := (X2.more f3 (Nat.le_refl _) (by omega)).frN (by simp) f4
  have B24 := B2.fr f24 fun h => h
  have g4 := g2.then0 f24
  refine fldI B24 (i := 0) (x := d.1) rfl ?_
  have hx1 : w.heap.size ≠ w2.heap.size := by omega
  generalize hbl : w2.heap.size = bl at B4 X4 hx1
  generalize hbx : w.heap.size = bx at B24 X4 hx1
  have hn4 := g4.size
  have ps : ∀ {l : List Nat} (k : Nat), PS bx F l k → F k ∨ w.heap.size ≤ k := fun k e => by rw [hbx]; exact e.1
  have psl : ∀ {l : List Nat} (k : Nat), PS bx F l k ∨ k = bl → F k ∨ w.heap.size ≤ k := fun k e => by
    rcases e with e | e
    · exact ps k e
    · exact .inr (by omega)
  have nx : ∀ {l : List Nat}, bx ∈ l → ¬ PS bx F l bx := fun hl e => e.2 hl
  refine forI (N := d.1.n) (fun s : Int => s) (fun j i v => i = (j : Int) ∧ PX bx F bw b ((gone.take j).foldl idM (varM s gone.length, 0)).1 [bl, bx] v ∧ Blk v bl 54 [.int .u32 ((gone.take j).foldl idM (varM s gone.length, 0)).2] ∧ Blk v bx 80 [.slice d.1.a d.1.n d.1.c, .slice d.2.1.a d.2.1.n d.2.1.c, .slice d.2.2.a d.2.2.n d.2.2.c] ∧ Fr (fun k => F k ∨ w.heap.size ≤ k) w v)
    ⟨rfl, X4, B4, B24, g4⟩ (fun j s w' h => h.1) ?_ ?_
  · rintro j i v K' hj ⟨rfl, X, Bl, Bx, fv⟩ - hK
    have hnv := fv.size
    refine (Dg.fr fv no2).get rfl rfl (by omega) fun x hx => ?_
    refine X.id (by omega) (by simp) Bl fun v2 X2 Bl2 e2 => ?_
    have efold : (gone.take (j + 1)).foldl idM (varM s gone.length, 0) = idM ((gone.take j).foldl idM (varM s gone.length, 0)) x := by rw [take_at hx, List.foldl_append]; rfl
    refine hK _ _ ⟨wsucc hj (by omega), ?_, ?_, Bx.fr e2 fun e => ?_, fv.then (e2.sub psl)⟩
    · rw [efold]; exact X2
    · rw [efold]; exact Bl2
    · rcases e with e | e
      · exact nx (by simp) e
      · exact hx1 e
  rintro i v5 ⟨_, X5, Bl5, Bx5, g5⟩
  rw [List.take_of_length_le (by omega)] at X5
  have hn5 := g5.size
  refine fldI Bx5 (i := 1) (x := d.2.1) rfl ?_
  refine X5.ents (by omega) (Dc.fr g5 no2) (DcE.fr g5 no2) (fun k e => by rw [← hbx]; exact no2 k e) hc.2 hc.1 fun v6 X6 f6 => ?_
  have g6 := g5.then (f6.sub fun k e => ps k e)
  have hn6 := g6.size
  have Bx6 := Bx5.fr f6 (nx (by simp))
  have Bl6 := Bl5.fr f6 fun e => e.2 (by simp)
  refine fldI Bx6 (i := 2) (x := d.2.2) rfl ?_
  rw [ld', ldE]
  refine X6.count (by omega) (by omega) fun v7 X7 f7 => ?_
  have g7 := g6.then (f7.sub fun k e => ps k e)
  have hn7 := g7.size
  have Bx7 := Bx6.fr f7 (nx (by simp))
  have Bl7 := Bl6.fr f7 fun e => e.2 (by simp)
  refine stoAll Bl7 rfl rfl fun v8 Bl8 f8 t8 => ?_
  have X8 := X7.frN (by simp) f8
  have g8 := g7.then (f8.sub fun k e => .inr (by omega))
  have hn8 := g8.size
  have Bx8 := Bx7.fr f8 hx1
  refine fldI Bx8 (i := 2) (x := d.2.2) rfl ?_
  generalize hs0 : entsW (goneW s gone) come = s0 at *
  have hs0' : entsW (List.foldl idM (varM s gone.length, 0) gone).1 come = s0 := hs0
  rw [hs0'] at X8
  refine forI (N := d.2.2.n) (fun s : Int => s) (fun j i v => i = (j : Int) ∧ PX bx F bw b ((chg.take j).foldl (chgM1 was) (varM s0 chg.length, 0)).1 [bl, bx] v ∧ Blk v bl 54 [.int .u32 ((chg.take j).foldl (chgM1 was) (varM s0 chg.length, 0)).2] ∧ Fr (fun k => F k ∨ w.heap.size ≤ k) w v)
    ⟨rfl, X8, Bl8, g8⟩ (fun j s w' h => h.1) ?_ ?_
  · rintro j i v K' hj ⟨rfl, X, Bl, fv⟩ - hK
    obtain ⟨c, hcj⟩ : ∃ c, chg[j]? = some c := ⟨_, List.getElem?_eq_getElem (by omega)⟩
    obtain ⟨r, hrj, q1, q2, q3, q4⟩ := DdE.get hcj
    obtain ⟨⟨i0, i1⟩, ⟨o0, o1⟩, ⟨n0, n1⟩, ⟨m0, m1⟩⟩ := hh.2 c (List.mem_of_getElem? hcj)
    have efold : (chg.take (j + 1)).foldl (chgM1 was) (varM s0 chg.length, 0) = chgM1 was ((chg.take j).foldl (chgM1 was) (varM s0 chg.length, 0)) c := by rw [take_at hcj, List.foldl_append]; rfl
    generalize (chg.take j).foldl (chgM1 was) (varM s0 chg.length, 0) = p at X Bl efold
    have hnv := fv.size
    refine (Dd.fr fv no2).get rfl rfl (by omega) fun y hy => ?_
    rw [hrj] at hy
    cases hy
    refine newI fun v1 C1 e1 u1 => stoAll C1 rfl rfl fun v2 C2 e2 u2 => ?_
    have e12 : Fr None v v2 := e1.newer e2 fun k e => by omega
    have X2 : PX bx F bw b p.1 [v.heap.size, bl, bx] v2 := (X.more e1 (Nat.le_refl _) (by omega)).frN (by simp) e2
    have Bl2 := Bl.fr e12 fun h => h
    have fv2 := fv.then0 e12
    have hbv := Bl.lt
    generalize hbc : v.heap.size = bc at C2 X2 hbv
    have hnv2 := fv2.size
    refine fldI C2 (i := 0) (x := r.1) rfl ?_
    rw [q1]
    refine X2.id (by omega) (by simp) Bl2 fun v3 X3 Bl3 e3 => ?_
    have C3 := C2.fr e3 fun e => by
      rcases e with e | e
      · exact e.2 (by simp)
      · omega
    have fd : Fr None v3 v3.drew := (Fr.refl _ _).drew
    have X3 := X3.fr0 fd
    have C3 := C3.fr fd fun h => h
    have Bl3 := Bl3.fr fd fun h => h
    have fv3 := (fv2.then (e3.sub psl)).then0 fd
    have hnv3 := fv3.size
    refine fldI C3 (i := 1) (x := r.2.1) rfl (fldI C3 (i := 2) (x := r.2.2.1) rfl (fldI C3 (i := 3) (x := r.2.2.2) rfl ?_))
    rw [q2]
    refine spec_schema_Mask (q3.fr fv3 no2) n0 n1 fun v4 e4 => ?_
    have C4 := C3.fr e4 fun h => h
    have c1 : ∀ {u : World}, Blk u bc 86 [.int .u32 r.1, .int .u8 r.2.1, .slice r.2.2.1.a r.2.2.1.n r.2.2.1.c, .slice r.2.2.2.a r.2.2.2.n r.2.2.2.c] → Rd u (Addr.add ⟨bc, 0, none⟩ 1) (.sc (.int .u8)) c.2.1 := fun B => by rw [← q2]; exact B.rd (s := .int .u8) (i := 1) (x := r.2.1) rfl
    refine andI (C4.rd (s := .sl) (i := 3) (x := r.2.2.2) rfl) (andI (c1 C4) ?_)
    refine spec_schema_Mask (q4.fr (fv3.then0 e4) no2) m0 m1 fun v5 e5 => andI (c1 (C4.fr e5 fun h => h)) ?_
    refine newI fun v6 M6 e6 u6 => ?_
    have e36 := (e4.then0 e5).then0 e6
    have X6 := (X3.fr0 (e4.then0 e5)).more e6 (Nat.le_refl _) (by omega)
    have C6 := C3.fr e36 fun h => h
    have Bl6 := Bl3.fr e36 fun h => h
    have fv6 := fv3.then0 e36
    have hnv6 := fv6.size
    have hb5 : bx < v5.heap.size ∧ bl < v5.heap.size ∧ bc < v5.heap.size := by
      have a1 := e36.size; have a2 := e5.size; have a3 := e4.size
      have a4 := C3.lt; have a5 := Bl3.lt
      omega
    generalize hbm : v5.heap.size = bm at M6 X6 hb5
    have hbm' : w.heap.size ≤ bm := by omega
    refine forI (N := 3) (fun s : Int => s) (fun j i u => i = (j : Int) ∧ PX bx F bw b (([c.2.1, (maskN c.2.2.1 : Int), (maskN c.2.2.2 : Int)].take j).foldl (fun s m => plainM s m 5) (varM p.1 (idD p.2 c.1))) [bm, bc, bl, bx] u ∧ Blk u bm 5 [.int .u8 c.2.1, .int .u8 (maskN c.2.2.1 : Int), .int .u8 (maskN c.2.2.2 : Int)] ∧ Blk u bc 86 [.int .u32 r.1, .int .u8 r.2.1, .slice r.2.2.1.a r.2.2.1.n r.2.2.1.c, .slice r.2.2.2.a r.2.2.2.n r.2.2.2.c] ∧ Blk u bl 54 [.int .u32 c.1] ∧ Fr (fun k => F k ∨ w.heap.size ≤ k) w u)
      ⟨rfl, X6, M6, C6, Bl6, fv6⟩ (fun j s w' h => h.1) ?_ ?_
    · rintro q i u K2 hq ⟨rfl, Xu, Mu, Cu, Lu, fu⟩ - hK2
      have hnu := fu.size
      refine idxB (by omega) (by omega) ?_
      have mk1 := maskN_lt c.2.2.1
      have mk2 := maskN_lt c.2.2.2
      have go : ∀ {x : Int}, [c.2.1, (maskN c.2.2.1 : Int), (maskN c.2.2.2 : Int)][q]? = some x → 0 ≤ x ∧ x ≤ 255 → callW Tryz.prog k_packet_writer_plain [.pointer (some ⟨bw, 0, none⟩), .int .u64 (IntKind.wrap .u64 x), .int .i64 5] [] (fun (_ : Unit) => K2 (IntKind.wrap .i64 ((q : Int) + 1))) (fun r w => K r Q w) u := by
        intro x hx h01
        rw [wU64 (x := x) (by omega)]
        refine Xu.plain (by omega) (by omega) (by decide) fun u2 X2 g2 => ?_
        refine hK2 _ _ ⟨wsucc hq (by omega), ?_, Mu.fr g2 fun e => e.2 (by simp), Cu.fr g2 fun e => e.2 (by simp), Lu.fr g2 fun e => e.2 (by simp), fu.then (g2.sub fun k e => ps k e)⟩
        rw [take_at hx, List.foldl_append]
        exact X2
      rcases (show q = 0 ∨ q = 1 ∨ q = 2 by omega) with rfl | rfl | rfl
      · exact fld0 Mu (i := 0) (x := c.2.1) rfl (go rfl (by omega))
      · exact fld0 Mu (i := 1) (x := (maskN c.2.2.1 : Int)) rfl (go rfl (by omega))
      · exact fld0 Mu (i := 2) (x := (maskN c.2.2.2 : Int)) rfl (go rfl (by omega))
    rintro i u ⟨_, Xu, Mu, Cu, Lu, fu⟩
    have hnu := fu.size
    refine fldI Cu (i := 2) (x := r.2.2.1) rfl ?_
    have dis : ∀ k, ok k ∧ k < w.heap.size → k ∈ [bm, bc, bl, bx] ∨ ¬ (F k ∨ bx ≤ k) := fun k e => .inr (by rw [← hbx]; exact no2 k e)
    refine Xu.comps (by omega) (q3.fr fu no2) dis n1 n0 fun u1 Xu1 g1 => ?_
    have Cu1 := Cu.fr g1 fun e => e.2 (by simp)
    have Lu1 := Lu.fr g1 fun e => e.2 (by simp)
    have fu1 := fu.then (g1.sub fun k e => ps k e)
    have hnu1 := fu1.size
    refine fldI Cu1 (i := 3) (x := r.2.2.2) rfl ?_
    have lm := q4.len
    generalize hs1 : compsM (plainM (plainM (plainM (varM p.1 (idD p.2 c.1)) c.2.1 5) (maskN c.2.2.1) 5) (maskN c.2.2.2) 5) c.2.2.1 = s1 at *
    have hs1' : compsM (List.foldl (fun s m => plainM s m 5) (varM p.1 (idD p.2 c.1)) ([c.2.1, (maskN c.2.2.1 : Int), (maskN c.2.2.2 : Int)].take 3)) c.2.2.1 = s1 := hs1
    rw [hs1'] at Xu1
    refine forI (N := r.2.2.2.n) (fun s : Int => s) (fun j i u => i = (j : Int) ∧ PX bx F bw b (setsM was c.1 s1 (c.2.2.2.take j)) [bc, bl, bx] u ∧ Blk u bc 86 [.int .u32 r.1, .int .u8 r.2.1, .slice r.2.2.1.a r.2.2.1.n r.2.2.1.c, .slice r.2.2.2.a r.2.2.2.n r.2.2.2.c] ∧ Blk u bl 54 [.int .u32 c.1] ∧ Fr (fun k => F k ∨ w.heap.size ≤ k) w u)
      ⟨rfl, Xu1.less (by simp), Cu1, Lu1, fu1⟩ (fun j s w' h => h.1) ?_ ?_
    · rintro q i u K2 hq ⟨rfl, Xu, Cu, Lu, fu⟩ - hK2
      have hnu := fu.size
      refine (q4.fr fu no2).get rfl rfl (by omega) fun x hx => ?_
      have esets : setsM was c.1 s1 (c.2.2.2.take (q + 1)) = doM (setsM was c.1 s1 (c.2.2.2.take q)) (putS (setsM was c.1 s1 (c.2.2.2.take q)).1 (oldM was c.1 x.1) x) := by unfold setsM; rw [take_at hx, List.foldl_append]; rfl
      refine newI fun u2 E2 g2 y2 => stoAll E2 rfl rfl fun u3 E3 g3 y3 => ?_
      have g23 : Fr None u u3 := g2.newer g3 fun k e => by omega
      have fd : Fr None u3 u3.drew := (Fr.refl _ _).drew
      have g2d := g23.then0 fd
      have X3 := Xu.fr0 g2d
      have C3 := Cu.fr g2d fun h => h
      have L3 := Lu.fr g2d fun h => h
      have E3 := E3.fr fd fun h => h
      have fu3 := fu.then0 g2d
      have hnu3 := fu3.size
      refine ptrI (X3.ptr (fldI C3 (i := 0) (x := r.1) rfl (fldI E3 (i := 0) (x := x.1) rfl (aggI E3 (x := x) rfl ?_))))
      rw [q1]
      refine spec_packet_old (hS0.fr fu3 no1) (hE0.fr fu3 no1) hr (by omega) (fun e he => by have := (hL e he).2.1; omega) fun u4 g4 => ?_
      have X4 := X3.fr0 g4
      have E4 := E3.fr g4 fun h => h
      have hx2 := m1 x (List.mem_of_getElem? hx)
      refine andI (fun j v hj => ?_) (andI X4.rdp ?_)
      · rw [add_lit, E4.cell, Nat.zero_add]
        exact hj
      have fu4 := fu3.then0 g4
      have hnu4 := fu4.size
      obtain ⟨G, hw, hG, hk3⟩ := X4.bits (Q := (fun r w => K r Q w)) (by omega)
      refine spec_comp_PutStep hw (oldM_ok hL c.1 x.1) hx2 hG fun u5 hw5 g5 => hk3 _ u5 hw5 g5 fun u6 X6 g6 => ?_
      refine hK2 _ _ ⟨wsucc hq (by omega), ?_, (C3.fr g4 fun h => h).fr g6 fun e => e.2 (by simp), (L3.fr g4 fun h => h).fr g6 fun e => e.2 (by simp), fu4.then (g6.sub fun k e => ps k e)⟩
      rw [esets]
      exact X6
    rintro i u2 ⟨_, X2, C2, L2, fu2⟩
    rw [List.take_of_length_le (by omega)] at X2
    refine hK _ _ ⟨wsucc hj (by omega), ?_, ?_, fu2⟩
    · rw [efold]
      show PX bx F bw b (setsM was c.1 (compsM (plainM (plainM (plainM (varM p.1 (idD p.2 c.1)) c.2.1 5) (maskN c.2.2.1) 5) (maskN c.2.2.2) 5) c.2.2.1) c.2.2.2) [bl, bx] u2
      rw [hs1]
      exact X2.less (by simp)
    · rw [efold]
      exact L2
  rintro i v9 ⟨_, X9, _, g9⟩
  rw [List.take_of_length_le (by omega)] at X9
  refine hk v9 ?_ ((Fr.refl F w).exS g9 fun k e => e)
  subst hbx
  have := X9.done hF g9.size
  rw [deltaW, hs0]
  exact this
end Go.Proofs.YtchhhjlpnecjkaaGreat
namespace Go.Proofs.YtchhhjlpnecjkaaGreat
open Go Go.RowKit Go.Proofs.YtchhhjlpnecjkaaGreat.Den
variable {R : Type} {Q : R → World → Prop} {w : World}
def headE (h : Head) : Int :=
  if h.1 < 1 ∨ 5 < h.1 ∨ 16 ≤ h.2.1 then 1
  else if h.2.2.1 = 0 ∨ (3 < h.1 ∧ h.2.2.2.1 ≠ 0) ∨ (h.1 ≠ 2 ∧ h.2.2.2.2 ≠ 0) ∨ (h.1 = 2 ∧ h.2.2.2.1 ≤ h.2.2.2.2) then 4
  else 0
theorem bne_dec (x : Int) : (x != 0) = decide (x ≠ 0) := by by_cases h : x = 0 <;> simp [h]
theorem spec_packet_Check {h : Head} {K : Res [.sc (.int .i64)] → W R} (hk : ∀ w', Fr None w w' → K (headE h) Q w') :
    callW Tryz.prog k_packet_Check [.agg ⟨[.int .u8 h.1, .int .u8 h.2.1, .int .u32 h.2.2.1, .int .u32 h.2.2.2.1, .int .u32 h.2.2.2.2]⟩] [.sc (.int .i64)] K Q w := by
  refine C_packet_Check h K Q w ?_
  unfold F_packet_Check
  unfold headE at hk
  refine newI fun w1 B f1 s1 => ?_
  refine joinI (fun z w' => z = decide (h.1 < 1 ∨ 5 < h.1 ∨ 16 ≤ h.2.1) ∧ w' = w1) ?_ ?_
  · refine fldI B (i := 0) (x := h.1) rfl (condD (fun a => ⟨(decide_eq_true (.inl a)).symm, rfl⟩) fun a => ?_)
    refine fldI B (i := 0) (x := h.1) rfl (condD (fun b => ⟨(decide_eq_true (.inr (.inl b))).symm, rfl⟩) fun b => ?_)
    refine fldI B (i := 1) (x := h.2.1) rfl ⟨?_, rfl⟩
    have b : ¬ 5 < h.1 := b
    simp [a, b]
  rintro z w2 ⟨rfl, rfl⟩
  refine condD (fun a => ?_) fun a => ?_
  · rw [if_pos a] at hk
    exact hk w2 f1
  rw [if_neg a] at hk
  refine fldI B (i := 0) (x := h.1) rfl (fldI B (i := 2) (x := h.2.2.1) rfl ?_)
  refine joinI (fun z w' => z = decide (h.2.2.1 = 0 ∨ (3 < h.1 ∧ h.2.2.2.1 ≠ 0) ∨ (h.1 ≠ 2 ∧ h.2.2.2.2 ≠ 0) ∨ (h.1 = 2 ∧ h.2.2.2.1 ≤ h.2.2.2.2)) ∧ w' = w2) ?_ ?_
  · refine condE (fun b => ⟨by simp [b], rfl⟩) fun b => ?_
    refine joinI (fun z w' => z = decide (3 < h.1 ∧ h.2.2.2.1 ≠ 0) ∧ w' = w2) ?_ ?_
    · refine condI (fun c => fldI B (i := 3) (x := h.2.2.2.1) rfl ⟨?_, rfl⟩) fun c => ⟨?_, rfl⟩
      · have c : ¬ h.1 ≤ 3 := by simpa using c
        have c2 : 3 < h.1 := by omega
        rw [bne_dec]
        simp [c2]
      · have c : h.1 ≤ 3 := by simpa using c
        have c2 : ¬ 3 < h.1 := by omega
        simp [c2]
    rintro z w3 ⟨rfl, rfl⟩
    refine joinI (fun z w' => z = decide ((3 < h.1 ∧ h.2.2.2.1 ≠ 0) ∨ (h.1 ≠ 2 ∧ h.2.2.2.2 ≠ 0) ∨ (h.1 = 2 ∧ h.2.2.2.1 ≤ h.2.2.2.2)) ∧ w' = w3) ?_ ?_
    · refine condD (fun c => ⟨by rw [decide_eq_true c, decide_eq_true (.inl c)], rfl⟩) fun c => ?_
      refine joinI (fun z w' => z = decide (h.1 ≠ 2 ∧ h.2.2.2.2 ≠ 0) ∧ w' = w3) ?_ ?_
      · refine fldI B (i := 0) (x := h.1) rfl (condN (fun d => fldI B (i := 4) (x := h.2.2.2.2) rfl ⟨by rw [bne_dec]; simp [d], rfl⟩) fun d => ⟨by simp [d], rfl⟩)
      rintro z w4 ⟨rfl, rfl⟩
      refine joinI (fun z w' => z = decide ((h.1 ≠ 2 ∧ h.2.2.2.2 ≠ 0) ∨ (h.1 = 2 ∧ h.2.2.2.1 ≤ h.2.2.2.2)) ∧ w' = w4) ?_ ?_
      · refine condD (fun d => ⟨by rw [decide_eq_true d, decide_eq_true (.inl d)], rfl⟩) fun d => ?_
        refine joinI (fun z w' => z = decide (h.1 = 2 ∧ h.2.2.2.1 ≤ h.2.2.2.2) ∧ w' = w4) ?_ ?_
        · refine fldI B (i := 0) (x := h.1) rfl (condE (fun e => fldI B (i := 4) (x := h.2.2.2.2) rfl (fldI B (i := 3) (x := h.2.2.2.1) rfl ⟨by simp [e], rfl⟩)) fun e => ⟨by simp [e], rfl⟩)
        rintro z w5 ⟨rfl, rfl⟩
        exact ⟨by simp only [d, false_or], rfl⟩
      rintro z w5 ⟨rfl, rfl⟩
      exact ⟨by simp only [c, false_or], rfl⟩
    rintro z w4 ⟨rfl, rfl⟩
    exact ⟨by simp only [b, false_or], rfl⟩
  rintro z w3 ⟨rfl, rfl⟩
  refine condD (fun b => ?_) fun b => ?_
  · rw [if_pos b] at hk
    exact hk w3 f1
  · rw [if_neg b] at hk
    exact hk w3 f1
end Go.Proofs.YtchhhjlpnecjkaaGreat
namespace Go.Proofs.YtchhhjlpnecjkaaGreat
open Go Go.RowKit Go.Proofs.YtchhhjlpnecjkaaGreat.Den
variable {R : Type} {Q : R → World → Prop} {w : World}
def sealW (h : Head) (was now : List Ent) : WS :=
  let s := headM ([], 0) h
  if h.1 = 1 then
    let s1 := (s.1, keepM s.2 (formM 0 now))
    if s1.2 = 0 then entsW s1 now else s1
  else if h.1 = 2 then
    let s1 := (s.1, keepM s.2 (diffE was now))
    if diffE was now = 0 then deltaW was s1 (goneM was now) (comeM was now) (chgsM was now) else s1
  else if 0 < now.length then (s.1, keepM s.2 4) else s
def sealE (h : Head) (was now : List Ent) : Int :=
  if headE h ≠ 0 then headE h else if (sealW h was now).2 ≠ 0 then (sealW h was now).2 else if 4096 < (packM (sealW h was now).1).length then 3 else 0
def sealB (h : Head) (was now : List Ent) : List Int := sealF (packM (sealW h was now).1)
section
variable {n : Nat} {F : Nat → Prop} {bw b : Nat} {s : WS} {nots : List Nat} {v : World}
theorem PX.keep (h : PX n F bw b s nots v) (hn : n ≤ v.heap.size) {x : Int} {K : Res [] → W R} (hk : ∀ v', PX n F bw b (s.1, keepM s.2 x) nots v' → Fr (PS n F nots) v v' → K () Q v') :
    callW Tryz.prog k_packet_writer_keep [.pointer (some ⟨bw, 0, none⟩), .int .i64 x] [] K Q v := by
  obtain ⟨G, hp, up, uf, un, us⟩ := h.use hn
  refine spec_packet_keep hp fun v' hp' f' s' => hk v' (up _ _ ?_ (by omega)) (uf _ f')
  exact hp'.mono (fun k _ e => .inl e) fun k e => by
    rcases e with e | e
    · exact hp'.2.1 k e
    · omega
theorem PX.head (h : PX n F bw b s nots v) (hn : n ≤ v.heap.size) {hd : Head} (hok : HeadOk hd) {K : Res [] → W R} (hk : ∀ v', PX n F bw b (headM s hd) nots v' → Fr (PS n F nots) v v' → K () Q v') :
    callW Tryz.prog k_packet_writer_head [.pointer (some ⟨bw, 0, none⟩), .agg ⟨[.int .u8 hd.1, .int .u8 hd.2.1, .int .u32 hd.2.2.1, .int .u32 hd.2.2.2.1, .int .u32 hd.2.2.2.2]⟩] [] K Q v := by
  obtain ⟨G, hp, up, uf, un, us⟩ := h.use hn
  exact spec_packet_head hp hok fun v' hp' f' => hk v' (up _ _ hp' f'.size) (uf _ f')
theorem PX.err (h : PX n F bw b s nots v) {K : Int → W R} (hk : K s.2 Q v) : ld (.sc (.int .i64)) (Addr.add ⟨bw, 0, none⟩ 1) K Q v := by
  obtain ⟨G, h1, _⟩ := h
  exact h1.err hk
end
theorem lostM_range (a b : List Comp) : 0 ≤ lostM a b ∧ lostM a b ≤ 255 := by
  unfold lostM bNot
  rw [IntKind.wrap_u8]
  omega
theorem newM_mem {a l : List Comp} {c : Comp} (h : c ∈ newM a l) : c ∈ l := (List.mem_filter.1 h).1
theorem chM_mem {a l : List Comp} {c : Comp} (h : c ∈ chM a l) : c ∈ l := (List.mem_filter.1 h).1
theorem changeM_fit (a : Ent) {e : Ent} (h : EntFit e) : ChgFit (changeM a e) :=
  ⟨h.1, lostM_range _ _, ⟨Nat.le_trans (newM_le _ _) h.2.1, fun c hc => h.2.2 c (newM_mem hc)⟩, ⟨Nat.le_trans (chM_le _ _) h.2.1, fun c hc => h.2.2 c (chM_mem hc)⟩⟩
section
variable {was now : List Ent} (hL1 : ∀ e ∈ was, EntFit e) (hL2 : ∀ e ∈ now, EntFit e) (hm1 : was.length ≤ 1048576) (hm2 : now.length ≤ 1048576)
include hL1 hm1 in
theorem goneM_fit : (goneM was now).length ≤ 1048576 ∧ ∀ x ∈ goneM was now, 0 ≤ x ∧ x ≤ 4294967295 := by
  refine ⟨by unfold goneM; rw [List.length_map]; exact Nat.le_trans (List.length_filter_le _ _) hm1, fun x hx => ?_⟩
  obtain ⟨e, he, rfl⟩ := List.mem_map.1 hx
  exact (hL1 e (List.mem_filter.1 he).1).1
include hL2 hm2 in
theorem comeM_fit : (comeM was now).length ≤ 1048576 ∧ ∀ e ∈ comeM was now, EntFit e :=
  ⟨Nat.le_trans (List.length_filter_le _ _) hm2, fun e he => hL2 e (List.mem_filter.1 he).1⟩
include hL2 hm2 in
theorem chgsM_fit : (chgsM was now).length ≤ 1048576 ∧ ∀ c ∈ chgsM was now, ChgFit c := by
  refine ⟨Nat.le_trans (filterMap_le _ _) hm2, fun c hc => ?_⟩
  obtain ⟨e, he, hc⟩ := List.mem_filterMap.1 hc
  unfold chgOne at hc
  split at hc
  · cases hc
  · split at hc
    · cases hc
    · cases hc
      exact changeM_fit _ (hL2 e he)
end
theorem spec_packet_Seal {ok1 ok2 : Nat → Prop} {h : Head} (hok : HeadOk h) {s1 s2 : Sl} {raws1 raws2 : List (Int × Sl)} {was now : List Ent} (hS1 : SlT ok1 w entT s1 raws1) (hE1 : EntsR ok1 w raws1 was) (hS2 : SlT ok2 w entT s2 raws2) (hE2 : EntsR ok2 w raws2 now)
    (hm1 : was.length ≤ 1048576) (hm2 : now.length ≤ 1048576) (hL1 : ∀ e ∈ was, EntFit e) (hL2 : ∀ e ∈ now, EntFit e) {K : Res [.sc .sl, .sc (.int .i64)] → W R}
    (hbad : sealE h was now ≠ 0 → ∀ w', Fr None w w' → K (⟨none, 0, 0⟩, sealE h was now) Q w')
    (hk : sealE h was now = 0 → ∀ r w', Own (Up w.heap.size) w' 5 u8T r (sealB h was now) → Fr None w w' → K (r, 0) Q w') :
    callW Tryz.prog k_packet_Seal [.agg ⟨[.int .u8 h.1, .int .u8 h.2.1, .int .u32 h.2.2.1, .int .u32 h.2.2.2.1, .int .u32 h.2.2.2.2]⟩, .slice s1.a s1.n s1.c, .slice s2.a s2.n s2.c] [.sc .sl, .sc (.int .i64)] K Q w := by
  refine C_packet_Seal h s1 s2 K Q w ?_
  unfold F_packet_Seal
  have hS10 : SlT (fun k => ok1 k ∧ k < w.heap.size) w entT s1 raws1 := hS1.mono fun k hk e => ⟨e, hk⟩
  have hE10 : EntsR (fun k => ok1 k ∧ k < w.heap.size) w raws1 was := hE1.mono fun k hk e => ⟨e, hk⟩
  have hS20 : SlT (fun k => ok2 k ∧ k < w.heap.size) w entT s2 raws2 := hS2.mono fun k hk e => ⟨e, hk⟩
  have hE20 : EntsR (fun k => ok2 k ∧ k < w.heap.size) w raws2 now := hE2.mono fun k hk e => ⟨e, hk⟩
  have l2 := hS2.len.trans hE2.len
  refine newI fun w1 B1 f1 t1 => aggI B1 (x := h) rfl (spec_packet_Check fun w2 f2 => ?_)
  have f02 := f1.then0 f2
  have B2 := B1.fr f2 fun h => h
  refine condN (fun hne => ?_) fun heq => ?_
  · have e : sealE h was now = headE h := by unfold sealE; rw [if_pos hne]
    rw [← e]
    exact hbad (by rw [e]; exact hne) w2 f02
  have eS : sealE h was now = if (sealW h was now).2 ≠ 0 then (sealW h was now).2 else if 4096 < (packM (sealW h was now).1).length then 3 else 0 := by unfold sealE; rw [if_neg (by omega)]
  have z2 := f02.size
  refine spec_bits_New fun b w3 hw3 f3 => newI fun w4 B4 f4 t4 => ?_
  have z3 := f3.size
  have hbl : b < w3.heap.size := by obtain ⟨_, _, s, hB, _⟩ := hw3; exact hB.lt
  have hbu : w2.heap.size ≤ b := hw3.2.1
  have P4 : PW w3.heap.size b ([], 0) (fun k => w2.heap.size ≤ k ∧ k < w4.heap.size) w4 := ⟨by omega, fun k e => e.2, B4, Wr.st hw3 f4 fun k hk e => ⟨fun h => h, ⟨e, by omega⟩, by omega⟩⟩
  have X4 : PX w2.heap.size None w3.heap.size b ([], 0) [w.heap.size] w4 := ⟨_, P4, fun k e => .inr e.1, fun x hx => by
    rcases List.mem_cons.1 hx with rfl | hx
    · have := B2.lt; exact ⟨fun e => by omega, by omega⟩
    · cases hx⟩
  have f24 := f3.then0 f4
  have B4' := B2.fr f24 fun h => h
  have f04 := f02.then0 f24
  refine aggI B4' (x := h) rfl ?_
  generalize hbw : w3.heap.size = bw at X4 P4
  have hz24 := f24.size
  refine X4.head (by omega) hok fun w5 X5 f5 => ?_
  have g5 : Fr None w2 w5 := f24.newer f5 fun k e => e.1.elim (fun h => h.elim) fun h => h
  have B5 := B4'.fr f5 fun e => e.2 (by simp)
  have hz5 := g5.size
  have dis1 : ∀ {ok : Nat → Prop} k, ok k ∧ k < w.heap.size → ¬ (None k ∨ w2.heap.size ≤ k) := fun k e e2 => by
    rcases e2 with e2 | e2
    · exact e2
    · omega
  refine fldI B5 (i := 0) (x := h.1) rfl ?_
  have fnew : ∀ {a b : World} {l : List Nat}, Fr None w2 a → Fr (PS w2.heap.size None l) a b → Fr None w2 b := fun f g => f.newer g fun k e => e.1.elim (fun h => h.elim) fun h => h
  refine joinI (fun (_ : Unit) v => PX w2.heap.size None bw b (sealW h was now) [w.heap.size] v ∧ Fr None w2 v) ?_ ?_
  · refine condE (fun k1 => ?_) fun k1 => ?_
    ·
      refine spec_snap_Form ((hS20.fr0 f02).fr0 g5) ((hE20.fr f02 fun _ _ h => h).fr g5 fun _ _ h => h) (by omega) (fun e he => (hL2 e he).idOk) fun w6 f6 => ?_
      have X6 := X5.fr0 f6
      have g6 := g5.then0 f6
      have hz6 := g6.size
      refine X6.keep (by omega) fun w7 X7 f7 => ?_
      have g7 := fnew g6 f7
      have hz7 := g7.size
      refine X7.err ?_
      have eW : sealW h was now = if keepM (headM ([], 0) h).2 (formM 0 now) = 0 then entsW ((headM ([], 0) h).1, keepM (headM ([], 0) h).2 (formM 0 now)) now else ((headM ([], 0) h).1, keepM (headM ([], 0) h).2 (formM 0 now)) := by unfold sealW; rw [if_pos k1]
      refine joinI (fun (_ : Unit) v => PX w2.heap.size None bw b (sealW h was now) [w.heap.size] v ∧ Fr None w2 v) ?_ fun _ v h => h
      refine condE (fun k0 => ?_) fun k0 => ?_
      · have f27 := f02.then0 g7
        refine X7.ents (by omega) (hS20.fr0 f27) (hE20.fr f27 fun _ _ h => h) dis1 hL2 hm2 fun w8 X8 f8 => ⟨?_, fnew g7 f8⟩
        rw [eW, if_pos k0]
        exact X8
      · rw [eW, if_neg k0]
        exact ⟨X7, g7⟩
    · refine joinI (fun (_ : Unit) v => PX w2.heap.size None bw b (sealW h was now) [w.heap.size] v ∧ Fr None w2 v) ?_ fun _ v h => h
      refine condE (fun k2 => ?_) fun k2 => ?_
      ·
        have eW : sealW h was now = if diffE was now = 0 then deltaW was ((headM ([], 0) h).1, keepM (headM ([], 0) h).2 (diffE was now)) (goneM was now) (comeM was now) (chgsM was now) else ((headM ([], 0) h).1, keepM (headM ([], 0) h).2 (diffE was now)) := by unfold sealW; rw [if_neg k1, if_pos k2]
        obtain ⟨G, hp, hG, hno⟩ := X5
        have f05 := f02.then0 g5
        have fin : ∀ {e : Int} {r : DRaw} {w6 : World}, e = diffE was now → (diffE was now = 0 → DltR (Up w5.heap.size) w6 r (goneM was now) (comeM was now) (chgsM was now)) → Fr None w5 w6 →
            newW 80 [.slice none 0 0, .slice none 0 0, .slice none 0 0] (fun x_18 => stoL x_18 [.slice r.1.a r.1.n r.1.c, .slice r.2.1.a r.2.1.n r.2.1.c, .slice r.2.2.a r.2.2.n r.2.2.c] 0 <|
              callW Tryz.prog k_packet_writer_keep [.pointer (some ⟨bw, 0, none⟩), .int .i64 e] [] fun (_ : Unit) =>
              joinW (σ := Unit) (fun J_20 => cond (e == 0)
                (ld (.agg [.sl, .sl, .sl]) x_18 fun (x_21 : DRaw) =>
                callW Tryz.prog k_packet_writer_delta [.pointer (some ⟨bw, 0, none⟩), .slice s1.a s1.n s1.c, .agg ⟨[.slice x_21.1.a x_21.1.n x_21.1.c, .slice x_21.2.1.a x_21.2.1.n x_21.2.1.c, .slice x_21.2.2.a x_21.2.2.n x_21.2.2.c]⟩] [] fun (_ : Unit) => J_20 ())
                (J_20 ())) (fun _ => fun (_ : (Sl × Int) → World → Prop) v => PX w2.heap.size None bw b (sealW h was now) [w.heap.size] v ∧ Fr None w2 v)) (fun r w => K r Q w) w6 := by
          intro e r w6 he hD f56
          subst he
          have hz6 := f56.size
          refine newI fun w7 B7 f7 t7 => stoAll B7 rfl rfl fun w8 B8 f8 t8 => ?_
          have f68 : Fr None w6 w8 := f7.newer f8 fun k e => by omega
          have f58 := f56.then0 f68
          have nG : ∀ k, w5.heap.size ≤ k → ¬ G k := fun k e e2 => by have := hp.2.1 k e2; omega
          refine spec_packet_keep (hp.fr0 f58) fun w9 hp9 f9 t9 => ?_
          have g9 : Fr None w2 w9 := (g5.then0 f58).newer f9 fun k e => (hG k e).elim (fun h => h.elim) fun h => h
          have X9 : PX w2.heap.size None bw b ((headM ([], 0) h).1, keepM (headM ([], 0) h).2 (diffE was now)) [w.heap.size] w9 := ⟨G, hp9, hG, fun x hx => ⟨(hno x hx).1, by have := (hno x hx).2; have := f58.size; omega⟩⟩
          refine joinI (fun (_ : Unit) v => PX w2.heap.size None bw b (sealW h was now) [w.heap.size] v ∧ Fr None w2 v) ?_ fun _ v h => h
          refine condE (fun k0 => ?_) fun k0 => ?_
          · have D6 := hD k0
            have D8 : DltR (fun k => w5.heap.size ≤ k ∧ k < w6.heap.size) w9 r (goneM was now) (comeM was now) (chgsM was now) :=
              DltR.st (DltR.st D6 f68 (F' := fun k => w5.heap.size ≤ k ∧ k < w6.heap.size) fun k hk e => ⟨fun h => h, e, hk⟩) f9 fun k hk e => ⟨nG k e.1, e⟩
            have B9 := B8.fr f9 (nG _ hz6)
            refine aggI B9 (x := r) rfl ?_
            have f09 := f02.then0 g9
            have fw : FormOk was := formOk.1 (by
              unfold diffE at k0
              refine Classical.byContradiction fun hc => ?_
              rw [if_pos hc] at k0
              exact hc k0)
            have hz9 := g9.size
            refine spec_packet_delta hp9 (hS10.fr0 f09) (hE10.fr f09 fun _ _ h => h) fw.rise hm1 hL1 (fun k _ e e2 => dis1 k e (hG k e2)) D8 (fun k _ e => nG k e.1) (goneM_fit hL1 hm1) (comeM_fit hL2 hm2) (chgsM_fit hL2 hm2) fun w10 hp10 f10 => ⟨?_, g9.newer f10 fun k e => (hG k e).elim (fun h => h.elim) fun h => h⟩
            rw [eW, if_pos k0]
            have hz10 := f10.size
            refine ⟨_, hp10, fun k e => ?_, fun x hx => ⟨fun e => ?_, ?_⟩⟩
            · rcases e with e | e
              · exact hG k e
              · exact .inr (by omega)
            · rcases e with e | e
              · exact (hno x hx).1 e
              · have := (hno x hx).2; have := f58.size; omega
            · have := (hno x hx).2; have := f58.size; omega
          · rw [eW, if_neg k0]
            exact ⟨X9, g9⟩
        refine spec_diff_Diff (hS10.fr0 f05) (hE10.fr f05 fun _ _ h => h) (hS20.fr0 f05) (hE20.fr f05 fun _ _ h => h) hm1 hm2 hL1 hL2 (fun hne w6 f6 => ?_) fun he r w6 hD f6 => ?_
        · exact fin (r := (⟨none, 0, 0⟩, ⟨none, 0, 0⟩, ⟨none, 0, 0⟩)) rfl (fun h => absurd h hne) f6
        · exact fin (e := 0) he.symm (fun _ => hD) f6
      ·
        have eW : sealW h was now = if 0 < now.length then ((headM ([], 0) h).1, keepM (headM ([], 0) h).2 4) else headM ([], 0) h := by unfold sealW; rw [if_neg k1, if_neg k2]
        refine joinI (fun (_ : Unit) v => PX w2.heap.size None bw b (sealW h was now) [w.heap.size] v ∧ Fr None w2 v) ?_ fun _ v h => h
        refine condD (fun k3 => ?_) fun k3 => ?_
        · refine X5.keep (by omega) fun w7 X7 f7 => ⟨?_, fnew g5 f7⟩
          rw [eW, if_pos (by omega)]
          exact X7
        · rw [eW, if_neg (by omega)]
          exact ⟨X5, g5⟩
  rintro _ w6 ⟨X6, g6⟩
  refine X6.err ?_
  have f06 := f02.then0 g6
  refine condN (fun hne => ?_) fun heq2 => ?_
  · have X6 := X6.fr0 (Fr.refl _ _).drew
    refine X6.err ?_
    have e : sealE h was now = (sealW h was now).2 := by rw [eS, if_pos hne]
    rw [← e]
    exact hbad (by rw [e]; exact hne) _ (f06.then0 (Fr.refl _ _).drew)
  have e1 : sealE h was now = if 4096 < (packM (sealW h was now).1).length then 3 else 0 := by rw [eS, if_neg (by omega)]
  refine X6.ptr ?_
  obtain ⟨G, hp, _⟩ := X6
  refine spec_bits_Bytes hp.2.2.2 fun r w7 o7 f7 => ?_
  have hlen : (packM (sealW h was now).1).length ≤ 140737488355000 := by
    have := hp.2.2.2.1
    rw [packM_len]
    omega
  have f07 := f06.then0 f7
  have hz7 := f07.size
  refine spec_frame_Seal o7.sl hlen (fun hl => ?_) fun hl r2 w8 o8 f8 => ?_
  · have e : sealE h was now = 3 := by rw [e1, if_pos hl]
    have := hbad (by rw [e]; decide) w7 f07
    rw [e] at this
    exact this
  · have e : sealE h was now = 0 := by rw [e1, if_neg (by omega)]
    exact hk e r2 w8 (o8.up hz7) (f07.then0 f8)
end Go.Proofs.YtchhhjlpnecjkaaGreat
namespace Go.Proofs.YtchhhjlpnecjkaaGreat
open Go Go.RowKit Go.Proofs.YtchhhjlpnecjkaaGreat.Den
theorem doM_ok {s : WS} {p : Int × List Bool} (h : (doM s p).2 = 0) : s.2 = 0 ∧ p.1 = 0 := by
  unfold doM keepM at h
  dsimp only at h
  split at h
  · exact ⟨by assumption, h⟩
  · exact absurd h (by assumption)
theorem plain_fwd {s : WS} {v n : Int} (hs : s.2 = 0) (hn : 0 ≤ n ∧ n ≤ 64) (hv : v.toNat < 2 ^ n.toNat) (hl : (s.1.length : Int) + n ≤ 1048576) : plainM s v n = (s.1 ++ bitsOf v.toNat n.toNat, 0) := by
  unfold plainM doM putB keepM
  rw [if_neg (by omega), if_neg (by rw [Nat.div_eq_of_lt hv]; simp), if_neg (by omega), if_pos hs]
theorem var_fwd {s : WS} {v : Nat} (hs : s.2 = 0) (hl : s.1.length + 5 * groupsM v ≤ 1048576) : varM s v = (s.1 ++ varB v, 0) := by
  unfold varM doM putVarM keepM
  rw [if_neg (by omega), if_pos hs]
theorem packM_ok (L : List Bool) : ∀ x ∈ packM L, 0 ≤ x ∧ x ≤ 255 := fun x hx => by
  unfold packM at hx
  obtain ⟨j, _, rfl⟩ := List.mem_map.1 hx
  have := byteAt_le L j
  omega
theorem rising_lt {l : List Comp} (h : Rising (l.map (·.1))) {p q : Nat} {a b : Comp} (hpq : p < q) (ha : l[p]? = some a) (hb : l[q]? = some b) : a.1 < b.1 := by
  have h : (l.map (·.1)).Pairwise (· < ·) := h
  obtain ⟨h1, rfl⟩ := List.getElem?_eq_some_iff.1 ha
  obtain ⟨h2, rfl⟩ := List.getElem?_eq_some_iff.1 hb
  have := List.pairwise_iff_getElem.1 h p q (by simpa using h1) (by simpa using h2) hpq
  simpa using this
end Go.Proofs.YtchhhjlpnecjkaaGreat
namespace Go.Proofs.YtchhhjlpnecjkaaGreat
open Go Go.RowKit Go.Proofs.YtchhhjlpnecjkaaGreat.Den
def valB : List Bool → Nat
  | [] => 0
  | b :: r => bitN b + 2 * valB r
def getN (n : Nat) (L : List Bool) : Option (Nat × List Bool) := if n ≤ L.length then some (valB (L.take n), L.drop n) else none
theorem front_bits (v : Nat) : ∀ n, bitsOf v (n + 1) = v.testBit 0 :: bitsOf (v / 2) n
  | 0 => rfl
  | n + 1 => by
    rw [bitsOf, front_bits v n, bitsOf, List.cons_append]
    congr 3
    rw [Nat.testBit_succ]
theorem valB_bits : ∀ (n v : Nat), v < 2 ^ n → valB (bitsOf v n) = v
  | 0, v, h => by simp [bitsOf, valB]; omega
  | n + 1, v, h => by
    rw [front_bits, valB, valB_bits n (v / 2) (by omega), Nat.testBit_zero]
    unfold bitN
    by_cases h1 : v % 2 = 1
    · simp [h1]; omega
    · simp [h1]; omega
theorem getN_put {v n : Nat} (h : v < 2 ^ n) (s : List Bool) : getN n (bitsOf v n ++ s) = some (v, s) := by
  have hl := bitsOf_len v n
  unfold getN
  rw [if_pos (by rw [List.length_append]; omega), List.take_left' hl, List.drop_left' hl, valB_bits n v h]
def varD : Nat → Nat → Nat → List Bool → Option (Nat × List Bool)
  | 0, _, _, _ => none
  | k + 1, i, v, L => match getN 5 L with
    | none => none
    | some (x, r) => if x / 16 = 0 then (if groupsM (v + x % 16 * 2 ^ (4 * i)) = i + 1 then some (v + x % 16 * 2 ^ (4 * i), r) else none) else varD k (i + 1) (v + x % 16 * 2 ^ (4 * i)) r
def getVar (L : List Bool) : Option (Nat × List Bool) := varD 16 0 0 L
def varR (v n : Nat) : Nat → List Bool
  | 0 => []
  | k + 1 => bitsOf (grpV v n (n - (k + 1))) 5 ++ varR v n k
theorem varL_R (v n : Nat) : ∀ k, k ≤ n → varL v n (n - k) ++ varR v n k = varL v n n
  | 0, _ => by simp [varR]
  | k + 1, h => by
    rw [varR, ← List.append_assoc]
    have : varL v n (n - (k + 1)) ++ bitsOf (grpV v n (n - (k + 1))) 5 = varL v n (n - k) := by
      rw [show n - k = (n - (k + 1)) + 1 by omega, varL]
    rw [this]
    exact varL_R v n k (by omega)
theorem bitLen_lt {v : Nat} (h : v < 18446744073709551616) : v < 2 ^ Lib.bitLen v := by
  rcases Nat.eq_zero_or_pos v with rfl | hp
  · exact Nat.two_pow_pos _
  · exact (Lib.bitLenAux_bounds 64 v h (by omega)).2.2
theorem groups_lt {v : Nat} (h : v < 18446744073709551616) : v < 2 ^ (4 * groupsM v) := by
  refine Nat.lt_of_lt_of_le (bitLen_lt h) (Nat.pow_le_pow_right (by decide) ?_)
  unfold groupsM
  omega
theorem varD_put {v n : Nat} (hn : groupsM v = n) (hv : v < 2 ^ (4 * n)) (s : List Bool) : ∀ (k i f : Nat), 1 ≤ k → i + k = n → k ≤ f → varD f i (v % 2 ^ (4 * i)) (varR v n k ++ s) = some (v, s)
  | 0, _, _, h, _, _ => by omega
  | k + 1, i, f, _, hi, hf => by
    obtain ⟨f, rfl⟩ : ∃ g, f = g + 1 := ⟨f - 1, by omega⟩
    rw [varR, List.append_assoc, varD, show n - (k + 1) = i by omega, getN_put (grpV_lt v n i)]
    have hg : grpV v n i % 16 = v / 2 ^ (4 * i) % 16 := by unfold grpV; split <;> omega
    have hq : grpV v n i / 16 = if i + 1 < n then 1 else 0 := by unfold grpV; split <;> omega
    have hacc : v % 2 ^ (4 * i) + v / 2 ^ (4 * i) % 16 * 2 ^ (4 * i) = v % 2 ^ (4 * (i + 1)) := by
      rw [show 4 * (i + 1) = 4 * i + 4 by omega, Nat.pow_add, Nat.mod_mul, Nat.mul_comm (v / 2 ^ (4 * i) % 16)]
    simp only
    rw [hg, hq, hacc]
    by_cases h1 : i + 1 < n
    · rw [if_pos h1, if_neg (by decide)]
      exact varD_put hn hv s k (i + 1) f (by omega) (by omega) (by omega)
    · have : i + 1 = n := by omega
      rw [if_neg h1, if_pos rfl, this, Nat.mod_eq_of_lt hv, if_pos hn]
      have : k = 0 := by omega
      subst this
      rfl
theorem getVar_put {v : Nat} (h : v < 18446744073709551616) (s : List Bool) : getVar (varB v ++ s) = some (v, s) := by
  have hg := groupsM_le (v := (v : Int)) (by omega) (by omega)
  rw [Int.toNat_natCast] at hg
  have := varD_put rfl (groups_lt h) s (groupsM v) 0 16 (by omega) (by omega) (by omega)
  rw [Nat.mul_zero, Nat.pow_zero, Nat.mod_one] at this
  have e := varL_R v (groupsM v) (groupsM v) (Nat.le_refl _)
  rw [Nat.sub_self] at e
  have e : varR v (groupsM v) (groupsM v) = varB v := e
  rw [← e]
  exact this
def getIn (lo hi : Int) (L : List Bool) : Option (Int × List Bool) := match getN (widthM lo hi) L with
  | none => none
  | some (v, r) => if (v : Int) ≤ hi - lo then some (lo + (v : Int), r) else none
def inB (n lo hi : Int) : List Bool := bitsOf (n - lo).toNat (widthM lo hi)
theorem getIn_put {n lo hi : Int} (h1 : lo ≤ n) (h2 : n ≤ hi) (h3 : hi - lo ≤ 18446744073709551615) (s : List Bool) : getIn lo hi (inB n lo hi ++ s) = some (n, s) := by
  unfold getIn inB
  rw [getN_put (width_lt h1 h2 h3)]
  simp only
  rw [if_pos (by omega)]
  congr 2
  omega
def partB (p : Part) : List Bool := bitsOf p.1.toNat p.2.toNat
theorem fieldB {c : Comp} {i : Nat} (h1 : (rangeM c.1 (i : Int)).1 ≤ fl c i) (h2 : fl c i ≤ (rangeM c.1 (i : Int)).2.1) : partB (fieldP c i) = inB (fl c i) (rangeM c.1 (i : Int)).1 (rangeM c.1 (i : Int)).2.1 := by
  obtain ⟨r1, r2⟩ := rangeM_i32 c.1 (i : Int)
  unfold partB fieldP inB
  rw [wU64 (by omega), Int.toNat_natCast]
def readF (k : Int) : List Nat → List Bool → Option (List Int × List Bool)
  | [], L => some ([], L)
  | i :: r, L => match getIn (rangeM k (i : Int)).1 (rangeM k (i : Int)).2.1 L with
    | none => none
    | some (v, L2) => match readF k r L2 with
      | none => none
      | some (vs, L3) => some (v :: vs, L3)
theorem readF_put {c : Comp} (h : checkM c = 0) (s : List Bool) : ∀ is : List Nat, (∀ i ∈ is, i < cntM c.1) → readF c.1 is (is.flatMap (fun i => partB (fieldP c i)) ++ s) = some (is.map (fl c), s)
  | [], _ => rfl
  | i :: r, hi => by
    obtain ⟨h1, h2⟩ := check_at h (hi i List.mem_cons_self)
    obtain ⟨r1, r2⟩ := rangeM_i32 c.1 (i : Int)
    rw [List.flatMap_cons, List.append_assoc, readF, fieldB h1 h2, getIn_put h1 h2 (by omega)]
    simp only
    rw [readF_put h s r fun j hj => hi j (List.mem_cons_of_mem _ hj)]
    rfl
def mkC (k : Int) (vs : List Int) : Comp := (k, vs.getD 0 0, vs.getD 1 0, vs.getD 2 0)
def compD (k : Int) (L : List Bool) : Option (Comp × List Bool) := if cntM k = 0 then none else match readF k (List.range (cntM k)) L with
  | none => none
  | some (vs, r) => some (mkC k vs, r)
theorem fl_zero {c : Comp} (h : checkM c = 0) {i : Nat} (hi : i < 3) (hc : cntM c.1 ≤ i) : fl c i = 0 := by
  have hall : (List.range 3).all (inR c) = true := by
    unfold checkM at h
    split at h
    · cases h
    · split at h
      · cases h
      · split at h
        · assumption
        · cases h
  have := List.all_eq_true.1 hall i (List.mem_range.2 hi)
  unfold inR at this
  rw [List.getElem?_eq_none (by exact hc)] at this
  simpa using this
theorem mkC_fl {c : Comp} (h : checkM c = 0) : mkC c.1 ((List.range (cntM c.1)).map (fl c)) = c := by
  have hg : ∀ i, i < 3 → ((List.range (cntM c.1)).map (fl c)).getD i 0 = fl c i := fun i hi => by
    by_cases hc : i < cntM c.1
    · simp [List.getD, hc]
    · rw [fl_zero h hi (by omega)]
      simp [List.getD, hc]
  unfold mkC
  rw [hg 0 (by decide), hg 1 (by decide), hg 2 (by decide)]
  rfl
theorem cnt_pos {c : Comp} (h : checkM c = 0) : cntM c.1 ≠ 0 := fun hc => by
  unfold checkM at h
  rw [if_pos hc] at h
  cases h
def compB (c : Comp) : List Bool := partsB (wholeP c)
theorem compB_eq (c : Comp) : compB c = (List.range (cntM c.1)).flatMap fun i => partB (fieldP c i) := by
  unfold compB partsB wholeP
  rw [List.flatMap_map]
  rfl
theorem compD_put {c : Comp} (h : checkM c = 0) (s : List Bool) : compD c.1 (compB c ++ s) = some (c, s) := by
  unfold compD
  rw [if_neg (cnt_pos h), compB_eq, readF_put h s _ fun i hi => List.mem_range.1 hi]
  simp only
  rw [mkC_fl h]
def zagM (v : Int) : Int := if v % 2 = 1 then -1 - v / 2 else v / 2
theorem zag_zig (n : Int) : zagM (zigM n) = n := by
  unfold zagM zigM
  split <;> split <;> omega
theorem zigM_0 {n : Int} : zigM n = 0 ↔ n = 0 := by unfold zigM; split <;> omega
theorem zigM_nn (n : Int) : 0 ≤ zigM n := by unfold zigM; split <;> omega
def movedD (was : Comp) (i : Nat) (L : List Bool) : Option (Int × List Bool) := match getN 1 L with
  | none => none
  | some (b, L1) => if b = 0 then some (fl was i, L1) else match getN 1 L1 with
    | none => none
    | some (b2, L2) => if b2 = 0 then (match getIn (rangeM was.1 (i : Int)).1 (rangeM was.1 (i : Int)).2.1 L2 with
        | none => none
        | some (n, L3) => if zigM (n - fl was i) ≤ 16 then none else some (n, L3))
      else match getN 4 L2 with
        | none => none
        | some (z, L3) => if fl was i + zagM ((z : Int) + 1) < (rangeM was.1 (i : Int)).1 ∨ (rangeM was.1 (i : Int)).2.1 < fl was i + zagM ((z : Int) + 1) then none else some (fl was i + zagM ((z : Int) + 1), L3)
theorem movedD_put {was c : Comp} (hk : was.1 = c.1) (h : checkM c = 0) {i : Nat} (hi : i < cntM c.1) (s : List Bool) : movedD was i ((oneP was c i).flatMap partB ++ s) = some (fl c i, s) := by
  obtain ⟨h1, h2⟩ := check_at h hi
  obtain ⟨r1, r2⟩ := rangeM_i32 c.1 (i : Int)
  have hzn := zigM_nn (fl c i - fl was i)
  have e1 : ∀ s, getN 1 (partB (1, 1) ++ s) = some (1, s) := fun s => getN_put (v := 1) (n := 1) (by decide) s
  have e0 : ∀ s, getN 1 (partB (0, 1) ++ s) = some (0, s) := fun s => getN_put (v := 0) (n := 1) (by decide) s
  unfold oneP movedD
  by_cases hz : zigM (fl c i - fl was i) = 0
  · rw [if_pos hz]
    have := zigM_0.1 hz
    rw [List.flatMap_cons, List.flatMap_nil, List.append_nil, e0]
    simp only
    rw [if_pos trivial]
    congr 2
    omega
  · rw [if_neg hz]
    by_cases hn : zigM (fl c i - fl was i) ≤ 16
    · rw [if_pos hn]
      simp only [List.flatMap_cons, List.flatMap_nil, List.append_nil, List.append_assoc]
      rw [e1]
      simp only
      rw [if_neg (by decide), e1]
      simp only
      rw [if_neg (by decide)]
      have e4 : getN 4 (partB (zigM (fl c i - fl was i) - 1, 4) ++ s) = some ((zigM (fl c i - fl was i) - 1).toNat, s) := getN_put (n := 4) (by show _ < 16; omega) s
      rw [e4]
      simp only
      have ez : (((zigM (fl c i - fl was i) - 1).toNat : Nat) : Int) + 1 = zigM (fl c i - fl was i) := by omega
      rw [ez, zag_zig, hk, if_neg (by omega)]
      congr 2
      omega
    · rw [if_neg hn]
      simp only [List.flatMap_cons, List.flatMap_nil, List.append_nil, List.append_assoc]
      rw [e1]
      simp only
      rw [if_neg (by decide), e0]
      simp only
      rw [if_pos trivial, hk, fieldB h1 h2, getIn_put h1 h2 (by omega)]
      simp only
      rw [if_neg hn]
def readS (was : Comp) : List Nat → List Bool → Option (List Int × List Bool)
  | [], L => some ([], L)
  | i :: r, L => match movedD was i L with
    | none => none
    | some (v, L2) => match readS was r L2 with
      | none => none
      | some (vs, L3) => some (v :: vs, L3)
theorem readS_put {was c : Comp} (hk : was.1 = c.1) (h : checkM c = 0) (s : List Bool) : ∀ is : List Nat, (∀ i ∈ is, i < cntM c.1) → readS was is (is.flatMap (fun i => (oneP was c i).flatMap partB) ++ s) = some (is.map (fl c), s)
  | [], _ => rfl
  | i :: r, hi => by
    rw [List.flatMap_cons, List.append_assoc, readS, movedD_put hk h (hi i List.mem_cons_self)]
    simp only
    rw [readS_put hk h s r fun j hj => hi j (List.mem_cons_of_mem _ hj)]
    rfl
def stepDec (was : Comp) (L : List Bool) : Option (Comp × List Bool) := if checkM was ≠ 0 then none else match readS was (List.range (cntM was.1)) L with
  | none => none
  | some (vs, r) => some (mkC was.1 vs, r)
def stepB2 (was c : Comp) : List Bool := partsB (stepP was c)
theorem stepDec_put {was c : Comp} (h : pairM was c = 0) (s : List Bool) : stepDec was (stepB2 was c ++ s) = some (c, s) := by
  have hw : checkM was = 0 := by unfold pairM at h; split at h <;> omega
  have hc : checkM c = 0 := by
    unfold pairM at h
    rw [if_neg (by omega)] at h
    split at h <;> omega
  have hk : was.1 = c.1 := by
    unfold pairM at h
    rw [if_neg (by omega), if_neg (by omega)] at h
    split at h
    · assumption
    · omega
  have e : stepB2 was c = (List.range (cntM c.1)).flatMap fun i => (oneP was c i).flatMap partB := by
    unfold stepB2 partsB stepP
    rw [List.flatMap_assoc]
    rfl
  unfold stepDec
  rw [if_neg (by omega), e, hk, readS_put hk hc s _ fun i hi => List.mem_range.1 hi]
  simp only
  rw [mkC_fl hc]
end Go.Proofs.YtchhhjlpnecjkaaGreat
namespace Go.Proofs.YtchhhjlpnecjkaaGreat
open Go Go.RowKit Go.Proofs.YtchhhjlpnecjkaaGreat.Den
theorem plain_bits {s : WS} {v n : Int} (h : (plainM s v n).2 = 0) : s.2 = 0 ∧ (plainM s v n).1 = s.1 ++ bitsOf v.toNat n.toNat ∧ (n < 64 → v.toNat < 2 ^ n.toNat) := by
  obtain ⟨h1, h2⟩ := doM_ok h
  unfold plainM doM
  unfold putB at h2 ⊢
  split at h2
  · cases h2
  · split at h2
    · cases h2
    · rename_i hn
      split at h2
      · cases h2
      · rename_i a b
        rw [if_neg a, if_neg hn, if_neg b]
        refine ⟨h1, rfl, fun h64 => ?_⟩
        have : v.toNat / 2 ^ n.toNat = 0 := Classical.byContradiction fun hc => hn ⟨h64, hc⟩
        rcases Nat.div_eq_zero_iff.1 this with hz | hz
        · have := Nat.two_pow_pos n.toNat; omega
        · exact hz
theorem var_bits {s : WS} {v : Nat} (h : (varM s v).2 = 0) : s.2 = 0 ∧ (varM s v).1 = s.1 ++ varB v := by
  obtain ⟨h1, h2⟩ := doM_ok h
  unfold varM doM
  unfold putVarM at h2 ⊢
  split at h2
  · cases h2
  · rename_i a
    rw [if_neg a]
    exact ⟨h1, rfl⟩
theorem in_bits {s : WS} {n lo hi : Int} (h : (inM s n lo hi).2 = 0) : s.2 = 0 ∧ (inM s n lo hi).1 = s.1 ++ inB n lo hi ∧ lo ≤ n ∧ n ≤ hi := by
  have h' : (doM s (putInM s.1 n lo hi)).2 = 0 := h
  obtain ⟨h1, h2⟩ := doM_ok h'
  unfold putInM at h2
  split at h2
  · cases h2
  · rename_i a
    split at h2
    · cases h2
    · rename_i b
      have e : inM s n lo hi = plainM s (n - lo) (widthM lo hi) := by
        unfold inM plainM putInM
        rw [if_neg a, if_neg b]
      have := plain_bits (s := s) (v := n - lo) (n := (widthM lo hi : Int)) (by rw [← e]; exact h)
      rw [e]
      refine ⟨h1, ?_, by omega, by omega⟩
      rw [this.2.1]
      unfold inB
      rw [Int.toNat_natCast]
theorem putP_bits {s : WS} {l : List Part} (h : (doM s (putP s.1 l)).2 = 0) : s.2 = 0 ∧ (doM s (putP s.1 l)).1 = s.1 ++ partsB l := by
  obtain ⟨h1, h2⟩ := doM_ok h
  unfold doM
  unfold putP at h2 ⊢
  split at h2
  · cases h2
  · rename_i a
    rw [if_neg a]
    exact ⟨h1, rfl⟩
theorem putC_bits {s : WS} {c : Comp} (h : (doM s (putC s.1 c)).2 = 0) : s.2 = 0 ∧ (doM s (putC s.1 c)).1 = s.1 ++ compB c ∧ checkM c = 0 := by
  have h2 := (doM_ok h).2
  unfold putC at h h2 ⊢
  by_cases hc : checkM c = 0
  · rw [if_neg (by omega)] at h ⊢
    obtain ⟨a, b⟩ := putP_bits h
    exact ⟨a, b, hc⟩
  · rw [if_pos hc] at h2
    exact absurd h2 hc
theorem putS_bits {s : WS} {was c : Comp} (h : (doM s (putS s.1 was c)).2 = 0) : s.2 = 0 ∧ (doM s (putS s.1 was c)).1 = s.1 ++ stepB2 was c ∧ pairM was c = 0 := by
  have h2 := (doM_ok h).2
  unfold putS at h h2 ⊢
  by_cases hc : pairM was c = 0
  · rw [if_neg (by omega)] at h ⊢
    obtain ⟨a, b⟩ := putP_bits h
    exact ⟨a, b, hc⟩
  · rw [if_pos hc] at h2
    exact absurd h2 hc
theorem fold_bits {α : Type} (f : WS → α → WS) (enc : α → List Bool) (P : α → Prop) (hf : ∀ s a, (f s a).2 = 0 → s.2 = 0 ∧ (f s a).1 = s.1 ++ enc a ∧ P a) : ∀ (l : List α) (s : WS), (l.foldl f s).2 = 0 → s.2 = 0 ∧ (l.foldl f s).1 = s.1 ++ l.flatMap enc ∧ ∀ a ∈ l, P a
  | [], s, h => ⟨h, by simp, fun a ha => by cases ha⟩
  | a :: r, s, h => by
    rw [List.foldl_cons] at h ⊢
    obtain ⟨h1, h2, h3⟩ := fold_bits f enc P hf r (f s a) h
    obtain ⟨g1, g2, g3⟩ := hf s a h1
    refine ⟨g1, by rw [h2, g2, List.flatMap_cons, List.append_assoc], fun x hx => ?_⟩
    rcases List.mem_cons.1 hx with rfl | hx
    · exact g3
    · exact h3 x hx
def encs {α : Type} (enc : Int → α → List Bool) (id : α → Int) : Int → List α → List Bool
  | _, [] => []
  | last, a :: r => enc last a ++ encs enc id (id a) r
theorem fold_last {α : Type} (f : WS × Int → α → WS × Int) (enc : Int → α → List Bool) (id : α → Int) (P : Int → α → Prop) (hid : ∀ p a, (f p a).2 = id a) (hf : ∀ p a, (f p a).1.2 = 0 → p.1.2 = 0 ∧ (f p a).1.1 = p.1.1 ++ enc p.2 a ∧ P p.2 a) :
    ∀ (l : List α) (p : WS × Int), (l.foldl f p).1.2 = 0 → p.1.2 = 0 ∧ (l.foldl f p).1.1 = p.1.1 ++ encs enc id p.2 l ∧ ∀ a ∈ l, ∃ last, P last a
  | [], p, h => ⟨h, by simp [encs], fun a ha => by cases ha⟩
  | a :: r, p, h => by
    rw [List.foldl_cons] at h ⊢
    obtain ⟨h1, h2, h3⟩ := fold_last f enc id P hid hf r (f p a) h
    obtain ⟨g1, g2, g3⟩ := hf p a h1
    refine ⟨g1, by rw [h2, g2, hid, encs, List.append_assoc], fun x hx => ?_⟩
    rcases List.mem_cons.1 hx with rfl | hx
    · exact ⟨_, g3⟩
    · exact h3 x hx
def repD {β : Type} (f : Int → List Bool → Option (β × List Bool)) (id : β → Int) : Nat → Int → List Bool → Option (List β × List Bool)
  | 0, _, L => some ([], L)
  | n + 1, last, L => match f last L with
    | none => none
    | some (b, r) => match repD f id n (id b) r with
      | none => none
      | some (bs, r2) => some (b :: bs, r2)
theorem repD_put {β : Type} {f : Int → List Bool → Option (β × List Bool)} {id : β → Int} {enc : Int → β → List Bool} {ok : Int → β → Prop} (hf : ∀ last b s, ok last b → f last (enc last b ++ s) = some (b, s)) (s : List Bool) :
    ∀ (l : List β) (last : Int), (∀ (i : Nat) b, l[i]? = some b → ok (if i = 0 then last else ((l[i - 1]?).map id).getD 0) b) → repD f id l.length last (encs enc id last l ++ s) = some (l, s)
  | [], _, _ => rfl
  | b :: r, last, h => by
    rw [List.length_cons, encs, List.append_assoc, repD, hf last b _ (h 0 b rfl)]
    simp only
    rw [repD_put hf s r (id b) fun i x hx => ?_]
    have := h (i + 1) x (by simpa using hx)
    rw [if_neg (by omega)] at this
    rcases i with _ | i
    · simpa using this
    · rw [if_neg (by omega)]
      simpa using this
def headB (h : Head) : List Bool :=
  inB h.1 1 5 ++ (inB h.2.1 0 15 ++ (varB h.2.2.1.toNat ++ ((if h.1 ≤ 3 then bitsOf h.2.2.2.1.toNat 32 else []) ++ (if h.1 = 2 then varB (idD h.2.2.2.2 h.2.2.2.1) else []))))
def headD (L : List Bool) : Option (Head × List Bool) := match getIn 1 5 L with
  | none => none
  | some (k, L) => match getIn 0 15 L with
    | none => none
    | some (c, L) => match getVar L with
      | none => none
      | some (e, L) => match (if k ≤ 3 then getN 32 L else some (0, L)) with
        | none => none
        | some (t, L) => match (if k = 2 then (match getVar L with
            | none => none
            | some (b, L) => if t ≤ b then none else some (((t - b - 1 : Nat) : Int), L)) else some (0, L)) with
          | none => none
          | some (b, L) => if e ≤ 4294967295 ∧ headE (k, c, (e : Int), (t : Int), b) = 0 then some ((k, c, (e : Int), (t : Int), b), L) else none
theorem headD_put {h : Head} (hok : HeadOk h) (he : headE h = 0) (s : List Bool) : headD (headB h ++ s) = some (h, s) := by
  obtain ⟨k, c, e, t, b⟩ := h
  obtain ⟨⟨k0, k1⟩, ⟨c0, c1⟩, ⟨e0, e1⟩, ⟨t0, t1⟩, ⟨b0, b1⟩⟩ := hok
  have he' := he
  unfold headE at he
  dsimp only at k0 k1 c0 c1 e0 e1 t0 t1 b0 b1 he
  split at he
  · cases he
  rename_i g1
  split at he
  · cases he
  rename_i g2
  have z1 : e ≠ 0 := fun x => g2 (.inl x)
  have z2 : ¬ (3 < k ∧ t ≠ 0) := fun x => g2 (.inr (.inl x))
  have z3 : ¬ (k ≠ 2 ∧ b ≠ 0) := fun x => g2 (.inr (.inr (.inl x)))
  have z4 : ¬ (k = 2 ∧ t ≤ b) := fun x => g2 (.inr (.inr (.inr x)))
  unfold headB headD
  dsimp only
  rw [List.append_assoc, getIn_put (by omega) (by omega) (by omega)]
  simp only
  rw [List.append_assoc, getIn_put (by omega) (by omega) (by omega)]
  simp only
  rw [List.append_assoc, getVar_put (by omega)]
  simp only
  have ht : (if k ≤ 3 then getN 32 (((if k ≤ 3 then bitsOf t.toNat 32 else []) ++ (if k = 2 then varB (idD b t) else [])) ++ s) else some (0, ((if k ≤ 3 then bitsOf t.toNat 32 else []) ++ (if k = 2 then varB (idD b t) else [])) ++ s)) = some (t.toNat, (if k = 2 then varB (idD b t) else []) ++ s) := by
    by_cases h3 : k ≤ 3
    · rw [if_pos h3, if_pos h3, List.append_assoc, getN_put (by omega)]
    · have : t = 0 := Classical.byContradiction fun x => z2 ⟨by omega, x⟩
      rw [if_neg h3, if_neg h3, this]
      rfl
  rw [ht]
  simp only
  have hb : (if k = 2 then (match getVar ((if k = 2 then varB (idD b t) else []) ++ s) with
            | none => none
            | some (b, L) => if t.toNat ≤ b then none else some (((t.toNat - b - 1 : Nat) : Int), L)) else some (0, (if k = 2 then varB (idD b t) else []) ++ s)) = some (b, s) := by
    by_cases h2 : k = 2
    · have hlt : b < t := by
        refine Classical.byContradiction fun x => z4 ⟨h2, by omega⟩
      have hi : idD b t = (t - b - 1).toNat := by unfold idD; rw [Int.emod_eq_of_lt (by omega) (by omega)]
      rw [if_pos h2, if_pos h2, hi, getVar_put (by omega)]
      simp only
      rw [if_neg (by omega)]
      congr 2
      omega
    · have : b = 0 := Classical.byContradiction fun x => z3 ⟨h2, x⟩
      rw [if_neg h2, if_neg h2, this]
      rfl
  rw [hb]
  simp only
  have e1' : ((e.toNat : Nat) : Int) = e := by omega
  have e2' : ((t.toNat : Nat) : Int) = t := by omega
  rw [e1', e2', if_pos ⟨by omega, he'⟩]
theorem head_bits {s : WS} {h : Head} (hh : (headM s h).2 = 0) : s.2 = 0 ∧ (headM s h).1 = s.1 ++ headB h := by
  unfold headM at hh ⊢
  dsimp only at hh ⊢
  have key : ∀ (s3 : WS), (if h.1 = 2 then varM (if h.1 ≤ 3 then plainM s3 h.2.2.2.1 32 else s3) (idD h.2.2.2.2 h.2.2.2.1) else (if h.1 ≤ 3 then plainM s3 h.2.2.2.1 32 else s3)).2 = 0 →
      s3.2 = 0 ∧ (if h.1 = 2 then varM (if h.1 ≤ 3 then plainM s3 h.2.2.2.1 32 else s3) (idD h.2.2.2.2 h.2.2.2.1) else (if h.1 ≤ 3 then plainM s3 h.2.2.2.1 32 else s3)).1 = s3.1 ++ ((if h.1 ≤ 3 then bitsOf h.2.2.2.1.toNat 32 else []) ++ (if h.1 = 2 then varB (idD h.2.2.2.2 h.2.2.2.1) else [])) := by
    intro s3 hs
    have k1 : ∀ (s4 : WS), (if h.1 = 2 then varM s4 (idD h.2.2.2.2 h.2.2.2.1) else s4).2 = 0 → s4.2 = 0 ∧ (if h.1 = 2 then varM s4 (idD h.2.2.2.2 h.2.2.2.1) else s4).1 = s4.1 ++ (if h.1 = 2 then varB (idD h.2.2.2.2 h.2.2.2.1) else []) := by
      intro s4 h4
      split at h4
      · rename_i h2
        rw [if_pos h2, if_pos h2]
        exact var_bits h4
      · rename_i h2
        rw [if_neg h2, if_neg h2]
        exact ⟨h4, by simp⟩
    obtain ⟨a, b⟩ := k1 _ hs
    rw [b]
    split at a
    · rename_i h3
      rw [if_pos h3]
      obtain ⟨c, d, _⟩ := plain_bits a
      rw [if_pos h3, d, List.append_assoc]
      exact ⟨c, rfl⟩
    · rename_i h3
      rw [if_neg h3, if_neg h3]
      exact ⟨a, by simp⟩
  obtain ⟨a, b⟩ := key _ hh
  rw [b]
  obtain ⟨c, d⟩ := var_bits a
  obtain ⟨e, f, _⟩ := in_bits c
  obtain ⟨i, j, _⟩ := in_bits e
  rw [d, f, j]
  refine ⟨i, ?_⟩
  unfold headB
  simp only [List.append_assoc]
end Go.Proofs.YtchhhjlpnecjkaaGreat
namespace Go.Proofs.YtchhhjlpnecjkaaGreat
open Go Go.RowKit Go.Proofs.YtchhhjlpnecjkaaGreat.Den
def compsB (l : List Comp) : List Bool := l.flatMap compB
def compsD : List Int → List Bool → Option (List Comp × List Bool)
  | [], L => some ([], L)
  | k :: r, L => match compD k L with
    | none => none
    | some (c, L2) => match compsD r L2 with
      | none => none
      | some (cs, L3) => some (c :: cs, L3)
theorem compsD_put (s : List Bool) : ∀ l : List Comp, (∀ c ∈ l, checkM c = 0) → compsD (l.map (·.1)) (compsB l ++ s) = some (l, s)
  | [], _ => rfl
  | c :: r, h => by
    have e : compsB (c :: r) = compB c ++ compsB r := rfl
    rw [List.map_cons, e, List.append_assoc, compsD, compD_put (h c List.mem_cons_self)]
    simp only
    rw [compsD_put s r fun x hx => h x (List.mem_cons_of_mem _ hx)]
theorem comps_bits {s : WS} {l : List Comp} (h : (compsM s l).2 = 0) : s.2 = 0 ∧ (compsM s l).1 = s.1 ++ compsB l ∧ ∀ c ∈ l, checkM c = 0 :=
  fold_bits (fun s c => doM s (putC s.1 c)) compB (fun c => checkM c = 0) (fun _ _ h => putC_bits h) l s h
structure Masked (l : List Comp) : Prop where
  list : listE l = 0
  mask : maskN l < 32
theorem Masked.kinds {l : List Comp} (h : Masked l) : kindsOf (maskN l) = l.map (·.1) := (Valid.kinds ⟨h.list, rfl⟩).symm
theorem Masked.check {l : List Comp} (h : Masked l) : ∀ c ∈ l, checkM c = 0 := (listE_0.1 h.list).1
def idBits (last id : Int) : List Bool := varB (idD last id)
def idDec (last : Int) (L : List Bool) : Option (Int × List Bool) := match getVar L with
  | none => none
  | some (v, r) => if 4294967296 ≤ v then none else some ((last + (v : Int) + 1) % 4294967296, r)
theorem idDec_put {last id : Int} (hid : IdOk id) (s : List Bool) : idDec last (idBits last id ++ s) = some (id, s) := by
  obtain ⟨h0, h1⟩ := hid
  have hv : idD last id < 4294967296 := by unfold idD; omega
  unfold idDec idBits
  rw [getVar_put (by omega)]
  simp only
  rw [if_neg (by omega)]
  congr 2
  unfold idD
  omega
def entB (last : Int) (e : Ent) : List Bool := idBits last e.1 ++ (bitsOf (maskN e.2) 5 ++ compsB e.2)
def entD (last : Int) (L : List Bool) : Option (Ent × List Bool) := match idDec last L with
  | none => none
  | some (id, L) => match getN 5 L with
    | none => none
    | some (m, L) => match compsD (kindsOf m) L with
      | none => none
      | some (cs, L) => some ((id, cs), L)
theorem entD_put {last : Int} {e : Ent} (hid : IdOk e.1) (h : Masked e.2) (s : List Bool) : entD last (entB last e ++ s) = some (e, s) := by
  unfold entD entB
  rw [List.append_assoc, idDec_put hid]
  simp only
  rw [List.append_assoc, getN_put (by have := h.mask; omega)]
  simp only
  rw [h.kinds, compsD_put s _ h.check]
def entsB (l : List Ent) : List Bool := varB l.length ++ encs entB (fun e : Ent => e.1) 0 l
def entsD (L : List Bool) : Option (List Ent × List Bool) := match getVar L with
  | none => none
  | some (n, L) => repD entD (fun e : Ent => e.1) n 0 L
theorem entsD_put {l : List Ent} (hl : l.length < 18446744073709551616) (h : ∀ e ∈ l, IdOk e.1 ∧ Masked e.2) (s : List Bool) : entsD (entsB l ++ s) = some (l, s) := by
  unfold entsD entsB
  rw [List.append_assoc, getVar_put hl]
  simp only
  exact repD_put (f := entD) (id := fun e : Ent => e.1) (enc := entB) (ok := fun _ e => IdOk e.1 ∧ Masked e.2) (fun last b s hb => entD_put hb.1 hb.2 s) s l 0 fun i b hb => h b (List.mem_of_getElem? hb)
theorem ents_bits {s : WS} {l : List Ent} (h : (entsW s l).2 = 0) : s.2 = 0 ∧ (entsW s l).1 = s.1 ++ entsB l ∧ ∀ e ∈ l, maskN e.2 < 32 ∧ ∀ c ∈ e.2, checkM c = 0 := by
  unfold entsW at h ⊢
  obtain ⟨h1, h2, h3⟩ := fold_last entM entB (fun e => e.1) (fun _ e => maskN e.2 < 32 ∧ ∀ c ∈ e.2, checkM c = 0) (fun _ _ => rfl) (fun p e h => by
    unfold entM at h ⊢
    dsimp only at h ⊢
    obtain ⟨a1, a2, a3⟩ := comps_bits h
    obtain ⟨b1, b2, b3⟩ := plain_bits a1
    obtain ⟨c1, c2⟩ := var_bits b1
    refine ⟨c1, ?_, ?_, a3⟩
    · rw [a2, b2, c2]
      unfold entB idBits
      rw [Int.toNat_natCast, show Int.toNat 5 = 5 from rfl]
      simp only [List.append_assoc]
    · have := b3 (by decide)
      rw [Int.toNat_natCast] at this
      exact this) l (varM s l.length, 0) h
  obtain ⟨g1, g2⟩ := var_bits h1
  refine ⟨g1, ?_, fun e he => ?_⟩
  · rw [h2, g2]
    unfold entsB
    simp only [List.append_assoc]
  · obtain ⟨_, h⟩ := h3 e he
    exact h
def goneB (l : List Int) : List Bool := varB l.length ++ encs idBits (fun i : Int => i) 0 l
def goneD (L : List Bool) : Option (List Int × List Bool) := match getVar L with
  | none => none
  | some (n, L) => repD idDec (fun i : Int => i) n 0 L
theorem goneD_put {l : List Int} (hl : l.length < 18446744073709551616) (h : ∀ i ∈ l, IdOk i) (s : List Bool) : goneD (goneB l ++ s) = some (l, s) := by
  unfold goneD goneB
  rw [List.append_assoc, getVar_put hl]
  simp only
  exact repD_put (f := idDec) (id := fun i : Int => i) (enc := idBits) (ok := fun _ e => IdOk e) (fun last b s hb => idDec_put hb s) s l 0 fun i b hb => h b (List.mem_of_getElem? hb)
theorem gone_bits {s : WS} {l : List Int} (h : (goneW s l).2 = 0) : s.2 = 0 ∧ (goneW s l).1 = s.1 ++ goneB l := by
  unfold goneW at h ⊢
  obtain ⟨h1, h2, _⟩ := fold_last idM idBits (fun i => i) (fun _ _ => True) (fun _ _ => rfl) (fun p e h => by
    unfold idM at h ⊢
    obtain ⟨c1, c2⟩ := var_bits h
    exact ⟨c1, c2, trivial⟩) l (varM s l.length, 0) h
  obtain ⟨g1, g2⟩ := var_bits h1
  refine ⟨g1, ?_⟩
  rw [h2, g2]
  unfold goneB
  simp only [List.append_assoc]
def setsB (was : List Ent) (id : Int) (l : List Comp) : List Bool := l.flatMap fun c => stepB2 (oldM was id c.1) c
def setsD (was : List Ent) (id : Int) : List Int → List Bool → Option (List Comp × List Bool)
  | [], L => some ([], L)
  | k :: r, L => if (oldM was id k).1 ≠ k then none else match stepDec (oldM was id k) L with
    | none => none
    | some (c, L2) => match setsD was id r L2 with
      | none => none
      | some (cs, L3) => some (c :: cs, L3)
theorem pair_kind {was c : Comp} (h : pairM was c = 0) : was.1 = c.1 ∧ checkM c = 0 := by
  unfold pairM at h
  split at h
  · omega
  · split at h
    · omega
    · split at h
      · exact ⟨by assumption, by omega⟩
      · omega
theorem setsD_put (was : List Ent) (id : Int) (s : List Bool) : ∀ l : List Comp, (∀ c ∈ l, pairM (oldM was id c.1) c = 0) → setsD was id (l.map (·.1)) (setsB was id l ++ s) = some (l, s)
  | [], _ => rfl
  | c :: r, h => by
    have hc := h c List.mem_cons_self
    have e : setsB was id (c :: r) = stepB2 (oldM was id c.1) c ++ setsB was id r := rfl
    rw [List.map_cons, e, List.append_assoc, setsD, if_neg (fun x => x (pair_kind hc).1), stepDec_put hc]
    simp only
    rw [setsD_put was id s r fun x hx => h x (List.mem_cons_of_mem _ hx)]
theorem sets_bits {was : List Ent} {id : Int} : ∀ {l : List Comp} {s : WS}, (setsM was id s l).2 = 0 → s.2 = 0 ∧ (setsM was id s l).1 = s.1 ++ setsB was id l ∧ ∀ c ∈ l, pairM (oldM was id c.1) c = 0
  | [], s, h => ⟨h, (List.append_nil _).symm, fun a ha => by cases ha⟩
  | a :: r, s, h => by
    have e : setsM was id s (a :: r) = setsM was id (doM s (putS s.1 (oldM was id a.1) a)) r := by unfold setsM; rw [List.foldl_cons]
    have e2 : setsB was id (a :: r) = stepB2 (oldM was id a.1) a ++ setsB was id r := by unfold setsB; rw [List.flatMap_cons]
    rw [e] at h
    obtain ⟨h1, h2, h3⟩ := sets_bits h
    obtain ⟨g1, g2, g3⟩ := putS_bits h1
    rw [e]
    refine ⟨g1, by rw [h2, g2, e2, List.append_assoc], fun x hx => ?_⟩
    rcases List.mem_cons.1 hx with rfl | hx
    · exact g3
    · exact h3 x hx
def chgB (was : List Ent) (last : Int) (d : Chg) : List Bool :=
  idBits last d.1 ++ (bitsOf d.2.1.toNat 5 ++ (bitsOf (maskN d.2.2.1) 5 ++ (bitsOf (maskN d.2.2.2) 5 ++ (compsB d.2.2.1 ++ setsB was d.1 d.2.2.2))))
def chgD (was : List Ent) (last : Int) (L : List Bool) : Option (Chg × List Bool) := match idDec last L with
  | none => none
  | some (id, L) => match getN 5 L with
    | none => none
    | some (lost, L) => match getN 5 L with
      | none => none
      | some (fresh, L) => match getN 5 L with
        | none => none
        | some (set, L) => match compsD (kindsOf fresh) L with
          | none => none
          | some (ns, L) => match setsD was id (kindsOf set) L with
            | none => none
            | some (ss, L) => some ((id, (lost : Int), ns, ss), L)
structure ChgMk (was : List Ent) (d : Chg) : Prop where
  id : IdOk d.1
  lost : 0 ≤ d.2.1 ∧ d.2.1.toNat < 32
  new : Masked d.2.2.1
  set : Masked d.2.2.2
  pair : ∀ c ∈ d.2.2.2, pairM (oldM was d.1 c.1) c = 0
theorem chgD_put {was : List Ent} {last : Int} {d : Chg} (h : ChgMk was d) (s : List Bool) : chgD was last (chgB was last d ++ s) = some (d, s) := by
  obtain ⟨h1, ⟨h2, h3⟩, h4, h5, h6⟩ := h
  unfold chgD chgB
  rw [List.append_assoc, idDec_put h1]
  simp only
  rw [List.append_assoc, getN_put (by omega)]
  simp only
  rw [List.append_assoc, getN_put (by have := h4.mask; omega)]
  simp only
  rw [List.append_assoc, getN_put (by have := h5.mask; omega)]
  simp only
  rw [List.append_assoc, h4.kinds, compsD_put _ _ h4.check]
  simp only
  rw [h5.kinds, setsD_put was d.1 s _ h6]
  simp only
  have : ((d.2.1.toNat : Nat) : Int) = d.2.1 := by omega
  rw [this]
def chgsB (was : List Ent) (l : List Chg) : List Bool := varB l.length ++ encs (chgB was) (fun d : Chg => d.1) 0 l
def chgsD (was : List Ent) (L : List Bool) : Option (List Chg × List Bool) := match getVar L with
  | none => none
  | some (n, L) => repD (chgD was) (fun d : Chg => d.1) n 0 L
theorem chgsD_put {was : List Ent} {l : List Chg} (hl : l.length < 18446744073709551616) (h : ∀ d ∈ l, ChgMk was d) (s : List Bool) : chgsD was (chgsB was l ++ s) = some (l, s) := by
  unfold chgsD chgsB
  rw [List.append_assoc, getVar_put hl]
  simp only
  exact repD_put (f := chgD was) (id := fun d : Chg => d.1) (enc := chgB was) (ok := fun _ d => ChgMk was d) (fun last b s hb => chgD_put hb s) s l 0 fun i b hb => h b (List.mem_of_getElem? hb)
theorem chgs_bits {was : List Ent} {s : WS} {l : List Chg} (h : (chgsW was s l).2 = 0) : s.2 = 0 ∧ (chgsW was s l).1 = s.1 ++ chgsB was l ∧ ∀ d ∈ l, d.2.1.toNat < 32 ∧ maskN d.2.2.1 < 32 ∧ maskN d.2.2.2 < 32 ∧ (∀ c ∈ d.2.2.1, checkM c = 0) ∧ ∀ c ∈ d.2.2.2, pairM (oldM was d.1 c.1) c = 0 := by
  unfold chgsW at h ⊢
  obtain ⟨h1, h2, h3⟩ := fold_last (chgM1 was) (chgB was) (fun d => d.1) (fun _ d => d.2.1.toNat < 32 ∧ maskN d.2.2.1 < 32 ∧ maskN d.2.2.2 < 32 ∧ (∀ c ∈ d.2.2.1, checkM c = 0) ∧ ∀ c ∈ d.2.2.2, pairM (oldM was d.1 c.1) c = 0) (fun _ _ => rfl) (fun p d h => by
    unfold chgM1 at h ⊢
    dsimp only at h ⊢
    obtain ⟨a1, a2, a3⟩ := sets_bits h
    obtain ⟨b1, b2, b3⟩ := comps_bits a1
    obtain ⟨c1, c2, c3⟩ := plain_bits b1
    obtain ⟨d1, d2, d3⟩ := plain_bits c1
    obtain ⟨e1, e2, e3⟩ := plain_bits d1
    obtain ⟨f1, f2⟩ := var_bits e1
    have c3 := c3 (by decide)
    have d3 := d3 (by decide)
    have e3 := e3 (by decide)
    rw [Int.toNat_natCast] at c3 d3
    refine ⟨f1, ?_, e3, d3, c3, b3, a3⟩
    rw [a2, b2, c2, d2, e2, f2]
    unfold chgB idBits
    rw [Int.toNat_natCast, Int.toNat_natCast, show Int.toNat 5 = 5 from rfl]
    simp only [List.append_assoc]) l (varM s l.length, 0) h
  obtain ⟨g1, g2⟩ := var_bits h1
  refine ⟨g1, ?_, fun e he => ?_⟩
  · rw [h2, g2]
    unfold chgsB
    simp only [List.append_assoc]
  · obtain ⟨_, h⟩ := h3 e he
    exact h
def deltaB (was : List Ent) (gone : List Int) (come : List Ent) (chg : List Chg) : List Bool := goneB gone ++ (entsB come ++ chgsB was chg)
abbrev Delta := List Int × List Ent × List Chg
def deltaD (was : List Ent) (L : List Bool) : Option (Delta × List Bool) := match goneD L with
  | none => none
  | some (g, L) => match entsD L with
    | none => none
    | some (c, L) => match chgsD was L with
      | none => none
      | some (d, L) => some ((g, c, d), L)
theorem deltaD_put {was : List Ent} {gone : List Int} {come : List Ent} {chg : List Chg} (hg : gone.length < 18446744073709551616 ∧ ∀ i ∈ gone, IdOk i) (hc : come.length < 18446744073709551616 ∧ ∀ e ∈ come, IdOk e.1 ∧ Masked e.2) (hd : chg.length < 18446744073709551616 ∧ ∀ d ∈ chg, ChgMk was d) (s : List Bool) :
    deltaD was (deltaB was gone come chg ++ s) = some ((gone, come, chg), s) := by
  unfold deltaD deltaB
  rw [List.append_assoc, goneD_put hg.1 hg.2]
  simp only
  rw [List.append_assoc, entsD_put hc.1 hc.2]
  simp only
  rw [chgsD_put hd.1 hd.2]
end Go.Proofs.YtchhhjlpnecjkaaGreat
namespace Go.Proofs.YtchhhjlpnecjkaaGreat
open Go Go.RowKit Go.Proofs.YtchhhjlpnecjkaaGreat.Den
theorem FormOk.six {L : List Ent} (h : FormOk L) {e : Ent} (he : e ∈ L) : e.2.length ≤ 6 := (Valid.mk (h.list he) rfl : Valid (maskN e.2) e.2).small
end Go.Proofs.YtchhhjlpnecjkaaGreat
namespace Go.Proofs.YtchhhjlpnecjkaaGreat
open Go Go.RowKit Go.Proofs.YtchhhjlpnecjkaaGreat.Den
def polyB : BitVec 32 := 3988292384#32
def stepB (c : BitVec 32) : BitVec 32 := if c.getLsbD 0 = true then (c >>> 1) ^^^ polyB else c >>> 1
def oneB (b : Bool) : BitVec 32 := if b = true then 1#32 else 0#32
def bitB (c : BitVec 32) (m : Bool) : BitVec 32 := stepB (c ^^^ oneB m)
def stepsB : Nat → BitVec 32 → BitVec 32
  | 0, c => c
  | n + 1, c => stepB (stepsB n c)
def toI (c : BitVec 32) : Int := (c.toNat : Int)
theorem toI_ofInt (c : BitVec 32) : BitVec.ofInt 32 (toI c) = c := by
  apply BitVec.eq_of_toNat_eq
  have := c.isLt
  simp [toI]
theorem wrap_toNat (c : BitVec 32) : IntKind.wrap .u32 (c.toNat : Int) = toI c := by
  have := c.isLt
  rw [wu32 (by omega)]
  rfl
theorem bXor_toI (c d : BitVec 32) : bXor .u32 (toI c) (toI d) = toI (c ^^^ d) := by
  unfold bXor
  show IntKind.wrap .u32 (((BitVec.ofInt 32 (toI c)) ^^^ (BitVec.ofInt 32 (toI d))).toNat : Int) = _
  rw [toI_ofInt, toI_ofInt, wrap_toNat]
theorem stepF_toI (c : BitVec 32) : stepF (toI c) = toI (stepB c) := by
  unfold stepF stepB
  have h1 : bAnd .u32 (toI c) 1 = toI (c &&& 1#32) := by
    unfold bAnd
    show IntKind.wrap .u32 (((BitVec.ofInt 32 (toI c)) &&& (BitVec.ofInt 32 1)).toNat : Int) = _
    rw [toI_ofInt, wrap_toNat]
    rfl
  have h2 : shR .u32 (toI c) 1 = toI (c >>> 1) := by
    unfold shR
    rw [show min (Int.toNat 1) (IntKind.bits .u32) = 1 from rfl, Int.fdiv_eq_ediv_of_nonneg _ (by decide)]
    unfold toI
    rw [BitVec.toNat_ushiftRight, Nat.shiftRight_eq_div_pow]
    simp
  have h3 : toI (c &&& 1#32) ≠ 0 ↔ c.getLsbD 0 = true := by
    have e : (c &&& 1#32).toNat = c.toNat % 2 := by
      rw [BitVec.toNat_and]
      show c.toNat &&& 1 = _
      rw [Nat.and_one_is_mod]
    unfold toI
    rw [e, BitVec.getLsbD, Nat.testBit_zero]
    simp only [decide_eq_true_eq]
    omega
  rw [h1, h2]
  by_cases h : c.getLsbD 0 = true
  · rw [if_pos (h3.2 h), if_pos h]
    exact bXor_toI (c >>> 1) polyB
  · rw [if_neg (fun x => h (h3.1 x)), if_neg h]
theorem stepsF_toI (n : Nat) (c : BitVec 32) : stepsF n (toI c) = toI (stepsB n c) := by
  induction n with
  | zero => rfl
  | succ n ih => rw [stepsF, stepsB, ih, stepF_toI]
theorem stepsB_front (n : Nat) (c : BitVec 32) : stepsB (n + 1) c = stepsB n (stepB c) := by
  induction n with
  | zero => rfl
  | succ n ih => rw [stepsB, ih, stepsB]
theorem stepB_at (c : BitVec 32) (p : Nat) : (stepB c).getLsbD p = (c.getLsbD (p + 1) ^^ (c.getLsbD 0 && polyB.getLsbD p)) := by
  unfold stepB
  split
  · rename_i h
    rw [BitVec.getLsbD_xor, BitVec.getLsbD_ushiftRight, h, Nat.add_comm]
    simp
  · rename_i h
    have h : c.getLsbD 0 = false := by simpa using h
    rw [BitVec.getLsbD_ushiftRight, h, Nat.add_comm]
    simp
theorem oneB_at (b : Bool) (p : Nat) : (oneB b).getLsbD p = (decide (p = 0) && b) := by
  unfold oneB
  cases b
  · simp
  · rw [if_pos rfl]
    rcases p with _ | p
    · rfl
    · simp [BitVec.getLsbD, Nat.testBit_succ]
theorem stepB_xor (c d : BitVec 32) : stepB (c ^^^ d) = bitB c (d.getLsbD 0) ^^^ (d >>> 1) := by
  apply BitVec.eq_of_getLsbD_eq
  intro p _
  rw [bitB, BitVec.getLsbD_xor, stepB_at, stepB_at, BitVec.getLsbD_ushiftRight, BitVec.getLsbD_xor, BitVec.getLsbD_xor, BitVec.getLsbD_xor, BitVec.getLsbD_xor, oneB_at, oneB_at, Nat.add_comm 1 p]
  simp only [Nat.add_eq_zero_iff, Nat.one_ne_zero, and_false, decide_false, Bool.false_and, Bool.xor_false, decide_true, Bool.true_and]
  cases c.getLsbD (p + 1) <;> cases d.getLsbD (p + 1) <;> simp
theorem bitsOf_front (v : Nat) : ∀ n, bitsOf v (n + 1) = v.testBit 0 :: bitsOf (v / 2) n
  | 0 => rfl
  | n + 1 => by
    rw [bitsOf, bitsOf_front v n, bitsOf, List.cons_append]
    congr 3
    rw [Nat.testBit_succ]
theorem stepsB_bits : ∀ (n : Nat) (c d : BitVec 32), d.toNat < 2 ^ n → stepsB n (c ^^^ d) = (bitsOf d.toNat n).foldl bitB c
  | 0, c, d, h => by
    have : d = 0#32 := BitVec.eq_of_toNat_eq (by simp at h ⊢; omega)
    subst this
    show c ^^^ 0#32 = c
    simp
  | n + 1, c, d, h => by
    have hd : (d >>> 1).toNat = d.toNat / 2 := by rw [BitVec.toNat_ushiftRight, Nat.shiftRight_eq_div_pow]
    rw [stepsB_front, stepB_xor, stepsB_bits n _ _ (by rw [hd]; omega), hd, bitsOf_front, List.foldl_cons]
    rfl
theorem byteF_toI (c : BitVec 32) {x : Int} (hx : 0 ≤ x ∧ x ≤ 255) : byteF (toI c) x = toI ((bitsOf x.toNat 8).foldl bitB c) := by
  have hw : IntKind.wrap .u32 x = toI (BitVec.ofNat 32 x.toNat) := by
    rw [wu32 (by omega)]
    unfold toI
    rw [BitVec.toNat_ofNat, Nat.mod_eq_of_lt (by omega)]
    omega
  have hn : (BitVec.ofNat 32 x.toNat).toNat = x.toNat := by rw [BitVec.toNat_ofNat, Nat.mod_eq_of_lt (by omega)]
  unfold byteF
  rw [hw, bXor_toI, stepsF_toI, stepsB_bits 8 _ _ (by rw [hn]; omega), hn]
def regB (m : List Bool) : BitVec 32 := m.foldl bitB 4294967295#32
theorem regF : ∀ (l : List Int) (c : BitVec 32), BytesOk l → l.foldl byteF (toI c) = toI ((bitsU l).foldl bitB c)
  | [], _, _ => rfl
  | x :: r, c, h => by
    have e : bitsU (x :: r) = bitsOf x.toNat 8 ++ bitsU r := rfl
    rw [List.foldl_cons, byteF_toI c (h x List.mem_cons_self), regF r _ fun y hy => h y (List.mem_cons_of_mem _ hy), e, List.foldl_append]
theorem sumF_reg {l : List Int} (h : BytesOk l) : sumF l = toI (4294967295#32 ^^^ regB (bitsU l)) := by
  unfold sumF
  have e : (4294967295 : Int) = toI 4294967295#32 := rfl
  rw [e, regF l _ h, bXor_toI]
  rfl
theorem flipAt_at (L : List Bool) (i k : Nat) : bitAt (flipAt L i) k = if k = i ∧ i < L.length then !bitAt L k else bitAt L k := by
  unfold bitAt flipAt
  rw [List.getElem?_set]
  by_cases h : i = k
  · subst h
    by_cases hl : i < L.length
    · rw [if_pos rfl, if_pos hl, if_pos ⟨rfl, hl⟩]; rfl
    · rw [if_pos rfl, if_neg hl, if_neg (fun x => hl x.2), List.getElem?_eq_none (by omega)]
  · rw [if_neg h, if_neg (fun x => h x.1.symm)]
theorem taps_at (j : Nat) : ∀ (ks : List Nat) (L : List Bool), ks.Nodup → (∀ k ∈ ks, k ≤ 32) → j + 32 < L.length → ∀ q, bitAt (ks.foldl (tapD j) L) q = (bitAt L q ^^ decide (∃ k ∈ ks, q = j + 32 - k))
  | [], L, _, _, _, q => by simp
  | k :: ks, L, hn, hk, hl, q => by
    have hn' := List.nodup_cons.1 hn
    have hk0 := hk k List.mem_cons_self
    rw [List.foldl_cons, taps_at j ks (tapD j L k) hn'.2 (fun x hx => hk x (List.mem_cons_of_mem _ hx)) (by unfold tapD; rw [flipAt_len]; exact hl) q]
    unfold tapD
    rw [flipAt_at]
    by_cases hq : q = j + 32 - k
    · rw [if_pos ⟨hq, by omega⟩]
      have h1 : ¬ ∃ k' ∈ ks, q = j + 32 - k' := by
        rintro ⟨k', hk', e⟩
        have := hk k' (List.mem_cons_of_mem _ hk')
        have : k' = k := by omega
        subst this
        exact hn'.1 hk'
      have h2 : ∃ k' ∈ k :: ks, q = j + 32 - k' := ⟨k, List.mem_cons_self, hq⟩
      rw [decide_eq_false h1, decide_eq_true h2]
      simp
    · rw [if_neg (fun x => hq x.1)]
      congr 1
      rw [decide_eq_decide]
      constructor
      · rintro ⟨k', hk', e⟩; exact ⟨k', List.mem_cons_of_mem _ hk', e⟩
      · rintro ⟨k', hk', e⟩
        rcases List.mem_cons.1 hk' with rfl | hk'
        · exact absurd e hq
        · exact ⟨k', hk', e⟩
theorem poly_at : ∀ p : Fin 32, polyB.getLsbD p.val = decide (∃ k ∈ tapsD, p.val + k = 31) := by decide +kernel
theorem stepD_at {L : List Bool} {j : Nat} (hl : j + 32 < L.length) (q : Nat) : bitAt (stepD L j) q = (bitAt L q ^^ (bitAt L j && decide (∃ k ∈ tapsD, q = j + 32 - k))) := by
  unfold stepD
  show bitAt (if bitAt L j = true then _ else _) q = _
  by_cases h : bitAt L j = true
  · rw [if_pos h, taps_at j tapsD L (by decide) (by decide) hl, h, Bool.true_and]
  · rw [if_neg h]
    have h : bitAt L j = false := by simpa using h
    rw [h]; simp
theorem range_flips (m : List Bool) : ∀ (n : Nat), n ≤ m.length → ∀ q, bitAt ((List.range n).foldl flipAt m) q = (bitAt m q ^^ decide (q < n))
  | 0, _, q => by simp
  | n + 1, h, q => by
    rw [List.range_succ, List.foldl_append]
    show bitAt (flipAt _ n) q = _
    have hl : ((List.range n).foldl flipAt m).length = m.length := foldl_len _ flipAt_len _ _
    rw [flipAt_at, range_flips m n (by omega) q, hl]
    by_cases hq : q = n
    · subst hq
      rw [if_pos ⟨rfl, by omega⟩]
      simp
    · rw [if_neg (fun x => hq x.1)]
      congr 1
      rw [decide_eq_decide]
      omega
theorem bitAt_append (m r : List Bool) (q : Nat) : bitAt (m ++ r) q = if q < m.length then bitAt m q else bitAt r (q - m.length) := by
  unfold bitAt
  split
  · rename_i h; rw [List.getElem?_append_left h]
  · rename_i h; rw [List.getElem?_append_right (by omega)]
theorem bitAt_false (n q : Nat) : bitAt (List.replicate n false) q = false := by
  unfold bitAt
  rw [List.getElem?_replicate]
  split <;> rfl
theorem initD_at (m : List Bool) (q : Nat) : bitAt (initD m) q = (bitAt m q ^^ decide (q < 32)) := by
  unfold initD
  rw [range_flips _ 32 (by simp), bitAt_append, bitAt_false]
  congr 1
  split
  · rfl
  · rw [bitAt_ge (by omega)]
theorem regB_take {m : List Bool} {j : Nat} (h : j < m.length) : regB (m.take (j + 1)) = bitB (regB (m.take j)) (bitAt m j) := by
  have hj : m[j]? = some (bitAt m j) := by unfold bitAt; rw [List.getElem?_eq_getElem h]; rfl
  unfold regB
  rw [take_at hj, List.foldl_append]
  rfl
theorem ones_at : ∀ p : Fin 32, (4294967295#32).getLsbD p.val = true := by decide +kernel
theorem div_reg (m : List Bool) : ∀ j, j ≤ m.length → ∀ p, bitAt (divD m j) (j + p) = ((regB (m.take j)).getLsbD p ^^ bitAt m (j + p))
  | 0, _, p => by
    have e : divD m 0 = initD m := by unfold divD; rw [List.range_zero, List.foldl_nil]
    have hr : (regB (m.take 0)).getLsbD p = decide (p < 32) := by
      have : regB (m.take 0) = 4294967295#32 := by unfold regB; rw [List.take_zero, List.foldl_nil]
      rw [this]
      by_cases hp : p < 32
      · rw [ones_at ⟨p, hp⟩]; simp [hp]
      · rw [BitVec.getLsbD_of_ge _ _ (by omega)]; simp [hp]
    rw [e, initD_at, Nat.zero_add, hr, Bool.xor_comm]
  | j + 1, hj, p => by
    have ih := div_reg m j (by omega)
    have e : divD m (j + 1) = stepD (divD m j) j := by unfold divD; rw [List.range_succ, List.foldl_append]; rfl
    have hb : bitAt (divD m j) j = ((regB (m.take j)).getLsbD 0 ^^ bitAt m j) := ih 0
    rw [e, stepD_at (by rw [divD_len]; omega), show j + 1 + p = j + (p + 1) by omega, ih (p + 1), regB_take (by omega), bitB, stepB_at, BitVec.getLsbD_xor, BitVec.getLsbD_xor, oneB_at, oneB_at, hb]
    have ht : decide (∃ k ∈ tapsD, j + (p + 1) = j + 32 - k) = polyB.getLsbD p := by
      by_cases hp : p < 32
      · rw [poly_at ⟨p, hp⟩, decide_eq_decide]
        constructor
        · rintro ⟨k, hk, e⟩; exact ⟨k, hk, by have := tapsD_le k hk; show p + k = 31; omega⟩
        · rintro ⟨k, hk, e⟩; exact ⟨k, hk, by have : p + k = 31 := e; omega⟩
      · rw [BitVec.getLsbD_of_ge _ _ (by omega)]
        apply decide_eq_false
        rintro ⟨k, hk, e⟩
        omega
    rw [ht]
    simp only [Nat.add_eq_zero_iff, Nat.one_ne_zero, and_false, decide_false, Bool.false_and, Bool.xor_false, decide_true, Bool.true_and]
    cases (regB (List.take j m)).getLsbD (p + 1) <;> cases bitAt m (j + (p + 1)) <;> simp
theorem numD_reg (c : BitVec 32) {left : List Bool} (hl : left.length = 32) (h : ∀ p, p < 32 → bitAt left p = !c.getLsbD p) : ∀ k, k ≤ 32 → numD left k = ((c.toNat / 2 ^ (32 - k) : Nat) : Int)
  | 0, _ => by
    have := c.isLt
    show (0 : Int) = _
    rw [Nat.div_eq_of_lt (by simpa using this)]
    rfl
  | k + 1, hk => by
    have ih := numD_reg c hl h k (by omega)
    have hb : (left[31 - k]?).getD false = !c.getLsbD (31 - k) := h (31 - k) (by omega)
    rw [numD, ih, hb]
    have hlt := c.isLt
    have e1 : 32 - k = (31 - k) + 1 := by omega
    have e2 : 32 - (k + 1) = 31 - k := by omega
    rw [e1, e2, Nat.pow_succ, ← Nat.div_div_eq_div_mul]
    have ht : c.getLsbD (31 - k) = decide (c.toNat / 2 ^ (31 - k) % 2 = 1) := by rw [BitVec.getLsbD, Nat.testBit_eq_decide_div_mod_eq]
    rw [ht]
    have hv : c.toNat / 2 ^ (31 - k) ≤ 4294967295 := Nat.le_trans (Nat.div_le_self _ _) (by omega)
    generalize c.toNat / 2 ^ (31 - k) = v at hv ⊢
    have ew : IntKind.wrap .u32 (((v / 2 : Nat) : Int) * 2) = ((v / 2 * 2 : Nat) : Int) := by rw [wu32 (by omega)]; omega
    rw [ew]
    by_cases h1 : v % 2 = 1
    · rw [if_pos (by simp [h1]), wu32 (by omega)]
      omega
    · rw [if_neg (by simp [h1])]
      omega
theorem sum_same {l : List Int} (h : BytesOk l) : sumD l = sumF l := by
  rw [sumF_reg h]
  unfold sumD
  have hlen := bitsU_len l
  generalize bitsU l = m
  have hd := divD_len m m.length
  rw [numD_reg (4294967295#32 ^^^ regB m) (by rw [List.length_drop, hd]; omega) (fun p hp => ?_) 32 (Nat.le_refl _)]
  · simp [toI]
  · have := div_reg m m.length (Nat.le_refl _) p
    rw [List.take_length, bitAt_ge (L := m) (by omega), Bool.xor_false] at this
    have e : bitAt ((divD m m.length).drop m.length) p = bitAt (divD m m.length) (m.length + p) := by unfold bitAt; rw [List.getElem?_drop]
    rw [e, this, BitVec.getLsbD_xor]
    rw [ones_at ⟨p, hp⟩]
    simp
end Go.Proofs.YtchhhjlpnecjkaaGreat
namespace Go.Proofs.YtchhhjlpnecjkaaGreat
open Go Go.RowKit Go.Proofs.YtchhhjlpnecjkaaGreat.Den
variable {R : Type} {Q : R → World → Prop} {w : World}
theorem sumF_range {l : List Int} (h : BytesOk l) : 0 ≤ sumF l ∧ sumF l ≤ 4294967295 := by
  rw [sumF_reg h]
  have := (4294967295#32 ^^^ regB (bitsU l)).isLt
  unfold toI
  omega
theorem tailF_eq {s : Int} (h : 0 ≤ s ∧ s ≤ 4294967295) : tailF s = [IntKind.wrap .u8 s, IntKind.wrap .u8 (IntKind.wrap .u32 (Int.tdiv s 256)), IntKind.wrap .u8 (IntKind.wrap .u32 (Int.tdiv s 65536)), IntKind.wrap .u8 (IntKind.wrap .u32 (Int.tdiv s 16777216))] := by
  have sh : ∀ i : Nat, i < 4 → shR .u32 s (8 * (i : Int)) = s / 2 ^ (8 * i) := fun i hi => by
    unfold shR
    have : min (8 * (i : Int)).toNat (IntKind.bits .u32) = 8 * i := by
      show min (8 * (i : Int)).toNat 32 = 8 * i
      omega
    rw [this, Int.fdiv_eq_ediv_of_nonneg _ (by exact_mod_cast Nat.zero_le (2 ^ (8 * i)))]
  unfold tailF
  show [IntKind.wrap .u8 (shR .u32 s (8 * ((0 : Nat) : Int))), IntKind.wrap .u8 (shR .u32 s (8 * ((1 : Nat) : Int))), IntKind.wrap .u8 (shR .u32 s (8 * ((2 : Nat) : Int))), IntKind.wrap .u8 (shR .u32 s (8 * ((3 : Nat) : Int)))] = _
  rw [sh 0 (by decide), sh 1 (by decide), sh 2 (by decide), sh 3 (by decide), Int.tdiv_eq_ediv_of_nonneg h.1, Int.tdiv_eq_ediv_of_nonneg h.1, Int.tdiv_eq_ediv_of_nonneg h.1, wu32 (x := s / 256) (by omega), wu32 (x := s / 65536) (by omega), wu32 (x := s / 16777216) (by omega)]
  simp
theorem tailF_ok (s : Int) : BytesOk (tailF s) := fun x hx => by
  unfold tailF at hx
  obtain ⟨i, _, rfl⟩ := List.mem_map.1 hx
  rw [IntKind.wrap_u8]
  omega
theorem tailF_len (s : Int) : (tailF s).length = 4 := by simp [tailF]
theorem sealF_ok {l : List Int} (h : BytesOk l) : BytesOk (sealF l) := fun x hx => by
  rcases List.mem_append.1 hx with hx | hx
  · exact h x hx
  · exact tailF_ok _ x hx
theorem sealF_len (l : List Int) : (sealF l).length = l.length + 4 := by unfold sealF; rw [List.length_append, tailF_len]
theorem blkSl {b : Nat} {T : TypeId} {cs : List Value} {t : Ty} {l : List t.T} (B : Blk w b T cs) (hc : cs = l.flatMap t.cells) {n : Nat} (hn : n = l.length) : SlT (fun k => k = b) w t ⟨some ⟨b, 0, none⟩, n, n⟩ l :=
  ⟨hn, Nat.le_refl _, .inr ⟨b, 0, rfl, rfl, B.lt, fun i x hx => Rd.cells.2 (B.cells _ _ fun j u hj => by rw [hc, Nat.zero_add]; exact flat_at hx j u hj)⟩⟩
theorem freshB {ok : Nat → Prop} {s : Sl} {l : List Int} (hS : SlT ok w u8T s l) (hm : l.length ≤ 140737488355328) {K : Sl → W R} (hk : ∀ r w', Own (Up w.heap.size) w' 5 u8T r l → Fr None w w' → K r Q w') :
    newW 5 [] (fun x => rawW Tryz.prog (Builtin.append_ #[22, 22] 22 #[.slice (some x) 0 0, .slice s.a s.n s.c]) [.sc .sl] K) Q w := by
  refine newI fun w1 B1 f1 s1 => ?_
  have own := Own.mk' (S := Up w.heap.size) (w := w1) (E := 5) (t := u8T) (l := []) (g := w.heap.size) (c := 0) (cur := ⟨[]⟩) (Nat.le_refl _) B1 (Nat.le_refl _) (Nat.zero_le _) (by simp) (by simp)
  refine appI (s := ⟨some ⟨w.heap.size, 0, none⟩, 0, 0⟩) (s2 := s) (S' := Up w.heap.size) bytes_ty own (hS.fr0 f1) (by simp; omega) (by rw [maxLen_eq]; simp; omega) (fun _ h => h) (by show _ ≤ _; omega) fun r w2 o2 f2 s2 => hk r w2 (by simpa using o2) (f1.newer f2 (fun x e => own.own x e))
theorem spec_r3_Seal {ok : Nat → Prop} {s : Sl} {l : List Int} (hS : SlT ok w u8T s l) (hb : BytesOk l) (hm : l.length ≤ 140737488355000) {K : Res [.sc .sl, .sc (.int .i64)] → W R} (h1 : 4096 < l.length → K (⟨none, 0, 0⟩, 3) Q w) (hk : l.length ≤ 4096 → ∀ r w', Own (Up w.heap.size) w' 5 u8T r (sealF l) → Fr None w w' → K (r, 0) Q w') :
    callW Tryz.prog k_pinnaceref03_Seal [.slice s.a s.n s.c] [.sc .sl, .sc (.int .i64)] K Q w := by
  refine C_pinnaceref03_Seal s K Q w ?_
  unfold F_pinnaceref03_Seal
  have hlen := hS.len
  refine condD (fun h => h1 (by omega)) fun h => ?_
  refine spec_r3_Sum hS hb (by omega) fun w1 f1 => ?_
  rw [sum_same hb]
  have hr := sumF_range hb
  refine freshB (hS.fr0 f1) (by omega) fun x w2 o2 f2 => ?_
  have z1 := f1.size
  have z2 := f2.size
  refine newI fun w3 B3 f3 t3 => ?_
  have hS3 := blkSl (t := u8T) (l := tailF (sumF l)) (n := 4) B3 (by rw [tailF_eq hr]; rfl) (by rw [tailF_len])
  refine appI bytes_ty (S' := Up w.heap.size) (s2 := ⟨some ⟨w2.heap.size, 0, none⟩, 4, 4⟩) (o2.none f3) hS3 (by rw [tailF_len]; omega) (by rw [maxLen_eq, tailF_len]; omega) (fun k h => by have h : w1.heap.size ≤ k := h; show w.heap.size ≤ k; omega) (by show w.heap.size ≤ _; omega) fun r w4 o4 f4 _ => ?_
  exact hk (by omega) r w4 o4 (((f1.then0 f2).then0 f3).newer f4 fun k e => by have := o2.own k e; have : w1.heap.size ≤ k := this; omega)
theorem spec_r3_Open {ok : Nat → Prop} {s : Sl} {l : List Int} (hS : SlT ok w u8T s l) (hb : BytesOk l) (hm : l.length ≤ 140737488355000) {K : Res [.sc .sl, .sc (.int .i64)] → W R} (h1 : ∀ w', Fr None w w' → (l.length < 4 → K (⟨none, 0, 0⟩, 2) Q w') ∧ (4100 < l.length → K (⟨none, 0, 0⟩, 3) Q w') ∧ (4 ≤ l.length → l.length ≤ 4100 → sealF (l.take (l.length - 4)) ≠ l → K (⟨none, 0, 0⟩, 6) Q w'))
    (hk : 4 ≤ l.length → l.length ≤ 4100 → sealF (l.take (l.length - 4)) = l → ∀ r w', Own (Up w.heap.size) w' 5 u8T r (l.take (l.length - 4)) → Fr None w w' → K (r, 0) Q w') :
    callW Tryz.prog k_pinnaceref03_Open [.slice s.a s.n s.c] [.sc .sl, .sc (.int .i64)] K Q w := by
  refine C_pinnaceref03_Open s K Q w ?_
  unfold F_pinnaceref03_Open
  have hlen := hS.len
  refine condD (fun h => (h1 w (Fr.refl _ _)).1 (by omega)) fun ha => ?_
  refine condD (fun h => (h1 w (Fr.refl _ _)).2.1 (by omega)) fun hc => ?_
  refine hS.cutI (n := l.length - 4) (by rw [w64 (by omega)]; omega) (by omega) fun s' _ hs' => ?_
  have hS' := hs' ok w hS
  have hbt : BytesOk (l.take (l.length - 4)) := fun x hx => hb x (List.mem_of_mem_take hx)
  have hlt : (l.take (l.length - 4)).length = l.length - 4 := by rw [List.length_take]; omega
  refine spec_r3_Seal hS' hbt (by omega) (fun h => by omega) fun _ r w1 o1 f1 => ?_
  refine spec_r1_Same o1.sl (hS.fr0 f1) (sealF_ok hbt) hb ?_
  refine condI (fun h => ?_) fun h => ?_
  · exact (h1 w1 f1).2.2 (by omega) (by omega) (by simpa using h)
  · refine freshB (hS'.fr0 f1) (by omega) fun r2 w2 o2 f2 => ?_
    exact hk (by omega) (by omega) (by simpa using h) r2 w2 (o2.up f1.size) (f1.then0 f2)
end Go.Proofs.YtchhhjlpnecjkaaGreat
namespace Go.Proofs.YtchhhjlpnecjkaaGreat
open Go Go.RowKit Go.Proofs.YtchhhjlpnecjkaaGreat.Den
theorem bitAt_bits (v : Nat) : ∀ n i, bitAt (bitsOf v n) i = (decide (i < n) && v.testBit i)
  | 0, i => by simp [bitsOf, bitAt]
  | n + 1, i => by
    rw [bitsOf, bitAt_snoc, bitsOf_len, bitAt_bits v n i]
    by_cases h : i = n
    · subst h; simp
    · rw [if_neg h]
      congr 1
      rw [decide_eq_decide]
      omega
theorem bitAt_bitsU : ∀ (l : List Int) (j i : Nat) (x : Int), l[j]? = some x → i < 8 → bitAt (bitsU l) (8 * j + i) = x.toNat.testBit i
  | [], j, i, x, h, _ => by simp at h
  | y :: r, j, i, x, h, hi => by
    have e : bitsU (y :: r) = bitsOf y.toNat 8 ++ bitsU r := rfl
    rw [e, bitAt_append, bitsOf_len]
    rcases j with _ | j
    · simp at h
      subst h
      rw [if_pos (by omega), bitAt_bits, Nat.mul_zero, Nat.zero_add]
      simp [hi]
    · rw [if_neg (by omega), show 8 * (j + 1) + i - 8 = 8 * j + i by omega]
      exact bitAt_bitsU r j i x (by simpa using h) hi
theorem byte8 : ∀ b0 b1 b2 b3 b4 b5 b6 b7 : Bool, ∀ i : Fin 8, (bitN b0 + 2 * bitN b1 + 4 * bitN b2 + 8 * bitN b3 + 16 * bitN b4 + 32 * bitN b5 + 64 * bitN b6 + 128 * bitN b7).testBit i.val = [b0, b1, b2, b3, b4, b5, b6, b7].getD i.val false := by decide +kernel
theorem byteAt_bit (L : List Bool) (j i : Nat) (hi : i < 8) : (byteAt L j).testBit i = bitAt L (8 * j + i) := by
  unfold byteAt
  rw [byte8 _ _ _ _ _ _ _ _ ⟨i, hi⟩]
  rcases (show i = 0 ∨ i = 1 ∨ i = 2 ∨ i = 3 ∨ i = 4 ∨ i = 5 ∨ i = 6 ∨ i = 7 by omega) with rfl | rfl | rfl | rfl | rfl | rfl | rfl | rfl <;> rfl
theorem list_bits {A B : List Bool} (hl : A.length = B.length) (h : ∀ k, k < A.length → bitAt A k = bitAt B k) : A = B := by
  apply List.ext_getElem hl
  intro k h1 h2
  have := h k h1
  unfold bitAt at this
  rw [List.getElem?_eq_getElem h1, List.getElem?_eq_getElem h2] at this
  simpa using this
theorem bits_pack (L : List Bool) : bitsU (packM L) = L ++ List.replicate (8 * ((L.length + 7) / 8) - L.length) false := by
  have hlen : (bitsU (packM L)).length = 8 * ((L.length + 7) / 8) := by rw [bitsU_len, packM_len]
  refine list_bits (by rw [hlen, List.length_append, List.length_replicate]; omega) fun k hk => ?_
  rw [hlen] at hk
  have hj : k / 8 < (packM L).length := by rw [packM_len]; omega
  have hx : (packM L)[k / 8]? = some (byteAt L (k / 8) : Int) := by
    unfold packM
    rw [List.getElem?_map, List.getElem?_range (by rw [packM_len] at hj; exact hj)]
    rfl
  have := bitAt_bitsU (packM L) (k / 8) (k % 8) _ hx (Nat.mod_lt _ (by decide))
  rw [show 8 * (k / 8) + k % 8 = k by omega, Int.toNat_natCast, byteAt_bit L _ _ (Nat.mod_lt _ (by decide)), show 8 * (k / 8) + k % 8 = k by omega] at this
  rw [this, bitAt_append, bitAt_false]
  split
  · rfl
  · exact bitAt_ge (by omega)
theorem lost_bit (a b : List Comp) {k : Nat} (hk : k < 6) : (lostM a b).toNat.testBit k = (has a k && !has b k) := by
  have h1 := maskN_lt a
  have h2 := maskN_lt b
  have e : (lostM a b).toNat = (BitVec.ofInt 8 (maskN a : Int) &&& ~~~BitVec.ofInt 8 (maskN b : Int)).toNat := by
    unfold lostM bNot
    have := (BitVec.ofInt 8 (maskN a : Int) &&& ~~~BitVec.ofInt 8 (maskN b : Int)).isLt
    show (IntKind.wrap .u8 ((BitVec.ofInt 8 (maskN a : Int) &&& ~~~BitVec.ofInt 8 (maskN b : Int)).toNat : Int)).toNat = _
    rw [wu8 (by omega), Int.toNat_natCast]
  have e2 : ∀ m : Nat, m < 64 → (BitVec.ofInt 8 (m : Int)).getLsbD k = m.testBit k := fun m hm => by
    rw [BitVec.getLsbD, BitVec.toNat_ofInt]
    congr 1
    omega
  rw [e]
  show (BitVec.ofInt 8 (maskN a : Int) &&& ~~~BitVec.ofInt 8 (maskN b : Int)).getLsbD k = _
  rw [BitVec.getLsbD_and, BitVec.getLsbD_not, e2 _ h1, e2 _ h2, maskN_bit a hk, maskN_bit b hk]
  simp [show k < 8 by omega]
theorem has_mem {l : List Comp} {k : Nat} : has l k = true ↔ ∃ c ∈ l, c.1 = (k : Int) := by simp [has]
theorem findC_none {l : List Comp} {k : Int} (h : (findC l k).2 = false) : ∀ c ∈ l, c.1 ≠ k := by
  unfold findC at h
  split at h
  · cases h
  · rename_i hn
    rw [List.findIdx?_eq_none_iff] at hn
    intro c hc
    simpa using hn c hc
theorem findC_some {l : List Comp} {k : Int} (h : (findC l k).2 = true) : (findC l k).1 ∈ l ∧ (findC l k).1.1 = k := by
  unfold findC at h ⊢
  split at h
  · rename_i i hi
    rw [List.findIdx?_eq_some_iff_getElem] at hi
    obtain ⟨hl, he, _⟩ := hi
    simp only
    rw [List.getElem?_eq_getElem hl]
    exact ⟨List.getElem_mem hl, by simpa using he⟩
  · cases h
theorem kind_one {l : List Comp} (h : listE l = 0) {a b : Comp} (ha : a ∈ l) (hb : b ∈ l) (e : a.1 = b.1) : a = b := by
  have hr := (listE_0.1 h).2
  obtain ⟨i, hi⟩ := List.mem_iff_getElem?.1 ha
  obtain ⟨j, hj⟩ := List.mem_iff_getElem?.1 hb
  rcases Nat.lt_trichotomy i j with h1 | h1 | h1
  · have := rising_lt hr h1 hi hj; omega
  · subst h1; rw [hi] at hj; cases hj; rfl
  · have := rising_lt hr h1 hj hi; omega
theorem change_mem {a b : Ent} (ha : listE a.2 = 0) (hb : listE b.2 = 0) (c : Comp) : c ∈ b.2 ↔ (c ∈ newM a.2 b.2 ∨ c ∈ chM a.2 b.2 ∨ (c ∈ a.2 ∧ (lostM a.2 b.2).toNat.testBit c.1.toNat = false ∧ ∀ d ∈ chM a.2 b.2, d.1 ≠ c.1)) := by
  have kr : ∀ {l : List Comp}, listE l = 0 → ∀ x ∈ l, 0 ≤ x.1 ∧ x.1 < 6 := fun hl x hx => by have := checkM_kind ((listE_0.1 hl).1 x hx); omega
  constructor
  · intro hc
    by_cases hf : (findC a.2 c.1).2 = true
    · by_cases he : (findC a.2 c.1).1 = c
      · obtain ⟨h1, h2⟩ := findC_some hf
        rw [he] at h1
        refine .inr (.inr ⟨h1, ?_, fun d hd e => ?_⟩)
        · have := kr hb c hc
          rw [lost_bit _ _ (by omega)]
          have : has b.2 c.1.toNat = true := has_mem.2 ⟨c, hc, by omega⟩
          rw [this]; simp
        · obtain ⟨h3, h4⟩ := List.mem_filter.1 hd
          have hdc := kind_one hb h3 hc e
          subst hdc
          rw [he] at h4
          simp at h4
      · exact .inr (.inl (List.mem_filter.2 ⟨hc, by simp [hf, he]⟩))
    · exact .inl (List.mem_filter.2 ⟨hc, by simpa using hf⟩)
  · rintro (hc | hc | ⟨hc, hl, hs⟩)
    · exact (List.mem_filter.1 hc).1
    · exact (List.mem_filter.1 hc).1
    · have hk := kr ha c hc
      rw [lost_bit _ _ (by omega)] at hl
      have h1 : has a.2 c.1.toNat = true := has_mem.2 ⟨c, hc, by omega⟩
      rw [h1] at hl
      have h2 : has b.2 c.1.toNat = true := by simpa using hl
      obtain ⟨d, hd, e⟩ := has_mem.1 h2
      have e : d.1 = c.1 := by omega
      have hf : (findC a.2 d.1).2 = true := by
        refine Classical.byContradiction fun hn => ?_
        have hn : (findC a.2 d.1).2 = false := by simpa using hn
        exact findC_none hn c hc e.symm
      obtain ⟨g1, g2⟩ := findC_some hf
      have hx := kind_one ha g1 hc (by rw [g2, e])
      by_cases hcd : c = d
      · rw [hcd]; exact hd
      · refine absurd e (hs d (List.mem_filter.2 ⟨hd, ?_⟩))
        rw [hf, hx]
        simp [hcd]
theorem comps_ext {l k : List Comp} (hl : listE l = 0) (hk : listE k = 0) (h : ∀ c, c ∈ l ↔ c ∈ k) : l = k := by
  have hr := rising_ext (listE_0.1 hl).2 (listE_0.1 hk).2 fun x => by
    simp only [List.mem_map]
    exact ⟨fun ⟨c, hc, e⟩ => ⟨c, (h c).1 hc, e⟩, fun ⟨c, hc, e⟩ => ⟨c, (h c).2 hc, e⟩⟩
  have hlen : l.length = k.length := by have := congrArg List.length hr; simpa using this
  apply List.ext_getElem hlen
  intro i h1 h2
  have e : (l.map (·.1))[i]? = (k.map (·.1))[i]? := by rw [hr]
  rw [List.getElem?_map, List.getElem?_map, List.getElem?_eq_getElem h1, List.getElem?_eq_getElem h2] at e
  have e : l[i].1 = k[i].1 := by simpa using e
  exact kind_one hk ((h _).1 (List.getElem_mem h1)) (List.getElem_mem h2) e
theorem change_inj {a b b' : Ent} (ha : listE a.2 = 0) (hb : listE b.2 = 0) (hb' : listE b'.2 = 0) (h : (changeM a b).2 = (changeM a b').2) : b.2 = b'.2 := by
  have h1 : lostM a.2 b.2 = lostM a.2 b'.2 := congrArg (·.1) h
  have h2 : newM a.2 b.2 = newM a.2 b'.2 := congrArg (·.2.1) h
  have h3 : chM a.2 b.2 = chM a.2 b'.2 := congrArg (·.2.2) h
  refine comps_ext hb hb' fun c => ?_
  rw [change_mem ha hb, change_mem ha hb', h1, h2, h3]
theorem ids_ext : ∀ {l k : List Ent}, (l.Pairwise fun a b => a.1 < b.1) → (k.Pairwise fun a b => a.1 < b.1) → (∀ x, x ∈ l ↔ x ∈ k) → l = k
  | [], [], _, _, _ => rfl
  | [], y :: k, _, _, h => by have := (h y).2 List.mem_cons_self; cases this
  | x :: l, [], _, _, h => by have := (h x).1 List.mem_cons_self; cases this
  | x :: l, y :: k, hl, hk, h => by
    obtain ⟨l1, l2⟩ := List.pairwise_cons.1 hl
    obtain ⟨k1, k2⟩ := List.pairwise_cons.1 hk
    have hxy : x = y := by
      rcases List.mem_cons.1 ((h x).1 List.mem_cons_self) with e | e
      · exact e
      · rcases List.mem_cons.1 ((h y).2 List.mem_cons_self) with e2 | e2
        · exact e2.symm
        · have := k1 x e; have := l1 y e2; omega
    subst hxy
    rw [ids_ext l2 k2 fun z => ?_]
    constructor
    · intro hz
      rcases List.mem_cons.1 ((h z).1 (List.mem_cons_of_mem _ hz)) with e | e
      · subst e; have := l1 z hz; omega
      · exact e
    · intro hz
      rcases List.mem_cons.1 ((h z).2 (List.mem_cons_of_mem _ hz)) with e | e
      · subst e; have := k1 z hz; omega
      · exact e
theorem id_one {L : List Ent} (h : L.Pairwise fun a b => a.1 < b.1) {a b : Ent} (ha : a ∈ L) (hb : b ∈ L) (e : a.1 = b.1) : a = b := by
  obtain ⟨i, hi⟩ := List.mem_iff_getElem?.1 ha
  obtain ⟨j, hj⟩ := List.mem_iff_getElem?.1 hb
  rcases Nat.lt_trichotomy i j with h1 | h1 | h1
  · have := ids_lt h h1 hi hj; omega
  · subst h1; rw [hi] at hj; cases hj; rfl
  · have := ids_lt h h1 hj hi; omega
theorem chgOne_some {was : List Ent} (hw : was.Pairwise fun a b => a.1 < b.1) {a e : Ent} (ha : a ∈ was) (he : a.1 = e.1) : chgOne was e = if nothingM (changeM a e) = true then none else some (changeM a e) := by
  obtain ⟨i, hi⟩ := List.mem_iff_getElem?.1 ha
  unfold chgOne
  rw [← he, find_at hw hi]
theorem chgOne_id {was : List Ent} {e : Ent} {d : Chg} (h : chgOne was e = some d) : d.1 = e.1 ∧ ∃ a ∈ was, a.1 = e.1 ∧ d = changeM a e ∧ nothingM (changeM a e) = false := by
  unfold chgOne at h
  split at h
  · cases h
  · rename_i a ha
    split at h
    · cases h
    · rename_i hn
      cases h
      exact ⟨rfl, a, List.mem_of_find?_eq_some ha, by have := List.find?_some ha; simpa using this, rfl, by simpa using hn⟩
theorem nothing_eq {d : Chg} (h : nothingM d = true) : d.2 = (0, [], []) := by
  unfold nothingM at h
  obtain ⟨a, b, c⟩ := of_decide_eq_true h
  exact Prod.ext a (Prod.ext (List.length_eq_zero_iff.1 b) (List.length_eq_zero_iff.1 c))
theorem delta_sub {was x y : List Ent} (hw : FormOk was) (hx : FormOk x) (hy : FormOk y) (hg : goneM was x = goneM was y) (hc : comeM was x = comeM was y) (hd : chgsM was x = chgsM was y) : ∀ e ∈ x, e ∈ y := by
  intro e he
  by_cases hh : hasE was e.1 = true
  · obtain ⟨a, ha, hae⟩ := hasE_iff.1 hh
    have hny : hasE y a.1 = true := by
      refine Classical.byContradiction fun hn => ?_
      have hn : hasE y a.1 = false := by simpa using hn
      have : a.1 ∈ goneM was y := List.mem_map.2 ⟨a, List.mem_filter.2 ⟨ha, by rw [hn]; rfl⟩, rfl⟩
      rw [← hg] at this
      obtain ⟨a2, ha2, e2⟩ := List.mem_map.1 this
      have h3 := (List.mem_filter.1 ha2).2
      have : hasE x a2.1 = true := hasE_iff.2 ⟨e, he, by rw [e2, hae]⟩
      rw [this] at h3
      cases h3
    obtain ⟨e', he', hid⟩ := hasE_iff.1 hny
    have hee : e.1 = e'.1 := by rw [hid, hae]
    have o1 := chgOne_some hw.rise ha hae
    have o2 := chgOne_some hw.rise ha hid.symm
    have key : (changeM a e).2 = (changeM a e').2 := by
      by_cases hn : nothingM (changeM a e) = true
      · by_cases hn' : nothingM (changeM a e') = true
        · rw [nothing_eq hn, nothing_eq hn']
        · rw [if_neg hn'] at o2
          have : changeM a e' ∈ chgsM was y := List.mem_filterMap.2 ⟨e', he', o2⟩
          rw [← hd] at this
          obtain ⟨e2, h2, h3⟩ := List.mem_filterMap.1 this
          have h4 := (chgOne_id h3).1
          have : e2 = e := id_one hx.rise h2 he (by rw [← h4, hee]; rfl)
          subst this
          rw [o1, if_pos hn] at h3
          cases h3
      · rw [if_neg hn] at o1
        have : changeM a e ∈ chgsM was x := List.mem_filterMap.2 ⟨e, he, o1⟩
        rw [hd] at this
        obtain ⟨e2, h2, h3⟩ := List.mem_filterMap.1 this
        have h4 := (chgOne_id h3).1
        have : e2 = e' := id_one hy.rise h2 he' (by rw [← h4, ← hee]; rfl)
        subst this
        rw [o2] at h3
        split at h3
        · cases h3
        · injection h3 with h3
          rw [h3]
    have := change_inj (hw.list ha) (hx.list he) (hy.list he') key
    have : e = e' := Prod.ext hee this
    rw [this]
    exact he'
  · have hh : hasE was e.1 = false := by simpa using hh
    have : e ∈ comeM was x := List.mem_filter.2 ⟨he, by rw [hh]; rfl⟩
    rw [hc] at this
    exact (List.mem_filter.1 this).1
theorem delta_inj {was x y : List Ent} (hw : FormOk was) (hx : FormOk x) (hy : FormOk y) (hg : goneM was x = goneM was y) (hc : comeM was x = comeM was y) (hd : chgsM was x = chgsM was y) : x = y :=
  ids_ext hx.rise hy.rise fun e => ⟨delta_sub hw hx hy hg hc hd e, delta_sub hw hy hx hg.symm hc.symm hd.symm e⟩
end Go.Proofs.YtchhhjlpnecjkaaGreat
namespace Go.Proofs.YtchhhjlpnecjkaaGreat
open Go Go.RowKit Go.Proofs.YtchhhjlpnecjkaaGreat.Den
theorem keepM_0 {e x : Int} (h : keepM e x = 0) : e = 0 ∧ x = 0 := by
  unfold keepM at h
  split at h
  · exact ⟨by assumption, h⟩
  · exact absurd h (by assumption)
theorem masked_of {L : List Ent} (h : FormOk L) {e : Ent} (he : e ∈ L) (hm : maskN e.2 < 32) : Masked e.2 := ⟨h.list he, hm⟩
theorem sub_list {l k : List Comp} (hl : listE l = 0) (hs : ∀ c ∈ k, c ∈ l) (hr : Rising (k.map (·.1))) : listE k = 0 := listE_0.2 ⟨fun c hc => (listE_0.1 hl).1 c (hs c hc), hr⟩
theorem filter_list {l : List Comp} (hl : listE l = 0) (p : Comp → Bool) : listE (l.filter p) = 0 := by
  refine sub_list hl (fun c hc => (List.mem_filter.1 hc).1) ?_
  have := (listE_0.1 hl).2
  unfold Rising at this ⊢
  rw [List.pairwise_map] at this ⊢
  exact this.filter p
abbrev Res2 := List Ent × Delta
def resM (h : Head) (was now : List Ent) : Res2 := if h.1 = 1 then (now, ([], [], [])) else if h.1 = 2 then ([], (goneM was now, comeM was now, chgsM was now)) else ([], ([], [], []))
def resD (k : Int) (was : List Ent) (L : List Bool) : Option (Res2 × List Bool) := if k = 1 then (match entsD L with
    | none => none
    | some (l, L) => some ((l, ([], [], [])), L))
  else if k = 2 then (match deltaD was L with
    | none => none
    | some (d, L) => some (([], d), L))
  else some (([], ([], [], [])), L)
def bodyD (was : List Ent) (L : List Bool) : Option (Head × Res2) := match headD L with
  | none => none
  | some (h, L) => match resD h.1 was L with
    | none => none
    | some (r, _) => some (h, r)
structure SealOk (h : Head) (was now : List Ent) : Prop where
  head : headE h = 0
  one : h.1 = 1 → FormOk now
  two : h.1 = 2 → FormOk was ∧ FormOk now
  rest : h.1 ≠ 1 → h.1 ≠ 2 → now = []
theorem seal_put {h : Head} {was now : List Ent} (hok : HeadOk h) (hm1 : was.length ≤ 1048576) (hm2 : now.length ≤ 1048576) (hL1 : ∀ e ∈ was, EntFit e) (hL2 : ∀ e ∈ now, EntFit e) (he : sealE h was now = 0) :
    SealOk h was now ∧ ∀ s, bodyD was ((sealW h was now).1 ++ s) = some (h, resM h was now) := by
  have h0 : headE h = 0 := by
    unfold sealE at he
    split at he
    · exact absurd he (by assumption)
    · omega
  have hw : (sealW h was now).2 = 0 := by
    unfold sealE at he
    rw [if_neg (by omega)] at he
    split at he
    · exact absurd he (by assumption)
    · omega
  have idok : ∀ e ∈ now, IdOk e.1 := fun e he => (hL2 e he).1
  by_cases k1 : h.1 = 1
  · have eW : sealW h was now = if keepM (headM ([], 0) h).2 (formM 0 now) = 0 then entsW ((headM ([], 0) h).1, keepM (headM ([], 0) h).2 (formM 0 now)) now else ((headM ([], 0) h).1, keepM (headM ([], 0) h).2 (formM 0 now)) := by unfold sealW; rw [if_pos k1]
    rw [eW] at hw ⊢
    split at hw
    · rename_i hk
      rw [if_pos hk]
      obtain ⟨a, b⟩ := keepM_0 hk
      have fm := formOk.1 b
      obtain ⟨_, c, d⟩ := ents_bits hw
      obtain ⟨_, e⟩ := head_bits a
      refine ⟨⟨h0, fun _ => fm, fun k => absurd k (by omega), fun k => absurd k1 k⟩, fun s => ?_⟩
      rw [c, e]
      unfold bodyD
      simp only [List.nil_append, List.append_assoc]
      rw [headD_put hok h0]
      simp only
      unfold resD resM
      rw [if_pos k1, if_pos k1, entsD_put (by omega) fun e he => ⟨idok e he, masked_of fm he (d e he).1⟩]
    · exact absurd hw (by assumption)
  · by_cases k2 : h.1 = 2
    · have eW : sealW h was now = if diffE was now = 0 then deltaW was ((headM ([], 0) h).1, keepM (headM ([], 0) h).2 (diffE was now)) (goneM was now) (comeM was now) (chgsM was now) else ((headM ([], 0) h).1, keepM (headM ([], 0) h).2 (diffE was now)) := by unfold sealW; rw [if_neg k1, if_pos k2]
      rw [eW] at hw ⊢
      split at hw
      · rename_i hd
        rw [if_pos hd]
        have fw : FormOk was := formOk.1 (by
          unfold diffE at hd
          refine Classical.byContradiction fun hc => ?_
          rw [if_pos hc] at hd
          exact hc hd)
        have fn : FormOk now := formOk.1 (by
          unfold diffE at hd
          rw [if_neg (by rw [formOk.2 fw]; simp)] at hd
          exact hd)
        unfold deltaW at hw ⊢
        obtain ⟨a, b, c⟩ := chgs_bits hw
        obtain ⟨d, e, f⟩ := ents_bits a
        obtain ⟨g, i⟩ := gone_bits d
        obtain ⟨j, _⟩ := keepM_0 g
        obtain ⟨_, k⟩ := head_bits j
        refine ⟨⟨h0, fun k => absurd k k1, fun _ => ⟨fw, fn⟩, fun _ k => absurd k2 k⟩, fun s => ?_⟩
        rw [b, e, i, k]
        unfold bodyD
        simp only [List.nil_append, List.append_assoc]
        rw [headD_put hok h0]
        simp only
        unfold resD resM
        rw [if_neg k1, if_pos k2, if_neg k1, if_pos k2]
        have hg := goneM_fit (now := now) hL1 hm1
        have hc := comeM_fit (was := was) hL2 hm2
        have hh := chgsM_fit (was := was) hL2 hm2
        have := deltaD_put (was := was) (gone := goneM was now) (come := comeM was now) (chg := chgsM was now) ⟨by omega, hg.2⟩ ⟨by omega, fun e he => ⟨idok e (List.mem_filter.1 he).1, masked_of fn (List.mem_filter.1 he).1 (f e he).1⟩⟩ ⟨by omega, fun d hd => ?_⟩ s
        · unfold deltaB at this
          simp only [List.append_assoc] at this
          rw [this]
        · obtain ⟨c1, c2, c3, c4, c5⟩ := c d hd
          obtain ⟨e, he, hx⟩ := List.mem_filterMap.1 hd
          obtain ⟨_, a, ha, _, rfl, _⟩ := chgOne_id hx
          exact ⟨idok e he, ⟨(lostM_range _ _).1, c1⟩, ⟨filter_list (fn.list he) _, c2⟩, ⟨filter_list (fn.list he) _, c3⟩, c5⟩
      · exact absurd (keepM_0 hw).2 (by assumption)
    · have eW : sealW h was now = if 0 < now.length then ((headM ([], 0) h).1, keepM (headM ([], 0) h).2 4) else headM ([], 0) h := by unfold sealW; rw [if_neg k1, if_neg k2]
      rw [eW] at hw ⊢
      split at hw
      · exact absurd (keepM_0 hw).2 (by decide)
      · rename_i hl
        rw [if_neg hl]
        have hn : now = [] := List.length_eq_zero_iff.1 (by omega)
        obtain ⟨_, b⟩ := head_bits hw
        refine ⟨⟨h0, fun k => absurd k k1, fun k => absurd k k2, fun _ _ => hn⟩, fun s => ?_⟩
        rw [b]
        unfold bodyD
        rw [List.nil_append, headD_put hok h0]
        simp only
        unfold resD resM
        rw [if_neg k1, if_neg k2, if_neg k1, if_neg k2]
end Go.Proofs.YtchhhjlpnecjkaaGreat
namespace Go.Proofs.YtchhhjlpnecjkaaGreat
open Go Go.RowKit Go.Proofs.YtchhhjlpnecjkaaGreat.Den
variable {R : Type} {Q : R → World → Prop} {w : World}
theorem bits_mod (v : Nat) : ∀ n, bitsOf (v % 2 ^ n) n = bitsOf v n := by
  intro n
  have : ∀ k, k ≤ n → bitsOf (v % 2 ^ n) k = bitsOf v k := by
    intro k
    induction k with
    | zero => intro _; rfl
    | succ k ih =>
      intro hk
      rw [bitsOf, bitsOf, ih (by omega), Nat.testBit_mod_two_pow]
      simp [show k < n by omega]
  exact this n (Nat.le_refl _)
theorem freshL {ok : Nat → Prop} {s : Sl} {l : List Bool} (hS : SlT ok w boolT s l) (hm : l.length ≤ 1048576) {K : Sl → W R} (hk : ∀ r w', Own (Up w.heap.size) w' 4 boolT r l → Fr None w w' → K r Q w') :
    newW 4 [] (fun x => rawW Tryz.prog (Builtin.append_ #[70, 70] 70 #[.slice (some x) 0 0, .slice s.a s.n s.c]) [.sc .sl] K) Q w := by
  refine newI fun w1 B1 f1 s1 => ?_
  have own := Own.mk' (S := Up w.heap.size) (w := w1) (E := 4) (t := boolT) (l := []) (g := w.heap.size) (c := 0) (cur := ⟨[]⟩) (Nat.le_refl _) B1 (Nat.le_refl _) (Nat.zero_le _) (by simp) (by simp)
  refine appI (s := ⟨some ⟨w.heap.size, 0, none⟩, 0, 0⟩) (s2 := s) (S' := Up w.heap.size) bools_ty own (hS.fr0 f1) (by simp; omega) (by rw [maxLen_eq]; simp; omega) (fun _ h => h) (by show _ ≤ _; omega) fun r w2 o2 f2 s2 => hk r w2 (by simpa using o2) (f1.newer f2 (fun x e => own.own x e))
theorem bit_of (v i : Nat) : (Int.tmod ((v / 2 ^ i : Nat) : Int) 2 == 1) = v.testBit i := by
  rw [Nat.testBit_eq_decide_div_mod_eq]
  generalize v / 2 ^ i = q
  rw [Int.tmod_eq_emod_of_nonneg (by omega), Bool.eq_iff_iff]
  simp only [decide_eq_true_eq, beq_iff_eq]
  omega
theorem half_of {v i : Nat} (hv : v < 18446744073709551616) : IntKind.wrap .u64 (Int.tdiv ((v / 2 ^ i : Nat) : Int) 2) = ((v / 2 ^ (i + 1) : Nat) : Int) := by
  have h : v / 2 ^ i ≤ 18446744073709551615 := Nat.le_trans (Nat.div_le_self _ _) (by omega)
  rw [Nat.pow_succ, ← Nat.div_div_eq_div_mul]
  generalize v / 2 ^ i = q at h
  rw [Int.tdiv_eq_ediv_of_nonneg (by omega), wU64 (by omega)]
  omega
theorem spec_r1_Put {ok : Nat → Prop} {s : Sl} {l : List Bool} (hS : SlT ok w boolT s l) {v : Nat} {n : Nat} (hn : n ≤ 64) (hv : v < 2 ^ n) (hm : l.length + n ≤ 1048576) {K : Res [.sc .sl, .sc (.int .i64)] → W R} (hk : ∀ r w', Own (Up w.heap.size) w' 4 boolT r (l ++ bitsOf v n) → Fr None w w' → K (r, 0) Q w') :
    callW Tryz.prog k_pinnaceref01_Put [.slice s.a s.n s.c, .int .u64 (v : Int), .int .i64 (n : Int)] [.sc .sl, .sc (.int .i64)] K Q w := by
  refine C_pinnaceref01_Put s _ _ K Q w ?_
  unfold F_pinnaceref01_Put
  have hv64 : v < 18446744073709551616 := Nat.lt_of_lt_of_le hv (Nat.le_trans (Nat.pow_le_pow_right (by decide) hn) (by decide))
  refine joinI (fun z u => z = false ∧ w = u) ?_ ?_
  · exact condF (decide_eq_false (by omega)) ⟨decide_eq_false (by omega), rfl⟩
  rintro z u ⟨rfl, rfl⟩
  refine condF rfl (freshL hS (by omega) fun x w1 o1 f1 => ?_)
  refine forI (N := n) (fun s : Int × Sl × Int => s.2.2) (fun j st u => st.2.2 = (j : Int) ∧ st.1 = ((v / 2 ^ j : Nat) : Int) ∧ Own (Up w.heap.size) u 4 boolT st.2.1 (l ++ bitsOf v j) ∧ Fr None w u) ⟨rfl, by simp, by simpa [bitsOf] using o1, f1⟩ (fun j s w' h => h.1) ?_ ?_
  · rintro j ⟨a, z, _⟩ u K' hj ⟨rfl, rfl, o, fu⟩ - hK
    have hz := fu.size
    have hl := bitsOf_len v j
    refine appP (x := (Int.tmod ((v / 2 ^ j : Nat) : Int) 2 == 1)) bools_ty rfl o (fun k e => by show w.heap.size ≤ k; omega) (by simp only [List.length_append, hl]; omega) (by simp only [List.length_append, hl]; omega) fun r u2 o2 f2 => ?_
    refine hK _ _ ⟨wsucc hj (by omega), half_of hv64, ?_, fu.newer f2 fun k e => o.own k e⟩
    rw [bit_of, List.append_assoc] at o2
    exact o2
  · rintro ⟨a, z, _⟩ u ⟨_, rfl, o, fu⟩
    have hl := bitsOf_len v n
    have hzn := o.len
    rw [List.length_append, hl] at hzn
    refine condN (fun hne => ?_) fun _ => ?_
    · have : v / 2 ^ n = 0 := Nat.div_eq_of_lt hv
      have hne : ((v / 2 ^ n : Nat) : Int) ≠ 0 := hne
      omega
    · refine condF (decide_eq_false ?_) (hk z u o fu)
      show ¬ (z.n : Int) > 1048576
      have hzn : z.n = l.length + n := hzn
      omega
theorem spec_r2_Zig {n : Int} (hn : -4611686018427387904 ≤ n ∧ n ≤ 4611686018427387903) {K : Res [.sc (.int .u64)] → W R} (hk : K (zigM n) Q w) : callW Tryz.prog k_pinnaceref02_Zig [.int .i64 n] [.sc (.int .u64)] K Q w := by
  refine C_pinnaceref02_Zig _ K Q w ?_
  unfold F_pinnaceref02_Zig
  unfold zigM at hk
  refine condD (fun h => ?_) fun h => ?_
  · rw [if_neg (by omega)] at hk
    rw [w64 (x := -1 - n) (by omega), wU64 (x := -1 - n) (by omega), wU64 (x := 2 * (-1 - n)) (by omega), wU64 (by omega)]
    have : 2 * (-1 - n) + 1 = -2 * n - 1 := by omega
    rw [this]
    exact hk
  · rw [if_pos (by omega)] at hk
    rw [wU64 (x := n) (by omega), wU64 (by omega)]
    exact hk
theorem spec_r2_Width {lo hi : Int} (h1 : -9223372036854775808 ≤ lo ∧ lo ≤ 9223372036854775807) (h2 : -9223372036854775808 ≤ hi ∧ hi ≤ 9223372036854775807) {K : Res [.sc (.int .i64)] → W R} (hk : K (widthM lo hi : Int) Q w) : callW Tryz.prog k_pinnaceref02_Width [.int .i64 lo, .int .i64 hi] [.sc (.int .i64)] K Q w := by
  refine C_pinnaceref02_Width _ _ K Q w ?_
  unfold F_pinnaceref02_Width
  refine joinI (fun z u => z = (widthM lo hi : Int) ∧ w = u) ?_ fun z u ⟨hz, hu⟩ => by subst hz; subst hu; exact hk
  refine condD (fun h => ?_) fun h => ?_
  · have h : lo ≤ hi := h
    rw [w64_range h1.1 h h2.2]
    have hw : widthM lo hi = Lib.bitLen (hi - lo).toNat := by unfold widthM; rw [if_neg (by omega)]
    rw [hw]
    obtain ⟨D, hD⟩ : ∃ D, D = (hi - lo).toNat := ⟨_, rfl⟩
    have hD2 : D < 18446744073709551616 := by omega
    have e : hi - lo = (D : Int) := by omega
    rw [e, Int.toNat_natCast]
    have hb : Lib.bitLen D ≤ 64 := Lib.bitLen_le D 64 (by omega) (by omega)
    refine loopI (fun (st : Int × Int) u => w = u ∧ ∃ k d : Nat, st = ((k : Int), (d : Int)) ∧ d ≤ D ∧ k + Lib.bitLen d = Lib.bitLen D) (fun st _ => st.2.toNat) ⟨rfl, 0, D, rfl, Nat.le_refl _, by omega⟩ ?_
    rintro st u ⟨rfl, k, d, rfl, hd, hkd⟩
    dsimp only
    refine condD (fun hp => ?_) fun hp => ?_
    · have hp : (d : Int) > 0 := hp
      have h2 := Lib.bitLen_half d (by omega) (by omega)
      rw [Int.tdiv_eq_ediv_of_nonneg (by omega), wU64 (x := (d : Int) / 2) (by omega), w64 (by omega)]
      refine ⟨⟨rfl, k + 1, d / 2, by congr 1, by omega, by omega⟩, by omega⟩
    · have hp : ¬ (d : Int) > 0 := hp
      have : d = 0 := by omega
      subst this
      have h0 : Lib.bitLen 0 = 0 := by decide +kernel
      exact ⟨by rw [h0] at hkd; omega, rfl⟩
  · unfold widthM
    rw [if_pos (by have h : ¬ hi ≥ lo := h; omega)]
    exact ⟨rfl, rfl⟩
theorem spec_r2_In {n lo hi : Int} (h1 : -9223372036854775808 ≤ lo) (h2 : lo ≤ n) (h3 : n ≤ hi) (h4 : hi ≤ 9223372036854775807) {K : Res [.sc .sl, .sc (.int .i64)] → W R} (hk : ∀ r w', Own (Up w.heap.size) w' 4 boolT r (inB n lo hi) → Fr None w w' → K (r, 0) Q w') :
    callW Tryz.prog k_pinnaceref02_In [.int .i64 n, .int .i64 lo, .int .i64 hi] [.sc .sl, .sc (.int .i64)] K Q w := by
  refine C_pinnaceref02_In _ _ _ K Q w ?_
  unfold F_pinnaceref02_In
  refine condF (decide_eq_false (by omega)) ?_
  refine joinI (fun z u => z = false ∧ w = u) ?_ ?_
  · exact condF (decide_eq_false (by omega)) ⟨decide_eq_false (by omega), rfl⟩
  rintro z u ⟨rfl, rfl⟩
  refine condF rfl (spec_r2_Width (by omega) (by omega) ?_)
  rw [w64_range h1 h2 (by omega)]
  have hw := width_lt h2 h3 (by omega)
  have hl := width_le (lo := lo) (hi := hi) (by omega)
  have e : n - lo = (((n - lo).toNat : Nat) : Int) := by omega
  rw [e]
  exact spec_r1_Put (s := ⟨none, 0, 0⟩) (l := []) (ok := None) (SlT.nil _) hl (by simpa using hw) (by simp; omega) fun r w' o f => hk r w' (by simpa [inB] using o) f
theorem groups_next {v j : Nat} (hv : v < 18446744073709551616) : j + 1 < groupsM v ↔ 0 < v / 2 ^ (4 * (j + 1)) := by
  unfold groupsM
  rcases Nat.eq_zero_or_pos v with rfl | hp
  · have h0 : Lib.bitLen 0 = 0 := by decide +kernel
    rw [h0]
    simp
  · obtain ⟨h1, h2, h3⟩ := Lib.bitLenAux_bounds 64 v hv (by omega)
    have h1 : 1 ≤ Lib.bitLen v := h1
    have h2 : 2 ^ (Lib.bitLen v - 1) ≤ v := h2
    have h3 : v < 2 ^ Lib.bitLen v := h3
    constructor
    · intro h
      refine Nat.div_pos (Nat.le_trans (Nat.pow_le_pow_right (by decide) (by omega)) h2) (Nat.two_pow_pos _)
    · intro h
      refine Classical.byContradiction fun hc => ?_
      have : v < 2 ^ (4 * (j + 1)) := Nat.lt_of_lt_of_le h3 (Nat.pow_le_pow_right (by decide) (by omega))
      rw [Nat.div_eq_of_lt this] at h
      omega
theorem grp_bits {v j : Nat} (hv : v < 18446744073709551616) : bitsOf (grpV v (groupsM v) j) 5 = bitsOf (v / 2 ^ (4 * j)) 4 ++ [decide (0 < v / 2 ^ (4 * (j + 1)))] := by
  have h5 : ∀ x : Nat, bitsOf x 5 = bitsOf x 4 ++ [x.testBit 4] := fun x => rfl
  rw [h5]
  have hq : grpV v (groupsM v) j % 2 ^ 4 = v / 2 ^ (4 * j) % 2 ^ 4 := by
    unfold grpV
    show _ % 16 = _ % 16
    split <;> omega
  congr 1
  · rw [← bits_mod _ 4, hq, bits_mod]
  · rw [Nat.testBit_eq_decide_div_mod_eq]
    congr 1
    rw [decide_eq_decide, ← groups_next hv]
    unfold grpV
    show _ / 16 % 2 = 1 ↔ _
    split <;> omega
theorem spec_r2_Var {v : Nat} (hv : v < 18446744073709551616) {K : Res [.sc .sl] → W R} (hk : ∀ r w', Own (Up w.heap.size) w' 4 boolT r (varB v) → Fr None w w' → K r Q w') :
    callW Tryz.prog k_pinnaceref02_Var [.int .u64 (v : Int)] [.sc .sl] K Q w := by
  refine C_pinnaceref02_Var _ K Q w ?_
  unfold F_pinnaceref02_Var
  have hg := groupsM_le (v := (v : Int)) (by omega) (by omega)
  rw [Int.toNat_natCast] at hg
  refine loopI (fun (st : Int × Sl) u => ∃ j : Nat, j < groupsM v ∧ st.1 = ((v / 2 ^ (4 * j) : Nat) : Int) ∧ Own (Up w.heap.size) u 4 boolT st.2 (varL v (groupsM v) j) ∧ Fr None w u) (fun st _ => st.1.toNat) ⟨0, by omega, by simp, Own.nil _ _ _ _, Fr.refl _ _⟩ ?_
  rintro ⟨a, s⟩ u ⟨j, hj, rfl, o, fu⟩
  dsimp only at o ⊢
  have hl := varL_len v (groupsM v) j
  have hvj : v / 2 ^ (4 * j) < 18446744073709551616 := Nat.lt_of_le_of_lt (Nat.div_le_self _ _) hv
  refine forI (N := 4) (fun s : Int × Sl × Int => s.2.2) (fun i st u => st.2.2 = (i : Int) ∧ st.1 = ((v / 2 ^ (4 * j) / 2 ^ i : Nat) : Int) ∧ Own (Up w.heap.size) u 4 boolT st.2.1 (varL v (groupsM v) j ++ bitsOf (v / 2 ^ (4 * j)) i) ∧ Fr None w u) ⟨rfl, by simp, by simpa [bitsOf] using o, fu⟩ (fun j s w' h => h.1) ?_ ?_
  · rintro i ⟨a, z, _⟩ u K' hi ⟨rfl, rfl, o, fu⟩ - hK
    have hz := fu.size
    have hli := bitsOf_len (v / 2 ^ (4 * j)) i
    refine appP (x := (Int.tmod ((v / 2 ^ (4 * j) / 2 ^ i : Nat) : Int) 2 == 1)) bools_ty rfl o (fun k e => by show w.heap.size ≤ k; omega) (by simp only [List.length_append, hli, hl]; omega) (by simp only [List.length_append, hli, hl]; omega) fun r u2 o2 f2 => ?_
    refine hK _ _ ⟨wsucc hi (by omega), half_of hvj, ?_, fu.newer f2 fun k e => o.own k e⟩
    rw [bit_of, List.append_assoc] at o2
    exact o2
  · rintro ⟨a, z, _⟩ u ⟨_, rfl, o, fu⟩
    have hz := fu.size
    have e16 : v / 2 ^ (4 * j) / 2 ^ 4 = v / 2 ^ (4 * (j + 1)) := by rw [Nat.div_div_eq_div_mul, ← Nat.pow_add]; rfl
    dsimp only
    rw [e16]
    have hli := bitsOf_len (v / 2 ^ (4 * j)) 4
    have eb : decide (((v / 2 ^ (4 * (j + 1)) : Nat) : Int) > 0) = decide (0 < v / 2 ^ (4 * (j + 1))) := decide_eq_decide.2 (by omega)
    rw [eb]
    refine appP (x := decide (0 < v / 2 ^ (4 * (j + 1)))) bools_ty rfl o (fun k e => by show w.heap.size ≤ k; omega) (by simp only [List.length_append, hli, hl]; omega) (by simp only [List.length_append, hli, hl]; omega) fun r u2 o2 f2 => ?_
    rw [List.append_assoc, ← grp_bits hv] at o2
    have o2 : Own (Up w.heap.size) u2 4 boolT r (varL v (groupsM v) (j + 1)) := o2
    have f2' := fu.newer f2 fun k e => o.own k e
    refine condE (fun h0 => ?_) fun h0 => ?_
    · have hn := groups_next (j := j) hv
      have : j + 1 = groupsM v := by
        have h0 : v / 2 ^ (4 * (j + 1)) = 0 := by exact_mod_cast h0
        have := fun h => Nat.not_lt_zero 0 (h0 ▸ hn.1 h)
        omega
      rw [this] at o2
      exact hk r u2 o2 f2'
    · have hn := groups_next (j := j) hv
      have hpos : 0 < v / 2 ^ (4 * (j + 1)) := Nat.pos_of_ne_zero fun h => h0 (by rw [h]; rfl)
      refine ⟨⟨j + 1, hn.2 hpos, rfl, o2, f2'⟩, ?_⟩
      simp only [Int.toNat_natCast]
      rw [← e16]
      have : 0 < v / 2 ^ (4 * j) := by rw [← e16] at hpos; exact Nat.lt_of_lt_of_le hpos (Nat.div_le_self _ _)
      exact Nat.div_lt_self this (by decide)
end Go.Proofs.YtchhhjlpnecjkaaGreat
namespace Go.Proofs.YtchhhjlpnecjkaaGreat
open Go Go.RowKit Go.Proofs.YtchhhjlpnecjkaaGreat.Den
variable {R : Type} {Q : R → World → Prop} {w : World}
theorem appB {n : Nat} {ok : Nat → Prop} {s s2 : Sl} {l l2 : List Bool} (h : Own (Up n) w 4 boolT s l) (hn : n ≤ w.heap.size) (h2 : SlT ok w boolT s2 l2) (hm : l.length + l2.length ≤ 140737488355328) {K : Sl → W R} (hk : ∀ r w', Own (Up n) w' 4 boolT r (l ++ l2) → Fr (Up n) w w' → K r Q w') :
    rawW Tryz.prog (Builtin.append_ #[70, 70] 70 #[.slice s.a s.n s.c, .slice s2.a s2.n s2.c]) [.sc .sl] K Q w :=
  appI bools_ty (S' := Up n) h h2 (by omega) (by rw [maxLen_eq]; omega) (fun _ h => h) (by show n ≤ _; exact hn) fun r w' o f _ => hk r w' o (f.sub fun k e => h.own k e)
theorem inB_len (n lo hi : Int) : (inB n lo hi).length = widthM lo hi := bitsOf_len _ _
theorem partB_len (p : Part) : (partB p).length = p.2.toNat := bitsOf_len _ _
theorem flat_le {α β : Type} (f : α → List β) (m : Nat) : ∀ l : List α, (∀ a ∈ l, (f a).length ≤ m) → (l.flatMap f).length ≤ m * l.length
  | [], _ => by simp
  | a :: r, h => by
    have h1 := h a List.mem_cons_self
    have h2 := flat_le f m r fun x hx => h x (List.mem_cons_of_mem _ hx)
    rw [List.flatMap_cons, List.length_append, List.length_cons, Nat.mul_succ]
    omega
theorem spec_r6_Put {c : Comp} (h : checkM c = 0) (hc : CompOk c) {K : Res [.sc .sl, .sc (.int .i64)] → W R} (hk : ∀ r w', Own (Up w.heap.size) w' 4 boolT r (compB c) → Fr None w w' → K (r, 0) Q w') :
    callW Tryz.prog k_pinnaceref06_Put [.agg ⟨compC c⟩] [.sc .sl, .sc (.int .i64)] K Q w := by
  refine C_pinnaceref06_Put c K Q w ?_
  unfold F_pinnaceref06_Put
  have hcn := cntM_le c.1
  refine newI fun w1 B1 f1 z1 => aggI B1 (x := c) rfl (spec_r5_Check hc.1.1 fun w2 f2 => ?_)
  rw [h]
  have f02 := f1.then0 f2
  refine condF rfl (fldI (B1.fr f2 fun h => h) (i := 0) (x := c.1) rfl (spec_r5_Count hc.1.1 fun w3 f3 => ?_))
  have f03 := f02.then0 f3
  have B3 := (B1.fr f2 fun h => h).fr f3 fun h => h
  have hz3 := f03.size
  refine forI (N := cntM c.1) (fun s : Sl × Int => s.2) (fun j st u => st.2 = (j : Int) ∧ Own (Up w3.heap.size) u 4 boolT st.1 ((List.range j).flatMap fun i => partB (fieldP c i)) ∧ Fr None w3 u) ⟨rfl, Own.nil _ _ _ _, Fr.refl _ _⟩ (fun j s w' h => h.1) ?_ ?_
  · rintro j ⟨a, _⟩ u K' hj ⟨rfl, o, fu⟩ - hK
    have Bu := B3.fr fu fun h => h
    obtain ⟨h1, h2⟩ := check_at h hj
    obtain ⟨r1, r2⟩ := rangeM_i32 c.1 (j : Int)
    refine fldI Bu (i := 0) (x := c.1) rfl (spec_r5_Range hc.1.1 fun u2 g2 => ?_)
    refine fIdx rfl (by omega) (fld0 (Bu.fr g2 fun h => h) (x := fl c j) (compC_fl c (by omega)) ?_)
    have hfl := flI hc j
    rw [w64 (x := fl c j) (by omega), w64 (x := (rangeM c.1 (j : Int)).1) (by omega), w64 (x := (rangeM c.1 (j : Int)).2.1) (by omega)]
    refine spec_r2_In (by omega) h1 h2 (by omega) fun r u3 o3 g3 => ?_
    have g23 := g2.then0 g3
    have hzu := fu.size
    have hz2 := g2.size
    have hz3' := g3.size
    have hl : ((List.range j).flatMap fun i => partB (fieldP c i)).length ≤ 64 * (List.range j).length := flat_le _ 64 _ fun i hi => by
      obtain ⟨q1, q2⟩ := rangeM_i32 c.1 (i : Int)
      have := width_le (lo := (rangeM c.1 (i : Int)).1) (hi := (rangeM c.1 (i : Int)).2.1) (by omega)
      rw [partB_len]
      unfold fieldP
      rw [Int.toNat_natCast]
      exact this
    rw [List.length_range] at hl
    have hw := width_le (lo := (rangeM c.1 (j : Int)).1) (hi := (rangeM c.1 (j : Int)).2.1) (by omega)
    have hil := inB_len (fl c j) (rangeM c.1 (j : Int)).1 (rangeM c.1 (j : Int)).2.1
    refine appB (o.none g23) (by omega) o3.sl (by omega) fun r2 u4 o4 g4 => ?_
    refine hK _ _ ⟨wsucc hj (by omega), ?_, (fu.then0 g23).newer g4 fun k e => e⟩
    rw [List.range_succ, List.flatMap_append, List.flatMap_cons, List.flatMap_nil, List.append_nil, fieldB h1 h2]
    exact o4
  · rintro ⟨a, _⟩ u ⟨_, o, fu⟩
    refine hk a u ?_ (f03.then0 fu)
    rw [compB_eq]
    exact o.up hz3
theorem spec_r6_Step {was c : Comp} (h : pairM was c = 0) (hw : CompOk was) (hc : CompOk c) {K : Res [.sc .sl, .sc (.int .i64)] → W R} (hk : ∀ r w', Own (Up w.heap.size) w' 4 boolT r (stepB2 was c) → Fr None w w' → K (r, 0) Q w') :
    callW Tryz.prog k_pinnaceref06_Step [.agg ⟨compC was⟩, .agg ⟨compC c⟩] [.sc .sl, .sc (.int .i64)] K Q w := by
  refine C_pinnaceref06_Step was c K Q w ?_
  unfold F_pinnaceref06_Step
  have hcw : checkM was = 0 := by unfold pairM at h; split at h <;> omega
  obtain ⟨hk1, hcc⟩ := pair_kind h
  have hcn := cntM_le c.1
  refine newI fun w1 B1 f1 z1 => newI fun w2 B2 f2 z2 => ?_
  have B1 := B1.fr f2 fun h => h
  refine aggI B1 (x := was) rfl (spec_r5_Check hw.1.1 fun w3 f3 => ?_)
  rw [hcw]
  have B1 := B1.fr f3 fun h => h
  have B2 := B2.fr f3 fun h => h
  refine condF rfl (aggI B2 (x := c) rfl (spec_r5_Check hc.1.1 fun w4 f4 => ?_))
  rw [hcc]
  have B1 := B1.fr f4 fun h => h
  have B2 := B2.fr f4 fun h => h
  refine condF rfl (fldI B1 (i := 0) (x := was.1) rfl (fldI B2 (i := 0) (x := c.1) rfl ?_))
  refine condF (by simp [hk1]) (fldI B2 (i := 0) (x := c.1) rfl (spec_r5_Count hc.1.1 fun w5 f5 => ?_))
  have B1 := B1.fr f5 fun h => h
  have B2 := B2.fr f5 fun h => h
  have f05 := (((f1.then0 f2).then0 f3).then0 f4).then0 f5
  have hz5 := f05.size
  refine forI (N := cntM c.1) (fun s : Sl × Int => s.2) (fun j st u => st.2 = (j : Int) ∧ Own (Up w5.heap.size) u 4 boolT st.1 ((List.range j).flatMap fun i => (oneP was c i).flatMap partB) ∧ Fr None w5 u) ⟨rfl, Own.nil _ _ _ _, Fr.refl _ _⟩ (fun j s w' h => h.1) ?_ ?_
  · rintro j ⟨a, _⟩ u K' hj ⟨rfl, o, fu⟩ - hK
    have fd : Fr None u u.drew := (Fr.refl _ _).drew
    have fud := fu.then0 fd
    have o := o.none fd
    have B1u := B1.fr fud fun h => h
    have B2u := B2.fr fud fun h => h
    have hzu : w5.heap.size ≤ u.drew.heap.size := fud.size
    obtain ⟨h1, h2⟩ := check_at hcc hj
    obtain ⟨r1, r2⟩ := rangeM_i32 c.1 (j : Int)
    have hflc := flI hc j
    have hflw := flI hw j
    have hzn := zigM_nn (fl c j - fl was j)
    have hwd := width_le (lo := (rangeM c.1 (j : Int)).1) (hi := (rangeM c.1 (j : Int)).2.1) (by omega)
    have hl : ((List.range j).flatMap fun i => (oneP was c i).flatMap partB).length ≤ 1000 * (List.range j).length := flat_le _ 1000 _ fun i hi => by
      obtain ⟨q1, q2⟩ := rangeM_i32 c.1 (i : Int)
      have := width_le (lo := (rangeM c.1 (i : Int)).1) (hi := (rangeM c.1 (i : Int)).2.1) (by omega)
      unfold oneP
      split
      · simp [partB_len]
      · split
        · simp [partB_len]
        · simp only [List.flatMap_cons, List.flatMap_nil, List.length_append, partB_len, List.length_nil]
          unfold fieldP
          rw [Int.toNat_natCast]
          show 1 + (1 + (widthM (rangeM c.1 (i : Int)).1 (rangeM c.1 (i : Int)).2.1 + 0)) ≤ 1000
          omega
    rw [List.length_range] at hl
    refine joinI (fun z v => Own (Up w5.heap.size) v 4 boolT z ((List.range (j + 1)).flatMap fun i => (oneP was c i).flatMap partB) ∧ Fr None w5 v) ?_ ?_
    · refine fIdx rfl (by omega) (fld0 B2u (x := fl c j) (compC_fl c (by omega)) ?_)
      refine fIdx rfl (by omega) (fld0 B1u (x := fl was j) (compC_fl was (by omega)) ?_)
      rw [w64 (x := fl c j) (by omega), w64 (x := fl was j) (by omega), w64 (x := fl c j - fl was j) (by omega)]
      refine spec_r2_Zig (by omega) ?_
      rw [List.range_succ, List.flatMap_append, List.flatMap_cons, List.flatMap_nil, List.append_nil]
      have p1 : ∀ b : Bool, partB ((if b then 1 else 0 : Int), 1) = [b] := fun b => by cases b <;> rfl
      refine appP (x := decide (zigM (fl c j - fl was j) > 0)) bools_ty rfl o (fun k e => by show w5.heap.size ≤ k; omega) (by omega) (by omega) fun r u2 o2 g2 => ?_
      have fu2 := fud.newer g2 fun k e => o.own k e
      refine condE (fun hz => ?_) fun hz => ?_
      · refine ⟨?_, fu2⟩
        unfold oneP
        rw [if_pos hz]
        rw [show decide (zigM (fl c j - fl was j) > 0) = false from decide_eq_false (by omega)] at o2
        exact o2
      · have e1 : decide (zigM (fl c j - fl was j) > 0) = true := decide_eq_true (by omega)
        rw [e1] at o2
        have hzu2 := g2.size
        have hlen2 : ((List.range j).flatMap fun i => (oneP was c i).flatMap partB).length + 1 ≤ 4000 := by omega
        refine appP (x := decide (zigM (fl c j - fl was j) ≤ 16)) bools_ty rfl o2 (fun k e => by show w5.heap.size ≤ k; omega) (by simp only [List.length_append, List.length_singleton]; omega) (by simp only [List.length_append, List.length_singleton]; omega) fun r3 u3 o3 g3 => ?_
        have fu3 := fu2.newer g3 fun k e => o2.own k e
        have hzu3 := g3.size
        refine condD (fun hn => ?_) fun hn => ?_
        · have e4 : IntKind.wrap .u64 (zigM (fl c j - fl was j) - 1) = (((zigM (fl c j - fl was j) - 1).toNat : Nat) : Int) := by rw [wU64 (by omega)]; omega
          rw [e4]
          refine spec_r1_Put (n := 4) o3.sl (by omega) (by show _ < 16; omega) (by simp only [List.length_append, List.length_singleton]; omega) fun r4 u4 o4 g4 => ⟨?_, fu3.then0 g4⟩
          have o4 := o4.up (m := w5.heap.size) (by omega)
          unfold oneP
          rw [if_neg hz, if_pos hn]
          rw [show decide (zigM (fl c j - fl was j) ≤ 16) = true from decide_eq_true hn] at o4
          simp only [List.append_assoc] at o4
          exact o4
        · refine fldI (B2.fr fu3 fun h => h) (i := 0) (x := c.1) rfl (spec_r5_Range hc.1.1 fun u4 g4 => ?_)
          refine fIdx rfl (by omega) (fld0 ((B2.fr fu3 fun h => h).fr g4 fun h => h) (x := fl c j) (compC_fl c (by omega)) ?_)
          rw [w64 (x := fl c j) (by omega), w64 (x := (rangeM c.1 (j : Int)).1) (by omega), w64 (x := (rangeM c.1 (j : Int)).2.1) (by omega)]
          refine spec_r2_In (by omega) h1 h2 (by omega) fun r5 u5 o5 g5 => ?_
          have g45 := g4.then0 g5
          have hzu4 := g4.size
          have hzu5 := g5.size
          have hil := inB_len (fl c j) (rangeM c.1 (j : Int)).1 (rangeM c.1 (j : Int)).2.1
          refine appB (o3.none g45) (by omega) o5.sl (by simp only [List.length_append, List.length_singleton]; omega) fun r6 u6 o6 g6 => ⟨?_, (fu3.then0 g45).newer g6 fun k e => e⟩
          unfold oneP
          rw [if_neg hz, if_neg hn]
          rw [show decide (zigM (fl c j - fl was j) ≤ 16) = false from decide_eq_false hn] at o6
          rw [← fieldB h1 h2] at o6
          simp only [List.append_assoc] at o6
          simp only [List.flatMap_cons, List.flatMap_nil, List.append_nil]
          exact o6
    · rintro z v ⟨o2, f2⟩
      exact hK _ _ ⟨wsucc hj (by omega), o2, f2⟩
  · rintro ⟨a, _⟩ u ⟨_, o, fu⟩
    refine hk a u ?_ (f05.then0 fu)
    have e : stepB2 was c = (List.range (cntM c.1)).flatMap fun i => (oneP was c i).flatMap partB := by
      unfold stepB2 partsB stepP
      rw [List.flatMap_assoc]
      rfl
    rw [e]
    exact o.up hz5
end Go.Proofs.YtchhhjlpnecjkaaGreat
namespace Go.Proofs.YtchhhjlpnecjkaaGreat
open Go Go.RowKit Go.Proofs.YtchhhjlpnecjkaaGreat.Den
variable {R : Type} {Q : R → World → Prop} {w : World}
theorem spec_r20_Check {h : Head} (hok : HeadOk h) {K : Res [.sc (.int .i64)] → W R} (hk : ∀ w', Fr None w w' → K (headE h) Q w') :
    callW Tryz.prog k_pinnaceref20_Check [.agg ⟨[.int .u8 h.1, .int .u8 h.2.1, .int .u32 h.2.2.1, .int .u32 h.2.2.2.1, .int .u32 h.2.2.2.2]⟩] [.sc (.int .i64)] K Q w := by
  refine C_pinnaceref20_Check h K Q w ?_
  unfold F_pinnaceref20_Check
  obtain ⟨⟨k0, k1⟩, ⟨c0, c1⟩, ⟨e0, e1⟩, ⟨t0, t1⟩, ⟨b0, b1⟩⟩ := hok
  unfold headE at hk
  refine newI fun w1 B f1 s1 => ?_
  have r0 : ∀ {σ : Type} {K : Int → W σ} {Q : σ → World → Prop}, K h.1 Q w1 → ld (.sc (.int .u8)) (Addr.add ⟨w.heap.size, 0, none⟩ 0) K Q w1 := fun hk => fldI B (i := 0) (x := h.1) rfl hk
  have r1 : ∀ {σ : Type} {K : Int → W σ} {Q : σ → World → Prop}, K h.2.1 Q w1 → ld (.sc (.int .u8)) (Addr.add ⟨w.heap.size, 0, none⟩ 1) K Q w1 := fun hk => fldI B (i := 1) (x := h.2.1) rfl hk
  have r2 : ∀ {σ : Type} {K : Int → W σ} {Q : σ → World → Prop}, K h.2.2.1 Q w1 → ld (.sc (.int .u32)) (Addr.add ⟨w.heap.size, 0, none⟩ 2) K Q w1 := fun hk => fldI B (i := 2) (x := h.2.2.1) rfl hk
  have r3 : ∀ {σ : Type} {K : Int → W σ} {Q : σ → World → Prop}, K h.2.2.2.1 Q w1 → ld (.sc (.int .u32)) (Addr.add ⟨w.heap.size, 0, none⟩ 3) K Q w1 := fun hk => fldI B (i := 3) (x := h.2.2.2.1) rfl hk
  have r4 : ∀ {σ : Type} {K : Int → W σ} {Q : σ → World → Prop}, K h.2.2.2.2 Q w1 → ld (.sc (.int .u32)) (Addr.add ⟨w.heap.size, 0, none⟩ 4) K Q w1 := fun hk => fldI B (i := 4) (x := h.2.2.2.2) rfl hk
  refine joinI (fun z w' => z = decide (h.1 < 1 ∨ 5 < h.1 ∨ 16 ≤ h.2.1) ∧ w1 = w') ?_ ?_
  · refine r0 (condD (fun a => ⟨(decide_eq_true (.inl a)).symm, rfl⟩) fun a => r0 (condD (fun b => ⟨(decide_eq_true (.inr (.inl b))).symm, rfl⟩) fun b => r1 ⟨decide_eq_decide.2 (by omega), rfl⟩))
  rintro z w2 ⟨rfl, rfl⟩
  refine condD (fun a => ?_) fun a => ?_
  · rw [if_pos a] at hk
    exact hk _ f1
  rw [if_neg a] at hk
  refine joinI (fun z w' => z = decide (h.2.2.1 = 0 ∨ (3 < h.1 ∧ h.2.2.2.1 ≠ 0) ∨ (h.1 ≠ 2 ∧ h.2.2.2.2 ≠ 0) ∨ (h.1 = 2 ∧ h.2.2.2.1 ≤ h.2.2.2.2)) ∧ w1 = w') ?_ ?_
  · have last : ∀ (_ : h.2.2.1 ≠ 0) (_ : ¬ (3 < h.1 ∧ h.2.2.2.1 ≠ 0)), ld (.sc (.int .u8)) (Addr.add ⟨w.heap.size, 0, none⟩ 0) (fun x_19 => cond (x_19 != 2)
        (ld (.sc (.int .u32)) (Addr.add ⟨w.heap.size, 0, none⟩ 4) fun (x_20 : Int) => cond (decide (x_20 > 0)) (fun (_ : Int → World → Prop) w' => true = decide (h.2.2.1 = 0 ∨ (3 < h.1 ∧ h.2.2.2.1 ≠ 0) ∨ (h.1 ≠ 2 ∧ h.2.2.2.2 ≠ 0) ∨ (h.1 = 2 ∧ h.2.2.2.1 ≤ h.2.2.2.2)) ∧ w1 = w')
          (ld (.sc (.int .u8)) (Addr.add ⟨w.heap.size, 0, none⟩ 0) fun (x_21 : Int) => cond (x_21 == 2)
            (ld (.sc (.int .u32)) (Addr.add ⟨w.heap.size, 0, none⟩ 4) fun (x_22 : Int) => ld (.sc (.int .u32)) (Addr.add ⟨w.heap.size, 0, none⟩ 3) fun (x_23 : Int) => fun (_ : Int → World → Prop) w' => decide (x_22 ≥ x_23) = decide (h.2.2.1 = 0 ∨ (3 < h.1 ∧ h.2.2.2.1 ≠ 0) ∨ (h.1 ≠ 2 ∧ h.2.2.2.2 ≠ 0) ∨ (h.1 = 2 ∧ h.2.2.2.1 ≤ h.2.2.2.2)) ∧ w1 = w')
            (fun (_ : Int → World → Prop) w' => false = decide (h.2.2.1 = 0 ∨ (3 < h.1 ∧ h.2.2.2.1 ≠ 0) ∨ (h.1 ≠ 2 ∧ h.2.2.2.2 ≠ 0) ∨ (h.1 = 2 ∧ h.2.2.2.1 ≤ h.2.2.2.2)) ∧ w1 = w')))
        (ld (.sc (.int .u8)) (Addr.add ⟨w.heap.size, 0, none⟩ 0) fun (x_24 : Int) => cond (x_24 == 2)
            (ld (.sc (.int .u32)) (Addr.add ⟨w.heap.size, 0, none⟩ 4) fun (x_25 : Int) => ld (.sc (.int .u32)) (Addr.add ⟨w.heap.size, 0, none⟩ 3) fun (x_26 : Int) => fun (_ : Int → World → Prop) w' => decide (x_25 ≥ x_26) = decide (h.2.2.1 = 0 ∨ (3 < h.1 ∧ h.2.2.2.1 ≠ 0) ∨ (h.1 ≠ 2 ∧ h.2.2.2.2 ≠ 0) ∨ (h.1 = 2 ∧ h.2.2.2.1 ≤ h.2.2.2.2)) ∧ w1 = w')
            (fun (_ : Int → World → Prop) w' => false = decide (h.2.2.1 = 0 ∨ (3 < h.1 ∧ h.2.2.2.1 ≠ 0) ∨ (h.1 ≠ 2 ∧ h.2.2.2.2 ≠ 0) ∨ (h.1 = 2 ∧ h.2.2.2.1 ≤ h.2.2.2.2)) ∧ w1 = w'))) (fun r w => K r Q w) w1 := by
      intro q1 q2
      refine r0 (condN (fun a2 => r4 (condD (fun a3 => ⟨(decide_eq_true (by omega)).symm, rfl⟩) fun a3 => r0 (condE (fun a4 => absurd a4 a2) fun a4 => ⟨(decide_eq_false (by omega)).symm, rfl⟩))) fun a2 => ?_)
      exact r0 (condE (fun a4 => r4 (r3 ⟨decide_eq_decide.2 (by omega), rfl⟩)) fun a4 => absurd a2 a4)
    refine r2 (condE (fun q => ⟨(decide_eq_true (.inl q)).symm, rfl⟩) fun q1 => r0 (condD (fun q2 => r3 (condD (fun q3 => ⟨(decide_eq_true (by omega)).symm, rfl⟩) fun q3 => ?_)) fun q2 => ?_))
    · exact last q1 (by omega)
    · exact last q1 (by omega)
  rintro z w2 ⟨rfl, rfl⟩
  refine condD (fun a => ?_) fun a => ?_
  · rw [if_pos a] at hk
    exact hk _ f1
  · rw [if_neg a] at hk
    exact hk _ f1
theorem spec_r20_Head {h : Head} (hok : HeadOk h) (he : headE h = 0) {K : Res [.sc .sl] → W R} (hk : ∀ r w', Own (Up w.heap.size) w' 4 boolT r (headB h) → Fr None w w' → K r Q w') :
    callW Tryz.prog k_pinnaceref20_Head [.agg ⟨[.int .u8 h.1, .int .u8 h.2.1, .int .u32 h.2.2.1, .int .u32 h.2.2.2.1, .int .u32 h.2.2.2.2]⟩] [.sc .sl] K Q w := by
  refine C_pinnaceref20_Head h K Q w ?_
  unfold F_pinnaceref20_Head
  obtain ⟨⟨k0, k1⟩, ⟨c0, c1⟩, ⟨e0, e1⟩, ⟨t0, t1⟩, ⟨b0, b1⟩⟩ := hok
  unfold headE at he
  split at he
  · cases he
  rename_i g1
  refine newI fun w1 B f1 s1 => fldI B (i := 0) (x := h.1) rfl ?_
  rw [w64 (x := h.1) (by omega)]
  refine spec_r2_In (by decide) (by omega) (by omega) (by decide) fun a w2 o2 f2 => ?_
  have B2 := B.fr f2 fun h => h
  refine fldI B2 (i := 1) (x := h.2.1) rfl ?_
  rw [w64 (x := h.2.1) (by omega)]
  refine spec_r2_In (by decide) (by omega) (by omega) (by decide) fun b w3 o3 f3 => ?_
  have fd : Fr None w3 w3.drew := (Fr.refl _ _).drew
  have f3d := f3.then0 fd
  have B3 := B2.fr f3d fun h => h
  have z1 := f1.size
  have z2 := f2.size
  have z3 : w2.heap.size ≤ w3.drew.heap.size := f3d.size
  have l1 := inB_len h.1 1 5
  have l2 := inB_len h.2.1 0 15
  have lw1 : widthM 1 5 ≤ 64 := width_le (by decide)
  have lw2 : widthM 0 15 ≤ 64 := width_le (by decide)
  have hup : ∀ {k : Nat}, w1.heap.size ≤ k → w.heap.size ≤ k := fun h => by omega
  refine fldI B3 (i := 2) (x := h.2.2.1) rfl (appB (n := w1.heap.size) (o2.none f3d) (by omega) (o3.none fd).sl (by omega) fun c w4 o4 f4 => ?_)
  have B4 := B3.fr f4 fun e => by have e : w1.heap.size ≤ w.heap.size := e; omega
  refine andI (B4.rd (s := .int .u32) (i := 2) (x := h.2.2.1) rfl) ?_
  have ev : IntKind.wrap .u64 h.2.2.1 = ((h.2.2.1.toNat : Nat) : Int) := by rw [wU64 (by omega)]; omega
  rw [ev]
  have z4 := f4.size
  refine spec_r2_Var (by omega) fun d w5 o5 f5 => ?_
  have z5 := f5.size
  have lv := varB_len h.2.2.1.toNat
  have lg := groupsM_le (v := h.2.2.1) (by omega) (by omega)
  refine appB (n := w1.heap.size) (o4.none f5) (by omega) o5.sl (by simp only [List.length_append]; omega) fun e w6 o6 f6 => ?_
  have z6 := f6.size
  have n1 : ∀ {u v : World}, Fr (Up w1.heap.size) u v → ¬ Up w1.heap.size w.heap.size := fun _ e => by have e : w1.heap.size ≤ w.heap.size := e; omega
  have B6 := (B4.fr f5 fun h => h).fr f6 (n1 f6)
  have F6 : Fr None w w6 := ((((f1.then0 f2).then0 f3d).newer f4 fun k e => hup e).then0 f5).newer f6 fun k e => hup e
  refine fldI B6 (i := 0) (x := h.1) rfl ?_
  refine joinI (fun z v => Own (Up w1.heap.size) v 4 boolT z (inB h.1 1 5 ++ inB h.2.1 0 15 ++ varB h.2.2.1.toNat ++ (if h.1 ≤ 3 then bitsOf h.2.2.2.1.toNat 32 else [])) ∧ Fr None w v ∧ Blk v w.heap.size 30 [.int .u8 h.1, .int .u8 h.2.1, .int .u32 h.2.2.1, .int .u32 h.2.2.2.1, .int .u32 h.2.2.2.2]) ?_ ?_
  · refine condD (fun h3 => ?_) fun h3 => ?_
    · rw [if_pos h3]
      refine fldI B6 (i := 3) (x := h.2.2.2.1) rfl ?_
      have et : IntKind.wrap .u64 h.2.2.2.1 = ((h.2.2.2.1.toNat : Nat) : Int) := by rw [wU64 (by omega)]; omega
      rw [et]
      exact spec_r1_Put (n := 32) o6.sl (by decide) (by omega) (by simp only [List.length_append]; omega) fun r w7 o7 f7 => ⟨o7.up (by omega), F6.then0 f7, B6.fr f7 fun h => h⟩
    · rw [if_neg h3, List.append_nil]
      exact ⟨o6, F6, B6⟩
  rintro z w7 ⟨o7, F7, B7⟩
  have z7 := F7.size
  have zb := B7.lt
  refine fldI B7 (i := 0) (x := h.1) rfl ?_
  refine joinI (fun z v => Own (Up w1.heap.size) v 4 boolT z (headB h) ∧ Fr None w v) ?_ ?_
  · unfold headB
    refine condE (fun h2 => ?_) fun h2 => ?_
    · rw [if_pos h2]
      refine fldI B7 (i := 3) (x := h.2.2.2.1) rfl (fldI B7 (i := 4) (x := h.2.2.2.2) rfl ?_)
      have e : IntKind.wrap .u64 (IntKind.wrap .u32 (IntKind.wrap .u32 (h.2.2.2.1 - h.2.2.2.2) - 1)) = ((idD h.2.2.2.2 h.2.2.2.1 : Nat) : Int) := by
        have a : ∀ x : Int, IntKind.wrap .u32 x = x % 4294967296 := fun x => by rw [IntKind.wrap_u32]
        rw [a, a, wU64 (by omega)]
        unfold idD
        omega
      rw [e]
      have hi : idD h.2.2.2.2 h.2.2.2.1 < 4294967296 := by unfold idD; omega
      refine spec_r2_Var (by omega) fun d w8 o8 f8 => ?_
      have lv2 := varB_len (idD h.2.2.2.2 h.2.2.2.1)
      have lg2 := groupsM_le (v := (idD h.2.2.2.2 h.2.2.2.1 : Int)) (by omega) (by omega)
      rw [Int.toNat_natCast] at lg2
      have lt32 : (if h.1 ≤ 3 then bitsOf h.2.2.2.1.toNat 32 else []).length ≤ 32 := by split <;> simp [bitsOf_len]
      refine appB (n := w1.heap.size) (o7.none f8) (by have := f8.size; omega) o8.sl (by simp only [List.length_append]; omega) fun r w9 o9 f9 => ⟨?_, (F7.then0 f8).newer f9 fun k e => hup e⟩
      simp only [List.append_assoc] at o9
      exact o9
    · rw [if_neg h2, List.append_nil]
      simp only [List.append_assoc] at o7
      exact ⟨o7, F7⟩
  rintro z v ⟨o, f⟩
  exact hk z v (o.up z1) f
theorem appS {S ok : Nat → Prop} {s s2 : Sl} {l l2 : List Bool} (h : Own S w 4 boolT s l) (hn : ∀ k, w.heap.size ≤ k → S k) (h2 : SlT ok w boolT s2 l2) (hm : l.length + l2.length ≤ 140737488355328) {K : Sl → W R} (hk : ∀ r w', Own S w' 4 boolT r (l ++ l2) → Fr S w w' → K r Q w') :
    rawW Tryz.prog (Builtin.append_ #[70, 70] 70 #[.slice s.a s.n s.c, .slice s2.a s2.n s2.c]) [.sc .sl] K Q w :=
  appI bools_ty (S' := S) h h2 (by omega) (by rw [maxLen_eq]; omega) (fun _ h => h) (hn _ (Nat.le_refl _)) fun r w' o f _ => hk r w' o (f.sub fun k e => h.own k e)
theorem spec_r20_id {S : Nat → Prop} {s : Sl} {l : List Bool} {last id : Int} (o : Own S w 4 boolT s l) (hn : ∀ k, w.heap.size ≤ k → S k) (hl : l.length ≤ 1048576) {K : Res [.sc .sl] → W R} (hk : ∀ r w', Own S w' 4 boolT r (l ++ idBits last id) → Fr S w w' → K r Q w') :
    callW Tryz.prog k_pinnaceref20_id [.slice s.a s.n s.c, .int .u32 last, .int .u32 id] [.sc .sl] K Q w := by
  refine C_pinnaceref20_id s _ _ K Q w ?_
  unfold F_pinnaceref20_id
  have e : IntKind.wrap .u64 (IntKind.wrap .u32 (IntKind.wrap .u32 (id - last) - 1)) = ((idD last id : Nat) : Int) := by
    have a : ∀ x : Int, IntKind.wrap .u32 x = x % 4294967296 := fun x => by rw [IntKind.wrap_u32]
    rw [a, a, wU64 (by omega)]
    unfold idD
    omega
  rw [e]
  have hi : idD last id < 4294967296 := by unfold idD; omega
  refine spec_r2_Var (by omega) fun d w2 o2 f2 => ?_
  have z2 := f2.size
  have lv2 := varB_len (idD last id)
  have lg2 := groupsM_le (v := (idD last id : Int)) (by omega) (by omega)
  rw [Int.toNat_natCast] at lg2
  exact appS (o.none f2) (fun k e => hn k (by omega)) o2.sl (by omega) fun r w3 o3 f3 => hk r w3 o3 (f2.any.then f3)
theorem idBits_le (last id : Int) : (idBits last id).length ≤ 80 := by
  have hi : idD last id < 4294967296 := by unfold idD; omega
  have lg2 := groupsM_le (v := (idD last id : Int)) (by omega) (by omega)
  rw [Int.toNat_natCast] at lg2
  unfold idBits
  rw [varB_len]
  omega
theorem compB_le {c : Comp} : (compB c).length ≤ 192 := by
  rw [compB_eq]
  have h3 := cntM_le c.1
  have := flat_le (fun i => partB (fieldP c i)) 64 (List.range (cntM c.1)) fun i _ => by
    obtain ⟨q1, q2⟩ := rangeM_i32 c.1 (i : Int)
    have := width_le (lo := (rangeM c.1 (i : Int)).1) (hi := (rangeM c.1 (i : Int)).2.1) (by omega)
    show (partB (fieldP c i)).length ≤ 64
    rw [partB_len]
    unfold fieldP
    rw [Int.toNat_natCast]
    exact this
  rw [List.length_range] at this
  omega
theorem spec_r20_comps {S ok : Nat → Prop} {s s2 : Sl} {l : List Bool} {cs : List Comp} (o : Own S w 4 boolT s l) (hn : ∀ k, w.heap.size ≤ k → S k) (hl : l.length + 192 * cs.length ≤ 1048576) (hS : SlT ok w compT s2 cs) (hd : ∀ k, k < w.heap.size → ok k → ¬ S k) (hc : ∀ c ∈ cs, checkM c = 0 ∧ CompOk c) {K : Res [.sc .sl] → W R}
    (hk : ∀ r w', Own S w' 4 boolT r (l ++ compsB cs) → Fr S w w' → K r Q w') :
    callW Tryz.prog k_pinnaceref20_comps [.slice s.a s.n s.c, .slice s2.a s2.n s2.c] [.sc .sl] K Q w := by
  refine C_pinnaceref20_comps s s2 K Q w ?_
  unfold F_pinnaceref20_comps
  have hlen := hS.len
  have hS := hS.mono (ok' := fun k => ok k ∧ k < w.heap.size) fun k hk e => ⟨e, hk⟩
  have nd : ∀ k, ok k ∧ k < w.heap.size → ¬ S k := fun k e e2 => hd k e.2 e.1 e2
  refine forI (N := s2.n) (fun s : Sl × Int => s.2) (fun j st u => st.2 = (j : Int) ∧ Own S u 4 boolT st.1 (l ++ compsB (cs.take j)) ∧ Fr S w u) ⟨rfl, by simpa [compsB] using o, Fr.refl _ _⟩ (fun j s w' h => h.1) ?_ ?_
  · rintro j ⟨a, _⟩ u K' hj ⟨rfl, o, fu⟩ - hK
    have zu := fu.size
    refine (hS.fr fu nd).get rfl rfl (by omega) fun c hcj => ?_
    obtain ⟨h1, h2⟩ := hc c (List.mem_of_getElem? hcj)
    refine newI fun u1 B1 f1 z1 => stoAll B1 rfl rfl fun u2 B2 f2 z2 => aggI B2 (x := c) rfl ?_
    have f12 : Fr None u u2 := f1.newer f2 fun k e => by omega
    refine spec_r6_Put h1 h2 fun r u3 o3 f3 => ?_
    have f13 := f12.then0 f3
    have z3 := f13.size
    have l1 : (compsB (cs.take j)).length ≤ 192 * (cs.take j).length := flat_le _ 192 _ fun c _ => compB_le
    have l2 := compB_le (c := c)
    have l3 : (cs.take j).length ≤ cs.length := by rw [List.length_take]; omega
    refine appS (o.none f13) (fun k e => hn k (by omega)) o3.sl (by simp only [List.length_append]; omega) fun r2 u4 o4 f4 => ?_
    refine hK _ _ ⟨wsucc hj (by omega), ?_, (fu.then0 f13).then f4⟩
    have e : compsB (cs.take (j + 1)) = compsB (cs.take j) ++ compB c := by unfold compsB; rw [take_at hcj, List.flatMap_append]; simp
    rw [e, ← List.append_assoc]
    exact o4
  · rintro ⟨a, _⟩ u ⟨_, o, fu⟩
    rw [List.take_of_length_le (by omega)] at o
    exact hk a u o fu
end Go.Proofs.YtchhhjlpnecjkaaGreat
namespace Go.Proofs.YtchhhjlpnecjkaaGreat
open Go Go.RowKit Go.Proofs.YtchhhjlpnecjkaaGreat.Den
variable {R : Type} {Q : R → World → Prop} {w : World}
def lastF {α : Type} (id : α → Int) (last : Int) (l : List α) : Int := l.foldl (fun _ a => id a) last
theorem lastF_snoc {α : Type} (id : α → Int) (last : Int) (l : List α) (a : α) : lastF id last (l ++ [a]) = id a := by unfold lastF; rw [List.foldl_append]; rfl
theorem encs_app {α : Type} (enc : Int → α → List Bool) (id : α → Int) : ∀ (l k : List α) (last : Int), encs enc id last (l ++ k) = encs enc id last l ++ encs enc id (lastF id last l) k
  | [], _, _ => rfl
  | a :: r, k, last => by
    rw [List.cons_append, encs, encs, encs_app enc id r k (id a), List.append_assoc]
    rfl
theorem encs_snoc {α : Type} (enc : Int → α → List Bool) (id : α → Int) (l : List α) (a : α) (last : Int) : encs enc id last (l ++ [a]) = encs enc id last l ++ enc (lastF id last l) a := by
  rw [encs_app]
  simp [encs]
theorem encs_take {α : Type} (enc : Int → α → List Bool) (id : α → Int) (l : List α) (last : Int) (j : Nat) : (encs enc id last (l.take j)).length ≤ (encs enc id last l).length := by
  have := encs_app enc id (l.take j) (l.drop j) last
  rw [List.take_append_drop] at this
  rw [this, List.length_append]
  omega
def EntTold (e : Ent) : Prop := EntFit e ∧ (∀ c ∈ e.2, checkM c = 0) ∧ maskN e.2 < 32 ∧ e.2.length ≤ 6
theorem entB_le {last : Int} {e : Ent} (h : e.2.length ≤ 6) : (entB last e).length ≤ 1300 := by
  have h1 := idBits_le last e.1
  have h2 : (compsB e.2).length ≤ 192 * e.2.length := flat_le _ 192 _ fun c _ => compB_le
  unfold entB
  rw [List.length_append, List.length_append, bitsOf_len]
  omega
theorem encs_pos {α : Type} {enc : Int → α → List Bool} {id : α → Int} (h : ∀ last a, 1 ≤ (enc last a).length) : ∀ (l : List α) (last : Int), l.length ≤ (encs enc id last l).length
  | [], _ => by simp
  | a :: r, last => by
    have h1 := encs_pos (id := id) h r (id a)
    have h2 := h last a
    rw [encs, List.length_append, List.length_cons]
    omega
theorem varB_pos (v : Nat) : 1 ≤ (varB v).length := by
  rw [varB_len]
  unfold groupsM
  omega
theorem spec_r20_ents {S ok : Nat → Prop} {s s2 : Sl} {raws : List (Int × Sl)} {l : List Bool} {L : List Ent} (o : Own S w 4 boolT s l) (hn : ∀ k, w.heap.size ≤ k → S k) (hS : SlT ok w entT s2 raws) (hE : EntsR ok w raws L) (hd : ∀ k, k < w.heap.size → ok k → ¬ S k) (hL : ∀ e ∈ L, EntTold e) (hl : l.length + (entsB L).length ≤ 1000000) {K : Res [.sc .sl] → W R}
    (hk : ∀ r w', Own S w' 4 boolT r (l ++ entsB L) → Fr S w w' → K r Q w') :
    callW Tryz.prog k_pinnaceref20_ents [.slice s.a s.n s.c, .slice s2.a s2.n s2.c] [.sc .sl] K Q w := by
  refine C_pinnaceref20_ents s s2 K Q w ?_
  unfold F_pinnaceref20_ents
  have hlen := hS.len.trans hE.len
  have hS := hS.mono (ok' := fun k => ok k ∧ k < w.heap.size) fun k hk e => ⟨e, hk⟩
  have hE := hE.mono (ok' := fun k => ok k ∧ k < w.heap.size) fun k hk e => ⟨e, hk⟩
  have nd : ∀ k, ok k ∧ k < w.heap.size → ¬ S k := fun k e e2 => hd k e.2 e.1 e2
  have heb : (entsB L).length = (varB L.length).length + (encs entB (fun e : Ent => e.1) 0 L).length := by unfold entsB; rw [List.length_append]
  have hLl := encs_pos (enc := entB) (id := fun e : Ent => e.1) (fun last a => by unfold entB; rw [List.length_append]; have := varB_pos (idD last a.1); unfold idBits; omega) L 0
  have ew : IntKind.wrap .u64 (s2.n : Int) = ((L.length : Nat) : Int) := by rw [wU64 (by omega)]; omega
  rw [ew]
  refine spec_r2_Var (by omega) fun d w2 o2 f2 => ?_
  have z2 := f2.size
  refine appS (o.none f2) (fun k e => hn k (by omega)) o2.sl (by omega) fun r w3 o3 f3 => ?_
  have f03 : Fr S w w3 := f2.any.then f3
  refine forI (N := s2.n) (fun s : Sl × Int × Int => s.2.2) (fun j st u => st.2.2 = (j : Int) ∧ st.2.1 = lastF (fun e : Ent => e.1) 0 (L.take j) ∧ Own S u 4 boolT st.1 (l ++ varB L.length ++ encs entB (fun e : Ent => e.1) 0 (L.take j)) ∧ Fr S w u) ⟨rfl, rfl, by simpa [encs] using o3, f03⟩ (fun j s w' h => h.1) ?_ ?_
  · rintro j ⟨a, la, _⟩ u K' hj ⟨rfl, rfl, o, fu⟩ - hK
    have zu := fu.size
    obtain ⟨e, he⟩ : ∃ e, L[j]? = some e := ⟨_, List.getElem?_eq_getElem (by omega)⟩
    obtain ⟨r1, hr1, ha1, ha2⟩ := hE.get he
    obtain ⟨⟨⟨i0, i1⟩, hsm, hco⟩, hck, hmk, h6⟩ := hL e (List.mem_of_getElem? he)
    refine (hS.fr fu nd).get rfl rfl (by have := hE.len; omega) fun y hy => ?_
    rw [hr1] at hy
    cases hy
    refine newI fun u1 B1 f1 z1 => stoAll B1 rfl rfl fun u2 B2 f2' z2' => ?_
    have f12 : Fr None u u2 := f1.newer f2' fun k e => by omega
    have fu2 := fu.then0 f12
    have htk := encs_take entB (fun e : Ent => e.1) L 0 j
    have o2 : Own (fun k => S k ∧ k ≠ u.heap.size) u2 4 boolT a (l ++ varB L.length ++ encs entB (fun e : Ent => e.1) 0 (L.take j)) := (o.mono (S' := fun k => S k ∧ k ≠ u.heap.size) fun k hk e => ⟨e, by omega⟩).none f12
    have hn2 : ∀ {v : World}, u2.heap.size ≤ v.heap.size → ∀ k, v.heap.size ≤ k → S k ∧ k ≠ u.heap.size := fun hv k e => ⟨hn k (by omega), by omega⟩
    refine fldI B2 (i := 0) (x := r1.1) rfl ?_
    rw [ha1]
    refine spec_r20_id o2 (hn2 (Nat.le_refl _)) (by simp only [List.length_append]; omega) fun r3 u3 o3 f3' => ?_
    have z3 := f3'.size
    have B3 := B2.fr f3' fun e => e.2 rfl
    have fu3 := fu2.then (f3'.sub fun k e => e.1)
    have li := idBits_le (lastF (fun e : Ent => e.1) 0 (L.take j)) e.1
    refine fldI B3 (i := 0) (x := r1.1) rfl (fldI B3 (i := 1) (x := r1.2) rfl ?_)
    refine spec_r5_Mask (ha2.fr fu3 nd) hsm fun u4 f4 => ?_
    have em : IntKind.wrap .u64 ((maskN e.2 : Nat) : Int) = ((maskN e.2 : Nat) : Int) := by rw [wU64 (by omega)]
    rw [em]
    have z4 := f4.size
    refine spec_r1_Put (n := 5) (o3.none f4).sl (by decide) (by omega) (by simp only [List.length_append]; omega) fun r5 u5 o5 f5 => ?_
    have z5 := f5.size
    have f45 := f4.then0 f5
    have B5 := B3.fr f45 fun h => h
    have fu5 := fu3.then0 f45
    have o5 : Own (fun k => S k ∧ k ≠ u.heap.size) u5 4 boolT r5 _ := o5.mono fun k _ e => by have e : u4.heap.size ≤ k := e; exact ⟨hn k (by omega), by omega⟩
    refine fldI B5 (i := 1) (x := r1.2) rfl ?_
    refine spec_r20_comps o5 (hn2 (by omega)) (by simp only [List.length_append, bitsOf_len]; omega) (ha2.fr fu5 nd) (fun k _ e e2 => nd k e e2.1) (fun c hc => ⟨hck c hc, hco c hc⟩) fun r6 u6 o6 f6 => ?_
    refine hK _ _ ⟨wsucc hj (by omega), ?_, ?_, fu5.then (f6.sub fun k e => e.1)⟩
    · rw [take_at he, lastF_snoc, ← ha1]
    · rw [take_at he, encs_snoc]
      unfold entB
      have o7 := o6.mono (S' := S) fun k _ e => e.1
      simp only [List.append_assoc] at o7 ⊢
      exact o7
  · rintro ⟨a, la, _⟩ u ⟨_, _, o, fu⟩
    rw [List.take_of_length_le (by omega), List.append_assoc] at o
    exact hk a u o fu
end Go.Proofs.YtchhhjlpnecjkaaGreat
namespace Go.Proofs.YtchhhjlpnecjkaaGreat
open Go Go.RowKit Go.Proofs.YtchhhjlpnecjkaaGreat.Den
variable {R : Type} {Q : R → World → Prop} {w : World}
def padB (L : List Bool) (n : Nat) : List Int := (List.range n).map fun j => (byteAt L j : Int)
theorem padB_nil (n : Nat) : padB [] n = List.replicate n (0 : Int) := by
  unfold padB
  have : ∀ j, ((byteAt [] j : Nat) : Int) = 0 := fun j => rfl
  simp only [this]
  rw [List.map_const', List.length_range]
theorem padB_snoc (L : List Bool) (b : Bool) {n : Nat} (h : L.length / 8 < n) : padB (L ++ [b]) n = (padB L n).set (L.length / 8) ((byteAt L (L.length / 8) + bitN b * 2 ^ (L.length % 8) : Nat) : Int) := by
  refine List.ext_getElem? fun i => ?_
  rw [List.getElem?_set]
  unfold padB
  simp only [List.length_map, List.length_range, List.getElem?_map]
  split
  · rename_i h
    subst h
    rw [List.getElem?_range (by omega)]
    simp only [Option.map_some]
    rw [byteAt_here.1]
  · rename_i h
    rcases Nat.lt_or_ge i n with hi | hi
    · rw [List.getElem?_range hi]
      simp only [Option.map_some]
      rw [byteAt_other (fun h2 => h h2.symm)]
    · rw [List.getElem?_eq_none (by simpa using hi)]
      rfl
theorem padB_at (L : List Bool) {n j : Nat} (h : j < n) : (padB L n)[j]? = some (byteAt L j : Int) := by
  unfold padB
  rw [List.getElem?_map, List.getElem?_range h]
  rfl
theorem add_byte : ∀ r : Fin 8, ∀ x : Fin 128, x.val < 2 ^ r.val → IntKind.wrap .u8 (((x.val : Nat) : Int) + shL .u8 1 ((r.val : Nat) : Int)) = ((x.val + 2 ^ r.val : Nat) : Int) := by decide +kernel
theorem updI {S : Nat → Prop} {s : Sl} {l : List Int} (o : Own S w 5 u8T s l) {i : Nat} {x : Int} (hx : l[i]? = some x) {i1 i2 : Int} (h1 : i1 = (i : Int)) (h2 : i2 = (i : Int)) {c : Prop} (hc : c) {f : Int → Int} {K : W R} (hk : ∀ w', Own S w' 5 u8T s (l.set i (f x)) → Fr (fun k => s.v.ownBlock = some k) w w' → w'.heap.size = w.heap.size → K Q w') :
    idxW s.a s.n 1 i1 (fun a => ld (.sc (.int .u8)) a fun b => chkW c <| idxW s.a s.n 1 i2 fun y => stoL y [.int .u8 (f b)] 0 K) Q w := by
  subst h1; subst h2
  have hi := (List.getElem?_eq_some_iff.1 hx).1
  refine o.idx rfl (by omega) (by omega) fun g y hg hy hr => ?_
  rw [Int.toNat_natCast] at hy hr ⊢
  rw [hx] at hy
  cases hy
  refine ldI x hr (chkI hc ?_)
  refine o.idx rfl (by omega) (by omega) fun g2 x2 hg2 hx2 hr2 => ?_
  rw [hg] at hg2
  cases hg2
  rw [Int.toNat_natCast]
  exact o.set rfl hi hg (f x) hk
theorem spec_r1_Bytes {ok : Nat → Prop} {s : Sl} {L : List Bool} (hS : SlT ok w boolT s L) (hm : L.length ≤ 140737488355000) {K : Res [.sc .sl] → W R} (hk : ∀ r w', Own (Up w.heap.size) w' 5 u8T r (packM L) → Fr None w w' → K r Q w') :
    callW Tryz.prog k_pinnaceref01_Bytes [.slice s.a s.n s.c] [.sc .sl] K Q w := by
  refine C_pinnaceref01_Bytes s K Q w ?_
  unfold F_pinnaceref01_Bytes
  have hlen := hS.len
  obtain ⟨n, hn⟩ : ∃ n, n = (L.length + 7) / 8 := ⟨_, rfl⟩
  have hnI : IntKind.wrap .i64 (Int.tdiv (IntKind.wrap .i64 ((s.n : Int) + 7)) 8) = (n : Int) := by
    rw [w64 (x := (s.n : Int) + 7) (by omega), Int.tdiv_eq_ediv_of_nonneg (by omega), w64 (by omega)]
    omega
  refine makeI bytes_ty (z := (0 : Int)) (zv := .int .u8 0) (by kernel_rfl) rfl (n := n) hnI (by omega) (by omega) fun w1 o1 f1 s1 => ?_
  refine forI (N := s.n) (fun s : Int => s) (fun j i v => i = (j : Int) ∧ Own (fun k => k = w.heap.size) v 5 u8T ⟨some ⟨w.heap.size, 0, none⟩, n, n⟩ (padB (L.take j) n) ∧ Fr None w v) ⟨rfl, by rw [List.take_zero, padB_nil]; exact o1, f1⟩ (fun j s w' h => h.1) ?_ ?_
  · rintro j i v K' hj ⟨rfl, o, fv⟩ - hK
    refine (hS.fr0 fv).get rfl rfl (by omega) fun b hb => ?_
    have htl : (L.take j).length = j := by rw [List.length_take]; omega
    have hq : j / 8 < n := by omega
    have e := padB_snoc (L.take j) b (n := n) (by rw [htl]; exact hq)
    rw [← take_at hb, htl] at e
    have hlt := (byteAt_here (L := L.take j) (b := b)).2
    rw [htl] at hlt
    have hr8 : j % 8 < 8 := Nat.mod_lt _ (by decide)
    have hp : 2 ^ (j % 8) ≤ 128 := Nat.le_trans (Nat.pow_le_pow_right (by decide) (show j % 8 ≤ 7 by omega)) (by decide)
    refine joinI (fun (_ : Unit) v' => Own (fun k => k = w.heap.size) v' 5 u8T ⟨some ⟨w.heap.size, 0, none⟩, n, n⟩ (padB (L.take (j + 1)) n) ∧ Fr None w v') ?_ fun _ v' ⟨h1, h2⟩ => hK _ _ ⟨wsucc hj (by omega), h1, h2⟩
    have ei : IntKind.wrap .i64 (Int.tdiv (j : Int) 8) = ((j / 8 : Nat) : Int) := by
      rw [Int.tdiv_eq_ediv_of_nonneg (by omega), w64 (by omega)]
      omega
    have em : IntKind.wrap .u64 (Int.tmod (j : Int) 8) = ((j % 8 : Nat) : Int) := by
      rw [Int.tmod_eq_emod_of_nonneg (by omega), wU64 (by omega)]
      omega
    cases b with
    | true =>
      refine condT rfl ?_
      rw [em]
      refine updI o (i := j / 8) (padB_at _ hq) ei ei (c := 0 ≤ ((j % 8 : Nat) : Int)) (by omega) (f := fun x => IntKind.wrap .u8 (x + shL .u8 1 ((j % 8 : Nat) : Int))) fun v' o' f' _ => ⟨?_, fv.newer f' fun k e => by simp only [Sl.v, Value.ownBlock, Option.some.injEq] at e; omega⟩
      have := add_byte ⟨j % 8, hr8⟩ ⟨byteAt (L.take j) (j / 8), by omega⟩ hlt
      dsimp only at this o'
      rw [this] at o'
      rw [e]
      have eb : bitN true * 2 ^ (j % 8) = 2 ^ (j % 8) := by rw [show bitN true = 1 from rfl, Nat.one_mul]
      rw [eb]
      exact o'
    | false =>
      refine condF rfl ⟨?_, fv⟩
      rw [e]
      have eb : bitN false * 2 ^ (j % 8) = 0 := by rw [show bitN false = 0 from rfl, Nat.zero_mul]
      rw [eb, Nat.add_zero]
      have : (padB (L.take j) n).set (j / 8) ((byteAt (L.take j) (j / 8) : Nat) : Int) = padB (L.take j) n := by
        have hg := padB_at (L.take j) hq
        obtain ⟨hl, hg⟩ := List.getElem?_eq_some_iff.1 hg
        rw [← hg]
        exact List.set_getElem_self hl
      rw [this]
      exact o
  · rintro i v ⟨_, o, fv⟩
    rw [List.take_of_length_le (by omega)] at o
    refine hk _ v ?_ fv
    have : padB L n = packM L := by unfold padB packM; rw [hn]
    rw [this] at o
    exact o.mono fun k _ e => by show w.heap.size ≤ k; omega
end Go.Proofs.YtchhhjlpnecjkaaGreat
