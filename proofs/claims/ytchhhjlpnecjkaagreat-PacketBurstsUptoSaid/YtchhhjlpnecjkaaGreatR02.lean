/-
  ref01.Put, ref02: the document's numbers as lists of bits.
-/
import Derived.Test.YtchhhjlpnecjkaaGreatApZ
import Derived.Test.YtchhhjlpnecjkaaGreatPkM
import Derived.Test.YtchhhjlpnecjkaaGreatApt
namespace Go.Proofs.YtchhhjlpnecjkaaGreat
open Go Go.RowKit Go.Proofs.YtchhhjlpnecjkaaGreat.Den
variable {R : Type} {Q : R → World → Prop} {w : World}

theorem bits_mod (v : Nat) : ∀ n, bitsOf (v % 2 ^ n) n = bitsOf v n := by
  intro n
  have : ∀ k, k ≤ n → bitsOf (v % 2 ^ n) k = bitsOf v k := by
    intro k
    induction k with
    | zero => intro _; rfl
    | succ k ih =>
      intro hk
      rw [bitsOf, bitsOf, ih (by omega), Nat.testBit_mod_two_pow]
      simp [show k < n by omega]
  exact this n (Nat.le_refl _)
/-- append([]bool{}, l...). -/
theorem freshL {ok : Nat → Prop} {s : Sl} {l : List Bool} (hS : SlT ok w boolT s l) (hm : l.length ≤ 1048576) {K : Sl → W R} (hk : ∀ r w', Own (Up w.heap.size) w' 4 boolT r l → Fr None w w' → K r Q w') :
    newW 4 [] (fun x => rawW Tryz.prog (Builtin.append_ #[70, 70] 70 #[.slice (some x) 0 0, .slice s.a s.n s.c]) [.sc .sl] K) Q w := by
  refine newI fun w1 B1 f1 s1 => ?_
  have own := Own.mk' (S := Up w.heap.size) (w := w1) (E := 4) (t := boolT) (l := []) (g := w.heap.size) (c := 0) (cur := ⟨[]⟩) (Nat.le_refl _) B1 (Nat.le_refl _) (Nat.zero_le _) (by simp) (by simp)
  refine appI (s := ⟨some ⟨w.heap.size, 0, none⟩, 0, 0⟩) (s2 := s) (S' := Up w.heap.size) bools_ty own (hS.fr0 f1) (by simp; omega) (by rw [maxLen_eq]; simp; omega) (fun _ h => h) (by show _ ≤ _; omega) fun r w2 o2 f2 s2 => hk r w2 (by simpa using o2) (f1.newer f2 (fun x e => own.own x e))
theorem bit_of (v i : Nat) : (Int.tmod ((v / 2 ^ i : Nat) : Int) 2 == 1) = v.testBit i := by
  rw [Nat.testBit_eq_decide_div_mod_eq]
  generalize v / 2 ^ i = q
  rw [Int.tmod_eq_emod_of_nonneg (by omega), Bool.eq_iff_iff]
  simp only [decide_eq_true_eq, beq_iff_eq]
  omega
theorem half_of {v i : Nat} (hv : v < 18446744073709551616) : IntKind.wrap .u64 (Int.tdiv ((v / 2 ^ i : Nat) : Int) 2) = ((v / 2 ^ (i + 1) : Nat) : Int) := by
  have h : v / 2 ^ i ≤ 18446744073709551615 := Nat.le_trans (Nat.div_le_self _ _) (by omega)
  rw [Nat.pow_succ, ← Nat.div_div_eq_div_mul]
  generalize v / 2 ^ i = q at h
  rw [Int.tdiv_eq_ediv_of_nonneg (by omega), wU64 (by omega)]
  omega
theorem spec_r1_Put {ok : Nat → Prop} {s : Sl} {l : List Bool} (hS : SlT ok w boolT s l) {v : Nat} {n : Nat} (hn : n ≤ 64) (hv : v < 2 ^ n) (hm : l.length + n ≤ 1048576) {K : Res [.sc .sl, .sc (.int .i64)] → W R} (hk : ∀ r w', Own (Up w.heap.size) w' 4 boolT r (l ++ bitsOf v n) → Fr None w w' → K (r, 0) Q w') :
    callW Tryz.prog k_pinnaceref01_Put [.slice s.a s.n s.c, .int .u64 (v : Int), .int .i64 (n : Int)] [.sc .sl, .sc (.int .i64)] K Q w := by
  refine C_pinnaceref01_Put s _ _ K Q w ?_
  unfold F_pinnaceref01_Put
  have hv64 : v < 18446744073709551616 := Nat.lt_of_lt_of_le hv (Nat.le_trans (Nat.pow_le_pow_right (by decide) hn) (by decide))
  refine joinI (fun z u => z = false ∧ w = u) ?_ ?_
  · exact condF (decide_eq_false (by omega)) ⟨decide_eq_false (by omega), rfl⟩
  rintro z u ⟨rfl, rfl⟩
  refine condF rfl (freshL hS (by omega) fun x w1 o1 f1 => ?_)
  refine forI (N := n) (fun s : Int × Sl × Int => s.2.2) (fun j st u => st.2.2 = (j : Int) ∧ st.1 = ((v / 2 ^ j : Nat) : Int) ∧ Own (Up w.heap.size) u 4 boolT st.2.1 (l ++ bitsOf v j) ∧ Fr None w u) ⟨rfl, by simp, by simpa [bitsOf] using o1, f1⟩ (fun j s w' h => h.1) ?_ ?_
  · rintro j ⟨a, z, _⟩ u K' hj ⟨rfl, rfl, o, fu⟩ - hK
    have hz := fu.size
    have hl := bitsOf_len v j
    refine appP (x := (Int.tmod ((v / 2 ^ j : Nat) : Int) 2 == 1)) bools_ty rfl o (fun k e => by show w.heap.size ≤ k; omega) (by simp only [List.length_append, hl]; omega) (by simp only [List.length_append, hl]; omega) fun r u2 o2 f2 => ?_
    refine hK _ _ ⟨wsucc hj (by omega), half_of hv64, ?_, fu.newer f2 fun k e => o.own k e⟩
    rw [bit_of, List.append_assoc] at o2
    exact o2
  · rintro ⟨a, z, _⟩ u ⟨_, rfl, o, fu⟩
    have hl := bitsOf_len v n
    have hzn := o.len
    rw [List.length_append, hl] at hzn
    refine condN (fun hne => ?_) fun _ => ?_
    · have : v / 2 ^ n = 0 := Nat.div_eq_of_lt hv
      have hne : ((v / 2 ^ n : Nat) : Int) ≠ 0 := hne
      omega
    · refine condF (decide_eq_false ?_) (hk z u o fu)
      show ¬ (z.n : Int) > 1048576
      have hzn : z.n = l.length + n := hzn
      omega
theorem spec_r2_Zig {n : Int} (hn : -4611686018427387904 ≤ n ∧ n ≤ 4611686018427387903) {K : Res [.sc (.int .u64)] → W R} (hk : K (zigM n) Q w) : callW Tryz.prog k_pinnaceref02_Zig [.int .i64 n] [.sc (.int .u64)] K Q w := by
  refine C_pinnaceref02_Zig _ K Q w ?_
  unfold F_pinnaceref02_Zig
  unfold zigM at hk
  refine condD (fun h => ?_) fun h => ?_
  · rw [if_neg (by omega)] at hk
    rw [w64 (x := -1 - n) (by omega), wU64 (x := -1 - n) (by omega), wU64 (x := 2 * (-1 - n)) (by omega), wU64 (by omega)]
    have : 2 * (-1 - n) + 1 = -2 * n - 1 := by omega
    rw [this]
    exact hk
  · rw [if_pos (by omega)] at hk
    rw [wU64 (x := n) (by omega), wU64 (by omega)]
    exact hk
theorem spec_r2_Width {lo hi : Int} (h1 : -9223372036854775808 ≤ lo ∧ lo ≤ 9223372036854775807) (h2 : -9223372036854775808 ≤ hi ∧ hi ≤ 9223372036854775807) {K : Res [.sc (.int .i64)] → W R} (hk : K (widthM lo hi : Int) Q w) : callW Tryz.prog k_pinnaceref02_Width [.int .i64 lo, .int .i64 hi] [.sc (.int .i64)] K Q w := by
  refine C_pinnaceref02_Width _ _ K Q w ?_
  unfold F_pinnaceref02_Width
  refine joinI (fun z u => z = (widthM lo hi : Int) ∧ w = u) ?_ fun z u ⟨hz, hu⟩ => by subst hz; subst hu; exact hk
  refine condD (fun h => ?_) fun h => ?_
  · have h : lo ≤ hi := h
    rw [w64_range h1.1 h h2.2]
    have hw : widthM lo hi = Lib.bitLen (hi - lo).toNat := by unfold widthM; rw [if_neg (by omega)]
    rw [hw]
    obtain ⟨D, hD⟩ : ∃ D, D = (hi - lo).toNat := ⟨_, rfl⟩
    have hD2 : D < 18446744073709551616 := by omega
    have e : hi - lo = (D : Int) := by omega
    rw [e, Int.toNat_natCast]
    have hb : Lib.bitLen D ≤ 64 := Lib.bitLen_le D 64 (by omega) (by omega)
    refine loopI (fun (st : Int × Int) u => w = u ∧ ∃ k d : Nat, st = ((k : Int), (d : Int)) ∧ d ≤ D ∧ k + Lib.bitLen d = Lib.bitLen D) (fun st _ => st.2.toNat) ⟨rfl, 0, D, rfl, Nat.le_refl _, by omega⟩ ?_
    rintro st u ⟨rfl, k, d, rfl, hd, hkd⟩
    dsimp only
    refine condD (fun hp => ?_) fun hp => ?_
    · have hp : (d : Int) > 0 := hp
      have h2 := Lib.bitLen_half d (by omega) (by omega)
      rw [Int.tdiv_eq_ediv_of_nonneg (by omega), wU64 (x := (d : Int) / 2) (by omega), w64 (by omega)]
      refine ⟨⟨rfl, k + 1, d / 2, by congr 1, by omega, by omega⟩, by omega⟩
    · have hp : ¬ (d : Int) > 0 := hp
      have : d = 0 := by omega
      subst this
      have h0 : Lib.bitLen 0 = 0 := by decide +kernel
      exact ⟨by rw [h0] at hkd; omega, rfl⟩
  · unfold widthM
    rw [if_pos (by have h : ¬ hi ≥ lo := h; omega)]
    exact ⟨rfl, rfl⟩
theorem spec_r2_In {n lo hi : Int} (h1 : -9223372036854775808 ≤ lo) (h2 : lo ≤ n) (h3 : n ≤ hi) (h4 : hi ≤ 9223372036854775807) {K : Res [.sc .sl, .sc (.int .i64)] → W R} (hk : ∀ r w', Own (Up w.heap.size) w' 4 boolT r (inB n lo hi) → Fr None w w' → K (r, 0) Q w') :
    callW Tryz.prog k_pinnaceref02_In [.int .i64 n, .int .i64 lo, .int .i64 hi] [.sc .sl, .sc (.int .i64)] K Q w := by
  refine C_pinnaceref02_In _ _ _ K Q w ?_
  unfold F_pinnaceref02_In
  refine condF (decide_eq_false (by omega)) ?_
  refine joinI (fun z u => z = false ∧ w = u) ?_ ?_
  · exact condF (decide_eq_false (by omega)) ⟨decide_eq_false (by omega), rfl⟩
  rintro z u ⟨rfl, rfl⟩
  refine condF rfl (spec_r2_Width (by omega) (by omega) ?_)
  rw [w64_range h1 h2 (by omega)]
  have hw := width_lt h2 h3 (by omega)
  have hl := width_le (lo := lo) (hi := hi) (by omega)
  have e : n - lo = (((n - lo).toNat : Nat) : Int) := by omega
  rw [e]
  exact spec_r1_Put (s := ⟨none, 0, 0⟩) (l := []) (ok := None) (SlT.nil _) hl (by simpa using hw) (by simp; omega) fun r w' o f => hk r w' (by simpa [inB] using o) f
theorem groups_next {v j : Nat} (hv : v < 18446744073709551616) : j + 1 < groupsM v ↔ 0 < v / 2 ^ (4 * (j + 1)) := by
  unfold groupsM
  rcases Nat.eq_zero_or_pos v with rfl | hp
  · have h0 : Lib.bitLen 0 = 0 := by decide +kernel
    rw [h0]
    simp
  · obtain ⟨h1, h2, h3⟩ := Lib.bitLenAux_bounds 64 v hv (by omega)
    have h1 : 1 ≤ Lib.bitLen v := h1
    have h2 : 2 ^ (Lib.bitLen v - 1) ≤ v := h2
    have h3 : v < 2 ^ Lib.bitLen v := h3
    constructor
    · intro h
      refine Nat.div_pos (Nat.le_trans (Nat.pow_le_pow_right (by decide) (by omega)) h2) (Nat.two_pow_pos _)
    · intro h
      refine Classical.byContradiction fun hc => ?_
      have : v < 2 ^ (4 * (j + 1)) := Nat.lt_of_lt_of_le h3 (Nat.pow_le_pow_right (by decide) (by omega))
      rw [Nat.div_eq_of_lt this] at h
      omega
theorem grp_bits {v j : Nat} (hv : v < 18446744073709551616) : bitsOf (grpV v (groupsM v) j) 5 = bitsOf (v / 2 ^ (4 * j)) 4 ++ [decide (0 < v / 2 ^ (4 * (j + 1)))] := by
  have h5 : ∀ x : Nat, bitsOf x 5 = bitsOf x 4 ++ [x.testBit 4] := fun x => rfl
  rw [h5]
  have hq : grpV v (groupsM v) j % 2 ^ 4 = v / 2 ^ (4 * j) % 2 ^ 4 := by
    unfold grpV
    show _ % 16 = _ % 16
    split <;> omega
  congr 1
  · rw [← bits_mod _ 4, hq, bits_mod]
  · rw [Nat.testBit_eq_decide_div_mod_eq]
    congr 1
    rw [decide_eq_decide, ← groups_next hv]
    unfold grpV
    show _ / 16 % 2 = 1 ↔ _
    split <;> omega
theorem spec_r2_Var {v : Nat} (hv : v < 18446744073709551616) {K : Res [.sc .sl] → W R} (hk : ∀ r w', Own (Up w.heap.size) w' 4 boolT r (varB v) → Fr None w w' → K r Q w') :
    callW Tryz.prog k_pinnaceref02_Var [.int .u64 (v : Int)] [.sc .sl] K Q w := by
  refine C_pinnaceref02_Var _ K Q w ?_
  unfold F_pinnaceref02_Var
  have hg := groupsM_le (v := (v : Int)) (by omega) (by omega)
  rw [Int.toNat_natCast] at hg
  refine loopI (fun (st : Int × Sl) u => ∃ j : Nat, j < groupsM v ∧ st.1 = ((v / 2 ^ (4 * j) : Nat) : Int) ∧ Own (Up w.heap.size) u 4 boolT st.2 (varL v (groupsM v) j) ∧ Fr None w u) (fun st _ => st.1.toNat) ⟨0, by omega, by simp, Own.nil _ _ _ _, Fr.refl _ _⟩ ?_
  rintro ⟨a, s⟩ u ⟨j, hj, rfl, o, fu⟩
  dsimp only at o ⊢
  have hl := varL_len v (groupsM v) j
  have hvj : v / 2 ^ (4 * j) < 18446744073709551616 := Nat.lt_of_le_of_lt (Nat.div_le_self _ _) hv
  refine forI (N := 4) (fun s : Int × Sl × Int => s.2.2) (fun i st u => st.2.2 = (i : Int) ∧ st.1 = ((v / 2 ^ (4 * j) / 2 ^ i : Nat) : Int) ∧ Own (Up w.heap.size) u 4 boolT st.2.1 (varL v (groupsM v) j ++ bitsOf (v / 2 ^ (4 * j)) i) ∧ Fr None w u) ⟨rfl, by simp, by simpa [bitsOf] using o, fu⟩ (fun j s w' h => h.1) ?_ ?_
  · rintro i ⟨a, z, _⟩ u K' hi ⟨rfl, rfl, o, fu⟩ - hK
    have hz := fu.size
    have hli := bitsOf_len (v / 2 ^ (4 * j)) i
    refine appP (x := (Int.tmod ((v / 2 ^ (4 * j) / 2 ^ i : Nat) : Int) 2 == 1)) bools_ty rfl o (fun k e => by show w.heap.size ≤ k; omega) (by simp only [List.length_append, hli, hl]; omega) (by simp only [List.length_append, hli, hl]; omega) fun r u2 o2 f2 => ?_
    refine hK _ _ ⟨wsucc hi (by omega), half_of hvj, ?_, fu.newer f2 fun k e => o.own k e⟩
    rw [bit_of, List.append_assoc] at o2
    exact o2
  · rintro ⟨a, z, _⟩ u ⟨_, rfl, o, fu⟩
    have hz := fu.size
    have e16 : v / 2 ^ (4 * j) / 2 ^ 4 = v / 2 ^ (4 * (j + 1)) := by rw [Nat.div_div_eq_div_mul, ← Nat.pow_add]; rfl
    dsimp only
    rw [e16]
    have hli := bitsOf_len (v / 2 ^ (4 * j)) 4
    have eb : decide (((v / 2 ^ (4 * (j + 1)) : Nat) : Int) > 0) = decide (0 < v / 2 ^ (4 * (j + 1))) := decide_eq_decide.2 (by omega)
    rw [eb]
    refine appP (x := decide (0 < v / 2 ^ (4 * (j + 1)))) bools_ty rfl o (fun k e => by show w.heap.size ≤ k; omega) (by simp only [List.length_append, hli, hl]; omega) (by simp only [List.length_append, hli, hl]; omega) fun r u2 o2 f2 => ?_
    rw [List.append_assoc, ← grp_bits hv] at o2
    have o2 : Own (Up w.heap.size) u2 4 boolT r (varL v (groupsM v) (j + 1)) := o2
    have f2' := fu.newer f2 fun k e => o.own k e
    refine condE (fun h0 => ?_) fun h0 => ?_
    · have hn := groups_next (j := j) hv
      have : j + 1 = groupsM v := by
        have h0 : v / 2 ^ (4 * (j + 1)) = 0 := by exact_mod_cast h0
        have := fun h => Nat.not_lt_zero 0 (h0 ▸ hn.1 h)
        omega
      rw [this] at o2
      exact hk r u2 o2 f2'
    · have hn := groups_next (j := j) hv
      have hpos : 0 < v / 2 ^ (4 * (j + 1)) := Nat.pos_of_ne_zero fun h => h0 (by rw [h]; rfl)
      refine ⟨⟨j + 1, hn.2 hpos, rfl, o2, f2'⟩, ?_⟩
      simp only [Int.toNat_natCast]
      rw [← e16]
      have : 0 < v / 2 ^ (4 * j) := by rw [← e16] at hpos; exact Nat.lt_of_lt_of_le hpos (Nat.div_le_self _ _)
      exact Nat.div_lt_self this (by decide)

end Go.Proofs.YtchhhjlpnecjkaaGreat

namespace Go.Proofs.YtchhhjlpnecjkaaGreat
open Go Go.RowKit Go.Proofs.YtchhhjlpnecjkaaGreat.Den
variable {R : Type} {Q : R → World → Prop} {w : World}

/-- append(l, k...), l of one's own. -/
theorem appB {n : Nat} {ok : Nat → Prop} {s s2 : Sl} {l l2 : List Bool} (h : Own (Up n) w 4 boolT s l) (hn : n ≤ w.heap.size) (h2 : SlT ok w boolT s2 l2) (hm : l.length + l2.length ≤ 140737488355328) {K : Sl → W R} (hk : ∀ r w', Own (Up n) w' 4 boolT r (l ++ l2) → Fr (Up n) w w' → K r Q w') :
    rawW Tryz.prog (Builtin.append_ #[70, 70] 70 #[.slice s.a s.n s.c, .slice s2.a s2.n s2.c]) [.sc .sl] K Q w :=
  appI bools_ty (S' := Up n) h h2 (by omega) (by rw [maxLen_eq]; omega) (fun _ h => h) (by show n ≤ _; exact hn) fun r w' o f _ => hk r w' o (f.sub fun k e => h.own k e)
theorem inB_len (n lo hi : Int) : (inB n lo hi).length = widthM lo hi := bitsOf_len _ _
theorem partB_len (p : Part) : (partB p).length = p.2.toNat := bitsOf_len _ _
theorem flat_le {α β : Type} (f : α → List β) (m : Nat) : ∀ l : List α, (∀ a ∈ l, (f a).length ≤ m) → (l.flatMap f).length ≤ m * l.length
  | [], _ => by simp
  | a :: r, h => by
    have h1 := h a List.mem_cons_self
    have h2 := flat_le f m r fun x hx => h x (List.mem_cons_of_mem _ hx)
    rw [List.flatMap_cons, List.length_append, List.length_cons, Nat.mul_succ]
    omega
theorem spec_r6_Put {c : Comp} (h : checkM c = 0) (hc : CompOk c) {K : Res [.sc .sl, .sc (.int .i64)] → W R} (hk : ∀ r w', Own (Up w.heap.size) w' 4 boolT r (compB c) → Fr None w w' → K (r, 0) Q w') :
    callW Tryz.prog k_pinnaceref06_Put [.agg ⟨compC c⟩] [.sc .sl, .sc (.int .i64)] K Q w := by
  refine C_pinnaceref06_Put c K Q w ?_
  unfold F_pinnaceref06_Put
  have hcn := cntM_le c.1
  refine newI fun w1 B1 f1 z1 => aggI B1 (x := c) rfl (spec_r5_Check hc.1.1 fun w2 f2 => ?_)
  rw [h]
  have f02 := f1.then0 f2
  refine condF rfl (fldI (B1.fr f2 fun h => h) (i := 0) (x := c.1) rfl (spec_r5_Count hc.1.1 fun w3 f3 => ?_))
  have f03 := f02.then0 f3
  have B3 := (B1.fr f2 fun h => h).fr f3 fun h => h
  have hz3 := f03.size
  refine forI (N := cntM c.1) (fun s : Sl × Int => s.2) (fun j st u => st.2 = (j : Int) ∧ Own (Up w3.heap.size) u 4 boolT st.1 ((List.range j).flatMap fun i => partB (fieldP c i)) ∧ Fr None w3 u) ⟨rfl, Own.nil _ _ _ _, Fr.refl _ _⟩ (fun j s w' h => h.1) ?_ ?_
  · rintro j ⟨a, _⟩ u K' hj ⟨rfl, o, fu⟩ - hK
    have Bu := B3.fr fu fun h => h
    obtain ⟨h1, h2⟩ := check_at h hj
    obtain ⟨r1, r2⟩ := rangeM_i32 c.1 (j : Int)
    refine fldI Bu (i := 0) (x := c.1) rfl (spec_r5_Range hc.1.1 fun u2 g2 => ?_)
    refine fIdx rfl (by omega) (fld0 (Bu.fr g2 fun h => h) (x := fl c j) (compC_fl c (by omega)) ?_)
    have hfl := flI hc j
    rw [w64 (x := fl c j) (by omega), w64 (x := (rangeM c.1 (j : Int)).1) (by omega), w64 (x := (rangeM c.1 (j : Int)).2.1) (by omega)]
    refine spec_r2_In (by omega) h1 h2 (by omega) fun r u3 o3 g3 => ?_
    have g23 := g2.then0 g3
    have hzu := fu.size
    have hz2 := g2.size
    have hz3' := g3.size
    have hl : ((List.range j).flatMap fun i => partB (fieldP c i)).length ≤ 64 * (List.range j).length := flat_le _ 64 _ fun i hi => by
      obtain ⟨q1, q2⟩ := rangeM_i32 c.1 (i : Int)
      have := width_le (lo := (rangeM c.1 (i : Int)).1) (hi := (rangeM c.1 (i : Int)).2.1) (by omega)
      rw [partB_len]
      unfold fieldP
      rw [Int.toNat_natCast]
      exact this
    rw [List.length_range] at hl
    have hw := width_le (lo := (rangeM c.1 (j : Int)).1) (hi := (rangeM c.1 (j : Int)).2.1) (by omega)
    have hil := inB_len (fl c j) (rangeM c.1 (j : Int)).1 (rangeM c.1 (j : Int)).2.1
    refine appB (o.none g23) (by omega) o3.sl (by omega) fun r2 u4 o4 g4 => ?_
    refine hK _ _ ⟨wsucc hj (by omega), ?_, (fu.then0 g23).newer g4 fun k e => e⟩
    rw [List.range_succ, List.flatMap_append, List.flatMap_cons, List.flatMap_nil, List.append_nil, fieldB h1 h2]
    exact o4
  · rintro ⟨a, _⟩ u ⟨_, o, fu⟩
    refine hk a u ?_ (f03.then0 fu)
    rw [compB_eq]
    exact o.up hz3
theorem spec_r6_Step {was c : Comp} (h : pairM was c = 0) (hw : CompOk was) (hc : CompOk c) {K : Res [.sc .sl, .sc (.int .i64)] → W R} (hk : ∀ r w', Own (Up w.heap.size) w' 4 boolT r (stepB2 was c) → Fr None w w' → K (r, 0) Q w') :
    callW Tryz.prog k_pinnaceref06_Step [.agg ⟨compC was⟩, .agg ⟨compC c⟩] [.sc .sl, .sc (.int .i64)] K Q w := by
  refine C_pinnaceref06_Step was c K Q w ?_
  unfold F_pinnaceref06_Step
  have hcw : checkM was = 0 := by unfold pairM at h; split at h <;> omega
  obtain ⟨hk1, hcc⟩ := pair_kind h
  have hcn := cntM_le c.1
  refine newI fun w1 B1 f1 z1 => newI fun w2 B2 f2 z2 => ?_
  have B1 := B1.fr f2 fun h => h
  refine aggI B1 (x := was) rfl (spec_r5_Check hw.1.1 fun w3 f3 => ?_)
  rw [hcw]
  have B1 := B1.fr f3 fun h => h
  have B2 := B2.fr f3 fun h => h
  refine condF rfl (aggI B2 (x := c) rfl (spec_r5_Check hc.1.1 fun w4 f4 => ?_))
  rw [hcc]
  have B1 := B1.fr f4 fun h => h
  have B2 := B2.fr f4 fun h => h
  refine condF rfl (fldI B1 (i := 0) (x := was.1) rfl (fldI B2 (i := 0) (x := c.1) rfl ?_))
  refine condF (by simp [hk1]) (fldI B2 (i := 0) (x := c.1) rfl (spec_r5_Count hc.1.1 fun w5 f5 => ?_))
  have B1 := B1.fr f5 fun h => h
  have B2 := B2.fr f5 fun h => h
  have f05 := (((f1.then0 f2).then0 f3).then0 f4).then0 f5
  have hz5 := f05.size
  refine forI (N := cntM c.1) (fun s : Sl × Int => s.2) (fun j st u => st.2 = (j : Int) ∧ Own (Up w5.heap.size) u 4 boolT st.1 ((List.range j).flatMap fun i => (oneP was c i).flatMap partB) ∧ Fr None w5 u) ⟨rfl, Own.nil _ _ _ _, Fr.refl _ _⟩ (fun j s w' h => h.1) ?_ ?_
  · rintro j ⟨a, _⟩ u K' hj ⟨rfl, o, fu⟩ - hK
    have fd : Fr None u u.drew := (Fr.refl _ _).drew
    have fud := fu.then0 fd
    have o := o.none fd
    have B1u := B1.fr fud fun h => h
    have B2u := B2.fr fud fun h => h
    have hzu : w5.heap.size ≤ u.drew.heap.size := fud.size
    obtain ⟨h1, h2⟩ := check_at hcc hj
    obtain ⟨r1, r2⟩ := rangeM_i32 c.1 (j : Int)
    have hflc := flI hc j
    have hflw := flI hw j
    have hzn := zigM_nn (fl c j - fl was j)
    have hwd := width_le (lo := (rangeM c.1 (j : Int)).1) (hi := (rangeM c.1 (j : Int)).2.1) (by omega)
    have hl : ((List.range j).flatMap fun i => (oneP was c i).flatMap partB).length ≤ 1000 * (List.range j).length := flat_le _ 1000 _ fun i hi => by
      obtain ⟨q1, q2⟩ := rangeM_i32 c.1 (i : Int)
      have := width_le (lo := (rangeM c.1 (i : Int)).1) (hi := (rangeM c.1 (i : Int)).2.1) (by omega)
      unfold oneP
      split
      · simp [partB_len]
      · split
        · simp [partB_len]
        · simp only [List.flatMap_cons, List.flatMap_nil, List.length_append, partB_len, List.length_nil]
          unfold fieldP
          rw [Int.toNat_natCast]
          show 1 + (1 + (widthM (rangeM c.1 (i : Int)).1 (rangeM c.1 (i : Int)).2.1 + 0)) ≤ 1000
          omega
    rw [List.length_range] at hl
    refine joinI (fun z v => Own (Up w5.heap.size) v 4 boolT z ((List.range (j + 1)).flatMap fun i => (oneP was c i).flatMap partB) ∧ Fr None w5 v) ?_ ?_
    · refine fIdx rfl (by omega) (fld0 B2u (x := fl c j) (compC_fl c (by omega)) ?_)
      refine fIdx rfl (by omega) (fld0 B1u (x := fl was j) (compC_fl was (by omega)) ?_)
      rw [w64 (x := fl c j) (by omega), w64 (x := fl was j) (by omega), w64 (x := fl c j - fl was j) (by omega)]
      refine spec_r2_Zig (by omega) ?_
      rw [List.range_succ, List.flatMap_append, List.flatMap_cons, List.flatMap_nil, List.append_nil]
      have p1 : ∀ b : Bool, partB ((if b then 1 else 0 : Int), 1) = [b] := fun b => by cases b <;> rfl
      refine appP (x := decide (zigM (fl c j - fl was j) > 0)) bools_ty rfl o (fun k e => by show w5.heap.size ≤ k; omega) (by omega) (by omega) fun r u2 o2 g2 => ?_
      have fu2 := fud.newer g2 fun k e => o.own k e
      refine condE (fun hz => ?_) fun hz => ?_
      · refine ⟨?_, fu2⟩
        unfold oneP
        rw [if_pos hz]
        rw [show decide (zigM (fl c j - fl was j) > 0) = false from decide_eq_false (by omega)] at o2
        exact o2
      · have e1 : decide (zigM (fl c j - fl was j) > 0) = true := decide_eq_true (by omega)
        rw [e1] at o2
        have hzu2 := g2.size
        have hlen2 : ((List.range j).flatMap fun i => (oneP was c i).flatMap partB).length + 1 ≤ 4000 := by omega
        refine appP (x := decide (zigM (fl c j - fl was j) ≤ 16)) bools_ty rfl o2 (fun k e => by show w5.heap.size ≤ k; omega) (by simp only [List.length_append, List.length_singleton]; omega) (by simp only [List.length_append, List.length_singleton]; omega) fun r3 u3 o3 g3 => ?_
        have fu3 := fu2.newer g3 fun k e => o2.own k e
        have hzu3 := g3.size
        refine condD (fun hn => ?_) fun hn => ?_
        · have e4 : IntKind.wrap .u64 (zigM (fl c j - fl was j) - 1) = (((zigM (fl c j - fl was j) - 1).toNat : Nat) : Int) := by rw [wU64 (by omega)]; omega
          rw [e4]
          refine spec_r1_Put (n := 4) o3.sl (by omega) (by show _ < 16; omega) (by simp only [List.length_append, List.length_singleton]; omega) fun r4 u4 o4 g4 => ⟨?_, fu3.then0 g4⟩
          have o4 := o4.up (m := w5.heap.size) (by omega)
          unfold oneP
          rw [if_neg hz, if_pos hn]
          rw [show decide (zigM (fl c j - fl was j) ≤ 16) = true from decide_eq_true hn] at o4
          simp only [List.append_assoc] at o4
          exact o4
        · refine fldI (B2.fr fu3 fun h => h) (i := 0) (x := c.1) rfl (spec_r5_Range hc.1.1 fun u4 g4 => ?_)
          refine fIdx rfl (by omega) (fld0 ((B2.fr fu3 fun h => h).fr g4 fun h => h) (x := fl c j) (compC_fl c (by omega)) ?_)
          rw [w64 (x := fl c j) (by omega), w64 (x := (rangeM c.1 (j : Int)).1) (by omega), w64 (x := (rangeM c.1 (j : Int)).2.1) (by omega)]
          refine spec_r2_In (by omega) h1 h2 (by omega) fun r5 u5 o5 g5 => ?_
          have g45 := g4.then0 g5
          have hzu4 := g4.size
          have hzu5 := g5.size
          have hil := inB_len (fl c j) (rangeM c.1 (j : Int)).1 (rangeM c.1 (j : Int)).2.1
          refine appB (o3.none g45) (by omega) o5.sl (by simp only [List.length_append, List.length_singleton]; omega) fun r6 u6 o6 g6 => ⟨?_, (fu3.then0 g45).newer g6 fun k e => e⟩
          unfold oneP
          rw [if_neg hz, if_neg hn]
          rw [show decide (zigM (fl c j - fl was j) ≤ 16) = false from decide_eq_false hn] at o6
          rw [← fieldB h1 h2] at o6
          simp only [List.append_assoc] at o6
          simp only [List.flatMap_cons, List.flatMap_nil, List.append_nil]
          exact o6
    · rintro z v ⟨o2, f2⟩
      exact hK _ _ ⟨wsucc hj (by omega), o2, f2⟩
  · rintro ⟨a, _⟩ u ⟨_, o, fu⟩
    refine hk a u ?_ (f05.then0 fu)
    have e : stepB2 was c = (List.range (cntM c.1)).flatMap fun i => (oneP was c i).flatMap partB := by
      unfold stepB2 partsB stepP
      rw [List.flatMap_assoc]
      rfl
    rw [e]
    exact o.up hz5

end Go.Proofs.YtchhhjlpnecjkaaGreat

namespace Go.Proofs.YtchhhjlpnecjkaaGreat
open Go Go.RowKit Go.Proofs.YtchhhjlpnecjkaaGreat.Den
variable {R : Type} {Q : R → World → Prop} {w : World}

theorem spec_r20_Check {h : Head} (hok : HeadOk h) {K : Res [.sc (.int .i64)] → W R} (hk : ∀ w', Fr None w w' → K (headE h) Q w') :
    callW Tryz.prog k_pinnaceref20_Check [.agg ⟨[.int .u8 h.1, .int .u8 h.2.1, .int .u32 h.2.2.1, .int .u32 h.2.2.2.1, .int .u32 h.2.2.2.2]⟩] [.sc (.int .i64)] K Q w := by
  refine C_pinnaceref20_Check h K Q w ?_
  unfold F_pinnaceref20_Check
  obtain ⟨⟨k0, k1⟩, ⟨c0, c1⟩, ⟨e0, e1⟩, ⟨t0, t1⟩, ⟨b0, b1⟩⟩ := hok
  unfold headE at hk
  refine newI fun w1 B f1 s1 => ?_
  have r0 : ∀ {σ : Type} {K : Int → W σ} {Q : σ → World → Prop}, K h.1 Q w1 → ld (.sc (.int .u8)) (Addr.add ⟨w.heap.size, 0, none⟩ 0) K Q w1 := fun hk => fldI B (i := 0) (x := h.1) rfl hk
  have r1 : ∀ {σ : Type} {K : Int → W σ} {Q : σ → World → Prop}, K h.2.1 Q w1 → ld (.sc (.int .u8)) (Addr.add ⟨w.heap.size, 0, none⟩ 1) K Q w1 := fun hk => fldI B (i := 1) (x := h.2.1) rfl hk
  have r2 : ∀ {σ : Type} {K : Int → W σ} {Q : σ → World → Prop}, K h.2.2.1 Q w1 → ld (.sc (.int .u32)) (Addr.add ⟨w.heap.size, 0, none⟩ 2) K Q w1 := fun hk => fldI B (i := 2) (x := h.2.2.1) rfl hk
  have r3 : ∀ {σ : Type} {K : Int → W σ} {Q : σ → World → Prop}, K h.2.2.2.1 Q w1 → ld (.sc (.int .u32)) (Addr.add ⟨w.heap.size, 0, none⟩ 3) K Q w1 := fun hk => fldI B (i := 3) (x := h.2.2.2.1) rfl hk
  have r4 : ∀ {σ : Type} {K : Int → W σ} {Q : σ → World → Prop}, K h.2.2.2.2 Q w1 → ld (.sc (.int .u32)) (Addr.add ⟨w.heap.size, 0, none⟩ 4) K Q w1 := fun hk => fldI B (i := 4) (x := h.2.2.2.2) rfl hk
  refine joinI (fun z w' => z = decide (h.1 < 1 ∨ 5 < h.1 ∨ 16 ≤ h.2.1) ∧ w1 = w') ?_ ?_
  · refine r0 (condD (fun a => ⟨(decide_eq_true (.inl a)).symm, rfl⟩) fun a => r0 (condD (fun b => ⟨(decide_eq_true (.inr (.inl b))).symm, rfl⟩) fun b => r1 ⟨decide_eq_decide.2 (by omega), rfl⟩))
  rintro z w2 ⟨rfl, rfl⟩
  refine condD (fun a => ?_) fun a => ?_
  · rw [if_pos a] at hk
    exact hk _ f1
  rw [if_neg a] at hk
  refine joinI (fun z w' => z = decide (h.2.2.1 = 0 ∨ (3 < h.1 ∧ h.2.2.2.1 ≠ 0) ∨ (h.1 ≠ 2 ∧ h.2.2.2.2 ≠ 0) ∨ (h.1 = 2 ∧ h.2.2.2.1 ≤ h.2.2.2.2)) ∧ w1 = w') ?_ ?_
  · have last : ∀ (_ : h.2.2.1 ≠ 0) (_ : ¬ (3 < h.1 ∧ h.2.2.2.1 ≠ 0)), ld (.sc (.int .u8)) (Addr.add ⟨w.heap.size, 0, none⟩ 0) (fun x_19 => cond (x_19 != 2)
        (ld (.sc (.int .u32)) (Addr.add ⟨w.heap.size, 0, none⟩ 4) fun (x_20 : Int) => cond (decide (x_20 > 0)) (fun (_ : Int → World → Prop) w' => true = decide (h.2.2.1 = 0 ∨ (3 < h.1 ∧ h.2.2.2.1 ≠ 0) ∨ (h.1 ≠ 2 ∧ h.2.2.2.2 ≠ 0) ∨ (h.1 = 2 ∧ h.2.2.2.1 ≤ h.2.2.2.2)) ∧ w1 = w')
          (ld (.sc (.int .u8)) (Addr.add ⟨w.heap.size, 0, none⟩ 0) fun (x_21 : Int) => cond (x_21 == 2)
            (ld (.sc (.int .u32)) (Addr.add ⟨w.heap.size, 0, none⟩ 4) fun (x_22 : Int) => ld (.sc (.int .u32)) (Addr.add ⟨w.heap.size, 0, none⟩ 3) fun (x_23 : Int) => fun (_ : Int → World → Prop) w' => decide (x_22 ≥ x_23) = decide (h.2.2.1 = 0 ∨ (3 < h.1 ∧ h.2.2.2.1 ≠ 0) ∨ (h.1 ≠ 2 ∧ h.2.2.2.2 ≠ 0) ∨ (h.1 = 2 ∧ h.2.2.2.1 ≤ h.2.2.2.2)) ∧ w1 = w')
            (fun (_ : Int → World → Prop) w' => false = decide (h.2.2.1 = 0 ∨ (3 < h.1 ∧ h.2.2.2.1 ≠ 0) ∨ (h.1 ≠ 2 ∧ h.2.2.2.2 ≠ 0) ∨ (h.1 = 2 ∧ h.2.2.2.1 ≤ h.2.2.2.2)) ∧ w1 = w')))
        (ld (.sc (.int .u8)) (Addr.add ⟨w.heap.size, 0, none⟩ 0) fun (x_24 : Int) => cond (x_24 == 2)
            (ld (.sc (.int .u32)) (Addr.add ⟨w.heap.size, 0, none⟩ 4) fun (x_25 : Int) => ld (.sc (.int .u32)) (Addr.add ⟨w.heap.size, 0, none⟩ 3) fun (x_26 : Int) => fun (_ : Int → World → Prop) w' => decide (x_25 ≥ x_26) = decide (h.2.2.1 = 0 ∨ (3 < h.1 ∧ h.2.2.2.1 ≠ 0) ∨ (h.1 ≠ 2 ∧ h.2.2.2.2 ≠ 0) ∨ (h.1 = 2 ∧ h.2.2.2.1 ≤ h.2.2.2.2)) ∧ w1 = w')
            (fun (_ : Int → World → Prop) w' => false = decide (h.2.2.1 = 0 ∨ (3 < h.1 ∧ h.2.2.2.1 ≠ 0) ∨ (h.1 ≠ 2 ∧ h.2.2.2.2 ≠ 0) ∨ (h.1 = 2 ∧ h.2.2.2.1 ≤ h.2.2.2.2)) ∧ w1 = w'))) (fun r w => K r Q w) w1 := by
      intro q1 q2
      refine r0 (condN (fun a2 => r4 (condD (fun a3 => ⟨(decide_eq_true (by omega)).symm, rfl⟩) fun a3 => r0 (condE (fun a4 => absurd a4 a2) fun a4 => ⟨(decide_eq_false (by omega)).symm, rfl⟩))) fun a2 => ?_)
      exact r0 (condE (fun a4 => r4 (r3 ⟨decide_eq_decide.2 (by omega), rfl⟩)) fun a4 => absurd a2 a4)
    refine r2 (condE (fun q => ⟨(decide_eq_true (.inl q)).symm, rfl⟩) fun q1 => r0 (condD (fun q2 => r3 (condD (fun q3 => ⟨(decide_eq_true (by omega)).symm, rfl⟩) fun q3 => ?_)) fun q2 => ?_))
    · exact last q1 (by omega)
    · exact last q1 (by omega)
  rintro z w2 ⟨rfl, rfl⟩
  refine condD (fun a => ?_) fun a => ?_
  · rw [if_pos a] at hk
    exact hk _ f1
  · rw [if_neg a] at hk
    exact hk _ f1

theorem spec_r20_Head {h : Head} (hok : HeadOk h) (he : headE h = 0) {K : Res [.sc .sl] → W R} (hk : ∀ r w', Own (Up w.heap.size) w' 4 boolT r (headB h) → Fr None w w' → K r Q w') :
    callW Tryz.prog k_pinnaceref20_Head [.agg ⟨[.int .u8 h.1, .int .u8 h.2.1, .int .u32 h.2.2.1, .int .u32 h.2.2.2.1, .int .u32 h.2.2.2.2]⟩] [.sc .sl] K Q w := by
  refine C_pinnaceref20_Head h K Q w ?_
  unfold F_pinnaceref20_Head
  obtain ⟨⟨k0, k1⟩, ⟨c0, c1⟩, ⟨e0, e1⟩, ⟨t0, t1⟩, ⟨b0, b1⟩⟩ := hok
  unfold headE at he
  split at he
  · cases he
  rename_i g1
  refine newI fun w1 B f1 s1 => fldI B (i := 0) (x := h.1) rfl ?_
  rw [w64 (x := h.1) (by omega)]
  refine spec_r2_In (by decide) (by omega) (by omega) (by decide) fun a w2 o2 f2 => ?_
  have B2 := B.fr f2 fun h => h
  refine fldI B2 (i := 1) (x := h.2.1) rfl ?_
  rw [w64 (x := h.2.1) (by omega)]
  refine spec_r2_In (by decide) (by omega) (by omega) (by decide) fun b w3 o3 f3 => ?_
  have fd : Fr None w3 w3.drew := (Fr.refl _ _).drew
  have f3d := f3.then0 fd
  have B3 := B2.fr f3d fun h => h
  have z1 := f1.size
  have z2 := f2.size
  have z3 : w2.heap.size ≤ w3.drew.heap.size := f3d.size
  have l1 := inB_len h.1 1 5
  have l2 := inB_len h.2.1 0 15
  have lw1 : widthM 1 5 ≤ 64 := width_le (by decide)
  have lw2 : widthM 0 15 ≤ 64 := width_le (by decide)
  have hup : ∀ {k : Nat}, w1.heap.size ≤ k → w.heap.size ≤ k := fun h => by omega
  refine fldI B3 (i := 2) (x := h.2.2.1) rfl (appB (n := w1.heap.size) (o2.none f3d) (by omega) (o3.none fd).sl (by omega) fun c w4 o4 f4 => ?_)
  have B4 := B3.fr f4 fun e => by have e : w1.heap.size ≤ w.heap.size := e; omega
  refine andI (B4.rd (s := .int .u32) (i := 2) (x := h.2.2.1) rfl) ?_
  have ev : IntKind.wrap .u64 h.2.2.1 = ((h.2.2.1.toNat : Nat) : Int) := by rw [wU64 (by omega)]; omega
  rw [ev]
  have z4 := f4.size
  refine spec_r2_Var (by omega) fun d w5 o5 f5 => ?_
  have z5 := f5.size
  have lv := varB_len h.2.2.1.toNat
  have lg := groupsM_le (v := h.2.2.1) (by omega) (by omega)
  refine appB (n := w1.heap.size) (o4.none f5) (by omega) o5.sl (by simp only [List.length_append]; omega) fun e w6 o6 f6 => ?_
  have z6 := f6.size
  have n1 : ∀ {u v : World}, Fr (Up w1.heap.size) u v → ¬ Up w1.heap.size w.heap.size := fun _ e => by have e : w1.heap.size ≤ w.heap.size := e; omega
  have B6 := (B4.fr f5 fun h => h).fr f6 (n1 f6)
  have F6 : Fr None w w6 := ((((f1.then0 f2).then0 f3d).newer f4 fun k e => hup e).then0 f5).newer f6 fun k e => hup e
  refine fldI B6 (i := 0) (x := h.1) rfl ?_
  refine joinI (fun z v => Own (Up w1.heap.size) v 4 boolT z (inB h.1 1 5 ++ inB h.2.1 0 15 ++ varB h.2.2.1.toNat ++ (if h.1 ≤ 3 then bitsOf h.2.2.2.1.toNat 32 else [])) ∧ Fr None w v ∧ Blk v w.heap.size 30 [.int .u8 h.1, .int .u8 h.2.1, .int .u32 h.2.2.1, .int .u32 h.2.2.2.1, .int .u32 h.2.2.2.2]) ?_ ?_
  · refine condD (fun h3 => ?_) fun h3 => ?_
    · rw [if_pos h3]
      refine fldI B6 (i := 3) (x := h.2.2.2.1) rfl ?_
      have et : IntKind.wrap .u64 h.2.2.2.1 = ((h.2.2.2.1.toNat : Nat) : Int) := by rw [wU64 (by omega)]; omega
      rw [et]
      exact spec_r1_Put (n := 32) o6.sl (by decide) (by omega) (by simp only [List.length_append]; omega) fun r w7 o7 f7 => ⟨o7.up (by omega), F6.then0 f7, B6.fr f7 fun h => h⟩
    · rw [if_neg h3, List.append_nil]
      exact ⟨o6, F6, B6⟩
  rintro z w7 ⟨o7, F7, B7⟩
  have z7 := F7.size
  have zb := B7.lt
  refine fldI B7 (i := 0) (x := h.1) rfl ?_
  refine joinI (fun z v => Own (Up w1.heap.size) v 4 boolT z (headB h) ∧ Fr None w v) ?_ ?_
  · unfold headB
    refine condE (fun h2 => ?_) fun h2 => ?_
    · rw [if_pos h2]
      refine fldI B7 (i := 3) (x := h.2.2.2.1) rfl (fldI B7 (i := 4) (x := h.2.2.2.2) rfl ?_)
      have e : IntKind.wrap .u64 (IntKind.wrap .u32 (IntKind.wrap .u32 (h.2.2.2.1 - h.2.2.2.2) - 1)) = ((idD h.2.2.2.2 h.2.2.2.1 : Nat) : Int) := by
        have a : ∀ x : Int, IntKind.wrap .u32 x = x % 4294967296 := fun x => by rw [IntKind.wrap_u32]
        rw [a, a, wU64 (by omega)]
        unfold idD
        omega
      rw [e]
      have hi : idD h.2.2.2.2 h.2.2.2.1 < 4294967296 := by unfold idD; omega
      refine spec_r2_Var (by omega) fun d w8 o8 f8 => ?_
      have lv2 := varB_len (idD h.2.2.2.2 h.2.2.2.1)
      have lg2 := groupsM_le (v := (idD h.2.2.2.2 h.2.2.2.1 : Int)) (by omega) (by omega)
      rw [Int.toNat_natCast] at lg2
      have lt32 : (if h.1 ≤ 3 then bitsOf h.2.2.2.1.toNat 32 else []).length ≤ 32 := by split <;> simp [bitsOf_len]
      refine appB (n := w1.heap.size) (o7.none f8) (by have := f8.size; omega) o8.sl (by simp only [List.length_append]; omega) fun r w9 o9 f9 => ⟨?_, (F7.then0 f8).newer f9 fun k e => hup e⟩
      simp only [List.append_assoc] at o9
      exact o9
    · rw [if_neg h2, List.append_nil]
      simp only [List.append_assoc] at o7
      exact ⟨o7, F7⟩
  rintro z v ⟨o, f⟩
  exact hk z v (o.up z1) f
/-- append(l, k...), in blocks of S. -/
theorem appS {S ok : Nat → Prop} {s s2 : Sl} {l l2 : List Bool} (h : Own S w 4 boolT s l) (hn : ∀ k, w.heap.size ≤ k → S k) (h2 : SlT ok w boolT s2 l2) (hm : l.length + l2.length ≤ 140737488355328) {K : Sl → W R} (hk : ∀ r w', Own S w' 4 boolT r (l ++ l2) → Fr S w w' → K r Q w') :
    rawW Tryz.prog (Builtin.append_ #[70, 70] 70 #[.slice s.a s.n s.c, .slice s2.a s2.n s2.c]) [.sc .sl] K Q w :=
  appI bools_ty (S' := S) h h2 (by omega) (by rw [maxLen_eq]; omega) (fun _ h => h) (hn _ (Nat.le_refl _)) fun r w' o f _ => hk r w' o (f.sub fun k e => h.own k e)
theorem spec_r20_id {S : Nat → Prop} {s : Sl} {l : List Bool} {last id : Int} (o : Own S w 4 boolT s l) (hn : ∀ k, w.heap.size ≤ k → S k) (hl : l.length ≤ 1048576) {K : Res [.sc .sl] → W R} (hk : ∀ r w', Own S w' 4 boolT r (l ++ idBits last id) → Fr S w w' → K r Q w') :
    callW Tryz.prog k_pinnaceref20_id [.slice s.a s.n s.c, .int .u32 last, .int .u32 id] [.sc .sl] K Q w := by
  refine C_pinnaceref20_id s _ _ K Q w ?_
  unfold F_pinnaceref20_id
  have e : IntKind.wrap .u64 (IntKind.wrap .u32 (IntKind.wrap .u32 (id - last) - 1)) = ((idD last id : Nat) : Int) := by
    have a : ∀ x : Int, IntKind.wrap .u32 x = x % 4294967296 := fun x => by rw [IntKind.wrap_u32]
    rw [a, a, wU64 (by omega)]
    unfold idD
    omega
  rw [e]
  have hi : idD last id < 4294967296 := by unfold idD; omega
  refine spec_r2_Var (by omega) fun d w2 o2 f2 => ?_
  have z2 := f2.size
  have lv2 := varB_len (idD last id)
  have lg2 := groupsM_le (v := (idD last id : Int)) (by omega) (by omega)
  rw [Int.toNat_natCast] at lg2
  exact appS (o.none f2) (fun k e => hn k (by omega)) o2.sl (by omega) fun r w3 o3 f3 => hk r w3 o3 (f2.any.then f3)
theorem idBits_le (last id : Int) : (idBits last id).length ≤ 80 := by
  have hi : idD last id < 4294967296 := by unfold idD; omega
  have lg2 := groupsM_le (v := (idD last id : Int)) (by omega) (by omega)
  rw [Int.toNat_natCast] at lg2
  unfold idBits
  rw [varB_len]
  omega
theorem compB_le {c : Comp} : (compB c).length ≤ 192 := by
  rw [compB_eq]
  have h3 := cntM_le c.1
  have := flat_le (fun i => partB (fieldP c i)) 64 (List.range (cntM c.1)) fun i _ => by
    obtain ⟨q1, q2⟩ := rangeM_i32 c.1 (i : Int)
    have := width_le (lo := (rangeM c.1 (i : Int)).1) (hi := (rangeM c.1 (i : Int)).2.1) (by omega)
    show (partB (fieldP c i)).length ≤ 64
    rw [partB_len]
    unfold fieldP
    rw [Int.toNat_natCast]
    exact this
  rw [List.length_range] at this
  omega
theorem spec_r20_comps {S ok : Nat → Prop} {s s2 : Sl} {l : List Bool} {cs : List Comp} (o : Own S w 4 boolT s l) (hn : ∀ k, w.heap.size ≤ k → S k) (hl : l.length + 192 * cs.length ≤ 1048576) (hS : SlT ok w compT s2 cs) (hd : ∀ k, k < w.heap.size → ok k → ¬ S k) (hc : ∀ c ∈ cs, checkM c = 0 ∧ CompOk c) {K : Res [.sc .sl] → W R}
    (hk : ∀ r w', Own S w' 4 boolT r (l ++ compsB cs) → Fr S w w' → K r Q w') :
    callW Tryz.prog k_pinnaceref20_comps [.slice s.a s.n s.c, .slice s2.a s2.n s2.c] [.sc .sl] K Q w := by
  refine C_pinnaceref20_comps s s2 K Q w ?_
  unfold F_pinnaceref20_comps
  have hlen := hS.len
  have hS := hS.mono (ok' := fun k => ok k ∧ k < w.heap.size) fun k hk e => ⟨e, hk⟩
  have nd : ∀ k, ok k ∧ k < w.heap.size → ¬ S k := fun k e e2 => hd k e.2 e.1 e2
  refine forI (N := s2.n) (fun s : Sl × Int => s.2) (fun j st u => st.2 = (j : Int) ∧ Own S u 4 boolT st.1 (l ++ compsB (cs.take j)) ∧ Fr S w u) ⟨rfl, by simpa [compsB] using o, Fr.refl _ _⟩ (fun j s w' h => h.1) ?_ ?_
  · rintro j ⟨a, _⟩ u K' hj ⟨rfl, o, fu⟩ - hK
    have zu := fu.size
    refine (hS.fr fu nd).get rfl rfl (by omega) fun c hcj => ?_
    obtain ⟨h1, h2⟩ := hc c (List.mem_of_getElem? hcj)
    refine newI fun u1 B1 f1 z1 => stoAll B1 rfl rfl fun u2 B2 f2 z2 => aggI B2 (x := c) rfl ?_
    have f12 : Fr None u u2 := f1.newer f2 fun k e => by omega
    refine spec_r6_Put h1 h2 fun r u3 o3 f3 => ?_
    have f13 := f12.then0 f3
    have z3 := f13.size
    have l1 : (compsB (cs.take j)).length ≤ 192 * (cs.take j).length := flat_le _ 192 _ fun c _ => compB_le
    have l2 := compB_le (c := c)
    have l3 : (cs.take j).length ≤ cs.length := by rw [List.length_take]; omega
    refine appS (o.none f13) (fun k e => hn k (by omega)) o3.sl (by simp only [List.length_append]; omega) fun r2 u4 o4 f4 => ?_
    refine hK _ _ ⟨wsucc hj (by omega), ?_, (fu.then0 f13).then f4⟩
    have e : compsB (cs.take (j + 1)) = compsB (cs.take j) ++ compB c := by unfold compsB; rw [take_at hcj, List.flatMap_append]; simp
    rw [e, ← List.append_assoc]
    exact o4
  · rintro ⟨a, _⟩ u ⟨_, o, fu⟩
    rw [List.take_of_length_le (by omega)] at o
    exact hk a u o fu

end Go.Proofs.YtchhhjlpnecjkaaGreat

namespace Go.Proofs.YtchhhjlpnecjkaaGreat
open Go Go.RowKit Go.Proofs.YtchhhjlpnecjkaaGreat.Den
variable {R : Type} {Q : R → World → Prop} {w : World}

def lastF {α : Type} (id : α → Int) (last : Int) (l : List α) : Int := l.foldl (fun _ a => id a) last
theorem lastF_snoc {α : Type} (id : α → Int) (last : Int) (l : List α) (a : α) : lastF id last (l ++ [a]) = id a := by unfold lastF; rw [List.foldl_append]; rfl
theorem encs_app {α : Type} (enc : Int → α → List Bool) (id : α → Int) : ∀ (l k : List α) (last : Int), encs enc id last (l ++ k) = encs enc id last l ++ encs enc id (lastF id last l) k
  | [], _, _ => rfl
  | a :: r, k, last => by
    rw [List.cons_append, encs, encs, encs_app enc id r k (id a), List.append_assoc]
    rfl
theorem encs_snoc {α : Type} (enc : Int → α → List Bool) (id : α → Int) (l : List α) (a : α) (last : Int) : encs enc id last (l ++ [a]) = encs enc id last l ++ enc (lastF id last l) a := by
  rw [encs_app]
  simp [encs]
theorem encs_take {α : Type} (enc : Int → α → List Bool) (id : α → Int) (l : List α) (last : Int) (j : Nat) : (encs enc id last (l.take j)).length ≤ (encs enc id last l).length := by
  have := encs_app enc id (l.take j) (l.drop j) last
  rw [List.take_append_drop] at this
  rw [this, List.length_append]
  omega
/-- an entity whose bits can be told. -/
def EntTold (e : Ent) : Prop := EntFit e ∧ (∀ c ∈ e.2, checkM c = 0) ∧ maskN e.2 < 32 ∧ e.2.length ≤ 6
theorem entB_le {last : Int} {e : Ent} (h : e.2.length ≤ 6) : (entB last e).length ≤ 1300 := by
  have h1 := idBits_le last e.1
  have h2 : (compsB e.2).length ≤ 192 * e.2.length := flat_le _ 192 _ fun c _ => compB_le
  unfold entB
  rw [List.length_append, List.length_append, bitsOf_len]
  omega
theorem encs_pos {α : Type} {enc : Int → α → List Bool} {id : α → Int} (h : ∀ last a, 1 ≤ (enc last a).length) : ∀ (l : List α) (last : Int), l.length ≤ (encs enc id last l).length
  | [], _ => by simp
  | a :: r, last => by
    have h1 := encs_pos (id := id) h r (id a)
    have h2 := h last a
    rw [encs, List.length_append, List.length_cons]
    omega
theorem varB_pos (v : Nat) : 1 ≤ (varB v).length := by
  rw [varB_len]
  unfold groupsM
  omega
theorem spec_r20_ents {S ok : Nat → Prop} {s s2 : Sl} {raws : List (Int × Sl)} {l : List Bool} {L : List Ent} (o : Own S w 4 boolT s l) (hn : ∀ k, w.heap.size ≤ k → S k) (hS : SlT ok w entT s2 raws) (hE : EntsR ok w raws L) (hd : ∀ k, k < w.heap.size → ok k → ¬ S k) (hL : ∀ e ∈ L, EntTold e) (hl : l.length + (entsB L).length ≤ 1000000) {K : Res [.sc .sl] → W R}
    (hk : ∀ r w', Own S w' 4 boolT r (l ++ entsB L) → Fr S w w' → K r Q w') :
    callW Tryz.prog k_pinnaceref20_ents [.slice s.a s.n s.c, .slice s2.a s2.n s2.c] [.sc .sl] K Q w := by
  refine C_pinnaceref20_ents s s2 K Q w ?_
  unfold F_pinnaceref20_ents
  have hlen := hS.len.trans hE.len
  have hS := hS.mono (ok' := fun k => ok k ∧ k < w.heap.size) fun k hk e => ⟨e, hk⟩
  have hE := hE.mono (ok' := fun k => ok k ∧ k < w.heap.size) fun k hk e => ⟨e, hk⟩
  have nd : ∀ k, ok k ∧ k < w.heap.size → ¬ S k := fun k e e2 => hd k e.2 e.1 e2
  have heb : (entsB L).length = (varB L.length).length + (encs entB (fun e : Ent => e.1) 0 L).length := by unfold entsB; rw [List.length_append]
  have hLl := encs_pos (enc := entB) (id := fun e : Ent => e.1) (fun last a => by unfold entB; rw [List.length_append]; have := varB_pos (idD last a.1); unfold idBits; omega) L 0
  have ew : IntKind.wrap .u64 (s2.n : Int) = ((L.length : Nat) : Int) := by rw [wU64 (by omega)]; omega
  rw [ew]
  refine spec_r2_Var (by omega) fun d w2 o2 f2 => ?_
  have z2 := f2.size
  refine appS (o.none f2) (fun k e => hn k (by omega)) o2.sl (by omega) fun r w3 o3 f3 => ?_
  have f03 : Fr S w w3 := f2.any.then f3
  refine forI (N := s2.n) (fun s : Sl × Int × Int => s.2.2) (fun j st u => st.2.2 = (j : Int) ∧ st.2.1 = lastF (fun e : Ent => e.1) 0 (L.take j) ∧ Own S u 4 boolT st.1 (l ++ varB L.length ++ encs entB (fun e : Ent => e.1) 0 (L.take j)) ∧ Fr S w u) ⟨rfl, rfl, by simpa [encs] using o3, f03⟩ (fun j s w' h => h.1) ?_ ?_
  · rintro j ⟨a, la, _⟩ u K' hj ⟨rfl, rfl, o, fu⟩ - hK
    have zu := fu.size
    obtain ⟨e, he⟩ : ∃ e, L[j]? = some e := ⟨_, List.getElem?_eq_getElem (by omega)⟩
    obtain ⟨r1, hr1, ha1, ha2⟩ := hE.get he
    obtain ⟨⟨⟨i0, i1⟩, hsm, hco⟩, hck, hmk, h6⟩ := hL e (List.mem_of_getElem? he)
    refine (hS.fr fu nd).get rfl rfl (by have := hE.len; omega) fun y hy => ?_
    rw [hr1] at hy
    cases hy
    refine newI fun u1 B1 f1 z1 => stoAll B1 rfl rfl fun u2 B2 f2' z2' => ?_
    have f12 : Fr None u u2 := f1.newer f2' fun k e => by omega
    have fu2 := fu.then0 f12
    have htk := encs_take entB (fun e : Ent => e.1) L 0 j
    have o2 : Own (fun k => S k ∧ k ≠ u.heap.size) u2 4 boolT a (l ++ varB L.length ++ encs entB (fun e : Ent => e.1) 0 (L.take j)) := (o.mono (S' := fun k => S k ∧ k ≠ u.heap.size) fun k hk e => ⟨e, by omega⟩).none f12
    have hn2 : ∀ {v : World}, u2.heap.size ≤ v.heap.size → ∀ k, v.heap.size ≤ k → S k ∧ k ≠ u.heap.size := fun hv k e => ⟨hn k (by omega), by omega⟩
    refine fldI B2 (i := 0) (x := r1.1) rfl ?_
    rw [ha1]
    refine spec_r20_id o2 (hn2 (Nat.le_refl _)) (by simp only [List.length_append]; omega) fun r3 u3 o3 f3' => ?_
    have z3 := f3'.size
    have B3 := B2.fr f3' fun e => e.2 rfl
    have fu3 := fu2.then (f3'.sub fun k e => e.1)
    have li := idBits_le (lastF (fun e : Ent => e.1) 0 (L.take j)) e.1
    refine fldI B3 (i := 0) (x := r1.1) rfl (fldI B3 (i := 1) (x := r1.2) rfl ?_)
    refine spec_r5_Mask (ha2.fr fu3 nd) hsm fun u4 f4 => ?_
    have em : IntKind.wrap .u64 ((maskN e.2 : Nat) : Int) = ((maskN e.2 : Nat) : Int) := by rw [wU64 (by omega)]
    rw [em]
    have z4 := f4.size
    refine spec_r1_Put (n := 5) (o3.none f4).sl (by decide) (by omega) (by simp only [List.length_append]; omega) fun r5 u5 o5 f5 => ?_
    have z5 := f5.size
    have f45 := f4.then0 f5
    have B5 := B3.fr f45 fun h => h
    have fu5 := fu3.then0 f45
    have o5 : Own (fun k => S k ∧ k ≠ u.heap.size) u5 4 boolT r5 _ := o5.mono fun k _ e => by have e : u4.heap.size ≤ k := e; exact ⟨hn k (by omega), by omega⟩
    refine fldI B5 (i := 1) (x := r1.2) rfl ?_
    refine spec_r20_comps o5 (hn2 (by omega)) (by simp only [List.length_append, bitsOf_len]; omega) (ha2.fr fu5 nd) (fun k _ e e2 => nd k e e2.1) (fun c hc => ⟨hck c hc, hco c hc⟩) fun r6 u6 o6 f6 => ?_
    refine hK _ _ ⟨wsucc hj (by omega), ?_, ?_, fu5.then (f6.sub fun k e => e.1)⟩
    · rw [take_at he, lastF_snoc, ← ha1]
    · rw [take_at he, encs_snoc]
      unfold entB
      have o7 := o6.mono (S' := S) fun k _ e => e.1
      simp only [List.append_assoc] at o7 ⊢
      exact o7
  · rintro ⟨a, la, _⟩ u ⟨_, _, o, fu⟩
    rw [List.take_of_length_le (by omega), List.append_assoc] at o
    exact hk a u o fu

end Go.Proofs.YtchhhjlpnecjkaaGreat

namespace Go.Proofs.YtchhhjlpnecjkaaGreat
open Go Go.RowKit Go.Proofs.YtchhhjlpnecjkaaGreat.Den
variable {R : Type} {Q : R → World → Prop} {w : World}

def padB (L : List Bool) (n : Nat) : List Int := (List.range n).map fun j => (byteAt L j : Int)
theorem padB_len (L : List Bool) (n : Nat) : (padB L n).length = n := by simp [padB]
theorem padB_nil (n : Nat) : padB [] n = List.replicate n (0 : Int) := by
  unfold padB
  have : ∀ j, ((byteAt [] j : Nat) : Int) = 0 := fun j => rfl
  simp only [this]
  rw [List.map_const', List.length_range]
theorem padB_snoc (L : List Bool) (b : Bool) {n : Nat} (h : L.length / 8 < n) : padB (L ++ [b]) n = (padB L n).set (L.length / 8) ((byteAt L (L.length / 8) + bitN b * 2 ^ (L.length % 8) : Nat) : Int) := by
  refine List.ext_getElem? fun i => ?_
  rw [List.getElem?_set]
  unfold padB
  simp only [List.length_map, List.length_range, List.getElem?_map]
  split
  · rename_i h
    subst h
    rw [List.getElem?_range (by omega)]
    simp only [Option.map_some]
    rw [byteAt_here.1]
  · rename_i h
    rcases Nat.lt_or_ge i n with hi | hi
    · rw [List.getElem?_range hi]
      simp only [Option.map_some]
      rw [byteAt_other (fun h2 => h h2.symm)]
    · rw [List.getElem?_eq_none (by simpa using hi)]
      rfl
theorem padB_at (L : List Bool) {n j : Nat} (h : j < n) : (padB L n)[j]? = some (byteAt L j : Int) := by
  unfold padB
  rw [List.getElem?_map, List.getElem?_range h]
  rfl
theorem add_byte : ∀ r : Fin 8, ∀ x : Fin 128, x.val < 2 ^ r.val → IntKind.wrap .u8 (((x.val : Nat) : Int) + shL .u8 1 ((r.val : Nat) : Int)) = ((x.val + 2 ^ r.val : Nat) : Int) := by decide +kernel
/-- a byte is set anew. -/
theorem updI {S : Nat → Prop} {s : Sl} {l : List Int} (o : Own S w 5 u8T s l) {i : Nat} {x : Int} (hx : l[i]? = some x) {i1 i2 : Int} (h1 : i1 = (i : Int)) (h2 : i2 = (i : Int)) {c : Prop} (hc : c) {f : Int → Int} {K : W R} (hk : ∀ w', Own S w' 5 u8T s (l.set i (f x)) → Fr (fun k => s.v.ownBlock = some k) w w' → w'.heap.size = w.heap.size → K Q w') :
    idxW s.a s.n 1 i1 (fun a => ld (.sc (.int .u8)) a fun b => chkW c <| idxW s.a s.n 1 i2 fun y => stoL y [.int .u8 (f b)] 0 K) Q w := by
  subst h1; subst h2
  have hi := (List.getElem?_eq_some_iff.1 hx).1
  refine o.idx rfl (by omega) (by omega) fun g y hg hy hr => ?_
  rw [Int.toNat_natCast] at hy hr ⊢
  rw [hx] at hy
  cases hy
  refine ldI x hr (chkI hc ?_)
  refine o.idx rfl (by omega) (by omega) fun g2 x2 hg2 hx2 hr2 => ?_
  rw [hg] at hg2
  cases hg2
  rw [Int.toNat_natCast]
  exact o.set rfl hi hg (f x) hk
theorem spec_r1_Bytes {ok : Nat → Prop} {s : Sl} {L : List Bool} (hS : SlT ok w boolT s L) (hm : L.length ≤ 140737488355000) {K : Res [.sc .sl] → W R} (hk : ∀ r w', Own (Up w.heap.size) w' 5 u8T r (packM L) → Fr None w w' → K r Q w') :
    callW Tryz.prog k_pinnaceref01_Bytes [.slice s.a s.n s.c] [.sc .sl] K Q w := by
  refine C_pinnaceref01_Bytes s K Q w ?_
  unfold F_pinnaceref01_Bytes
  have hlen := hS.len
  obtain ⟨n, hn⟩ : ∃ n, n = (L.length + 7) / 8 := ⟨_, rfl⟩
  have hnI : IntKind.wrap .i64 (Int.tdiv (IntKind.wrap .i64 ((s.n : Int) + 7)) 8) = (n : Int) := by
    rw [w64 (x := (s.n : Int) + 7) (by omega), Int.tdiv_eq_ediv_of_nonneg (by omega), w64 (by omega)]
    omega
  refine makeI bytes_ty (z := (0 : Int)) (zv := .int .u8 0) (by kernel_rfl) rfl (n := n) hnI (by omega) (by omega) fun w1 o1 f1 s1 => ?_
  refine forI (N := s.n) (fun s : Int => s) (fun j i v => i = (j : Int) ∧ Own (fun k => k = w.heap.size) v 5 u8T ⟨some ⟨w.heap.size, 0, none⟩, n, n⟩ (padB (L.take j) n) ∧ Fr None w v) ⟨rfl, by rw [List.take_zero, padB_nil]; exact o1, f1⟩ (fun j s w' h => h.1) ?_ ?_
  · rintro j i v K' hj ⟨rfl, o, fv⟩ - hK
    refine (hS.fr0 fv).get rfl rfl (by omega) fun b hb => ?_
    have htl : (L.take j).length = j := by rw [List.length_take]; omega
    have hq : j / 8 < n := by omega
    have e := padB_snoc (L.take j) b (n := n) (by rw [htl]; exact hq)
    rw [← take_at hb, htl] at e
    have hlt := (byteAt_here (L := L.take j) (b := b)).2
    rw [htl] at hlt
    have hr8 : j % 8 < 8 := Nat.mod_lt _ (by decide)
    have hp : 2 ^ (j % 8) ≤ 128 := Nat.le_trans (Nat.pow_le_pow_right (by decide) (show j % 8 ≤ 7 by omega)) (by decide)
    refine joinI (fun (_ : Unit) v' => Own (fun k => k = w.heap.size) v' 5 u8T ⟨some ⟨w.heap.size, 0, none⟩, n, n⟩ (padB (L.take (j + 1)) n) ∧ Fr None w v') ?_ fun _ v' ⟨h1, h2⟩ => hK _ _ ⟨wsucc hj (by omega), h1, h2⟩
    have ei : IntKind.wrap .i64 (Int.tdiv (j : Int) 8) = ((j / 8 : Nat) : Int) := by
      rw [Int.tdiv_eq_ediv_of_nonneg (by omega), w64 (by omega)]
      omega
    have em : IntKind.wrap .u64 (Int.tmod (j : Int) 8) = ((j % 8 : Nat) : Int) := by
      rw [Int.tmod_eq_emod_of_nonneg (by omega), wU64 (by omega)]
      omega
    cases b with
    | true =>
      refine condT rfl ?_
      rw [em]
      refine updI o (i := j / 8) (padB_at _ hq) ei ei (c := 0 ≤ ((j % 8 : Nat) : Int)) (by omega) (f := fun x => IntKind.wrap .u8 (x + shL .u8 1 ((j % 8 : Nat) : Int))) fun v' o' f' _ => ⟨?_, fv.newer f' fun k e => by simp only [Sl.v, Value.ownBlock, Option.some.injEq] at e; omega⟩
      have := add_byte ⟨j % 8, hr8⟩ ⟨byteAt (L.take j) (j / 8), by omega⟩ hlt
      dsimp only at this o'
      rw [this] at o'
      rw [e]
      have eb : bitN true * 2 ^ (j % 8) = 2 ^ (j % 8) := by rw [show bitN true = 1 from rfl, Nat.one_mul]
      rw [eb]
      exact o'
    | false =>
      refine condF rfl ⟨?_, fv⟩
      rw [e]
      have eb : bitN false * 2 ^ (j % 8) = 0 := by rw [show bitN false = 0 from rfl, Nat.zero_mul]
      rw [eb, Nat.add_zero]
      have : (padB (L.take j) n).set (j / 8) ((byteAt (L.take j) (j / 8) : Nat) : Int) = padB (L.take j) n := by
        have hg := padB_at (L.take j) hq
        obtain ⟨hl, hg⟩ := List.getElem?_eq_some_iff.1 hg
        rw [← hg]
        exact List.set_getElem_self hl
      rw [this]
      exact o
  · rintro i v ⟨_, o, fv⟩
    rw [List.take_of_length_le (by omega)] at o
    refine hk _ v ?_ fv
    have : padB L n = packM L := by unfold padB packM; rw [hn]
    rw [this] at o
    exact o.mono fun k _ e => by show w.heap.size ≤ k; omega

end Go.Proofs.YtchhhjlpnecjkaaGreat
