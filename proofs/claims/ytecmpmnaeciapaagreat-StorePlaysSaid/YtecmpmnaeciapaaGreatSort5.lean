/-
  slices.Sort of bytes: pivots, patterns, the whole.
-/
import Derived.Test.YtecmpmnaeciapaaGreatSort4
import Derived.Lib.ItoaNum
namespace Go.Proofs.YtecmpmnaeciapaaGreat
open Go Go.RowKit Go.Proofs.YtecmpmnaeciapaaGreat.Den
open Go.Sort (swp ltInt PermIn SortedIn)
variable {R : Type} {Q : R → World → Prop} {w : World}
section
variable {ok : Nat → Prop} {S : Nat → Prop} {s : Sl} {d : Array Int}
theorem rdS (h : SlT ok w bT s d.toList) {ie : Int} {j : Nat} (hi : ie = (j : Int)) (hj : j < d.size) {K : Int → W R} (hk : K d[j]! Q w) : idxW s.a s.n 1 ie (fun a => ld (.sc (.int .u8)) a K) Q w := by
  refine h.get rfl hi (by simpa using hj) fun x hx => ?_
  rw [Array.getElem?_toList] at hx
  have e : d[j]! = x := by
    rw [getElem!_pos d j hj]
    exact (Array.getElem?_eq_some_iff.1 hx).2
  rw [e] at hk
  exact hk

/-! ### the pivot -/
/-- swaps is counted in block g. -/
structure Cnt (ok : Nat → Prop) (g : Nat) (s : Sl) (d : Array Int) (w : World) : Prop where
  sl : SlT ok w bT s d.toList
  ne : ∀ k, ok k → k ≠ g
  blk : ∃ n : Int, Blk w g 3 [.int .i64 n]
theorem Cnt.drew {g : Nat} (h : Cnt ok g s d w) {w' : World} (f : Fr None w w') : Cnt ok g s d w' := ⟨h.sl.fr0 f, h.ne, by obtain ⟨n, B⟩ := h.blk; exact ⟨n, B.fr f fun h => h⟩⟩
theorem spec_order2 {g : Nat} (h : Cnt ok g s d w) {a b : Nat} (ha : a < d.size) (hb : b < d.size) {K : Res [.sc (.int .i64), .sc (.int .i64)] → W R}
    (hk : ∀ p q w', (p = a ∧ q = b) ∨ (p = b ∧ q = a) → Cnt ok g s d w' → Fr (fun k => k = g) w w' → K ((p : Int), (q : Int)) Q w') :
    callW Tryz.prog k_slices_order2Ordered_byte [.slice s.a s.n s.c, .int .i64 (a : Int), .int .i64 (b : Int), .pointer (some ⟨g, 0, none⟩)] [.sc (.int .i64), .sc (.int .i64)] K Q w := by
  refine C_slices_order2Ordered_byte _ _ _ _ K Q w ?_
  unfold F_slices_order2Ordered_byte
  have fd : Fr None w w.drew := (Fr.refl _ _).drew
  have hd := h.drew fd
  refine rdS hd.sl rfl hb (rdS hd.sl rfl ha (spec_Less_byte ?_))
  refine condI (fun _ => ?_) fun _ => hk a b _ (.inl ⟨rfl, rfl⟩) hd fd.any
  obtain ⟨n, B⟩ := hd.blk
  refine ptrI (fld0 (i := 0) (x := n) B rfl ?_)
  refine ptrI (stoAll B rfl rfl fun w2 B2 f2 s2 => ?_)
  refine hk b a w2 (.inr ⟨rfl, rfl⟩) ⟨hd.sl.fr f2 fun k hk e => hd.ne k hk e, hd.ne, _, B2⟩ (fd.any.then f2)
theorem spec_median {g : Nat} (h : Cnt ok g s d w) {a b c : Nat} (ha : a < d.size) (hb : b < d.size) (hc : c < d.size) {K : Res [.sc (.int .i64)] → W R}
    (hk : ∀ p w', (p = a ∨ p = b ∨ p = c) → Cnt ok g s d w' → Fr (fun k => k = g) w w' → K (p : Int) Q w') :
    callW Tryz.prog k_slices_medianOrdered_byte [.slice s.a s.n s.c, .int .i64 (a : Int), .int .i64 (b : Int), .int .i64 (c : Int), .pointer (some ⟨g, 0, none⟩)] [.sc (.int .i64)] K Q w := by
  refine C_slices_medianOrdered_byte _ _ _ _ _ K Q w ?_
  unfold F_slices_medianOrdered_byte
  refine spec_order2 h ha hb fun p q w1 h1 c1 f1 => ?_
  refine spec_order2 c1 (a := q) (b := c) (by omega) hc fun p2 q2 w2 h2 c2 f2 => ?_
  refine spec_order2 c2 (a := p) (b := p2) (by omega) (by omega) fun p3 q3 w3 h3 c3 f3 => ?_
  exact hk q3 w3 (by omega) c3 ((f1.then f2).then f3)
theorem spec_medianAdj {g : Nat} (h : Cnt ok g s d w) (hm : d.size ≤ 1048576) {a : Nat} (ha : 1 ≤ a) (hb : a + 1 < d.size) {K : Res [.sc (.int .i64)] → W R}
    (hk : ∀ p w', (p = a - 1 ∨ p = a ∨ p = a + 1) → Cnt ok g s d w' → Fr (fun k => k = g) w w' → K (p : Int) Q w') :
    callW Tryz.prog k_slices_medianAdjacentOrdered_byte [.slice s.a s.n s.c, .int .i64 (a : Int), .pointer (some ⟨g, 0, none⟩)] [.sc (.int .i64)] K Q w := by
  refine C_slices_medianAdjacentOrdered_byte _ _ _ K Q w ?_
  unfold F_slices_medianAdjacentOrdered_byte
  rw [show IntKind.wrap .i64 ((a : Int) - 1) = ((a - 1 : Nat) : Int) from wn (by omega) (by omega), show IntKind.wrap .i64 ((a : Int) + 1) = ((a + 1 : Nat) : Int) from wn (by omega) (by omega)]
  exact spec_median h (by omega) (by omega) (by omega) hk
theorem spec_pivot (h : DA S w s d) (hm : d.size ≤ 1048576) {a b : Nat} (hab : a < b) (hb : b ≤ d.size) {K : Res [.sc (.int .i64), .sc (.int .i64)] → W R}
    (hk : ∀ (p : Nat) (z : Int) w', a ≤ p → p < b → Fr None w w' → K ((p : Int), z) Q w') :
    callW Tryz.prog k_slices_choosePivotOrdered_byte [.slice s.a s.n s.c, .int .i64 (a : Int), .int .i64 (b : Int)] [.sc (.int .i64), .sc (.int .i64)] K Q w := by
  refine C_slices_choosePivotOrdered_byte _ _ _ K Q w ?_
  unfold F_slices_choosePivotOrdered_byte
  have e1 : IntKind.wrap .i64 ((b : Int) - (a : Int)) = ((b - a : Nat) : Int) := wn (by omega) (by omega)
  have e2 : IntKind.wrap .i64 (Int.tdiv ((b - a : Nat) : Int) 4) = (((b - a) / 4 : Nat) : Int) := wn (by rw [Int.tdiv_eq_ediv_of_nonneg (by omega)]; omega) (by omega)
  have e3 : ∀ n : Nat, n ≤ 3 → IntKind.wrap .i64 ((a : Int) + IntKind.wrap .i64 ((((b - a) / 4 : Nat) : Int) * (n : Int))) = ((a + (b - a) / 4 * n : Nat) : Int) := fun n hn => by
    have h1 : (b - a) / 4 * n ≤ (b - a) / 4 * 3 := Nat.mul_le_mul_left _ hn
    rw [wn (x := (((b - a) / 4 : Nat) : Int) * (n : Int)) (n := (b - a) / 4 * n) (by push_cast; rfl) (by omega)]
    exact wn (by push_cast; rfl) (by omega)
  have i1 := e3 1 (by omega)
  have i2 := e3 2 (by omega)
  have i3 := e3 3 (by omega)
  rw [e1, e2]
  rw [show (((1 : Nat) : Int)) = 1 from rfl] at i1
  rw [show (((2 : Nat) : Int)) = 2 from rfl] at i2
  rw [show (((3 : Nat) : Int)) = 3 from rfl] at i3
  rw [i1, i2, i3]
  have j1 : a ≤ a + (b - a) / 4 * 1 ∧ a + (b - a) / 4 * 1 < b := by omega
  have j2 : a ≤ a + (b - a) / 4 * 2 ∧ a + (b - a) / 4 * 2 < b := by omega
  have j3 : a ≤ a + (b - a) / 4 * 3 ∧ a + (b - a) / 4 * 3 < b := by omega
  have k1 : 50 ≤ b - a → 1 ≤ a + (b - a) / 4 * 1 ∧ a + (b - a) / 4 * 1 - 1 ≥ a ∧ a + (b - a) / 4 * 1 + 1 < b := by omega
  have k2 : 50 ≤ b - a → 1 ≤ a + (b - a) / 4 * 2 ∧ a + (b - a) / 4 * 2 - 1 ≥ a ∧ a + (b - a) / 4 * 2 + 1 < b := by omega
  have k3 : 50 ≤ b - a → 1 ≤ a + (b - a) / 4 * 3 ∧ a + (b - a) / 4 * 3 - 1 ≥ a ∧ a + (b - a) / 4 * 3 + 1 < b := by omega
  generalize a + (b - a) / 4 * 1 = A1 at j1 k1
  generalize a + (b - a) / 4 * 2 = A2 at j2 k2
  generalize a + (b - a) / 4 * 3 = A3 at j3 k3
  clear i1 i2 i3 e3
  have hsl : SlT (fun k => k < w.heap.size) w bT s d.toList := h.sl.mono fun k hk _ => hk
  refine newI fun w1 B1 f1 s1 => ?_
  have hc : Cnt (fun k => k < w.heap.size) w.heap.size s d w1 := ⟨hsl.fr0 f1, fun k hk => by omega, 0, B1⟩
  refine joinI (fun (p : Int) w' => ∃ q : Nat, p = (q : Int) ∧ a ≤ q ∧ q < b ∧ Cnt (fun k => k < w.heap.size) w.heap.size s d w' ∧ Fr (fun k => k = w.heap.size) w1 w') ?_ ?_
  · refine condD (fun h8 => ?_) fun h8 => ⟨A2, rfl, j2.1, j2.2, hc, Fr.refl _ _⟩
    have h8 : ((b - a : Nat) : Int) ≥ 8 := h8
    refine joinI (fun (t : Int × Int × Int) w' => ∃ x y z : Nat, t = ((x : Int), (y : Int), (z : Int)) ∧ (a ≤ x ∧ x < b) ∧ (a ≤ y ∧ y < b) ∧ (a ≤ z ∧ z < b) ∧ Cnt (fun k => k < w.heap.size) w.heap.size s d w' ∧ Fr (fun k => k = w.heap.size) w1 w') ?_ ?_
    · refine condD (fun h50 => ?_) fun h50 => ⟨A1, A2, A3, rfl, j1, j2, j3, hc, Fr.refl _ _⟩
      have h50 : ((b - a : Nat) : Int) ≥ 50 := h50
      have k1 := k1 (by omega)
      have k2 := k2 (by omega)
      have k3 := k3 (by omega)
      refine spec_medianAdj hc hm (by omega) (by omega) fun x w2 h2 c2 f2 => ?_
      refine spec_medianAdj c2 hm (by omega) (by omega) fun y w3 h3 c3 f3 => ?_
      refine spec_medianAdj c3 hm (by omega) (by omega) fun z w4 h4 c4 f4 => ?_
      exact ⟨x, y, z, rfl, by omega, by omega, by omega, c4, (f2.then f3).then f4⟩
    · rintro t w2 ⟨x, y, z, rfl, h1, h2, h3, c2, f2⟩
      refine spec_median c2 (a := x) (b := y) (c := z) (by omega) (by omega) (by omega) fun p w3 h4 c3 f3 => ⟨p, rfl, by omega, by omega, c3, f2.then f3⟩
  · rintro p w2 ⟨q, rfl, h1, h2, c2, f2⟩
    obtain ⟨n, B⟩ := c2.blk
    have fin : Fr None w w2 := f1.newer f2 fun k e => by omega
    refine fld0 (i := 0) (x := n) B rfl ?_
    exact condI (fun _ => hk q 1 w2 h1 h2 fin) fun _ => condI (fun _ => hk q 2 w2 h1 h2 fin) fun _ => hk q 0 w2 h1 h2 fin

/-! ### patterns broken -/
theorem wrap64_range (x : Int) : 0 ≤ IntKind.wrap .u64 x ∧ IntKind.wrap .u64 x ≤ 18446744073709551615 := by rw [IntKind.wrap_u64]; omega
theorem bAnd_le {x y : Int} (h0 : 0 ≤ y) (h1 : y ≤ 18446744073709551615) : 0 ≤ bAnd .u64 x y ∧ bAnd .u64 x y ≤ y := by
  unfold bAnd
  have e : ((BitVec.ofInt 64 y).toNat : Int) = y := by
    rw [BitVec.toNat_ofInt]
    have : (2 : Int) ^ 64 = 18446744073709551616 := by decide
    omega
  have h2 : (BitVec.ofInt IntKind.u64.bits x &&& BitVec.ofInt IntKind.u64.bits y).toNat ≤ (BitVec.ofInt 64 y).toNat := by
    rw [BitVec.toNat_and]; exact Nat.and_le_right
  have h3 : (((BitVec.ofInt IntKind.u64.bits x &&& BitVec.ofInt IntKind.u64.bits y).toNat : Nat) : Int) ≤ y := by omega
  rw [IntKind.wrap_u64]
  omega
theorem spec_xorshift {g : Nat} {T : TypeId} {v : Int} (B : Blk w g T [.int .u64 v]) {K : Res [.sc (.int .u64)] → W R} (hk : ∀ x w', Blk w' g T [.int .u64 x] → Fr (fun k => k = g) w w' → K x Q w') :
    callW Tryz.prog k_slices_xorshift_Next [.pointer (some ⟨g, 0, none⟩)] [.sc (.int .u64)] K Q w := by
  refine C_slices_xorshift_Next _ K Q w ?_
  unfold F_slices_xorshift_Next
  refine ptrI (fld0 (i := 0) (x := v) B.drew rfl (ptrI (fld0 (i := 0) (x := v) B.drew rfl (ptrI (stoAll B.drew rfl rfl fun w1 B1 f1 _ => ?_)))))
  refine ptrI (fld0 (i := 0) B1.drew rfl (ptrI (fld0 (i := 0) B1.drew rfl (ptrI (stoAll B1.drew rfl rfl fun w2 B2 f2 _ => ?_)))))
  refine ptrI (fld0 (i := 0) B2.drew rfl (ptrI (fld0 (i := 0) B2.drew rfl (ptrI (stoAll B2.drew rfl rfl fun w3 B3 f3 _ => ?_)))))
  have fd : ∀ {v : World}, Fr (fun k => k = g) v v.drew := fun {v} => (Fr.refl _ v).drew
  exact ptrI (fld0 (i := 0) B3 rfl (hk _ w3 B3 (((fd.then f1).then (fd.then f2)).then (fd.then f3))))
theorem pow_bitLen {n : Nat} (h : 0 < n) (hn : n ≤ 1048576) : 1 ≤ Lib.bitLen n ∧ Lib.bitLen n ≤ 21 ∧ 2 ^ Lib.bitLen n ≤ 2 * n := by
  obtain ⟨h1, h2, _⟩ := Lib.bitLenAux_bounds 64 n (by omega) (by omega)
  have e : Lib.bitLen n = Lib.bitLenAux 64 n := rfl
  rw [← e] at h1 h2
  refine ⟨h1, ?_, ?_⟩
  · have : 2 ^ (Lib.bitLen n - 1) ≤ 2 ^ 20 := by have : (2 : Nat) ^ 20 = 1048576 := by decide
                                                 omega
    have := (Nat.pow_le_pow_iff_right (by omega : 1 < 2)).1 this
    omega
  · have : 2 ^ Lib.bitLen n = 2 * 2 ^ (Lib.bitLen n - 1) := by
      rw [← Nat.pow_succ', Nat.succ_eq_add_one, Nat.sub_add_cancel h1]
    omega
theorem spec_break (h : DA S w s d) (hm : d.size ≤ 1048576) {a b : Nat} (hab : a < b) (hb : b ≤ d.size) {K : Res [] → W R} (hk : ∀ d' w', DA S w' s d' → PermIn a b d d' → Fr (OwnB s) w w' → K () Q w') :
    callW Tryz.prog k_slices_breakPatternsOrdered_byte [.slice s.a s.n s.c, .int .i64 (a : Int), .int .i64 (b : Int)] [] K Q w := by
  refine C_slices_breakPatternsOrdered_byte _ _ _ K Q w ?_
  unfold F_slices_breakPatternsOrdered_byte
  have e1 : IntKind.wrap .i64 ((b : Int) - (a : Int)) = ((b - a : Nat) : Int) := wn (by omega) (by omega)
  rw [e1]
  have e2 : IntKind.wrap .i64 (Int.tdiv ((b - a : Nat) : Int) 4) = (((b - a) / 4 : Nat) : Int) := wn (by rw [Int.tdiv_eq_ediv_of_nonneg (by omega)]; omega) (by omega)
  have e3 : IntKind.wrap .i64 ((((b - a) / 4 : Nat) : Int) * 2) = (((b - a) / 4 * 2 : Nat) : Int) := wn (by push_cast; rfl) (by omega)
  have e4 : IntKind.wrap .i64 ((a : Int) + (((b - a) / 4 * 2 : Nat) : Int)) = ((a + (b - a) / 4 * 2 : Nat) : Int) := wn (by push_cast; rfl) (by omega)
  have e5 : IntKind.wrap .i64 (((a + (b - a) / 4 * 2 : Nat) : Int) + 1) = ((a + (b - a) / 4 * 2 + 1 : Nat) : Int) := wn (by push_cast; rfl) (by omega)
  rw [e2, e3, e4, e5]
  refine joinI (fun (_ : Unit) w' => ∃ d', DA S w' s d' ∧ PermIn a b d d' ∧ Fr (OwnB s) w w') ?_ fun _ w' ⟨d', o, p, f⟩ => hk d' w' o p f
  refine condD (fun h8 => ?_) fun h8 => ⟨d, h, Go.Sort.permIn_refl _ _ _, Fr.refl _ _⟩
  have h8 : ((b - a : Nat) : Int) ≥ 8 := h8
  have e6 : IntKind.wrap .i64 (((a + (b - a) / 4 * 2 : Nat) : Int) - 1) = ((a + (b - a) / 4 * 2 - 1 : Nat) : Int) := wn (by omega) (by omega)
  rw [e6]
  refine newI fun w1 B1 f1 s1 => stoAll B1 rfl rfl fun w2 B2 f2 s2 => ?_
  have f02 : Fr None w w2 := f1.newer f2 fun k e => by omega
  refine C_slices_nextPowerOfTwo _ _ _ w2 ?_
  unfold F_slices_nextPowerOfTwo
  have e7 : IntKind.wrap .u64 ((b - a : Nat) : Int) = ((b - a : Nat) : Int) := by rw [IntKind.wrap_u64]; omega
  rw [e7]
  refine spec_bits_Len (by omega) (by omega) (chkI (by omega) ?_)
  rw [Int.toNat_natCast]
  obtain ⟨l1, l2, l3⟩ := pow_bitLen (n := b - a) (by omega) (by omega)
  generalize hL : Lib.bitLen (b - a) = L at l1 l2 l3
  have e8 : shL .u64 1 (L : Int) = ((2 ^ L : Nat) : Int) := by
    unfold shL
    rw [Int.toNat_natCast, show min L IntKind.u64.bits = L from Nat.min_eq_left (by show L ≤ 64; omega), IntKind.wrap_u64]
    have : (1 : Int) * 2 ^ L = ((2 ^ L : Nat) : Int) := by rw [Int.one_mul]; push_cast; rfl
    rw [this]
    generalize 2 ^ L = M at l3
    omega
  rw [e8]
  have hpos : 0 < 2 ^ L := Nat.pow_pos (by omega)
  generalize 2 ^ L = M at l3 hpos
  have e9 : IntKind.wrap .u64 ((M : Int) - 1) = (M : Int) - 1 := by rw [IntKind.wrap_u64]; omega
  unfold retW
  dsimp only
  rw [e9]
  have o2 : DA (fun k => S k ∧ k < w.heap.size) w2 s d := Own.st h f02 fun k hk e => ⟨fun h => h, e, hk⟩
  refine loopI (fun i w' => ∃ (n : Nat) (e : Array Int), i = (n : Int) ∧ a + (b - a) / 4 * 2 - 1 ≤ n ∧ n ≤ a + (b - a) / 4 * 2 + 2 ∧ (∃ v : Int, Blk w' w.heap.size 224 [.int .u64 v]) ∧ DA (fun k => S k ∧ k < w.heap.size) w' s e ∧ PermIn a b d e ∧ Fr (fun k => OwnB s k ∨ k = w.heap.size) w2 w') (fun i _ => a + (b - a) / 4 * 2 + 2 - i.toNat)
    ⟨_, d, rfl, Nat.le_refl _, by omega, ⟨_, B2⟩, o2, Go.Sort.permIn_refl _ _ _, Fr.refl _ _⟩ ?_
  rintro i w3 ⟨n, e, rfl, hn1, hn2, ⟨v, B3⟩, o3, hp, f3⟩
  have hz := hp.1
  refine condD (fun hle => ?_) fun hgt => ?_
  · have hle : (n : Int) ≤ ((a + (b - a) / 4 * 2 + 1 : Nat) : Int) := hle
    refine spec_xorshift B3 fun x w4 B4 f4 => ?_
    have o4 : DA (fun k => S k ∧ k < w.heap.size) w4 s e := o3.fr f4 fun k hk e => by omega
    obtain ⟨g1, g2⟩ := bAnd_le (x := x) (y := (M : Int) - 1) (by omega) (by omega)
    generalize bAnd .u64 x ((M : Int) - 1) = y at g1 g2
    have ey : IntKind.wrap .i64 y = y := w64 (by omega)
    rw [ey]
    refine joinI (fun (z : Int) w' => w' = w4 ∧ ∃ q : Nat, z = (q : Int) ∧ q < b - a) ?_ ?_
    · refine condD (fun h1 => ⟨rfl, (y - ((b - a : Nat) : Int)).toNat, ?_, ?_⟩) fun h1 => ⟨rfl, y.toNat, by omega, ?_⟩
      · have h1 : y ≥ ((b - a : Nat) : Int) := h1
        rw [w64 (by omega)]; omega
      · have h1 : y ≥ ((b - a : Nat) : Int) := h1
        omega
      · have h1 : ¬ y ≥ ((b - a : Nat) : Int) := h1
        omega
    · rintro z w5 ⟨rfl, q, rfl, hq⟩
      have fd : Fr None w5 w5.drew := (Fr.refl _ _).drew
      have e10 : IntKind.wrap .i64 ((a : Int) + (q : Int)) = ((a + q : Nat) : Int) := wn (by push_cast; rfl) (by omega)
      refine swpA (o4.none fd) rfl e10 (by omega) (by omega) fun w6 o6 f6 => ?_
      have e11 : IntKind.wrap .i64 ((n : Int) + 1) = ((n + 1 : Nat) : Int) := wn (by push_cast; rfl) (by omega)
      refine ⟨⟨n + 1, _, e11, by omega, by omega, ⟨x, (B4.fr fd fun h => h).fr f6 fun hk => ?_⟩, o6, Go.Sort.permIn_trans _ _ _ _ _ hp (Go.Sort.swp_permIn _ _ _ _ _ (by omega) (by omega) (by omega) (by omega) (by omega)), ?_⟩, by rw [e11]; omega⟩
      · have := (o4.own _ hk).2; omega
      · exact ((f3.then (f4.sub fun k e => .inr e)).then fd.any).then (f6.sub fun k e => .inl e)
  · refine ⟨e, o3.mono fun k _ h => h.1, hp, ?_⟩
    refine f02.trans f3 (fun _ h => h.elim) fun k hk e => ?_
    rcases e with e | e
    · exact e
    · omega
end

end Go.Proofs.YtecmpmnaeciapaaGreat
