/-
  append(s, make([]T, n)...).
-/
import Derived.Test.YtchhhjlpnecjkaaGreatSl2
import Derived.Lib.AppendZeros
import Derived.Test.YtchhhjlpnecjkaaGreatFrm
import Derived.Test.YtchhhjlpnecjkaaGreatSlo
import Derived.Laws.BytesArg
import Derived.Laws.Strings
namespace Go.Proofs.YtchhhjlpnecjkaaGreat.Den
open Go Go.RowKit
variable {R : Type} {Q : R → World → Prop} {w : World} {P : Program} {T E ty : TypeId} {t : Ty} {bytes : Nat}

theorem zeroCells_flat {z' : Value} {z : t.T} (hzc : z'.cells.toList = t.cells z) (hpos : 0 < t.size) (n : Nat) : (Builtin.zeroCells z'.cells n).toList = (List.replicate n z).flatMap t.cells := by
  apply List.ext_getElem?
  intro j
  have hzs : z'.cells = ⟨t.cells z⟩ := by rw [← hzc]
  have hsz : (t.cells z).length = t.size := t.cells_len z
  by_cases hj : j < n * t.size
  · have hq : j / t.size < n := Nat.div_lt_of_lt_mul (by rw [Nat.mul_comm]; exact hj)
    have hml : j % t.size < (t.cells z).length := by rw [hsz]; exact Nat.mod_lt _ hpos
    have e1 := flat_at (l := List.replicate n z) (i := j / t.size) (x := z) (by simp [hq]) (j % t.size) _ (List.getElem?_eq_getElem hml)
    rw [Nat.mul_comm, Nat.div_add_mod] at e1
    rw [e1, hzs]
    have hj' : j < (Builtin.zeroCells ⟨t.cells z⟩ n).size := by rw [size_zeroCells]; simp [hsz]; exact hj
    rw [Array.getElem?_toList, Array.getElem?_eq_getElem hj']
    simp only [Builtin.zeroCells, Array.getElem_map, Array.getElem_range, List.size_toArray, hsz]
    congr 1
    rw [getElem!_pos (c := (⟨t.cells z⟩ : Array Value)) (i := j % t.size) (by simpa using hml)]
    simp
  · rw [List.getElem?_eq_none, List.getElem?_eq_none]
    · rw [flat_len]; simp; omega
    · rw [Array.length_toList, size_zeroCells, hzs]; simp [hsz]; omega
theorem run_append_zeros_room (w : World) (tn : TypeId) (i : TypeInfo) (z : Value) (k kn : IntKind) (ht : P.underlying T = some (.slice E)) (htn : P.underlying tn = some (.int kn)) (hi : P.info? E = some i) (hz : i.zero = some z)
    (g sLen sCap : Nat) (cur : Array Value) (hg : w.heap[g]? = some (.cells cur E (0, 0))) (n : Nat) (h0 : 0 < n * i.size) (hroom : sLen + n ≤ sCap) (h48 : n * i.bytes ≤ 281474976710656) (h63 : (n : Int) ≤ 9223372036854775807) (hfit : sLen * i.size + n * z.cells.size ≤ cur.size) (h1 : ∀ u ∈ (Builtin.zeroCells z.cells n).toList, u.oneCell' = true) :
    (Builtin.append_ #[T, tn] ty #[.slice (some ⟨g, 0, none⟩) sLen sCap, .int k n]).run P w =
      .ok (.slice (some ⟨g, 0, none⟩) (sLen + n) sCap) (w.setRow g (cur.toList.take (sLen * i.size) ++ (Builtin.zeroCells z.cells n).toList ++ cur.toList.drop (sLen * i.size + (Builtin.zeroCells z.cells n).toList.length)).toArray) := by
  have hw : IntKind.i64.wrap (n : Int) = n := by rw [IntKind.wrap_i64]; omega
  have h48i : ¬ (281474976710656 < (n : Int) * (i.bytes : Int)) := by rw [← Int.natCast_mul]; omega
  have hns' : ¬ (n = 0 ∨ i.size = 0) := by
    rintro (h | h)
    · rw [h] at h0; simp at h0
    · rw [h] at h0; simp at h0
  have hst := run_storeCells_at P g (sLen * i.size) E (Builtin.zeroCells z.cells n).toList 0 cur w hg (by rw [Array.length_toList, size_zeroCells]; simpa using hfit) h1
  simp only [Nat.add_zero] at hst
  simp [Builtin.append_, run_underlying ht, run_underlying htn, sizeOf, typeInfo, zeroValue, hi, hz, asInt, asIntOf, hw, h48i, show ¬ (n * i.size = 0) by omega, hroom, show ¬ ((n : Int) < 0) by omega, Addr.add_lit, hst]

/-- append(s, make([]T, n)...), s owned. -/
theorem appZ (H : SlTy P T E t bytes) {z : t.T} {zv : Value} (hz : (P.info? E).bind (·.zero) = some zv) (hzc : zv.cells.toList = t.cells z) {tn : TypeId} {kn : IntKind} (htn : P.underlying tn = some (.int kn)) {S S' : Nat → Prop} {s : Sl} {l : List t.T} (h : Own S w E t s l) {n : Nat} (hn : 0 < n) {k : IntKind} {ni : Int} (hni : ni = (n : Int))
    (hb : (l.length + n) * bytes ≤ 140737488355328) (hm : l.length + n ≤ maxLen) (h1 : ∀ k, S k → S' k) (h1' : S' w.heap.size) {K : Sl → W R}
    (hk : ∀ r w', Own S' w' E t r (l ++ List.replicate n z) → Fr (fun k => s.v.ownBlock = some k) w w' → w'.heap.size ≤ w.heap.size + 1 → K r Q w') : rawW P (Builtin.append_ #[T, tn] ty #[.slice s.a s.n s.c, .int k ni]) [.sc .sl] K Q w := by
  subst hni
  obtain ⟨i, z', hi, hz', hs, hby, hzs⟩ := H.info
  rw [hi] at hz
  simp only [Option.bind_some, hz', Option.some.injEq] at hz
  subst hz
  have flat : (l ++ List.replicate n z).flatMap t.cells = l.flatMap t.cells ++ (List.replicate n z).flatMap t.cells := List.flatMap_append
  have hlen : (l ++ List.replicate n z).length = l.length + n := by simp
  have hmi : ((l.length + n : Nat) : Int) ≤ 9223372036854775807 := by simp only [maxLen] at hm; omega
  have hzf := zeroCells_flat (t := t) hzc H.pos
  have hns : 0 < n * i.size := by rw [hs]; exact Nat.mul_pos hn H.pos
  have hnb : n * i.bytes ≤ 140737488355328 := by
    rw [hby]
    exact Nat.le_trans (Nat.mul_le_mul_right _ (by omega)) hb
  have one : ∀ u ∈ (Builtin.zeroCells z'.cells n).toList, u.oneCell' = true := fun u hu => by
    rw [hzf] at hu
    obtain ⟨x, _, hx⟩ := List.mem_flatMap.1 hu
    exact t.one x H.fine u hx
  have grown : ∀ (old : Nat) {v : Value} {w' : World}, old < l.length + n → v = .slice (some ⟨w.heap.size, 0, none⟩) (l.length + n) (grownCap w (l.length + n) old E) →
      w' = w.drew.alloc (.cells ((l.flatMap t.cells).toArray ++ Builtin.zeroCells z'.cells n ++ Builtin.zeroCells z'.cells (grownCap w (l.length + n) old E - (l.length + n))) E) →
      ∃ r : Sl, v = r.v ∧ K r Q w' := by
    intro old v w' ho hv hw
    have hge := grownCap_ge w (l.length + n) old E
    have hcm := grownCap_le_maxLen w (l.length + n) old E hm
    generalize grownCap w (l.length + n) old E = G at hge hcm hv hw
    subst hv; subst hw
    refine ⟨⟨_, _, _⟩, rfl, hk _ _ ?_ ((Fr.refl _ w).drew.alloc _) (by simp)⟩
    rw [← hlen]
    refine Own.mk' h1' (heap_alloc_new w.drew _) (by rw [hlen]; exact hge) hcm ?_ ?_
    · simp only [Array.size_append, List.size_toArray, flat_len, size_zeroCells, hzs, ← Nat.add_mul]
      congr 1
      omega
    · simp only [Array.toList_append, List.append_assoc, hzf]
      rw [← List.append_assoc, flat, ← flat_len (l ++ List.replicate n z), flat]
      exact List.take_left
  have hsn := h.len
  rcases h.cases with ⟨rfl, rfl⟩ | ⟨g, c, cur, rfl, hS, h3, h4, h5, h6, h7⟩
  · have hr := Lib.run_append_nil_zeros (P := P) w T tn ty E i z' k kn H.under htn hi hz' n hn (by rw [hs]; exact H.pos) (by simpa using hmi) (by omega)
    obtain ⟨r, hv, hK⟩ := grown 0 (by simpa using hn) (v := .slice (some ⟨w.heap.size, 0, none⟩) n (grownCap w n 0 E))
      (w' := w.drew.alloc (.cells (Builtin.zeroCells z'.cells n ++ Builtin.zeroCells z'.cells (grownCap w n 0 E - n)) E)) (by simp) (by simp)
    refine ⟨r, _, ?_, hK⟩
    rw [hv] at hr
    exact hr
  · by_cases hroom : l.length + n ≤ c
    · have hfit : l.length * i.size + n * z'.cells.size ≤ cur.size := by rw [hzs, hs, h6, ← Nat.add_mul]; exact Nat.mul_le_mul_right _ hroom
      have hr := run_append_zeros_room (P := P) (T := T) (E := E) (ty := ty) w tn i z' k kn H.under htn hi hz' g l.length c cur h3 n hns hroom (by omega) (by omega) hfit one
      refine ⟨⟨some ⟨g, 0, none⟩, l.length + n, c⟩, _, hr, hk _ _ ?_ ?_ (by simp [World.setRow])⟩
      · rw [← hlen]
        have hzl : (Builtin.zeroCells z'.cells n).toList.length = n * t.size := by rw [Array.length_toList, size_zeroCells, hzs]
        refine Own.mk' (h1 g hS) (setRow_heap w g cur _ E _ h3) (by rw [hlen]; exact hroom) h5 ?_ ?_
        · rw [hzs, hs] at hfit
          have hcl : cur.toList.length = cur.size := Array.length_toList
          simp only [List.size_toArray, List.length_append, List.length_take, List.length_drop, hzl, hcl, hs]
          omega
        · rw [hs, h7, hzf, ← flat, ← flat_len (l ++ List.replicate n z)]
          exact List.take_left
      · exact ⟨rfl, rfl, rfl, by simp [World.setRow], fun k _ hk => setRow_other w g k _ (fun e => hk (by simp [Sl.v, Value.ownBlock, e]))⟩
    · have holds : ∀ j u, (l.flatMap t.cells)[j]? = some u → w.cell? ((⟨g, 0, none⟩ : Addr).add j) = some u := h.sl.cellsAt rfl
      have hr := run_append_zeros_grow (P := P) (T := T) (E := E) (ty := ty) w tn i z' k kn H.under htn hi hz' ⟨g, 0, none⟩ l.length c _ (by rw [flat_len, hs]) holds n hns (by omega) hmi (growslice_fits (by omega) (by rw [hby]; exact hb)) (by omega)
      obtain ⟨r, hv, hK⟩ := grown c (by omega) rfl rfl
      refine ⟨r, _, ?_, hK⟩
      rw [hv] at hr
      exact hr

end Go.Proofs.YtchhhjlpnecjkaaGreat.Den

namespace Go.Proofs.YtchhhjlpnecjkaaGreat
open Go Go.RowKit Go.Proofs.YtchhhjlpnecjkaaGreat.Den
variable {R : Type} {Q : R → World → Prop} {w : World}

abbrev BytesOk (l : List Int) : Prop := ∀ x ∈ l, 0 ≤ x ∧ x ≤ 255
theorem string_und : Tryz.prog.underlying 9 = some .string := by kernel_rfl
/-- bytes as a string. -/
theorem strI {ok : Nat → Prop} {s : Sl} {l : List Int} (hS : SlT ok w u8T s l) {K : ByteArray → W R} (hk : K (strOfNums l) Q w) : rawQ Tryz.prog (Go.convert 22 9 (.slice s.a s.n s.c)) [.sc .str] K Q w := by
  refine ⟨strOfNums l, ?_, hk⟩
  have hlen := hS.len
  rcases hS.at_ with rfl | ⟨b, o, ha, h1, h2, h3⟩
  · rw [run_convert_bytes_string w _ _ _ _ _ _ bytes_ty.under u8_und string_und]
    have hn : s.n = 0 := hlen
    rw [hn]
    cases hsa : s.a with
    | none => simp [Conv.bytesToString]; rfl
    | some a =>
      have hl : (loadCells a 0).run Tryz.prog w = .ok #[] w := by have := run_loadCells_list (P := Tryz.prog) w a [] (fun j v h => by simp at h); simpa using this
      rw [run_bytesToString w a 0 s.c [] hl]
      rfl
  · rw [ha]
    refine run_convert_bytes_arg w _ _ bytes_ty.under u8_und b o s.n s.c l hlen.symm (fun i hi => ?_) _ string_und
    have hx : l[i]? = some l[i] := List.getElem?_eq_getElem (by omega)
    have := h3 i _ hx
    rw [show i * u8T.size = i from Nat.mul_one i] at this
    rw [this]
    simp [List.getD, hx]
theorem ofNat_inj {x y : Int} (hx : 0 ≤ x ∧ x ≤ 255) (hy : 0 ≤ y ∧ y ≤ 255) (h : UInt8.ofNat x.toNat = UInt8.ofNat y.toNat) : x = y := by
  have := congrArg UInt8.toNat h
  simp at this
  omega
theorem str_eq {l l2 : List Int} (h1 : BytesOk l) (h2 : BytesOk l2) : ((strOfNums l).toList == (strOfNums l2).toList) = decide (l = l2) := by
  rw [ByteArray.toList_eq, ByteArray.toList_eq, strOfNums_data, strOfNums_data, Bool.eq_iff_iff]
  simp only [beq_iff_eq, decide_eq_true_eq]
  refine ⟨fun h => ?_, fun h => by rw [h]⟩
  induction l generalizing l2 with
  | nil => cases l2 with
    | nil => rfl
    | cons y r => simp at h
  | cons x r ih => cases l2 with
    | nil => simp at h
    | cons y r2 =>
      rw [List.map_cons, List.map_cons, List.cons.injEq] at h
      rw [ofNat_inj (h1 x List.mem_cons_self) (h2 y List.mem_cons_self) h.1, ih (fun z hz => h1 z (List.mem_cons_of_mem _ hz)) (fun z hz => h2 z (List.mem_cons_of_mem _ hz)) h.2]
theorem spec_r1_Same {ok ok2 : Nat → Prop} {s s2 : Sl} {l l2 : List Int} (hS : SlT ok w u8T s l) (hS2 : SlT ok2 w u8T s2 l2) (h1 : BytesOk l) (h2 : BytesOk l2) {K : Res [.sc .bool] → W R} (hk : K (decide (l = l2)) Q w) :
    callW Tryz.prog k_pinnaceref01_Same [.slice s.a s.n s.c, .slice s2.a s2.n s2.c] [.sc .bool] K Q w := by
  refine C_pinnaceref01_Same s s2 K Q w ?_
  unfold F_pinnaceref01_Same
  refine strI hS (strI hS2 ?_)
  rw [str_eq h1 h2]
  exact hk

/-! ### bits -/
def bitsU (l : List Int) : List Bool := l.flatMap fun x => bitsOf x.toNat 8
theorem bitsU_len (l : List Int) : (bitsU l).length = 8 * l.length := by
  induction l with
  | nil => rfl
  | cons x r ih =>
    have : bitsU (x :: r) = bitsOf x.toNat 8 ++ bitsU r := rfl
    rw [this, List.length_append, ih, bitsOf_len, List.length_cons]
    omega
theorem spec_r1_Bits {ok : Nat → Prop} {s : Sl} {l : List Int} (hS : SlT ok w u8T s l) (hb : BytesOk l) (hm : l.length ≤ 1048576) {K : Res [.sc .sl] → W R} (hk : ∀ r w', Own (Up w.heap.size) w' 4 boolT r (bitsU l) → Fr None w w' → K r Q w') :
    callW Tryz.prog k_pinnaceref01_Bits [.slice s.a s.n s.c] [.sc .sl] K Q w := by
  refine C_pinnaceref01_Bits s K Q w ?_
  unfold F_pinnaceref01_Bits
  have hlen := hS.len
  refine forI (N := s.n) (fun s : Sl × Int => s.2) (fun j st v => st.2 = (j : Int) ∧ Own (Up w.heap.size) v 4 boolT st.1 (bitsU (l.take j)) ∧ Fr None w v) ⟨rfl, Own.nil _ _ _ _, Fr.refl _ _⟩ (fun j s w' h => h.1) ?_ ?_
  · rintro j ⟨z, _⟩ v K' hj ⟨rfl, o, fv⟩ - hK
    refine (hS.fr0 fv).get rfl rfl (by omega) fun x hx => ?_
    have hx1 := hb x (List.mem_of_getElem? hx)
    have e : bitsU (l.take (j + 1)) = bitsU (l.take j) ++ bitsOf x.toNat 8 := by unfold bitsU; rw [take_at hx, List.flatMap_append]; simp
    have hll : (bitsU (l.take j)).length ≤ 8 * 1048576 := by rw [bitsU_len]; simp; omega
    refine forI (N := 8) (fun s : Sl × Int × Int => s.2.2) (fun i st u => st.2.2 = (i : Int) ∧ st.2.1 = ((x.toNat / 2 ^ i : Nat) : Int) ∧ Own (Up w.heap.size) u 4 boolT st.1 (bitsU (l.take j) ++ bitsOf x.toNat i) ∧ Fr None w u) ⟨rfl, by simp; omega, by simpa [bitsOf] using o, fv⟩ (fun j s w' h => h.1) ?_ ?_
    · rintro i ⟨z2, b, _⟩ u K2 hi ⟨rfl, rfl, o2, fu⟩ - hK2
      have hz := fu.size
      have hbl := bitsOf_len x.toNat i
      have hd : x.toNat / 2 ^ i ≤ 255 := Nat.le_trans (Nat.div_le_self _ _) (by omega)
      refine appP (x := (Int.tmod ((x.toNat / 2 ^ i : Nat) : Int) 2 == 1)) bools_ty rfl o2 (fun k e => by show w.heap.size ≤ k; omega) (by simp only [List.length_append, hbl]; omega) (by simp only [List.length_append, hbl]; omega) fun r u2 o3 f3 => ?_
      refine hK2 _ _ ⟨wsucc hi (by omega), ?_, ?_, fu.newer f3 fun k e => o2.own k e⟩
      · show IntKind.wrap .u8 (Int.tdiv ((x.toNat / 2 ^ i : Nat) : Int) 2) = _
        rw [Nat.pow_succ, ← Nat.div_div_eq_div_mul]
        generalize x.toNat / 2 ^ i = q at hd ⊢
        rw [Int.tdiv_eq_ediv_of_nonneg (by omega), wu8 (by omega)]
        omega
      · show Own _ u2 _ boolT r (bitsU (l.take j) ++ (bitsOf x.toNat i ++ [x.toNat.testBit i]))
        have e : x.toNat.testBit i = (Int.tmod ((x.toNat / 2 ^ i : Nat) : Int) 2 == 1) := by
          rw [Nat.testBit_eq_decide_div_mod_eq]
          generalize x.toNat / 2 ^ i = q at hd ⊢
          rw [Int.tmod_eq_emod_of_nonneg (by omega), Bool.eq_iff_iff]
          simp only [decide_eq_true_eq, beq_iff_eq]
          omega
        rw [e, ← List.append_assoc]
        exact o3
    · rintro ⟨z2, b, _⟩ u ⟨rfl, _, o2, fu⟩
      refine hK _ _ ⟨wsucc hj (by omega), ?_, fu⟩
      rw [e]
      exact o2
  · rintro ⟨z, _⟩ v ⟨_, o, fv⟩
    rw [List.take_of_length_le (by omega)] at o
    exact hk z v o fv

/-! ### the sum, by division -/
def tapsD : List Nat := [0, 1, 2, 4, 5, 7, 8, 10, 11, 12, 16, 22, 23, 26]
def tapBlk : List Value := tapsD.map fun (k : Nat) => .int .i64 (k : Int)
theorem tapBlk_eq : tapBlk = [.int .i64 0, .int .i64 1, .int .i64 2, .int .i64 4, .int .i64 5, .int .i64 7, .int .i64 8, .int .i64 10, .int .i64 11, .int .i64 12, .int .i64 16, .int .i64 22, .int .i64 23, .int .i64 26] := rfl
theorem taps14 : tapsD.take 14 = tapsD := rfl
theorem tapsD_le : ∀ k ∈ tapsD, k ≤ 26 := by decide
def flipAt (L : List Bool) (i : Nat) : List Bool := L.set i (!((L[i]?).getD false))
theorem flipAt_len (L : List Bool) (i : Nat) : (flipAt L i).length = L.length := List.length_set
def tapD (i : Nat) (L : List Bool) (k : Nat) : List Bool := flipAt L (i + 32 - k)
def stepD (L : List Bool) (i : Nat) : List Bool := if (L[i]?).getD false = true then tapsD.foldl (tapD i) L else L
def initD (m : List Bool) : List Bool := (List.range 32).foldl flipAt (m ++ List.replicate 32 false)
def divD (m : List Bool) (j : Nat) : List Bool := (List.range j).foldl stepD (initD m)
def numD (left : List Bool) : Nat → Int
  | 0 => 0
  | k + 1 => if (left[31 - k]?).getD false = false then IntKind.wrap .u32 (IntKind.wrap .u32 (numD left k * 2) + 1) else IntKind.wrap .u32 (numD left k * 2)
def sumD (l : List Int) : Int := numD ((divD (bitsU l) (bitsU l).length).drop (bitsU l).length) 32
theorem foldl_len {α : Type} (f : List Bool → α → List Bool) (hf : ∀ L a, (f L a).length = L.length) : ∀ (l : List α) (L : List Bool), (l.foldl f L).length = L.length
  | [], _ => rfl
  | a :: r, L => by rw [List.foldl_cons, foldl_len f hf r, hf]
theorem stepD_len (L : List Bool) (i : Nat) : (stepD L i).length = L.length := by
  unfold stepD
  split
  · exact foldl_len _ (fun L a => flipAt_len L _) _ _
  · rfl
theorem initD_len (m : List Bool) : (initD m).length = m.length + 32 := by
  unfold initD
  rw [foldl_len _ flipAt_len]
  simp
theorem divD_len (m : List Bool) (j : Nat) : (divD m j).length = m.length + 32 := by
  unfold divD
  rw [foldl_len _ stepD_len, initD_len]
theorem divD_zero (m : List Bool) : divD m 0 = (List.range 32).foldl flipAt (m ++ List.replicate 32 false) := by unfold divD initD; rw [List.range_zero, List.foldl_nil]
/-- a bit is turned. -/
theorem flipI {S : Nat → Prop} {s : Sl} {l : List Bool} (o : Own S w 4 boolT s l) {i : Nat} (hi : i < l.length) {i1 i2 : Int} (h1 : i1 = (i : Int)) (h2 : i2 = (i : Int)) {K : W R} (hk : ∀ w', Own S w' 4 boolT s (flipAt l i) → Fr (fun k => s.v.ownBlock = some k) w w' → w'.heap.size = w.heap.size → K Q w') :
    idxW s.a s.n 1 i1 (fun x => ld (.sc .bool) x fun b => idxW s.a s.n 1 i2 fun y => stoL y [.bool (!b)] 0 K) Q w := by
  subst h1; subst h2
  refine o.idx rfl (by omega) (by omega) fun g x hg hx hr => ?_
  rw [Int.toNat_natCast] at hx hr ⊢
  refine ldI x hr ?_
  refine o.idx rfl (by omega) (by omega) fun g2 x2 hg2 hx2 hr2 => ?_
  rw [hg] at hg2
  cases hg2
  rw [Int.toNat_natCast]
  refine o.set rfl hi hg (!x) fun w' o' f' s' => hk w' ?_ f' s'
  unfold flipAt
  rw [hx]
  exact o'
theorem spec_r3_Sum {ok : Nat → Prop} {s : Sl} {l : List Int} (hS : SlT ok w u8T s l) (hb : BytesOk l) (hm : l.length ≤ 1048576) {K : Res [.sc (.int .u32)] → W R} (hk : ∀ w', Fr None w w' → K (sumD l) Q w') :
    callW Tryz.prog k_pinnaceref03_Sum [.slice s.a s.n s.c] [.sc (.int .u32)] K Q w := by
  refine C_pinnaceref03_Sum s K Q w ?_
  unfold F_pinnaceref03_Sum
  refine spec_r1_Bits hS hb hm fun r w1 o1 f1 => ?_
  have hl := bitsU_len l
  generalize hB : bitsU l = B at o1 hl
  refine appZ bools_ty (z := false) (zv := .bool false) (by kernel_rfl) rfl (tn := 3) (kn := .i64) (by kernel_rfl) (S' := Up w.heap.size) (n := 32) o1 (by decide) rfl (by omega) (by rw [maxLen_eq]; omega) (fun _ h => h) (by have := f1.size; show w.heap.size ≤ _; omega) fun x w2 o2 f2 z2 => ?_
  have f02 : Fr None w w2 := f1.newer f2 fun k e => o1.own k e
  have upx : ∀ {a b c : World} {L : List Bool}, Fr None w a → Own (Up w.heap.size) c 4 boolT x L → Fr (fun k => x.v.ownBlock = some k) a b → Fr None w b := fun f o g => f.newer g fun k e => o.own k e
  refine forI (N := 32) (fun s : Int => s) (fun j i v => i = (j : Int) ∧ Own (Up w.heap.size) v 4 boolT x ((List.range j).foldl flipAt (B ++ List.replicate 32 false)) ∧ Fr None w v) ⟨rfl, o2, f02⟩ (fun j s w' h => h.1) ?_ ?_
  · rintro j i v K' hj ⟨rfl, o, fv⟩ - hK
    refine flipI o (i := j) (by rw [foldl_len _ flipAt_len]; simp; omega) rfl rfl fun v2 o' f' s' => hK _ _ ⟨wsucc hj (by omega), ?_, upx fv o f'⟩
    rw [List.range_succ, List.foldl_append]
    exact o'
  rintro i v ⟨_, o, fv⟩
  have hxn : x.n = B.length + 32 := by rw [o2.len]; simp
  rw [← tapBlk_eq]
  refine newI fun v1 B1 e1 t1 => ?_
  have hzv := fv.size
  have nx0 : ¬ x.v.ownBlock = some v.heap.size := fun e => by have := o.lt e; omega
  have o := o.none e1
  have fv1 := fv.then0 e1
  refine loopI (fun (st : Int) u => ∃ j : Nat, st = (j : Int) ∧ j ≤ B.length ∧ Own (Up w.heap.size) u 4 boolT x (divD B j) ∧ Blk u v.heap.size 3 tapBlk ∧ Fr None w u)
    (fun st _ => B.length - st.toNat) ⟨0, rfl, by omega, by rw [divD_zero]; exact o, B1, fv1⟩ ?_
  rintro st u ⟨j, rfl, hj, oj, Bj, fu⟩
  rw [w64 (x := (j : Int) + 32) (by omega)]
  refine condD (fun hlt => ?_) fun hge => ?_
  · have hlt : (j : Int) + 32 < (x.n : Int) := hlt
    have hjl : j < B.length := by omega
    have hdl := divD_len B j
    refine joinI (fun (_ : Unit) u' => Own (Up w.heap.size) u' 4 boolT x (divD B (j + 1)) ∧ Blk u' v.heap.size 3 tapBlk ∧ Fr None w u') ?_ ?_
    · have estep : divD B (j + 1) = stepD (divD B j) j := by unfold divD; rw [List.range_succ, List.foldl_append]; rfl
      refine oj.idx rfl (by omega) (by omega) fun g y hg hy hr => ?_
      rw [Int.toNat_natCast] at hy hr ⊢
      refine ldI y hr ?_
      refine condI (fun hn => ?_) fun hn => ?_
      · have hn : y = false := by simpa using hn
        have : divD B (j + 1) = divD B j := by rw [estep]; unfold stepD; rw [hy, hn]; rfl
        rw [this]
        exact ⟨oj, Bj, fu⟩
      · have hn : y = true := by simpa using hn
        have e2 : divD B (j + 1) = tapsD.foldl (tapD j) (divD B j) := by rw [estep]; unfold stepD; rw [hy, hn]; rfl
        rw [e2]
        refine forI (N := 14) (fun s : Int => s) (fun q i u' => i = (q : Int) ∧ Own (Up w.heap.size) u' 4 boolT x ((tapsD.take q).foldl (tapD j) (divD B j)) ∧ Blk u' v.heap.size 3 tapBlk ∧ Fr None w u') ⟨rfl, by rw [List.take_zero]; exact oj, Bj, fu⟩ (fun j s w' h => h.1) ?_ ?_
        · rintro q i u' K2 hq ⟨rfl, o', B', f'⟩ - hK2
          refine idxB (by omega) (by omega) ?_
          have go : ∀ {k : Nat}, tapsD[q]? = some k → k ≤ 26 → idxW x.a x.n 1 (IntKind.wrap .i64 ((j : Int) + 32 - (k : Int))) (fun x_18 => ld (.sc .bool) x_18 fun (x_19 : Bool) => idxW x.a x.n 1 (IntKind.wrap .i64 ((j : Int) + 32 - (k : Int))) fun x_20 => stoL x_20 [.bool (!x_19)] 0 <| K2 (IntKind.wrap .i64 ((q : Int) + 1))) (fun r w => K r Q w) u' := by
            intro k hk hk26
            have ew : IntKind.wrap .i64 ((j : Int) + 32 - (k : Int)) = ((j + 32 - k : Nat) : Int) := by rw [w64 (by omega)]; omega
            refine flipI o' (i := j + 32 - k) (by rw [foldl_len (tapD j) (fun L a => flipAt_len L _), hdl]; omega) ew ew fun u2 o2 g2 s2 => hK2 _ _ ⟨wsucc hq (by omega), ?_, B'.fr g2 nx0, upx f' o' g2⟩
            rw [take_at hk, List.foldl_append]
            exact o2
          obtain ⟨k, hk⟩ : ∃ k, tapsD[q]? = some k := ⟨_, List.getElem?_eq_getElem (show q < tapsD.length from hq)⟩
          refine fld0 B' (i := 0 + (q : Int).toNat * 1) (x := (k : Int)) ?_ (go hk (tapsD_le k (List.mem_of_getElem? hk)))
          rw [Int.toNat_natCast, Nat.zero_add, Nat.mul_one, tapBlk, List.getElem?_map, hk]
          rfl
        · rintro i u' ⟨_, o', B', f'⟩
          rw [taps14] at o'
          exact ⟨o', B', f'⟩
    · rintro _ u' ⟨o', B', f'⟩
      refine ⟨⟨j + 1, by rw [w64 (by omega)]; rfl, by omega, o', B', f'⟩, ?_⟩
      rw [w64 (by omega)]
      simp only [Int.toNat_natCast]
      omega
  · have hge : ¬ (j : Int) + 32 < (x.n : Int) := hge
    have hjl : j = B.length := by omega
    subst hjl
    have hdl := divD_len B B.length
    refine oj.sl.from (n := B.length) rfl (by rw [w64 (by omega)]; omega) (by omega) fun y hy _ => ?_
    have hyl : ((divD B B.length).drop B.length).length = 32 := by rw [List.length_drop, hdl]; omega
    have eS : sumD l = numD ((divD B B.length).drop B.length) 32 := by unfold sumD; rw [hB]
    generalize (divD B B.length).drop B.length = left at hy hyl eS
    refine loopI (fun (st : Int × Int) u' => ∃ k : Nat, k ≤ 32 ∧ st = (numD left k, 31 - (k : Int)) ∧ Fr None w u' ∧ SlT (Up w.heap.size) u' boolT y left) (fun st _ => (st.2 + 1).toNat) ⟨0, by omega, rfl, fu, hy⟩ ?_
    rintro st u2 ⟨k, hk32, rfl, fu2, hy2⟩
    dsimp only
    refine condD (fun hg => ?_) fun hg => ?_
    · have hg : (31 - (k : Int)) ≥ 0 := hg
      refine hy2.get (j := 31 - k) rfl (by omega) (by omega) fun b hb => ?_
      refine joinI (fun z u' => z = numD left (k + 1) ∧ u2 = u') ?_ ?_
      · refine condI (fun hbn => ⟨?_, rfl⟩) fun hbn => ⟨?_, rfl⟩
        · have hbn : b = false := by simpa using hbn
          rw [numD, hb, hbn]
          simp
        · have hbn : b = true := by simpa using hbn
          rw [numD, hb, hbn]
          simp
      · rintro z u3 ⟨rfl, rfl⟩
        refine ⟨⟨k + 1, by omega, ?_, fu2, hy2⟩, ?_⟩
        · rw [w64 (by omega)]
          congr 1
          omega
        · rw [w64 (by omega)]
          omega
    · have hg : ¬ (31 - (k : Int)) ≥ 0 := hg
      have hk' : k = 32 := by omega
      subst hk'
      have := hk u2 fu2
      rw [eS] at this
      exact this

end Go.Proofs.YtchhhjlpnecjkaaGreat
