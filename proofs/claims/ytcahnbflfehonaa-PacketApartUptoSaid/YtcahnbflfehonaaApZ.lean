/-
  append(s, make([]T, n)...).
-/
import Derived.Test.YtcahnbflfehonaaSl2
import Derived.Lib.AppendZeros
namespace Go.Proofs.Ytcahnbflfehonaa.Den
open Go Go.RowKit
variable {R : Type} {Q : R → World → Prop} {w : World} {P : Program} {T E ty : TypeId} {t : Ty} {bytes : Nat}

theorem zeroCells_flat {z' : Value} {z : t.T} (hzc : z'.cells.toList = t.cells z) (hpos : 0 < t.size) (n : Nat) : (Builtin.zeroCells z'.cells n).toList = (List.replicate n z).flatMap t.cells := by
  apply List.ext_getElem?
  intro j
  have hzs : z'.cells = ⟨t.cells z⟩ := by rw [← hzc]
  have hsz : (t.cells z).length = t.size := t.cells_len z
  by_cases hj : j < n * t.size
  · have hq : j / t.size < n := Nat.div_lt_of_lt_mul (by rw [Nat.mul_comm]; exact hj)
    have hml : j % t.size < (t.cells z).length := by rw [hsz]; exact Nat.mod_lt _ hpos
    have e1 := flat_at (l := List.replicate n z) (i := j / t.size) (x := z) (by simp [hq]) (j % t.size) _ (List.getElem?_eq_getElem hml)
    rw [Nat.mul_comm, Nat.div_add_mod] at e1
    rw [e1, hzs]
    have hj' : j < (Builtin.zeroCells ⟨t.cells z⟩ n).size := by rw [size_zeroCells]; simp [hsz]; exact hj
    rw [Array.getElem?_toList, Array.getElem?_eq_getElem hj']
    simp only [Builtin.zeroCells, Array.getElem_map, Array.getElem_range, List.size_toArray, hsz]
    congr 1
    rw [getElem!_pos (c := (⟨t.cells z⟩ : Array Value)) (i := j % t.size) (by simpa using hml)]
    simp
  · rw [List.getElem?_eq_none, List.getElem?_eq_none]
    · rw [flat_len]; simp; omega
    · rw [Array.length_toList, size_zeroCells, hzs]; simp [hsz]; omega
theorem run_append_zeros_room (w : World) (tn : TypeId) (i : TypeInfo) (z : Value) (k kn : IntKind) (ht : P.underlying T = some (.slice E)) (htn : P.underlying tn = some (.int kn)) (hi : P.info? E = some i) (hz : i.zero = some z)
    (g sLen sCap : Nat) (cur : Array Value) (hg : w.heap[g]? = some (.cells cur E (0, 0))) (n : Nat) (h0 : 0 < n * i.size) (hroom : sLen + n ≤ sCap) (h48 : n * i.bytes ≤ 281474976710656) (h63 : (n : Int) ≤ 9223372036854775807) (hfit : sLen * i.size + n * z.cells.size ≤ cur.size) (h1 : ∀ u ∈ (Builtin.zeroCells z.cells n).toList, u.oneCell' = true) :
    (Builtin.append_ #[T, tn] ty #[.slice (some ⟨g, 0, none⟩) sLen sCap, .int k n]).run P w =
      .ok (.slice (some ⟨g, 0, none⟩) (sLen + n) sCap) (w.setRow g (cur.toList.take (sLen * i.size) ++ (Builtin.zeroCells z.cells n).toList ++ cur.toList.drop (sLen * i.size + (Builtin.zeroCells z.cells n).toList.length)).toArray) := by
  have hw : IntKind.i64.wrap (n : Int) = n := by rw [IntKind.wrap_i64]; omega
  have h48i : ¬ (281474976710656 < (n : Int) * (i.bytes : Int)) := by rw [← Int.natCast_mul]; omega
  have hns' : ¬ (n = 0 ∨ i.size = 0) := by
    rintro (h | h)
    · rw [h] at h0; simp at h0
    · rw [h] at h0; simp at h0
  have hst := run_storeCells_at P g (sLen * i.size) E (Builtin.zeroCells z.cells n).toList 0 cur w hg (by rw [Array.length_toList, size_zeroCells]; simpa using hfit) h1
  simp only [Nat.add_zero] at hst
  simp [Builtin.append_, run_underlying ht, run_underlying htn, sizeOf, typeInfo, zeroValue, hi, hz, asInt, asIntOf, hw, h48i, show ¬ (n * i.size = 0) by omega, hroom, show ¬ ((n : Int) < 0) by omega, Addr.add_lit, hst]

/-- append(s, make([]T, n)...), s owned. -/
theorem appZ (H : SlTy P T E t bytes) {z : t.T} {zv : Value} (hz : (P.info? E).bind (·.zero) = some zv) (hzc : zv.cells.toList = t.cells z) {tn : TypeId} {kn : IntKind} (htn : P.underlying tn = some (.int kn)) {S S' : Nat → Prop} {s : Sl} {l : List t.T} (h : Own S w E t s l) {n : Nat} (hn : 0 < n) {k : IntKind} {ni : Int} (hni : ni = (n : Int))
    (hb : (l.length + n) * bytes ≤ 140737488355328) (hm : l.length + n ≤ maxLen) (h1 : ∀ k, S k → S' k) (h1' : S' w.heap.size) {K : Sl → W R}
    (hk : ∀ r w', Own S' w' E t r (l ++ List.replicate n z) → Fr (fun k => s.v.ownBlock = some k) w w' → w'.heap.size ≤ w.heap.size + 1 → K r Q w') : rawW P (Builtin.append_ #[T, tn] ty #[.slice s.a s.n s.c, .int k ni]) [.sc .sl] K Q w := by
  subst hni
  obtain ⟨i, z', hi, hz', hs, hby, hzs⟩ := H.info
  rw [hi] at hz
  simp only [Option.bind_some, hz', Option.some.injEq] at hz
  subst hz
  have flat : (l ++ List.replicate n z).flatMap t.cells = l.flatMap t.cells ++ (List.replicate n z).flatMap t.cells := List.flatMap_append
  have hlen : (l ++ List.replicate n z).length = l.length + n := by simp
  have hmi : ((l.length + n : Nat) : Int) ≤ 9223372036854775807 := by simp only [maxLen] at hm; omega
  have hzf := zeroCells_flat (t := t) hzc H.pos
  have hns : 0 < n * i.size := by rw [hs]; exact Nat.mul_pos hn H.pos
  have hnb : n * i.bytes ≤ 140737488355328 := by
    rw [hby]
    exact Nat.le_trans (Nat.mul_le_mul_right _ (by omega)) hb
  have one : ∀ u ∈ (Builtin.zeroCells z'.cells n).toList, u.oneCell' = true := fun u hu => by
    rw [hzf] at hu
    obtain ⟨x, _, hx⟩ := List.mem_flatMap.1 hu
    exact t.one x H.fine u hx
  have grown : ∀ (old : Nat) {v : Value} {w' : World}, old < l.length + n → v = .slice (some ⟨w.heap.size, 0, none⟩) (l.length + n) (grownCap w (l.length + n) old E) →
      w' = w.drew.alloc (.cells ((l.flatMap t.cells).toArray ++ Builtin.zeroCells z'.cells n ++ Builtin.zeroCells z'.cells (grownCap w (l.length + n) old E - (l.length + n))) E) →
      ∃ r : Sl, v = r.v ∧ K r Q w' := by
    intro old v w' ho hv hw
    have hge := grownCap_ge w (l.length + n) old E
    have hcm := grownCap_le_maxLen w (l.length + n) old E hm
    generalize grownCap w (l.length + n) old E = G at hge hcm hv hw
    subst hv; subst hw
    refine ⟨⟨_, _, _⟩, rfl, hk _ _ ?_ ((Fr.refl _ w).drew.alloc _) (by simp)⟩
    rw [← hlen]
    refine Own.mk' h1' (heap_alloc_new w.drew _) (by rw [hlen]; exact hge) hcm ?_ ?_
    · simp only [Array.size_append, List.size_toArray, flat_len, size_zeroCells, hzs, ← Nat.add_mul]
      congr 1
      omega
    · simp only [Array.toList_append, List.append_assoc, hzf]
      rw [← List.append_assoc, flat, ← flat_len (l ++ List.replicate n z), flat]
      exact List.take_left
  have hsn := h.len
  rcases h.cases with ⟨rfl, rfl⟩ | ⟨g, c, cur, rfl, hS, h3, h4, h5, h6, h7⟩
  · have hr := Lib.run_append_nil_zeros (P := P) w T tn ty E i z' k kn H.under htn hi hz' n hn (by rw [hs]; exact H.pos) (by simpa using hmi) (by omega)
    obtain ⟨r, hv, hK⟩ := grown 0 (by simpa using hn) (v := .slice (some ⟨w.heap.size, 0, none⟩) n (grownCap w n 0 E))
      (w' := w.drew.alloc (.cells (Builtin.zeroCells z'.cells n ++ Builtin.zeroCells z'.cells (grownCap w n 0 E - n)) E)) (by simp) (by simp)
    refine ⟨r, _, ?_, hK⟩
    rw [hv] at hr
    exact hr
  · by_cases hroom : l.length + n ≤ c
    · have hfit : l.length * i.size + n * z'.cells.size ≤ cur.size := by rw [hzs, hs, h6, ← Nat.add_mul]; exact Nat.mul_le_mul_right _ hroom
      have hr := run_append_zeros_room (P := P) (T := T) (E := E) (ty := ty) w tn i z' k kn H.under htn hi hz' g l.length c cur h3 n hns hroom (by omega) (by omega) hfit one
      refine ⟨⟨some ⟨g, 0, none⟩, l.length + n, c⟩, _, hr, hk _ _ ?_ ?_ (by simp [World.setRow])⟩
      · rw [← hlen]
        have hzl : (Builtin.zeroCells z'.cells n).toList.length = n * t.size := by rw [Array.length_toList, size_zeroCells, hzs]
        refine Own.mk' (h1 g hS) (setRow_heap w g cur _ E _ h3) (by rw [hlen]; exact hroom) h5 ?_ ?_
        · rw [hzs, hs] at hfit
          have hcl : cur.toList.length = cur.size := Array.length_toList
          simp only [List.size_toArray, List.length_append, List.length_take, List.length_drop, hzl, hcl, hs]
          omega
        · rw [hs, h7, hzf, ← flat, ← flat_len (l ++ List.replicate n z)]
          exact List.take_left
      · exact ⟨rfl, rfl, rfl, by simp [World.setRow], fun k _ hk => setRow_other w g k _ (fun e => hk (by simp [Sl.v, Value.ownBlock, e]))⟩
    · have holds : ∀ j u, (l.flatMap t.cells)[j]? = some u → w.cell? ((⟨g, 0, none⟩ : Addr).add j) = some u := h.sl.cellsAt rfl
      have hr := run_append_zeros_grow (P := P) (T := T) (E := E) (ty := ty) w tn i z' k kn H.under htn hi hz' ⟨g, 0, none⟩ l.length c _ (by rw [flat_len, hs]) holds n hns (by omega) hmi (growslice_fits (by omega) (by rw [hby]; exact hb)) (by omega)
      obtain ⟨r, hv, hK⟩ := grown c (by omega) rfl rfl
      refine ⟨r, _, ?_, hK⟩
      rw [hv] at hr
      exact hr

end Go.Proofs.Ytcahnbflfehonaa.Den
