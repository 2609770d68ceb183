/-
  What the proof of packetSeals_holds leans on, laid together by a program of this session (wip/pack.py) out of its own texts; the last of these texts holds packetSeals_holds.
-/
import Derived.Test.YtchhhjlpnecjkaaGreatS2
set_option linter.unusedVariables false
namespace Go.Proofs.YtchhhjlpnecjkaaGreat.Den
open Go Go.RowKit
variable {R : Type} {Q : R → World → Prop} {w : World}
theorem Rd.cells : ∀ {t : Ty} {a : Addr} {x : t.T}, Rd w a t x ↔ CellsAt w a (t.cells x)
  | .sc s, a, x => by
    constructor
    · intro h j u hj
      rcases j with _ | j
      · simp [Ty.cells] at hj
        subst hj
        have : a.add 0 = a := by unfold Addr.add; simp
        rw [this]
        exact h
      · simp [Ty.cells] at hj
    · intro h
      have := h 0 (s.e x) (by simp [Ty.cells])
      have e : a.add 0 = a := by unfold Addr.add; simp
      rw [e] at this
      exact this
  | .agg _, _, _ => Iff.rfl
theorem Sc.one : ∀ (s : Sc) (x : s.T), s ≠ .raw → (s.e x).oneCell' = true
  | .int _, _, _ | .bool, _, _ | .str, _, _ | .ptr, _, _ | .sl, _, _ | .map, _, _ => rfl
  | .raw, _, h => (h rfl).elim
def Ty.fine : Ty → Bool
  | .sc .raw => false
  | .sc _ => true
  | .agg l => l.all fun s => match s with
    | .raw => false
    | _ => true
theorem Ty.one : ∀ (t : Ty) (x : t.T), t.fine = true → ∀ u ∈ t.cells x, u.oneCell' = true
  | .sc s, x, h, u, hu => by
    simp only [Ty.cells, List.mem_singleton] at hu
    subst hu
    exact Sc.one s x (fun e => by subst e; simp [Ty.fine] at h)
  | .agg l, x, h, u, hu => by
    simp only [Ty.cells] at hu
    simp only [Ty.fine, List.all_eq_true] at h
    revert h
    revert hu
    induction l with
    | nil => intro hu; simp [Tup.e] at hu
    | cons s r ih =>
      intro hu h
      have hs : s ≠ .raw := fun e => by have := h s List.mem_cons_self; subst e; simp at this
      cases r with
      | nil =>
        simp only [Tup.e, List.mem_singleton] at hu
        subst hu
        exact Sc.one s x hs
      | cons s2 r =>
        simp only [Tup.e, List.mem_cons] at hu
        rcases hu with rfl | hu
        · exact Sc.one s x.1 hs
        · exact ih x.2 hu (fun z hz => h z (List.mem_cons_of_mem _ hz))
theorem flat_len {t : Ty} (l : List t.T) : (l.flatMap t.cells).length = l.length * t.size := by
  induction l with
  | nil => simp
  | cons x r ih => rw [List.flatMap_cons, List.length_append, ih, t.cells_len, List.length_cons, Nat.add_mul]; omega
theorem flat_at {t : Ty} : ∀ {l : List t.T} {i : Nat} {x : t.T}, l[i]? = some x → ∀ j u, (t.cells x)[j]? = some u → (l.flatMap t.cells)[i * t.size + j]? = some u
  | [], _, _, h, _, _, _ => by simp at h
  | y :: r, 0, x, h, j, u, hj => by
    simp at h
    subst h
    have hl : j < (t.cells y).length := (List.getElem?_eq_some_iff.1 hj).1
    rw [List.flatMap_cons, Nat.zero_mul, Nat.zero_add, List.getElem?_append_left hl]
    exact hj
  | y :: r, i + 1, x, h, j, u, hj => by
    simp at h
    rw [List.flatMap_cons, List.getElem?_append_right (by rw [t.cells_len, Nat.add_mul]; omega), t.cells_len]
    have := flat_at h j u hj
    rw [show (i + 1) * t.size + j - t.size = i * t.size + j by rw [Nat.add_mul]; omega]
    exact this
theorem flat_take {t : Ty} (l : List t.T) (n : Nat) : (l.take n).flatMap t.cells = (l.flatMap t.cells).take (n * t.size) := by
  induction l generalizing n with
  | nil => simp
  | cons x r ih =>
    rcases n with _ | n
    · simp
    · rw [List.take_succ_cons, List.flatMap_cons, List.flatMap_cons, ih]
      have e1 : (n + 1) * t.size = (t.cells x).length + n * t.size := by rw [t.cells_len, Nat.add_mul]; omega
      rw [e1, List.take_length_add_append]
structure Own (S : Nat → Prop) (w : World) (E : TypeId) (t : Ty) (s : Sl) (l : List t.T) : Prop where
  row : w.ownsRow 0 E t.size s.v l.length (l.flatMap t.cells)
  own : ∀ k, s.v.ownBlock = some k → S k
theorem Own.nil (S : Nat → Prop) (w : World) (E : TypeId) (t : Ty) : Own S w E t ⟨none, 0, 0⟩ [] := ⟨World.ownsRow_nil w 0 E t.size, by simp [Sl.v, Value.ownBlock]⟩
section
variable {S : Nat → Prop} {E : TypeId} {t : Ty} {s : Sl} {l : List t.T}
theorem Own.cases (h : Own S w E t s l) : (s = ⟨none, 0, 0⟩ ∧ l = []) ∨ ∃ g c cur, s = ⟨some ⟨g, 0, none⟩, l.length, c⟩ ∧ S g ∧ w.heap[g]? = some (.cells cur E (0, 0)) ∧ l.length ≤ c ∧ c ≤ maxLen ∧ cur.size = c * t.size ∧ cur.toList.take (l.length * t.size) = l.flatMap t.cells := by
  obtain ⟨a, n, c⟩ := s
  rcases h.row.2 with ⟨h1, h2⟩ | ⟨g, cap, cur, h1, _, h3, h4, h5, h6, h7⟩
  · simp only [Sl.v, Value.slice.injEq] at h1
    obtain ⟨rfl, rfl, rfl⟩ := h1
    exact .inl ⟨rfl, List.eq_nil_of_length_eq_zero h2⟩
  · simp only [Sl.v, Value.slice.injEq] at h1
    obtain ⟨rfl, rfl, rfl⟩ := h1
    exact .inr ⟨g, _, cur, rfl, h.own g rfl, h3, h4, h5, h6, h7⟩
theorem Own.mk' {g c : Nat} {cur : Array Value} (hg : S g) (h3 : w.heap[g]? = some (.cells cur E (0, 0))) (h4 : l.length ≤ c) (h5 : c ≤ maxLen) (h6 : cur.size = c * t.size) (h7 : cur.toList.take (l.length * t.size) = l.flatMap t.cells) :
    Own S w E t ⟨some ⟨g, 0, none⟩, l.length, c⟩ l :=
  ⟨⟨flat_len l, .inr ⟨g, c, cur, rfl, Nat.zero_le _, h3, h4, h5, h6, h7⟩⟩, fun k hk => by simp [Sl.v, Value.ownBlock] at hk; subst hk; exact hg⟩
theorem Own.len (h : Own S w E t s l) : s.n = l.length := by
  rcases h.cases with ⟨rfl, rfl⟩ | ⟨g, c, cur, rfl, _⟩ <;> rfl
theorem Own.cap (h : Own S w E t s l) : s.n ≤ s.c := by
  rcases h.cases with ⟨rfl, rfl⟩ | ⟨g, c, cur, rfl, _, _, hc, _⟩
  · exact Nat.le_refl _
  · exact hc
theorem Own.small (h : Own S w E t s l) : l.length ≤ maxLen := by
  rcases h.cases with ⟨rfl, rfl⟩ | ⟨g, c, cur, rfl, _, _, hc, h2, _⟩
  · simp
  · exact Nat.le_trans hc h2
theorem Own.mono {S' : Nat → Prop} (h : Own S w E t s l) (hs : ∀ k, k < w.heap.size → S k → S' k) : Own S' w E t s l :=
  ⟨h.row, fun k hk => hs k (h.row.lt k hk).2 (h.own k hk)⟩
theorem Own.fr {T : Nat → Prop} {w' : World} (h : Own S w E t s l) (f : Fr T w w') (hn : ∀ k, S k → ¬ T k) : Own S w' E t s l := by
  rcases h.cases with ⟨rfl, rfl⟩ | ⟨g, c, cur, rfl, hg, h3, h4, h5, h6, h7⟩
  · exact Own.nil _ _ _ _
  · exact Own.mk' hg ((f.block g (Array.getElem?_eq_some_iff.1 h3).1 (hn g hg)).trans h3) h4 h5 h6 h7
theorem Own.read (h : Own S w E t s l) {g : Nat} (hg : s.a = some ⟨g, 0, none⟩) {i : Nat} {x : t.T} (hx : l[i]? = some x) : Rd w ⟨g, i * t.size, none⟩ t x := by
  rcases h.cases with ⟨rfl, rfl⟩ | ⟨g, c, cur, rfl, hS, h3, h4, h5, h6, h7⟩
  · simp at hx
  · simp only [Option.some.injEq, Addr.mk.injEq, and_true] at hg
    subst hg
    refine Rd.cells.2 fun j u hj => ?_
    have := flat_at hx j u hj
    rw [← h7, List.getElem?_take] at this
    split at this
    · rw [add_lit, cell_of_row w g _ cur E (0, 0) h3]
      simpa using this
    · cases this
theorem Own.sl (h : Own S w E t s l) : SlT S w t s l := by
  refine ⟨h.len, h.cap, ?_⟩
  rcases h.cases with ⟨rfl, rfl⟩ | ⟨g, c, cur, rfl, hg, h3, h4, h5, h6, h7⟩
  · exact .inl rfl
  · refine .inr ⟨g, 0, rfl, hg, (Array.getElem?_eq_some_iff.1 h3).1, fun i x hx => ?_⟩
    rw [Nat.zero_add]
    exact h.read rfl hx
theorem putAt_get : ∀ (vs : List Value) {cs : List Value} {o : Nat}, o + vs.length ≤ cs.length → putAt cs o vs = cs.take o ++ vs ++ cs.drop (o + vs.length)
  | [], cs, o, _ => by simp [putAt]
  | v :: vs, cs, o, h => by
    simp only [List.length_cons] at h
    rw [putAt, putAt_get vs (by simp; omega)]
    rw [List.take_set, List.length_cons, List.drop_set_of_lt (by omega)]
    rw [show o + 1 + vs.length = o + (vs.length + 1) by omega]
    congr 1
    rw [show List.take (o + 1) cs = List.take o cs ++ [cs[o]'(by omega)] by rw [List.take_append_getElem]]
    rw [List.set_append_right _ _ (by simp; omega)]
    simp [Nat.min_eq_left (by omega : o ≤ cs.length)]
theorem putAt_take : ∀ (vs cs : List Value) (o m : Nat), (putAt cs o vs).take m = putAt (cs.take m) o vs
  | [], _, _, _ => rfl
  | v :: vs, cs, o, m => by rw [putAt, putAt_take vs, List.take_set]; rfl
theorem flat_set {t : Ty} : ∀ {l : List t.T} {i : Nat} {x : t.T}, i < l.length → (l.set i x).flatMap t.cells = putAt (l.flatMap t.cells) (i * t.size) (t.cells x)
  | [], _, _, h => by simp at h
  | y :: r, 0, x, h => by
    rw [putAt_get _ (by rw [flat_len, t.cells_len, List.length_cons, Nat.add_mul]; omega)]
    rw [List.set_cons_zero, List.flatMap_cons, List.flatMap_cons, Nat.zero_mul, List.take_zero, List.nil_append, Nat.zero_add, t.cells_len, ← t.cells_len y, List.drop_left]
  | y :: r, i + 1, x, h => by
    have hi : i < r.length := by simpa using h
    have hle : i * t.size + t.size ≤ r.length * t.size := by rw [← Nat.succ_mul]; exact Nat.mul_le_mul_right _ hi
    rw [List.set_cons_succ, List.flatMap_cons, List.flatMap_cons, flat_set hi, putAt_get _ (by rw [flat_len, t.cells_len]; exact hle), putAt_get _ (by rw [List.length_append, flat_len, t.cells_len, t.cells_len, Nat.add_mul]; omega)]
    have e1 : (i + 1) * t.size = (t.cells y).length + i * t.size := by rw [t.cells_len, Nat.add_mul]; omega
    rw [e1, List.take_length_add_append, Nat.add_assoc, List.drop_length_add_append]
    simp
theorem Own.set (h : Own S w E t s l) (hf : t.fine = true) {i : Nat} (hi : i < l.length) {g : Nat} (hg : s.a = some ⟨g, 0, none⟩) (x : t.T) {K : W R}
    (hk : ∀ w', Own S w' E t s (l.set i x) → Fr (fun k => s.v.ownBlock = some k) w w' → w'.heap.size = w.heap.size → K Q w') : stoL ⟨g, i * t.size, none⟩ (t.cells x) 0 K Q w := by
  rcases h.cases with ⟨rfl, rfl⟩ | ⟨g, c, cur, rfl, hS, h3, h4, h5, h6, h7⟩
  · simp at hi
  · simp only [Option.some.injEq, Addr.mk.injEq, and_true] at hg
    subst hg
    have hle : i * t.size + t.size ≤ l.length * t.size := by rw [← Nat.succ_mul]; exact Nat.mul_le_mul_right _ hi
    have hle2 : l.length * t.size ≤ c * t.size := Nat.mul_le_mul_right _ h4
    refine stoBlk (T := E) (cs := cur.toList) (t.cells x) 0 h3 (by rw [t.cells_len]; simp; omega) (t.one x hf) fun w' hb hfr hsz => ?_
    rw [Nat.add_zero] at hb
    refine hk w' ?_ (hfr.mono fun k _ e => by simp [Sl.v, Value.ownBlock, e]) hsz
    have hl : (l.set i x).length = l.length := List.length_set
    have := Own.mk' (S := S) (w := w') (E := E) (t := t) (l := l.set i x) (g := g) (c := c) (cur := ⟨putAt cur.toList (i * t.size) (t.cells x)⟩) hS hb (by rw [hl]; exact h4) h5 (by simp [putAt_length, h6]) (by
      rw [hl, flat_set hi, ← h7, putAt_take])
    rw [hl] at this
    exact this
theorem putAt_set_lt {v : Value} : ∀ (vs cs : List Value) (o q : Nat), q < o → (putAt cs o vs).set q v = putAt (cs.set q v) o vs
  | [], _, _, _, _ => rfl
  | a :: vs, cs, o, q, h => by
    rw [putAt, putAt, putAt_set_lt vs _ _ _ (by omega), List.set_comm _ _ (by omega)]
theorem putAt_set {v : Value} : ∀ (vs cs : List Value) (o j : Nat), j < vs.length → (putAt cs o vs).set (o + j) v = putAt cs o (vs.set j v)
  | [], _, _, _, h => by simp at h
  | a :: vs, cs, o, 0, _ => by
    rw [putAt, show o + 0 = o from rfl, putAt_set_lt vs _ _ _ (by omega), List.set_set]
    rfl
  | a :: vs, cs, o, j + 1, h => by
    rw [putAt, show o + (j + 1) = o + 1 + j by omega, putAt_set vs _ _ _ (by simpa using h)]
    rfl
theorem Own.setFld (h : Own S w E t s l) {i j : Nat} {x x' : t.T} (hx : l[i]? = some x) {g : Nat} (hg : s.a = some ⟨g, 0, none⟩) (hj : j < t.size) {v : Value} (hc : t.cells x' = (t.cells x).set j v) (h1 : v.oneCell' = true) {K : W R}
    (hk : ∀ w', Own S w' E t s (l.set i x') → Fr (fun k => s.v.ownBlock = some k) w w' → w'.heap.size = w.heap.size → K Q w') : stoL ⟨g, i * t.size + j, none⟩ [v] 0 K Q w := by
  obtain ⟨hi, he⟩ := List.getElem?_eq_some_iff.1 hx
  rcases h.cases with ⟨rfl, rfl⟩ | ⟨g, c, cur, rfl, hS, h3, h4, h5, h6, h7⟩
  · simp at hi
  · simp only [Option.some.injEq, Addr.mk.injEq, and_true] at hg
    subst hg
    have hle : i * t.size + t.size ≤ l.length * t.size := by rw [← Nat.succ_mul]; exact Nat.mul_le_mul_right _ hi
    have hle2 : l.length * t.size ≤ c * t.size := Nat.mul_le_mul_right _ h4
    refine stoBlk (T := E) (cs := cur.toList) (o := i * t.size + j) [v] 0 h3 (by simp; omega) (by simpa using h1) fun w' hb hfr hsz => ?_
    rw [Nat.add_zero] at hb
    refine hk w' ?_ (hfr.mono fun k _ e => by simp [Sl.v, Value.ownBlock, e]) hsz
    have hl : (l.set i x').length = l.length := List.length_set
    have hself : putAt (l.flatMap t.cells) (i * t.size) (t.cells x) = l.flatMap t.cells := by
      rw [← flat_set hi]
      congr 1
      rw [← he]
      exact List.set_getElem_self hi
    have := Own.mk' (S := S) (w := w') (E := E) (t := t) (l := l.set i x') (g := g) (c := c) (cur := ⟨putAt cur.toList (i * t.size + j) [v]⟩) hS hb (by rw [hl]; exact h4) h5 (by simp [putAt_length, h6]) (by
      rw [hl, flat_set hi, hc, ← putAt_set _ _ _ _ (by rw [t.cells_len]; exact hj), hself, ← h7, ← List.take_set]
      rfl)
    rw [hl] at this
    exact this
theorem Own.take (h : Own S w E t s l) {n : Nat} (hn : n ≤ l.length) : Own S w E t ⟨s.a, n, s.c⟩ (l.take n) := by
  rcases h.cases with ⟨rfl, rfl⟩ | ⟨g, c, cur, rfl, hS, h3, h4, h5, h6, h7⟩
  · simp at hn; subst hn; exact Own.nil _ _ _ _
  · have hl : (l.take n).length = n := by simp; omega
    have := Own.mk' (S := S) (w := w) (E := E) (t := t) (l := l.take n) (g := g) (c := c) (cur := cur) hS h3 (by omega) h5 h6 (by
      rw [hl, flat_take, ← h7, List.take_take, Nat.min_eq_left (Nat.mul_le_mul_right _ hn)])
    rw [hl] at this
    exact this
theorem Own.lit (w : World) (E : TypeId) (t : Ty) (l : List t.T) (hS : S w.heap.size) (hm : l.length ≤ maxLen) {cs : List Value} (hc : cs = l.flatMap t.cells) {n : Nat} (hn : n = l.length) : Own S (w.alloc (.cells ⟨cs⟩ E)) E t ⟨some ⟨w.heap.size, 0, none⟩, n, n⟩ l := by
  subst hc; subst hn
  exact Own.mk' hS (heap_alloc_new w _) (Nat.le_refl _) hm (flat_len l) (by rw [List.take_of_length_le (by rw [flat_len]; exact Nat.le_refl _)])
end
structure SlTy (P : Program) (T E : TypeId) (t : Ty) (bytes : Nat) : Prop where
  under : P.underlying T = some (.slice E)
  info : ∃ i z, P.info? E = some i ∧ i.zero = some z ∧ i.size = t.size ∧ i.bytes = bytes ∧ z.cells.size = t.size
  pos : 0 < t.size
  fine : t.fine = true
theorem SlT.cellsAt {ok : Nat → Prop} {t : Ty} {s : Sl} {l : List t.T} (h : SlT ok w t s l) {a : Addr} (ha : s.a = some a) : ∀ j u, (l.flatMap t.cells)[j]? = some u → w.cell? (a.add j) = some u := by
  intro j u hj
  rcases h.at_ with rfl | ⟨b, o, ha', _, _, hr⟩
  · simp at hj
  · rw [ha] at ha'
    cases ha'
    have hj' : j < l.length * t.size := by have := (List.getElem?_eq_some_iff.1 hj).1; rwa [flat_len] at this
    have hp : 0 < t.size := by rcases Nat.eq_zero_or_pos t.size with h0 | h0; (rw [h0] at hj'; simp at hj'); exact h0
    have hi : j / t.size < l.length := Nat.div_lt_of_lt_mul (by rw [Nat.mul_comm]; exact hj')
    have hx := List.getElem?_eq_getElem hi
    have hm : j % t.size < (t.cells l[j / t.size]).length := by rw [t.cells_len]; exact Nat.mod_lt _ hp
    have := flat_at hx (j % t.size) _ (List.getElem?_eq_getElem hm)
    rw [Nat.mul_comm, Nat.div_add_mod, hj] at this
    rw [add_lit]
    have hc := Rd.cells.1 (hr _ _ hx) (j % t.size) _ (List.getElem?_eq_getElem hm)
    rw [add_lit, Nat.add_assoc, Nat.mul_comm, Nat.div_add_mod] at hc
    rw [hc]
    exact this.symm
theorem appI {P : Program} {T E ty : TypeId} {t : Ty} {bytes : Nat} (H : SlTy P T E t bytes) {S S' ok : Nat → Prop} {s s2 : Sl} {l l2 : List t.T} (h : Own S w E t s l) (h2 : SlT ok w t s2 l2)
    (hb : (l.length + l2.length) * bytes ≤ 140737488355328) (hm : l.length + l2.length ≤ maxLen) (h1 : ∀ k, S k → S' k) (h1' : S' w.heap.size) {K : Sl → W R}
    (hk : ∀ r w', Own S' w' E t r (l ++ l2) → Fr (fun k => s.v.ownBlock = some k) w w' → w'.heap.size ≤ w.heap.size + 1 → K r Q w') : rawW P (Builtin.append_ #[T, T] ty #[.slice s.a s.n s.c, .slice s2.a s2.n s2.c]) [.sc .sl] K Q w := by
  obtain ⟨i, z, hi, hz, hs, hby, hzs⟩ := H.info
  have hn2 := h2.len
  have flat : (l ++ l2).flatMap t.cells = l.flatMap t.cells ++ l2.flatMap t.cells := List.flatMap_append
  have hlen : (l ++ l2).length = l.length + l2.length := List.length_append
  have hmi : ((l.length + l2.length : Nat) : Int) ≤ 9223372036854775807 := by simp only [maxLen] at hm; omega
  by_cases h0 : l2 = []
  · subst h0
    have hrun : (Builtin.append_ #[T, T] ty #[.slice s.a s.n s.c, .slice s2.a s2.n s2.c]).run P w = .ok (.slice s.a s.n s.c) w := by
      rw [show s2.n = 0 from hn2]
      rcases h.cases with ⟨rfl, rfl⟩ | ⟨g, c, cur, rfl, hS, h3, h4, h5, h6, h7⟩
      · rcases hsa : s2.a with _ | a <;> simp [Builtin.append_, run_underlying H.under, sizeOf, typeInfo, hi, Builtin.lenOf, Builtin.firstCells, loadCells, loadCellsFrom]
      · rcases hsa : s2.a with _ | a <;> simp [Builtin.append_, run_underlying H.under, sizeOf, typeInfo, hi, Builtin.lenOf, Builtin.firstCells, loadCells, loadCellsFrom, h4, storeCells]
    refine ⟨s, w, hrun, hk s w ?_ (Fr.refl _ _) (by omega)⟩
    rw [List.append_nil]
    exact h.mono fun k _ hk => h1 k hk
  rcases h2.at_ with e0 | ⟨b2, o2, ha2, _, _, _⟩
  · exact (h0 e0).elim
  have hnews := h2.cellsAt ha2
  have hl2 : (l2.flatMap t.cells).length = l2.length * i.size := by rw [flat_len, hs]
  have hpos : 0 < l2.length := List.length_pos_iff.2 h0
  have one : ∀ u ∈ l2.flatMap t.cells, u.oneCell' = true := fun u hu => by
    obtain ⟨x, _, hx⟩ := List.mem_flatMap.1 hu
    exact t.one x H.fine u hx
  have grown : ∀ (old : Nat) {v : Value} {w' : World}, old < l.length + l2.length → v = .slice (some ⟨w.heap.size, 0, none⟩) (l.length + l2.length) (grownCap w (l.length + l2.length) old E) →
      w' = w.drew.alloc (.cells ((l.flatMap t.cells).toArray ++ (l2.flatMap t.cells).toArray ++ Builtin.zeroCells z.cells (grownCap w (l.length + l2.length) old E - (l.length + l2.length))) E) →
      ∃ r : Sl, v = r.v ∧ K r Q w' := by
    intro old v w' ho hv hw
    have hge := grownCap_ge w (l.length + l2.length) old E
    have hcm := grownCap_le_maxLen w (l.length + l2.length) old E hm
    generalize grownCap w (l.length + l2.length) old E = G at hge hcm hv hw
    subst hv; subst hw
    refine ⟨⟨_, _, _⟩, rfl, hk _ _ ?_ ((Fr.refl _ w).drew.alloc _) (by simp)⟩
    rw [← hlen]
    refine Own.mk' h1' (heap_alloc_new w.drew _) (by rw [hlen]; exact hge) hcm ?_ ?_
    · simp only [Array.size_append, List.size_toArray, flat_len, size_zeroCells, hzs, ← Nat.add_mul]
      congr 1
      rw [hlen]
      omega
    · simp only [Array.toList_append, List.append_assoc]
      rw [← List.append_assoc, flat, ← flat_len (l ++ l2), flat]
      exact List.take_left
  rcases h.cases with ⟨rfl, rfl⟩ | ⟨g, c, cur, rfl, hS, h3, h4, h5, h6, h7⟩
  · have hr := run_append_nil (P := P) w T ty E i z H.under hi hz ⟨b2, o2, none⟩ l2.length s2.c _ hl2 hnews hpos (by simpa using hmi) (by rw [hby]; simp at hb; omega)
    obtain ⟨r, hv, hK⟩ := grown 0 (by simpa using hpos) (v := .slice (some ⟨w.heap.size, 0, none⟩) l2.length (grownCap w l2.length 0 E))
      (w' := w.drew.alloc (.cells ((l2.flatMap t.cells).toArray ++ Builtin.zeroCells z.cells (grownCap w l2.length 0 E - l2.length)) E)) (by simp) (by simp)
    refine ⟨r, _, ?_, hK⟩
    rw [hn2, ha2]
    rw [hv] at hr
    exact hr
  · by_cases hroom : l.length + l2.length ≤ c
    · have hfit : l.length * i.size + (l2.flatMap t.cells).length ≤ cur.size := by rw [hl2, hs, h6, ← Nat.add_mul]; exact Nat.mul_le_mul_right _ hroom
      have hr := run_append_room (P := P) w T ty E i H.under hi g l.length c cur h3 ⟨b2, o2, none⟩ l2.length s2.c _ hl2 hnews one hroom hfit
      refine ⟨⟨some ⟨g, 0, none⟩, l.length + l2.length, c⟩, _, by rw [hn2, ha2]; exact hr, hk _ _ ?_ ?_ (by simp [World.setRow])⟩
      · rw [← hlen]
        refine Own.mk' (h1 g hS) (setRow_heap w g cur _ E _ h3) (by rw [hlen]; exact hroom) h5 ?_ ?_
        · simp only [List.size_toArray, List.length_append, List.length_take, List.length_drop, Array.length_toList]
          omega
        · rw [hs, h7, ← flat, ← flat_len (l ++ l2)]
          exact List.take_left
      · exact ⟨rfl, rfl, rfl, by simp [World.setRow], fun k _ hk => setRow_other w g k _ (fun e => hk (by simp [Sl.v, Value.ownBlock, e]))⟩
    · have holds : ∀ j u, (l.flatMap t.cells)[j]? = some u → w.cell? ((⟨g, 0, none⟩ : Addr).add j) = some u := h.sl.cellsAt rfl
      have hr := run_append_grow (P := P) w T ty E i z H.under hi hz ⟨g, 0, none⟩ l.length c _ (by rw [flat_len, hs]) holds ⟨b2, o2, none⟩ l2.length s2.c _ hl2 hnews (by omega) hmi (growslice_fits (by omega) (by rw [hby]; exact hb))
      obtain ⟨r, hv, hK⟩ := grown c (by omega) rfl rfl
      refine ⟨r, _, ?_, hK⟩
      rw [hn2, ha2]
      rw [hv] at hr
      exact hr
theorem Own.idx {S : Nat → Prop} {E : TypeId} {t : Ty} {s : Sl} {l : List t.T} (h : Own S w E t s l) {sz : Nat} (hsz : sz = t.size) {i : Int} (h0 : 0 ≤ i) (h1 : i < l.length) {K : Addr → W R}
    (hk : ∀ g x, s.a = some ⟨g, 0, none⟩ → l[i.toNat]? = some x → Rd w ⟨g, i.toNat * t.size, none⟩ t x → K ⟨g, i.toNat * t.size, none⟩ Q w) : idxW s.a s.n sz i K Q w := by
  subst hsz
  have hi : i.toNat < l.length := by omega
  rcases h.cases with ⟨rfl, rfl⟩ | ⟨g, c, cur, rfl, hS, h3, h4, h5, h6, h7⟩
  · simp at hi
  · refine ⟨⟨g, 0, none⟩, rfl, h0, h1, ?_⟩
    rw [add_lit, Nat.zero_add]
    have hx := List.getElem?_eq_getElem hi
    exact hk g _ rfl hx (h.read rfl hx)
open Go.ChangeMaps Go.MapKept in
def MapB {κ : Type} (P : Program) (k : TypeId) (ke : κ → Value) (w : World) (b : Nat) (f : κ → Option Value) : Prop :=
  ∃ es clock, w.heap[b]? = some (.map es clock) ∧ Go.MapKept.Stamped es clock ∧ (∀ x ∈ es.toList, ∃ l, keyOf P k x.key = some l) ∧ (∀ x ∈ es.toList, ∃ i, x.key = ke i) ∧ es.toList.Pairwise (fun x y => x.key ≠ y.key) ∧
    ∀ i v, f i = some v ↔ ∃ x ∈ es.toList, x.key = ke i ∧ x.val = v
section
variable {κ : Type} {P : Program} {k : TypeId} {ke : κ → Value} {b : Nat} {f : κ → Option Value}
theorem MapB.lt (h : MapB P k ke w b f) : b < w.heap.size := by
  obtain ⟨es, clock, hb, _⟩ := h
  exact (Array.getElem?_eq_some_iff.1 hb).1
theorem MapB.fr {S : Nat → Prop} {w' : World} (h : MapB P k ke w b f) (hf : Fr S w w') (hn : ¬ S b) : MapB P k ke w' b f := by
  have hl := h.lt
  obtain ⟨es, clock, hb, r⟩ := h
  exact ⟨es, clock, (hf.block b hl hn).trans hb, r⟩
theorem MapB.congr (h : MapB P k ke w b f) {g : κ → Option Value} (e : ∀ i, g i = f i) : MapB P k ke w b g := by
  have : g = f := funext e
  rw [this]
  exact h
theorem pw_inj {es : List MapEntry} (h : es.Pairwise (fun x y => x.key ≠ y.key)) {x y : MapEntry} (hx : x ∈ es) (hy : y ∈ es) (e : x.key = y.key) : x = y := by
  induction es with
  | nil => simp at hx
  | cons z r ih =>
    rw [List.pairwise_cons] at h
    rcases List.mem_cons.1 hx with h1 | h1
    · rcases List.mem_cons.1 hy with h2 | h2
      · rw [h1, h2]
      · subst h1; exact absurd e (h.1 _ h2)
    · rcases List.mem_cons.1 hy with h2 | h2
      · subst h2; exact absurd e.symm (h.1 _ h1)
      · exact ih h.2 h1 h2
theorem MapB.put [DecidableEq κ] (h : MapB P k ke w b f) (Kd : Go.Maps.Keyed P k) (hke : ∀ i j, ke i = ke j → i = j) {T e : TypeId} (ht : P.underlying T = some (.map k e)) {i : κ} {l : Lit} (hkey : keyOf P k (ke i) = some l) (v : Value) :
    ∃ w', (Instr.mapUpdate T (.map (some b)) (ke i) v).run P w = .ok () w' ∧ MapB P k ke w' b (fun j => if j = i then some v else f j) ∧ Fr (fun k => k = b) w w' ∧ w'.heap.size = w.heap.size := by
  obtain ⟨es, clock, hb, hst, hks, hki, hpw, hf⟩ := h
  have frame : ∀ o, Fr (fun k => k = b) w (Go.ChangeMaps.setBlock w b o) := fun o => ⟨rfl, rfl, rfl, by simp [Go.ChangeMaps.setBlock], fun j _ hj => Go.ChangeMaps.heap_setBlock_other hb _ hj⟩
  rcases Kd.find w hkey es.toList hks with ⟨h1, h2⟩ | ⟨j, e0, h1, h2, h3⟩
  · refine ⟨Go.ChangeMaps.setBlock w b (.map (es.push ⟨ke i, v, clock⟩) (clock + 1)), ?_, ⟨_, _, Go.ChangeMaps.heap_setBlock_same hb _, Go.MapKept.stamped_push hst h2, ?_, ?_, ?_, ?_⟩, frame _, by simp [Go.ChangeMaps.setBlock]⟩
    · simp [Instr.mapUpdate, run_underlying ht, MapKept.run_getObj_map hb, Kd.check w false hkey, h1, MapKept.run_setObj_map _ hb, Result.andThen, Go.ChangeMaps.setBlock]
    · intro x hx
      simp only [Array.toList_push, List.mem_append, List.mem_singleton] at hx
      rcases hx with hx | rfl
      · exact hks x hx
      · exact ⟨_, hkey⟩
    · intro x hx
      simp only [Array.toList_push, List.mem_append, List.mem_singleton] at hx
      rcases hx with hx | rfl
      · exact hki x hx
      · exact ⟨_, rfl⟩
    · rw [Array.toList_push, List.pairwise_append]
      refine ⟨hpw, by simp, fun x hx y hy => ?_⟩
      simp only [List.mem_singleton] at hy
      subst hy
      exact h2 x hx
    · intro j u
      simp only [Array.toList_push, List.mem_append, List.mem_singleton]
      show (if _ then _ else _) = _ ↔ _
      by_cases hji : j = i
      · subst hji
        rw [if_pos rfl]
        constructor
        · intro e; cases e; exact ⟨_, .inr rfl, rfl, rfl⟩
        · rintro ⟨x, hx | rfl, hk, rfl⟩
          · exact absurd hk (h2 x hx)
          · rfl
      · rw [if_neg hji, hf]
        constructor
        · rintro ⟨x, hx, r⟩; exact ⟨x, .inl hx, r⟩
        · rintro ⟨x, hx | rfl, hk, rfl⟩
          · exact ⟨x, hx, hk, rfl⟩
          · exact absurd (hke _ _ hk).symm hji
  · have hj : es[j]? = some e0 := by simpa using h2
    have hjl : j < es.toList.length := (List.getElem?_eq_some_iff.1 h2).1
    have hm : (es.modify j fun e' => { e' with key := ke i, val := v }).toList = es.toList.set j { e0 with key := ke i, val := v } := by
      rw [Array.toList_modify]
      apply List.ext_getElem?
      intro q
      rw [List.getElem?_modify, List.getElem?_set]
      by_cases hq : j = q
      · subst hq; simp [h2]; simpa using hjl
      · simp [hq]
    refine ⟨Go.ChangeMaps.setBlock w b (.map (es.modify j fun e' => { e' with key := ke i, val := v }) clock), ?_, ⟨_, _, Go.ChangeMaps.heap_setBlock_same hb _, Go.MapKept.stamped_modify hst j _ (fun _ _ => rfl) (fun e _ he => by rw [hj] at he; cases he; exact h3.symm), ?_, ?_, ?_, ?_⟩, frame _, by simp [Go.ChangeMaps.setBlock]⟩
    · simp [Instr.mapUpdate, run_underlying ht, MapKept.run_getObj_map hb, Kd.check w false hkey, h1, hj, h3, Kd.stays w hkey, MapKept.run_setObj_map _ hb, Result.andThen, Go.ChangeMaps.setBlock]
    · intro x hx
      rw [hm] at hx
      rcases List.mem_or_eq_of_mem_set hx with hx | rfl
      · exact hks x hx
      · exact ⟨_, hkey⟩
    · intro x hx
      rw [hm] at hx
      rcases List.mem_or_eq_of_mem_set hx with hx | rfl
      · exact hki x hx
      · exact ⟨_, rfl⟩
    · rw [hm, ← List.pairwise_map (f := fun x : MapEntry => x.key) (R := fun a b => a ≠ b), List.map_set]
      rw [show (List.map (fun x : MapEntry => x.key) es.toList).set j (ke i) = List.map (fun x : MapEntry => x.key) es.toList by
        apply List.ext_getElem?
        intro q
        rw [List.getElem?_set]
        by_cases hq : j = q
        · subst hq; simp [h2, h3]; simpa using hjl
        · simp [hq]]
      rw [List.pairwise_map]
      exact hpw
    · intro q u
      rw [hm]
      have hother : ∀ x, x ∈ es.toList.set j { e0 with key := ke i, val := v } ↔ x = { e0 with key := ke i, val := v } ∨ (x ∈ es.toList ∧ x.key ≠ ke i) := by
        intro x
        constructor
        · intro hx
          obtain ⟨p, hp⟩ := List.mem_iff_getElem?.1 hx
          rw [List.getElem?_set] at hp
          by_cases hq : j = p
          · subst hq; rw [if_pos rfl, if_pos hjl] at hp; exact .inl (Option.some.inj hp).symm
          · rw [if_neg hq] at hp
            refine .inr ⟨List.mem_of_getElem? hp, fun hk => hq ?_⟩
            have e1 := pw_inj hpw (List.mem_of_getElem? h2) (List.mem_of_getElem? hp) (h3.trans hk.symm)
            subst e1
            by_cases hlt : j < p
            · have hpl := (List.getElem?_eq_some_iff.1 hp).1
              have a1 := (List.getElem?_eq_some_iff.1 hp).2
              have a2 := (List.getElem?_eq_some_iff.1 h2).2
              have := (List.pairwise_iff_getElem.1 hpw) j p hjl hpl hlt
              rw [a1, a2] at this
              exact absurd rfl this
            · have hpl := (List.getElem?_eq_some_iff.1 hp).1
              have a1 := (List.getElem?_eq_some_iff.1 hp).2
              have a2 := (List.getElem?_eq_some_iff.1 h2).2
              have := (List.pairwise_iff_getElem.1 hpw) p j hpl hjl (by omega)
              rw [a1, a2] at this
              exact absurd rfl this
        · rintro (rfl | ⟨hx, hk⟩)
          · exact List.mem_of_getElem? (i := j) (by rw [List.getElem?_set, if_pos rfl, if_pos hjl])
          · obtain ⟨p, hp⟩ := List.mem_iff_getElem?.1 hx
            refine List.mem_of_getElem? (i := p) ?_
            rw [List.getElem?_set, if_neg]
            · exact hp
            · intro e; subst e; rw [h2] at hp; cases hp; exact hk h3
      show (if _ then _ else _) = _ ↔ _
      by_cases hji : q = i
      · subst hji
        rw [if_pos rfl]
        constructor
        · intro e; cases e; exact ⟨_, (hother _).2 (.inl rfl), rfl, rfl⟩
        · rintro ⟨x, hx, hk, rfl⟩
          rcases (hother x).1 hx with rfl | ⟨_, hne⟩
          · rfl
          · exact absurd hk hne
      · rw [if_neg hji, hf]
        constructor
        · rintro ⟨x, hx, hk, hv⟩; exact ⟨x, (hother x).2 (.inr ⟨hx, fun e => hji (hke _ _ (hk.symm.trans e))⟩), hk, hv⟩
        · rintro ⟨x, hx, hk, rfl⟩
          rcases (hother x).1 hx with rfl | ⟨hx', hne⟩
          · exact absurd (hke _ _ hk).symm hji
          · exact ⟨x, hx', hk, rfl⟩
end
end Go.Proofs.YtchhhjlpnecjkaaGreat.Den
namespace Go.Proofs.YtchhhjlpnecjkaaGreat.Den
open Go Go.RowKit
variable {R : Type} {Q : R → World → Prop} {w : World}
theorem w64 {x : Int} (h : -9223372036854775808 ≤ x ∧ x ≤ 9223372036854775807) : IntKind.wrap .i64 x = x := by rw [IntKind.wrap_i64]; omega
theorem wu32 {x : Int} (h : 0 ≤ x ∧ x ≤ 4294967295) : IntKind.wrap .u32 x = x := by rw [IntKind.wrap_u32]; omega
theorem wu8 {x : Int} (h : 0 ≤ x ∧ x ≤ 255) : IntKind.wrap .u8 x = x := by rw [IntKind.wrap_u8]; omega
theorem maxLen_eq : maxLen = 9223372036854775807 := by simp [maxLen]
theorem newI {T : TypeId} {cs : List Value} {K : Addr → W R} (hk : ∀ w', Blk w' w.heap.size T cs → Fr None w w' → w'.heap.size = w.heap.size + 1 → K ⟨w.heap.size, 0, none⟩ Q w') : newW T cs K Q w :=
  hk _ (Blk.new w T cs) ((Fr.refl _ _).alloc _) (by simp)
theorem putAt_all : ∀ {vs cs : List Value}, vs.length = cs.length → putAt cs 0 vs = vs := by
  intro vs cs h
  rw [putAt_get vs (by omega)]
  simp [h]
def one1 : List Value → Bool
  | [] => true
  | v :: r => v.oneCell' && one1 r
theorem one1_mem : ∀ {vs : List Value}, one1 vs = true → ∀ v ∈ vs, v.oneCell' = true
  | u :: r, h, v, hv => by
    simp only [one1, Bool.and_eq_true] at h
    rcases List.mem_cons.1 hv with rfl | hv
    · exact h.1
    · exact one1_mem h.2 v hv
theorem stoAll {b : Nat} {T : TypeId} {cs vs : List Value} {K : W R} (h : Blk w b T cs) (hl : vs.length = cs.length) (h1 : one1 vs = true) (hk : ∀ w', Blk w' b T vs → Fr (fun k => k = b) w w' → w'.heap.size = w.heap.size → K Q w') : stoL ⟨b, 0, none⟩ vs 0 K Q w :=
  stoBlk vs 0 h (by omega) (one1_mem h1) fun w' hb hf hs => hk w' (by rw [putAt_all hl] at hb; exact hb) hf hs
theorem locI {T : TypeId} {cs vs : List Value} {K : Addr → W R} (hl : vs.length = cs.length) (h1 : one1 vs = true)
    (hk : ∀ w', Blk w' w.heap.size T vs → Fr None w w' → w'.heap.size = w.heap.size + 1 → K ⟨w.heap.size, 0, none⟩ Q w') : newW T cs (fun a => stoL a vs 0 (K a)) Q w :=
  newI fun _ B f hs => stoAll B hl h1 fun w2 B2 f2 hs2 => hk w2 B2 (f.thenNew f2 (fun x e => by omega)) (by omega)
theorem fldI {b : Nat} {T : TypeId} {cs : List Value} {s : Sc} {i : Nat} {K : s.T → W R} (B : Blk w b T cs) {x : s.T} (hx : cs[i]? = some (s.e x)) (hk : K x Q w) : ld (.sc s) (Addr.add ⟨b, 0, none⟩ i) K Q w :=
  ⟨x, by rw [add_lit, Nat.zero_add]; exact (B.cell i).trans hx, hk⟩
theorem fld0 {b : Nat} {T : TypeId} {cs : List Value} {s : Sc} {i : Nat} {K : s.T → W R} (B : Blk w b T cs) {x : s.T} (hx : cs[i]? = some (s.e x)) (hk : K x Q w) : ld (.sc s) ⟨b, i, none⟩ K Q w :=
  ⟨x, (B.cell i).trans hx, hk⟩
theorem aggI {b : Nat} {T : TypeId} {cs : List Value} {l : List Sc} {K : Tup Sc.T l → W R} (B : Blk w b T cs) {x : Tup Sc.T l} (hx : cs = Tup.e Sc.e l x) (hk : K x Q w) : ld (.agg l) ⟨b, 0, none⟩ K Q w :=
  ⟨x, by subst hx; exact B.cells 0 _ (fun j u h => by rw [Nat.zero_add]; exact h), hk⟩
theorem setI {b : Nat} {T : TypeId} {cs : List Value} {i : Nat} {v : Value} {K : W R} (B : Blk w b T cs) (hi : i < cs.length) (h1 : v.oneCell' = true)
    (hk : ∀ w', Blk w' b T (cs.set i v) → Fr (fun k => k = b) w w' → w'.heap.size = w.heap.size → K Q w') : stoL ⟨b, i, none⟩ [v] 0 K Q w :=
  stoBlk (o := i) [v] 0 B (by simp; omega) (by simpa using h1) fun w' hb hf hs => hk w' (by simpa [putAt] using hb) hf hs
theorem idxB {b : Nat} {n sz : Nat} {i : Int} (h0 : 0 ≤ i) (h1 : i < n) {o : Nat} {K : Addr → W R} (hk : K ⟨b, o + i.toNat * sz, none⟩ Q w) : idxW (some ⟨b, o, none⟩) n sz i K Q w :=
  ⟨_, rfl, h0, h1, by rw [add_lit]; exact hk⟩
theorem ptrI {a : Addr} {K : Addr → W R} (hk : K a Q w) : ptrW (some a) K Q w := hk
theorem chkI {c : Prop} {K : W R} (h : c) (hk : K Q w) : chkW c K Q w := ⟨h, hk⟩
theorem Fr.newer {a b c : World} {T : Nat → Prop} (h : Fr None a b) (k : Fr T b c) (ht : ∀ x, T x → a.heap.size ≤ x) : Fr None a c := h.thenNew k ht
theorem forI {σ : Type} {step : (σ → W R) → σ → W R} {done : σ → W R} {s0 : σ} {N : Nat} (idx : σ → Int) (P : Nat → σ → World → Prop)
    (h0 : P 0 s0 w) (hi : ∀ j s w', P j s w' → idx s = j)
    (hs : ∀ j s w' (K : σ → W R), j < N → P j s w' → idx s = j → (∀ s' w'', P (j + 1) s' w'' → K s' Q w'') → step K s Q w') (hd : ∀ s w', P N s w' → done s Q w') :
    loopW (fun K s => cond (decide (idx s < (N : Int))) (step K s) (done s)) s0 Q w := by
  refine loopI (fun s w' => ∃ j, j ≤ N ∧ P j s w') (fun s _ => N - (idx s).toNat) ⟨0, Nat.zero_le _, h0⟩ ?_
  rintro s w' ⟨j, hj, hp⟩
  have e := hi j s w' hp
  rcases Nat.lt_or_ge j N with hlt | hge
  · refine condT (by simp [e]; omega) ?_
    refine hs j s w' _ hlt hp e ?_
    intro s' w'' hp'
    refine ⟨⟨j + 1, hlt, hp'⟩, ?_⟩
    rw [hi _ _ _ hp', e]
    omega
  · have : j = N := by omega
    subst this
    exact condF (by simp [e]) (hd s w' hp)
theorem wsucc {j N : Nat} (h : j < N) (hN : N ≤ 9223372036854775807) : IntKind.wrap .i64 ((j : Int) + 1) = ((j + 1 : Nat) : Int) := by rw [w64 (by omega)]; rfl
def slTyB (P : Program) (T E : TypeId) (t : Ty) (bytes : Nat) : Bool := match P.underlying T, P.info? E with
  | some (.slice E'), some i => Nat.beq E' E && (match i.zero with
    | some z => Nat.beq i.size t.size && Nat.beq i.bytes bytes && Nat.beq z.cells.size t.size
    | none => false) && Nat.blt 0 t.size && t.fine
  | _, _ => false
theorem slTy {P : Program} {T E : TypeId} {t : Ty} {bytes : Nat} (h : slTyB P T E t bytes = true) : SlTy P T E t bytes := by
  unfold slTyB at h
  split at h
  · rename_i E' i h1 h2
    simp only [Bool.and_eq_true] at h
    obtain ⟨⟨⟨hE, hz⟩, hp⟩, hf⟩ := h
    have := Nat.eq_of_beq_eq_true hE
    subst this
    split at hz
    · rename_i z hz1
      simp only [Bool.and_eq_true] at hz
      exact ⟨h1, ⟨i, z, h2, hz1, Nat.eq_of_beq_eq_true hz.1.1, Nat.eq_of_beq_eq_true hz.1.2, Nat.eq_of_beq_eq_true hz.2⟩, by simpa [Nat.blt_eq] using hp, hf⟩
    · cases hz
  · cases h
theorem app1 {P : Program} {T E ty : TypeId} {t : Ty} {bytes : Nat} (H : SlTy P T E t bytes) {S S' : Nat → Prop} {s : Sl} {l : List t.T} {b : Nat} {T' : TypeId} {cs : List Value} {x : t.T} (h : Own S w E t s l) (B : Blk w b T' cs) (hc : cs = t.cells x)
    (hb : (l.length + 1) * bytes ≤ 140737488355328) (hm : l.length + 1 ≤ maxLen) (h1 : ∀ k, S k → S' k) (h1' : S' w.heap.size) {K : Sl → W R}
    (hk : ∀ r w', Own S' w' E t r (l ++ [x]) → Fr (fun k => s.v.ownBlock = some k) w w' → w'.heap.size ≤ w.heap.size + 1 → K r Q w') : rawW P (Builtin.append_ #[T, T] ty #[.slice s.a s.n s.c, .slice (some ⟨b, 0, none⟩) 1 1]) [.sc .sl] K Q w := by
  have h2 : SlT (fun _ => True) w t ⟨some ⟨b, 0, none⟩, 1, 1⟩ [x] := by
    refine ⟨rfl, Nat.le_refl _, .inr ⟨b, 0, rfl, trivial, B.lt, fun i y hy => ?_⟩⟩
    rcases i with _ | i
    · simp at hy
      subst hy
      subst hc
      exact Rd.cells.2 (B.cells _ _ (fun j u hj => by rw [Nat.zero_add, Nat.zero_mul, Nat.zero_add]; exact hj))
    · simp at hy
  exact appI H h h2 hb hm h1 h1' hk
theorem SlT.get {ok : Nat → Prop} {t : Ty} {s : Sl} {l : List t.T} (h : SlT ok w t s l) {sz : Nat} (hsz : sz = t.size) {i : Int} {j : Nat} (hi : i = j) (hj : j < l.length) {K : t.T → W R} (hk : ∀ x, l[j]? = some x → K x Q w) :
    idxW s.a s.n sz i (fun a => ld t a K) Q w := by
  subst hi
  refine h.idx hsz (by omega) (by omega) fun a x hx hr => ldI x hr (hk x (by simpa using hx))
theorem drop_at {α : Type} {l : List α} {j : Nat} {x : α} (h : l[j]? = some x) : l.drop j = x :: l.drop (j + 1) := by
  obtain ⟨hl, he⟩ := List.getElem?_eq_some_iff.1 h
  rw [List.drop_eq_getElem_cons hl, he]
theorem take_at {α : Type} {l : List α} {j : Nat} {x : α} (h : l[j]? = some x) : l.take (j + 1) = l.take j ++ [x] := by
  rw [List.take_add_one, h]; rfl
abbrev Up (n : Nat) : Nat → Prop := fun k => n ≤ k
theorem Fr.up {n : Nat} {a b : World} (h : Fr None a b) : Fr (Up n) a b := h.mono fun _ _ h => h.elim
theorem Fr.ofUp {n : Nat} {a b : World} (h : Fr (Up n) a b) (hn : a.heap.size ≤ n) : Fr None a b := h.mono fun x hx h => by have : n ≤ x := h; omega
theorem Fr.thenUp {n : Nat} {a b c : World} (h : Fr None a b) (k : Fr (Up n) b c) (hn : a.heap.size ≤ n) : Fr None a c := h.newer k fun _ e => Nat.le_trans hn e
theorem Own.up {n m : Nat} {E : TypeId} {t : Ty} {s : Sl} {l : List t.T} (h : Own (Up n) w E t s l) (hn : m ≤ n) : Own (Up m) w E t s l := h.mono fun _ _ h => Nat.le_trans hn h
theorem Own.none {S : Nat → Prop} {w' : World} {E : TypeId} {t : Ty} {s : Sl} {l : List t.T} (h : Own S w E t s l) (f : Fr None w w') : Own S w' E t s l := h.fr f fun _ _ h => h
theorem Sl.own (s : Sl) : s.v.ownBlock = s.a.map (·.block) := by
  obtain ⟨a, n, c⟩ := s
  cases a <;> rfl
theorem Own.lt {S : Nat → Prop} {E : TypeId} {t : Ty} {s : Sl} {l : List t.T} (h : Own S w E t s l) {k : Nat} (e : s.v.ownBlock = some k) : k < w.heap.size := (h.row.lt k e).2
theorem Own.upFr {n : Nat} {v w' : World} {E : TypeId} {t : Ty} {s : Sl} {l : List t.T} (h : Own (Up n) v E t s l) (f : Fr (fun k => s.v.ownBlock = some k) w w') : Fr (Up n) w w' := f.mono fun _ _ e => h.own _ e
theorem Blk.frUp {n : Nat} {w' : World} {b : Nat} {T : TypeId} {cs : List Value} (h : Blk w b T cs) (f : Fr (Up n) w w') (hb : b < n) : Blk w' b T cs := h.fr f fun e => by have : n ≤ b := e; omega
theorem SlT.frUp {ok : Nat → Prop} {n : Nat} {w' : World} {t : Ty} {s : Sl} {l : List t.T} (h : SlT ok w t s l) (f : Fr (Up n) w w') (hn : w.heap.size ≤ n) : SlT ok w' t s l := h.fr0 (f.ofUp hn)
theorem bothI {X Y : W R} (h1 : X Q w) (h2 : Y Q w) : bothW X Y Q w := ⟨h1, h2⟩
theorem andI {p : World → Prop} {X : W R} (h : p w) (hx : X Q w) : andW p X Q w := ⟨h, hx⟩
theorem Blk.rd {b : Nat} {T : TypeId} {cs : List Value} (B : Blk w b T cs) {s : Sc} {i : Nat} {x : s.T} (hx : cs[i]? = some (s.e x)) : Rd w (Addr.add ⟨b, 0, none⟩ i) (.sc s) x := by
  rw [add_lit, Nat.zero_add]
  exact (B.cell i).trans hx
end Go.Proofs.YtchhhjlpnecjkaaGreat.Den
namespace Go.Proofs.YtchhhjlpnecjkaaGreat.Den
open Go Go.RowKit
variable {R : Type} {Q : R → World → Prop} {w : World} {P : Program}
def eqFs (P : Program) (rec : TypeId → Value → Value → Option Bool) (xs ys : Array Value) : List Field → Option Bool
  | [] => some true
  | f :: fs => bif f.name == "_" then eqFs P rec xs ys fs else match pv P (part f.type xs f.offset), pv P (part f.type ys f.offset) with
    | some a, some b => match rec f.type a b, eqFs P rec xs ys fs with
      | some r, some s => some (r && s)
      | _, _ => none
    | _, _ => none
def eqIs (P : Program) (rec : TypeId → Value → Value → Option Bool) (e : TypeId) (c : Nat) (xs ys : Array Value) : List Nat → Option Bool
  | [] => some true
  | i :: is => match pv P (part e xs (i * c)), pv P (part e ys (i * c)) with
    | some a, some b => match rec e a b, eqIs P rec e c xs ys is with
      | some r, some s => some (r && s)
      | _, _ => none
    | _, _ => none
def eqV (P : Program) : Nat → TypeId → Value → Value → Option Bool
  | 0, _, _, _ => none
  | d + 1, t, x, y => match P.underlying t, x, y with
    | some .bool, .bool a, .bool b => some (a == b)
    | some (.int _), .int k a, .int k' b => (match k, k' with
      | .i64, .i64 => some (a == b) | .i32, .i32 => some (a == b) | .u32, .u32 => some (a == b) | .u8, .u8 => some (a == b) | .u64, .u64 => some (a == b) | .u16, .u16 => some (a == b)
      | _, _ => none)
    | some .string, .string a, .string b => some (a.toList == b.toList)
    | some (.struct _), .agg xs, .agg ys => bif P.stoodInHeld t then none else eqFs P (eqV P d) xs ys (P.fieldsOf t).toList
    | some (.array n e), .agg xs, .agg ys => bif (P.info? e).isSome then eqIs P (eqV P d) e (P.cellsOf e) xs ys (List.range n) else none
    | _, _, _ => none
theorem eqFs_run {rec : TypeId → Value → Value → Option Bool} {d : Nat} (hr : ∀ t x y r, rec t x y = some r → ∀ w, (Op.equalIn d t x y).run P w = .ok r w) (xs ys : Array Value) :
    ∀ (fs : List Field) (r : Bool), eqFs P rec xs ys fs = some r → ∀ w, (Op.eqFields d xs ys fs).run P w = .ok r w
  | [], r, h, w => by simp only [eqFs] at h; cases h; simp [Op.eqFields]
  | f :: fs, r, h, w => by
    simp only [eqFs] at h
    cases hn : (f.name == "_") with
    | true =>
      rw [hn] at h
      have : ¬ (f.name ≠ "_") := by simpa using hn
      rw [Op.eqFields, if_neg this]
      exact eqFs_run hr xs ys fs r h w
    | false =>
      rw [hn] at h
      have hne : f.name ≠ "_" := by simpa using hn
      simp only [cond_false] at h
      split at h
      · rename_i a b ha hb
        split at h
        · rename_i r1 s1 h1 h2
          cases h
          rw [Op.eqFields, if_pos hne]
          simp only [Sem.run_bind, pv_run ha w, pv_run hb w, hr _ _ _ _ h1 w, Result.andThen_ok]
          cases r1
          · simp
          · simpa using eqFs_run hr xs ys fs s1 h2 w
        · cases h
      · cases h
theorem eqIs_run {rec : TypeId → Value → Value → Option Bool} {d : Nat} (hr : ∀ t x y r, rec t x y = some r → ∀ w, (Op.equalIn d t x y).run P w = .ok r w) (e : TypeId) (c : Nat) (xs ys : Array Value) :
    ∀ (is : List Nat) (r : Bool), eqIs P rec e c xs ys is = some r → ∀ w, (Op.eqItems d e c xs ys is).run P w = .ok r w
  | [], r, h, w => by simp only [eqIs] at h; cases h; simp [Op.eqItems]
  | i :: is, r, h, w => by
    simp only [eqIs] at h
    split at h
    · rename_i a b ha hb
      split at h
      · rename_i r1 s1 h1 h2
        cases h
        rw [Op.eqItems]
        simp only [Sem.run_bind, pv_run ha w, pv_run hb w, hr _ _ _ _ h1 w, Result.andThen_ok]
        cases r1
        · simp
        · simpa using eqIs_run hr e c xs ys is s1 h2 w
      · cases h
    · cases h
theorem eqV_run : ∀ (m : Nat) (t : TypeId) (x y : Value) (r : Bool), eqV P m t x y = some r → ∀ d, m ≤ d → ∀ w, (Op.equalIn d t x y).run P w = .ok r w
  | 0, _, _, _, _, h, _, _, _ => by simp [eqV] at h
  | m + 1, t, x, y, r, h, d, hd, w => by
    obtain ⟨d, rfl⟩ : ∃ d', d = d' + 1 := ⟨d - 1, by omega⟩
    have ih := fun t x y r h => eqV_run m t x y r h d (by omega)
    simp only [eqV] at h
    split at h
    · rename_i a b hu; cases h; exact run_equalIn_bool' w d t _ _ hu
    · rename_i k a k' b hu
      split at h <;> first | (cases h; done) | (cases h; exact run_equalIn_int w d t _ _ _ _ hu)
    · rename_i a b hu; cases h; exact run_equalIn_string w d t _ _ hu
    · rename_i fs xs ys hu
      cases hs : P.stoodInHeld t with
      | true => rw [hs] at h; cases h
      | false =>
        rw [hs] at h
        have hf : P.fieldsOf t = fs := by simp [Program.fieldsOf, hu]
        rw [run_equalIn_agg w d t xs ys (by rw [hf]; exact hu) hs]
        exact eqFs_run ih xs ys _ r h w
    · rename_i n e xs ys hu
      cases hi : P.info? e with
      | none => rw [hi] at h; cases h
      | some i =>
        rw [hi] at h
        rw [run_equalIn_array w d xs ys hu hi]
        exact eqIs_run ih e _ xs ys _ r h w
    · cases h
theorem neqI {T : TypeId} {a b : Operand} {xs ys : Array Value} {r : Bool} {K : Bool → W R} (hg : P.eqGuardType P.depth T = false) (h : eqV P 9 T (.agg xs) (.agg ys) = some r) (hk : K (!r) Q w) :
    rawQ P (do Go.eqGuard .neq T a b (.agg xs) (.agg ys); Go.binOp .neq T (.agg xs) (.agg ys)) [.sc .bool] K Q w := by
  refine ⟨!r, ?_, hk⟩
  rw [Sem.run_bind, run_eqGuard_agg (P := P) w _ _ _ _ _ _ hg]
  simp only [Result.andThen_ok]
  rw [run_neq_struct, eqV_run 9 T _ _ r h 10000 (by omega)]
  rfl
theorem eqlI {T : TypeId} {a b : Operand} {xs ys : Array Value} {r : Bool} {K : Bool → W R} (hg : P.eqGuardType P.depth T = false) (h : eqV P 9 T (.agg xs) (.agg ys) = some r) (hk : K r Q w) :
    rawQ P (do Go.eqGuard .eql T a b (.agg xs) (.agg ys); Go.binOp .eql T (.agg xs) (.agg ys)) [.sc .bool] K Q w := by
  refine ⟨r, ?_, hk⟩
  rw [Sem.run_bind, run_eqGuard_agg (P := P) w _ _ _ _ _ _ hg]
  simp only [Result.andThen_ok]
  rw [run_eql_struct, eqV_run 9 T _ _ r h 10000 (by omega)]
  rfl
end Go.Proofs.YtchhhjlpnecjkaaGreat.Den
namespace Go.Proofs.YtchhhjlpnecjkaaGreat
open Go Go.RowKit Go.Proofs.YtchhhjlpnecjkaaGreat.Den
abbrev Comp := Int × Int × Int × Int
abbrev compT : Ty := .agg [.int .u8, .int .i32, .int .i32, .int .i32]
abbrev fldT : Ty := .agg [.str, .int .i32, .int .i32]
def i32 (x : Int) : Prop := -2147483648 ≤ x ∧ x ≤ 2147483647
def CompOk (c : Comp) : Prop := (0 ≤ c.1 ∧ c.1 ≤ 255) ∧ i32 c.2.1 ∧ i32 c.2.2.1 ∧ i32 c.2.2.2
def fieldsM (k : Int) : List (ByteArray × Int × Int) :=
  if k = 0 then [(⟨#[120]⟩, -524288, 524287), (⟨#[121]⟩, -524288, 524287)]
  else if k = 1 then [(⟨#[100, 120]⟩, -32768, 32767), (⟨#[100, 121]⟩, -32768, 32767)]
  else if k = 2 then [(⟨#[108, 101, 102, 116]⟩, 0, 4095)]
  else if k = 3 then [(⟨#[115, 104, 97, 112, 101]⟩, 0, 15), (⟨#[104, 112]⟩, 0, 1000), (⟨#[115, 105, 122, 101]⟩, 1, 100)]
  else if k = 4 then [(⟨#[116, 101, 97, 109]⟩, 0, 7), (⟨#[99, 111, 108, 111, 114]⟩, 0, 255), (⟨#[102, 108, 97, 103, 115]⟩, 0, 31)]
  else if k = 5 then [(⟨#[101, 118, 101, 114, 121]⟩, 1, 255), (⟨#[108, 101, 102, 116]⟩, 0, 254), (⟨#[115, 104, 97, 112, 101]⟩, 0, 15)]
  else []
def nameM (k : Int) : ByteArray :=
  if k = 0 then ⟨#[112, 111, 115]⟩ else if k = 1 then ⟨#[118, 101, 108]⟩ else if k = 2 then ⟨#[108, 105, 102, 101]⟩ else if k = 3 then ⟨#[98, 111, 100, 121]⟩
  else if k = 4 then ⟨#[116, 97, 103]⟩ else if k = 5 then ⟨#[115, 112, 97, 119, 110]⟩ else ⟨#[]⟩
def toldM (k : Int) : Bool := decide (k = 0 ∨ k = 1 ∨ k = 2 ∨ k = 3 ∨ k = 4)
def cntM (k : Int) : Nat := (fieldsM k).length
theorem fieldsM_cases (k : Int) : k = 0 ∨ k = 1 ∨ k = 2 ∨ k = 3 ∨ k = 4 ∨ k = 5 ∨ (k ≠ 0 ∧ k ≠ 1 ∧ k ≠ 2 ∧ k ≠ 3 ∧ k ≠ 4 ∧ k ≠ 5) := by omega
theorem cntM_le (k : Int) : cntM k ≤ 3 := by
  rcases fieldsM_cases k with rfl | rfl | rfl | rfl | rfl | rfl | ⟨h0, h1, h2, h3, h4, h5⟩ <;> simp [cntM, fieldsM, *]
theorem cntM_0 (k : Int) : cntM k = 0 ↔ (k < 0 ∨ 5 < k) := by
  rcases fieldsM_cases k with rfl | rfl | rfl | rfl | rfl | rfl | ⟨h0, h1, h2, h3, h4, h5⟩ <;> simp [cntM, fieldsM, *]
  omega
def fl (c : Comp) : Nat → Int
  | 0 => c.2.1
  | 1 => c.2.2.1
  | _ => c.2.2.2
abbrev compC (c : Comp) : List Value := [.int .u8 c.1, .int .i32 c.2.1, .int .i32 c.2.2.1, .int .i32 c.2.2.2]
theorem compC_fl (c : Comp) {i : Nat} (h : i < 3) : (compC c)[1 + i]? = some (.int .i32 (fl c i)) := by
  rcases i with _ | _ | _ | i
  · rfl
  · rfl
  · rfl
  · omega
def inR (c : Comp) (i : Nat) : Bool := match (fieldsM c.1)[i]? with
  | some p => decide (p.2.1 ≤ fl c i) && decide (fl c i ≤ p.2.2)
  | none => fl c i == 0
def over (c : Comp) : Bool := (List.range 3).any fun i => decide (cntM c.1 ≤ i) && !inR c i
def checkM (c : Comp) : Int := if cntM c.1 = 0 then 1 else if over c then 4 else if (List.range 3).all (inR c) then 0 else 5
variable {R : Type} {Q : R → World → Prop} {w : World}
theorem spec_schema_of {k : Int} {K : Res [.agg [.str, .bool, .sl]] → W R} (hk : ∀ (s : Sl) w', SlT (fun b => w.heap.size ≤ b) w' fldT s (fieldsM k) → Fr None w w' → K (nameM k, toldM k, s) Q w') :
    callW Tryz.prog k_schema_of [.int .u8 k] [.agg [.str, .bool, .sl]] K Q w := by
  refine C_schema_of k K Q w ?_
  unfold F_schema_of
  refine newI fun w1 B1 f1 s1 => ?_
  have lit : ∀ {l : List (ByteArray × Int × Int)} {nm : ByteArray} {td : Bool} {n : Nat}, fieldsM k = l → nameM k = nm → toldM k = td → n = l.length → n ≤ 3 →
      newW 239 (l.flatMap fldT.cells) (fun x => stoL ⟨w.heap.size, 0, none⟩ [.string nm, .bool td, .slice (some x) n n] 0 <| ld (.agg [.str, .bool, .sl]) ⟨w.heap.size, 0, none⟩ fun y => K y) Q w1 := by
    intro l nm td n e1 e2 e3 e4 e5
    subst e1; subst e2; subst e3; subst e4
    have ow := Own.lit (S := fun b => w.heap.size ≤ b) w1 239 fldT (fieldsM k) (by omega) (by rw [maxLen_eq]; omega) rfl rfl
    refine newI fun w2 B2 f2 s2 => ?_
    refine stoAll (B1.fr f2 (fun h => h)) rfl rfl fun w3 B3 f3 s3 => ?_
    refine aggI B3 (x := (nameM k, toldM k, ⟨some ⟨w1.heap.size, 0, none⟩, (fieldsM k).length, (fieldsM k).length⟩)) rfl ?_
    refine hk _ _ ?_ ((f1.then0 f2).newer f3 (fun x e => by omega))
    refine ⟨rfl, Nat.le_refl _, .inr ⟨w1.heap.size, 0, rfl, by omega, by rw [s3, s2]; omega, fun i x hx => ?_⟩⟩
    rw [Nat.zero_add]
    refine Rd.keep (w := w2) (f3.block _ (by rw [s2]; omega) (by omega)) (Rd.cells.2 ?_)
    exact B2.cells _ _ (fun j u hu => flat_at hx j u hu)
  refine condE (fun h => ?_) fun h0 => ?_
  · subst h; exact lit (l := fieldsM 0) rfl rfl rfl rfl (by decide)
  refine condE (fun h => ?_) fun h1 => ?_
  · subst h; exact lit (l := fieldsM 1) rfl rfl rfl rfl (by decide)
  refine condE (fun h => ?_) fun h2 => ?_
  · subst h; exact lit (l := fieldsM 2) rfl rfl rfl rfl (by decide)
  refine condE (fun h => ?_) fun h3 => ?_
  · subst h; exact lit (l := fieldsM 3) rfl rfl rfl rfl (by decide)
  refine condE (fun h => ?_) fun h4 => ?_
  · subst h; exact lit (l := fieldsM 4) rfl rfl rfl rfl (by decide)
  refine condE (fun h => ?_) fun h5 => ?_
  · subst h; exact lit (l := fieldsM 5) rfl rfl rfl rfl (by decide)
  refine stoAll B1 rfl rfl fun w3 B3 f3 s3 => ?_
  refine aggI B3 (x := (⟨#[]⟩, false, ⟨none, 0, 0⟩)) rfl ?_
  have e1 : fieldsM k = [] := by simp [fieldsM, h0, h1, h2, h3, h4, h5]
  have e2 : nameM k = ⟨#[]⟩ := by simp [nameM, h0, h1, h2, h3, h4, h5]
  have e3 : toldM k = false := by simp [toldM, h0, h1, h2, h3, h4]
  have := hk ⟨none, 0, 0⟩ w3 (by rw [e1]; exact SlT.nil _) (f1.newer f3 (fun x e => by omega))
  rw [e2, e3] at this
  exact this
theorem comps_ty : SlTy Tryz.prog 55 92 compT 16 := slTy (by kernel_rfl)
theorem over_of {c : Comp} {i : Nat} (h : i < 3) (hn : cntM c.1 ≤ i) (hx : fl c i ≠ 0) : over c = true := by
  simp only [over, List.any_eq_true, List.mem_range, Bool.and_eq_true, decide_eq_true_eq]
  refine ⟨i, h, hn, ?_⟩
  have : (fieldsM c.1)[i]? = none := List.getElem?_eq_none hn
  simp [inR, this, hx]
theorem not_over {c : Comp} (h : ∀ i, cntM c.1 ≤ i → i < 3 → fl c i = 0) : over c = false := by
  rw [Bool.eq_false_iff]
  intro ho
  simp only [over, List.any_eq_true, List.mem_range, Bool.and_eq_true, decide_eq_true_eq] at ho
  obtain ⟨i, h3, hn, hx⟩ := ho
  have : (fieldsM c.1)[i]? = none := List.getElem?_eq_none hn
  simp [inR, this, h i hn h3] at hx
theorem all_inR {c : Comp} (h : ∀ i, cntM c.1 ≤ i → i < 3 → fl c i = 0) (h2 : ∀ i, i < cntM c.1 → inR c i = true) : (List.range 3).all (inR c) = true := by
  simp only [List.all_eq_true, List.mem_range]
  intro i hi
  rcases Nat.lt_or_ge i (cntM c.1) with hl | hg
  · exact h2 i hl
  · have : (fieldsM c.1)[i]? = none := List.getElem?_eq_none hg
    simp [inR, this, h i hg hi]
theorem not_all_inR {c : Comp} {i : Nat} (h : i < 3) (h2 : inR c i = false) : (List.range 3).all (inR c) = false := by
  rw [Bool.eq_false_iff]
  intro ho
  simp only [List.all_eq_true, List.mem_range] at ho
  rw [ho i h] at h2
  cases h2
theorem spec_schema_Check {c : Comp} {K : Res [.sc (.int .i64)] → W R} (hk : ∀ w', Fr None w w' → K (checkM c) Q w') :
    callW Tryz.prog k_schema_Check [.agg ⟨compC c⟩] [.sc (.int .i64)] K Q w := by
  refine C_schema_Check c K Q w ?_
  unfold F_schema_Check
  refine newI fun w1 B1 f1 s1 => ?_
  refine fldI B1 (x := c.1) rfl ?_
  refine spec_schema_of fun s w2 hS f2 => ?_
  have hn : s.n = cntM c.1 := hS.len
  have B2 := B1.fr f2 (fun h => h)
  have f02 := f1.then0 f2
  refine condE (fun h => ?_) fun h => ?_
  · have : cntM c.1 = 0 := by have : (s.n : Int) = 0 := h; omega
    have e := hk w2 f02
    simp only [checkM, this, if_true] at e
    exact e
  have h0 : cntM c.1 ≠ 0 := by intro e; exact h (by show (s.n : Int) = 0; omega)
  have h3 := cntM_le c.1
  refine chkI (by simp [hn]; omega) ?_
  simp only [Option.getD_some, Option.getD_none, Int.toNat_natCast, hn]
  refine forI (N := 3 - cntM c.1) (fun s : Int => s) (fun j s w' => s = j ∧ w' = w2 ∧ ∀ i, i < j → fl c (cntM c.1 + i) = 0) ⟨rfl, rfl, by omega⟩ (fun j s w' h => h.1) ?_ ?_
  · rintro j s1 w' K' hj ⟨e1, e2, hz⟩ - hK
    subst e1; subst e2
    simp only [show ¬ (3 = cntM c.1) by omega, if_false, Option.map_some, Nat.mul_one]
    rw [add_lit, add_lit]
    refine idxB (by omega) (by omega) ?_
    refine fld0 B2 (x := fl c (cntM c.1 + j)) (by
      rw [show 0 + 1 + cntM c.1 + (j : Int).toNat * 1 = 1 + (cntM c.1 + j) by simp; omega]
      exact compC_fl c (by omega)) ?_
    refine condN (fun hx => ?_) fun hx => ?_
    · have e := hk w' f02
      simp only [checkM, h0, if_false, over_of (c := c) (i := cntM c.1 + j) (by omega) (by omega) hx, if_true] at e
      exact e
    · refine hK _ _ ⟨wsucc hj (by omega), rfl, fun i hi => ?_⟩
      rcases Nat.lt_succ_iff_lt_or_eq.1 hi with h | h
      · exact hz i h
      · subst h; exact hx
  · rintro s1 w' ⟨e1, e2, hz⟩
    subst e2
    have hover : over c = false := not_over fun i h1 h2 => by
      have := hz (i - cntM c.1) (by omega)
      rwa [show cntM c.1 + (i - cntM c.1) = i by omega] at this
    refine forI (N := cntM c.1) (fun s : Int => s) (fun j s w'' => s = j ∧ Fr None w' w'' ∧ ∀ i, i < j → inR c i = true) ⟨rfl, Fr.refl _ _, by omega⟩ (fun j s w' h => h.1) ?_ ?_
    · rintro j s1 w3 K' hj ⟨e1, f3, hz2⟩ - hK
      subst e1
      rw [← hn]
      refine (hS.fr0 f3).idx rfl (by omega) (by rw [← hS.len]; omega) fun a x hx hr => ?_
      refine ldI x hr ?_
      refine newI fun w4 B4 f4 s4 => ?_
      refine stoAll B4 rfl rfl fun w5 B5 f5 s5 => ?_
      have f35 : Fr None w3 w5 := f4.newer f5 (fun y e => by omega)
      have B5' := (B2.fr f3 (fun h => h)).fr f35 (fun h => h)
      have hx' : (fieldsM c.1)[j]? = some x := by simpa using hx
      have hin : inR c j = (decide (x.2.1 ≤ fl c j) && decide (fl c j ≤ x.2.2)) := by simp [inR, hx']
      refine joinI (fun b w'' => b = !inR c j ∧ Fr None w3 w'') ?_ ?_
      · refine idxB (by omega) (by omega) ?_
        have hc : (compC c)[0 + 1 + (j : Int).toNat * 1]? = some (.int .i32 (fl c j)) := by
          rw [show 0 + 1 + (j : Int).toNat * 1 = 1 + j by simp]
          exact compC_fl c (by omega)
        refine fld0 B5'.drew (x := fl c j) hc ?_
        refine fldI B5.drew (x := x.2.1) rfl ?_
        refine condD (fun hlt => ?_) fun hge => ?_
        · exact ⟨by rw [hin]; simp; omega, f35.drew⟩
        · refine idxB (by omega) (by omega) ?_
          refine fld0 B5'.drew (x := fl c j) hc ?_
          refine fldI B5.drew (x := x.2.2) rfl ?_
          refine ⟨?_, f35.drew⟩
          rw [hin]
          have h1 : decide (x.2.1 ≤ fl c j) = true := decide_eq_true (Int.not_lt.1 hge)
          rw [h1, Bool.true_and]
          by_cases hgt : fl c j > x.2.2
          · rw [decide_eq_true hgt, decide_eq_false (Int.not_le.2 hgt)]; rfl
          · rw [decide_eq_false hgt, decide_eq_true (Int.not_lt.1 hgt)]; rfl
      · rintro b w6 ⟨rfl, f6⟩
        refine condI (fun hb => ?_) fun hb => ?_
        · have e := hk w6 ((f02.then0 f3).then0 f6)
          simp only [checkM, h0, if_false, hover, not_all_inR (c := c) (i := j) (by omega) (by simpa using hb)] at e
          exact e
        · refine hK _ _ ⟨wsucc hj (by omega), f3.then0 f6, fun i hi => ?_⟩
          rcases Nat.lt_succ_iff_lt_or_eq.1 hi with h | h
          · exact hz2 i h
          · subst h; simpa using hb
    · rintro s1 w3 ⟨e1, f3, hz2⟩
      have e := hk w3 (f02.then0 f3)
      simp only [checkM, h0, if_false, hover, all_inR (c := c) (fun i h1 h2 => by
        have := hz (i - cntM c.1) (by omega)
        rwa [show cntM c.1 + (i - cntM c.1) = i by omega] at this) hz2, if_true] at e
      exact e
def listM : Int → List Comp → Int
  | _, [] => 0
  | last, c :: r => if checkM c ≠ 0 then checkM c else if c.1 ≤ last then 4 else listM c.1 r
def listE (l : List Comp) : Int := listM (-1) l
def lastK (l : List Comp) : Nat → Int
  | 0 => -1
  | j + 1 => ((l[j]?).map (·.1)).getD 0
theorem listM_at {l : List Comp} {j : Nat} {x : Comp} (h : l[j]? = some x) : listM (lastK l j) (l.drop j) = if checkM x ≠ 0 then checkM x else if x.1 ≤ lastK l j then 4 else listM (lastK l (j + 1)) (l.drop (j + 1)) := by
  have e : lastK l (j + 1) = x.1 := by simp [lastK, h]
  rw [drop_at h, listM, e]
theorem listM_end (k : Int) (l : List Comp) : listM k (l.drop l.length) = 0 := by simp [listM]
theorem checkM_kind {c : Comp} (h : checkM c = 0) : 0 ≤ c.1 ∧ c.1 ≤ 5 := by
  have : cntM c.1 ≠ 0 := by intro e; simp [checkM, e] at h
  rw [ne_eq, cntM_0] at this
  omega
abbrev Small {α : Type} (l : List α) : Prop := l.length ≤ 1048576
theorem spec_schema_List {ok : Nat → Prop} {s : Sl} {l : List Comp} (hS : SlT ok w compT s l) (hm : Small l) {K : Res [.sc (.int .i64)] → W R} (hk : ∀ w', Fr None w w' → K (listE l) Q w') :
    callW Tryz.prog k_schema_List [.slice s.a s.n s.c] [.sc (.int .i64)] K Q w := by
  refine C_schema_List s K Q w ?_
  unfold F_schema_List
  refine forI (N := s.n) (fun s : Int => s) (fun j i w' => i = j ∧ Fr None w w' ∧ listE l = listM (lastK l j) (l.drop j)) ⟨rfl, Fr.refl _ _, rfl⟩ (fun j s w' h => h.1) ?_ ?_
  · rintro j i w1 K' hj ⟨rfl, f1, he⟩ - hK
    have hlen := hS.len
    refine (hS.fr0 f1).get rfl rfl (by omega) fun x hx => ?_
    refine locI rfl rfl fun w2 B2 f2 s2 => ?_
    refine aggI B2 (x := x) rfl ?_
    refine spec_schema_Check (c := x) fun w3 f3 => ?_
    have B3 := B2.fr f3 (fun h => h)
    have f13 := f2.then0 f3
    rw [listM_at hx] at he
    refine condN (fun hc => ?_) fun hc => ?_
    · rw [if_pos hc] at he
      rw [← he]
      exact hk _ (f1.then0 f13)
    · rw [if_neg (by simpa using hc)] at he
      refine joinI (fun b w' => b = decide (x.1 ≤ lastK l j) ∧ Fr None w3 w') ?_ ?_
      · refine condD (fun h0 => ?_) fun h0 => ?_
        · obtain ⟨j', rfl⟩ : ∃ j', j = j' + 1 := ⟨j - 1, by omega⟩
          refine fldI B3.drew (x := x.1) rfl ?_
          have hS4 := (hS.fr0 (f1.then0 f13)).fr0 (Fr.refl None _).drew
          refine hS4.idx rfl (by rw [w64 (by omega)]; omega) (by rw [w64 (by omega)]; omega) fun a y hy hr => ?_
          have hy' : l[j']? = some y := by
            rw [w64 (by omega)] at hy
            rwa [show (((j' + 1 : Nat) : Int) - 1).toNat = j' by omega] at hy
          refine ldI (t := .sc (.int .u8)) y.1 ?_ ?_
          · have := Rd.cells.1 hr 0 (.int .u8 y.1) rfl
            exact this
          · exact ⟨by simp [lastK, hy'], (Fr.refl _ _).drew⟩
        · have : j = 0 := by omega
          subst this
          have := (checkM_kind hc).1
          have e0 : lastK l 0 = -1 := rfl
          exact ⟨by rw [e0]; simp; omega, (Fr.refl _ _).drew⟩
      · rintro b w4 ⟨rfl, f4⟩
        have f14 := f13.then0 f4
        refine condD (fun hle => ?_) fun hle => ?_
        · rw [if_pos hle] at he
          rw [← he]
          exact hk _ (f1.then0 f14)
        · rw [if_neg hle] at he
          exact hK _ _ ⟨wsucc hj (by omega), f1.then0 f14, he⟩
  · rintro i w1 ⟨rfl, f1, he⟩
    rw [hS.len, listM_end] at he
    rw [← he]
    exact hk _ f1
theorem bits_or : ∀ m : Fin 64, ∀ k : Fin 6, bOr .u8 ((m.val : Nat) : Int) (shL .u8 1 ((k.val : Nat) : Int)) = ((m.val ||| (1 <<< k.val) : Nat) : Int) ∧ m.val ||| (1 <<< k.val) < 64 := by decide +kernel
theorem bits_odd : ∀ m : Fin 64, ∀ k : Fin 6, ((Int.tmod (shR .u8 ((m.val : Nat) : Int) ((k.val : Nat) : Int)) 2) == 0) = !Nat.testBit m.val k.val := by decide +kernel
theorem bits_add : ∀ m : Fin 64, ∀ k : Fin 6, Nat.testBit m.val k.val = false → IntKind.wrap .u8 ((m.val : Int) + (shL .u8 1 ((k.val : Nat) : Int))) = ((m.val ||| (1 <<< k.val) : Nat) : Int) := by decide +kernel
def has (l : List Comp) (k : Nat) : Bool := l.any fun c => c.1 == (k : Int)
def orK (m : Nat) (c : Comp) : Nat := if (0 : Int) ≤ c.1 ∧ c.1 < (6 : Int) then m ||| (1 <<< c.1.toNat) else m
def maskN (l : List Comp) : Nat := l.foldl orK 0
theorem or_bit {m k i : Nat} : Nat.testBit (m ||| (1 <<< k)) i = (Nat.testBit m i || decide (i = k)) := by
  rw [Nat.testBit_or, Nat.one_shiftLeft, Nat.testBit_two_pow]
  congr 1
  exact decide_eq_decide.2 ⟨Eq.symm, Eq.symm⟩
theorem maskN_lt (l : List Comp) : maskN l < 64 := by
  unfold maskN
  have : ∀ (l : List Comp) (m : Nat), m < 64 → l.foldl orK m < 64 := by
    intro l
    induction l with
    | nil => intro m h; exact h
    | cons c r ih =>
      intro m h
      rw [List.foldl_cons]
      refine ih _ ?_
      unfold orK
      split
      · rename_i hc
        exact (bits_or ⟨m, h⟩ ⟨c.1.toNat, by omega⟩).2
      · exact h
  exact this l 0 (by omega)
theorem maskN_snoc (l : List Comp) (c : Comp) : maskN (l ++ [c]) = if 0 ≤ c.1 ∧ c.1 < 6 then maskN l ||| (1 <<< c.1.toNat) else maskN l := by
  unfold maskN
  rw [List.foldl_append]
  rfl
theorem maskN_bit (l : List Comp) {k : Nat} (hk : k < 6) : Nat.testBit (maskN l) k = has l k := by
  have : ∀ (l : List Comp) (m : Nat), Nat.testBit (l.foldl orK m) k = (Nat.testBit m k || has l k) := by
    intro l
    induction l with
    | nil => intro m; simp [has]
    | cons c r ih =>
      intro m
      rw [List.foldl_cons, ih, orK]
      by_cases hc : 0 ≤ c.1 ∧ c.1 < 6
      · rw [if_pos hc, or_bit, Bool.or_assoc]
        congr 1
        simp only [has, List.any_cons]
        congr 1
        by_cases h : k = c.1.toNat
        · simp [h]; omega
        · have : ¬ c.1 = (k : Int) := by omega
          simp [h, this]
      · rw [if_neg hc]
        congr 1
        have : ¬ c.1 = (k : Int) := by omega
        simp [has, this]
  have h := this l 0
  simpa [maskN] using h
theorem mask_ext {m n : Nat} (h1 : m < 64) (h2 : n < 64) (h : ∀ k, k < 6 → Nat.testBit m k = Nat.testBit n k) : m = n := by
  refine Nat.eq_of_testBit_eq fun i => ?_
  rcases Nat.lt_or_ge i 6 with hi | hi
  · exact h i hi
  · have : 64 ≤ 2 ^ i := Nat.pow_le_pow_right (n := 2) (by omega) hi
    rw [Nat.testBit_lt_two_pow (by omega), Nat.testBit_lt_two_pow (by omega)]
theorem spec_schema_Mask {ok : Nat → Prop} {s : Sl} {l : List Comp} (hS : SlT ok w compT s l) (hm : Small l) (hl : ∀ c ∈ l, CompOk c) {K : Res [.sc (.int .u8)] → W R} (hk : ∀ w', Fr None w w' → K ((maskN l : Nat) : Int) Q w') :
    callW Tryz.prog k_schema_Mask [.slice s.a s.n s.c] [.sc (.int .u8)] K Q w := by
  refine C_schema_Mask s K Q w ?_
  unfold F_schema_Mask
  have hlen := hS.len
  refine forI (N := s.n) (fun s : Int × Int => s.2) (fun j i w' => i = (((maskN (l.take j) : Nat) : Int), (j : Int)) ∧ Fr None w w') ⟨rfl, Fr.refl _ _⟩ (fun j s w' h => by rw [h.1]) ?_ ?_
  · rintro j i w1 K' hj ⟨rfl, f1⟩ - hK
    refine (hS.fr0 f1).get rfl rfl (by omega) fun x hx => ?_
    refine locI rfl rfl fun w2 B2 f2 s2 => ?_
    refine fldI B2 (x := x.1) rfl ?_
    have hx1 := (hl x (List.mem_of_getElem? hx)).1
    have hsn := maskN_snoc (l.take j) x
    rw [← take_at hx] at hsn
    refine joinI (fun m w' => m = ((maskN (l.take (j + 1)) : Nat) : Int) ∧ w' = w2) ?_ ?_
    · refine condD (fun h6 => ?_) fun h6 => ?_
      · refine fldI B2 (x := x.1) rfl ?_
        refine chkI hx1.1 ⟨?_, rfl⟩
        rw [hsn, if_pos ⟨hx1.1, h6⟩]
        have := (bits_or ⟨maskN (l.take j), maskN_lt _⟩ ⟨x.1.toNat, by omega⟩).1
        simp only [Int.toNat_of_nonneg hx1.1] at this
        exact this
      · exact ⟨by rw [hsn, if_neg (by omega)], rfl⟩
    · rintro m w3 ⟨rfl, rfl⟩
      exact hK _ _ ⟨by rw [wsucc hj (by omega)], f1.then0 f2⟩
  · rintro i w1 ⟨rfl, f1⟩
    rw [hlen, List.take_length]
    exact hk _ f1
theorem spec_r5_Mask {ok : Nat → Prop} {s : Sl} {l : List Comp} (hS : SlT ok w compT s l) (hm : Small l) {K : Res [.sc (.int .u8)] → W R} (hk : ∀ w', Fr None w w' → K ((maskN l : Nat) : Int) Q w') :
    callW Tryz.prog k_pinnaceref05_Mask [.slice s.a s.n s.c] [.sc (.int .u8)] K Q w := by
  refine C_pinnaceref05_Mask s K Q w ?_
  unfold F_pinnaceref05_Mask
  have hlen := hS.len
  refine forI (N := 6) (fun s : Int × Int => s.2) (fun k i w' => ∃ m : Nat, i = ((m : Int), (k : Int)) ∧ m < 64 ∧ (∀ q, q < 6 → Nat.testBit m q = (decide (q < k) && has l q)) ∧ Fr None w w')
    ⟨0, rfl, by omega, fun q _ => by simp, Fr.refl _ _⟩ (fun j s w' h => by obtain ⟨m, h, _⟩ := h; rw [h]) ?_ ?_
  · rintro k i w1 K' hk6 ⟨m, rfl, hm64, hbit, f1⟩ - hK
    refine forI (N := s.n) (fun s : Int × Int => s.2) (fun j i w' => ∃ m : Nat, i = ((m : Int), (j : Int)) ∧ m < 64 ∧ (∀ q, q < 6 → Nat.testBit m q = ((decide (q < k) && has l q) || (decide (q = k) && has (l.take j) k))) ∧ Fr None w w')
      ⟨m, rfl, hm64, fun q hq => by rw [hbit q hq]; simp [has], f1⟩ (fun j s w' h => by obtain ⟨m, h, _⟩ := h; rw [h]) ?_ ?_
    · rintro j i w2 K'' hj ⟨m, rfl, hm64, hbit, f2⟩ - hK2
      refine (hS.fr0 f2).get rfl rfl (by omega) fun x hx => ?_
      refine locI rfl rfl fun w3 B3 f3 s3 => ?_
      have hsn : has (l.take (j + 1)) k = (has (l.take j) k || x.1 == (k : Int)) := by rw [take_at hx]; simp [has]
      refine joinI (fun b w' => b = ((x.1 == (k : Int)) && !Nat.testBit m k) ∧ w' = w3) ?_ ?_
      · refine fldI B3 (x := x.1) rfl ?_
        refine condI (fun h => ?_) fun h => ?_
        · refine chkI (by simp) ⟨?_, rfl⟩
          have := bits_odd ⟨m, hm64⟩ ⟨k, hk6⟩
          rw [h, Bool.true_and]
          exact this
        · exact ⟨by rw [h]; rfl, rfl⟩
      · rintro b w4 ⟨rfl, rfl⟩
        refine joinI (fun m' w' => ∃ n : Nat, m' = (n : Int) ∧ n < 64 ∧ (∀ q, q < 6 → Nat.testBit n q = ((decide (q < k) && has l q) || (decide (q = k) && has (l.take (j + 1)) k))) ∧ w' = w4) ?_ ?_
        · refine condI (fun h => ?_) fun h => ?_
          · simp only [Bool.and_eq_true, Bool.not_eq_true'] at h
            refine chkI (by simp) ⟨m ||| (1 <<< k), bits_add ⟨m, hm64⟩ ⟨k, hk6⟩ h.2, (bits_or ⟨m, hm64⟩ ⟨k, hk6⟩).2, fun q hq => ?_, rfl⟩
            rw [or_bit, hbit q hq, hsn, h.1, Bool.or_true, Bool.and_true]
            by_cases hqk : q = k <;> simp [hqk]
          · refine ⟨m, rfl, hm64, fun q hq => ?_, rfl⟩
            rw [hbit q hq, hsn]
            by_cases hqk : q = k
            · subst hqk
              have hb := hbit q hq
              cases hxk : (x.1 == (q : Int)) with
              | false => simp
              | true =>
                rw [hxk, Bool.true_and, Bool.not_eq_false'] at h
                rw [h] at hb
                simp at hb
                simp [hb]
            · simp [hqk]
        · rintro m' w5 ⟨n, rfl, hn, hb, rfl⟩
          exact hK2 _ _ ⟨n, by rw [wsucc hj (by omega)], hn, hb, f2.then0 f3⟩
    · rintro i w2 ⟨m, rfl, hm64, hbit, f2⟩
      refine hK _ _ ⟨m, by rw [wu8 (by omega)]; rfl, hm64, fun q hq => ?_, f2⟩
      rw [hbit q hq, hlen, List.take_length]
      by_cases h1 : q = k
      · simp [h1]
      · have : decide (q < k + 1) = decide (q < k) := decide_eq_decide.2 (by omega)
        simp [h1, this]
  · rintro i w1 ⟨m, rfl, hm64, hbit, f1⟩
    have : m = maskN l := mask_ext hm64 (maskN_lt l) fun q hq => by rw [hbit q hq, maskN_bit l hq]; simp [hq]
    rw [this]
    exact hk _ f1
theorem spec_r5_Count {k : Int} (h0 : 0 ≤ k) {K : Res [.sc (.int .i64)] → W R} (hk : ∀ w', Fr None w w' → K ((cntM k : Nat) : Int) Q w') : callW Tryz.prog k_pinnaceref05_Count [.int .u8 k] [.sc (.int .i64)] K Q w := by
  refine C_pinnaceref05_Count k K Q w ?_
  unfold F_pinnaceref05_Count
  refine condD (fun h => ?_) fun h => ?_
  · have e := hk w (Fr.refl _ _)
    rw [(cntM_0 k).2 (.inr h)] at e
    exact e
  · refine newI fun w1 B1 f1 s1 => ?_
    refine idxB h0 (by omega) ?_
    rw [Nat.mul_one, Nat.zero_add]
    have e := hk w1 f1
    rcases (by omega : k = 0 ∨ k = 1 ∨ k = 2 ∨ k = 3 ∨ k = 4 ∨ k = 5) with rfl | rfl | rfl | rfl | rfl | rfl
    all_goals exact fld0 B1 (x := ((cntM _ : Nat) : Int)) rfl e
def rangeM (k i : Int) : Int × Int × Int := if 0 ≤ i then (match (fieldsM k)[i.toNat]? with
  | some p => (p.2.1, p.2.2, 0)
  | none => (0, 0, 1)) else (0, 0, 1)
theorem spec_r5_Range {k i : Int} (h0 : 0 ≤ k) {K : Res [.sc (.int .i32), .sc (.int .i32), .sc (.int .i64)] → W R} (hk : ∀ w', Fr None w w' → K (rangeM k i) Q w') :
    callW Tryz.prog k_pinnaceref05_Range [.int .u8 k, .int .i64 i] [.sc (.int .i32), .sc (.int .i32), .sc (.int .i64)] K Q w := by
  refine C_pinnaceref05_Range k i K Q w ?_
  unfold F_pinnaceref05_Range
  refine joinI (fun b w' => b = decide (i < 0 ∨ (cntM k : Int) ≤ i) ∧ Fr None w w') ?_ ?_
  · refine condD (fun h => ⟨by simp [h], Fr.refl _ _⟩) fun h => ?_
    refine spec_r5_Count h0 fun w1 f1 => ⟨?_, f1⟩
    by_cases h2 : (cntM k : Int) ≤ i
    · simp [h, h2]
    · simp [h, h2]
  · rintro b w1 ⟨rfl, f1⟩
    refine condD (fun h => ?_) fun h => ?_
    · have : rangeM k i = (0, 0, 1) := by
        unfold rangeM
        by_cases hi : 0 ≤ i
        · rw [if_pos hi, List.getElem?_eq_none (by show cntM k ≤ _; omega)]
        · rw [if_neg hi]
      have e := hk w1 f1
      rw [this] at e
      exact e
    · have hi : 0 ≤ i := by omega
      have hlt : i.toNat < cntM k := by omega
      have hin : ∀ n : Nat, n = cntM k → i < (n : Int) := fun n e => by omega
      have hc : cntM k ≠ 0 := by omega
      have h5 : k ≤ 5 := by
        rw [ne_eq, cntM_0] at hc
        omega
      have h3 := cntM_le k
      obtain ⟨p, hp⟩ : ∃ p, (fieldsM k)[i.toNat]? = some p := ⟨_, List.getElem?_eq_getElem hlt⟩
      have hr : rangeM k i = (p.2.1, p.2.2, 0) := by simp [rangeM, hi, hp]
      rw [hr] at hk
      refine newI fun wa Ba fa sa => newI fun wb Bb fb sb => newI fun wc Bc fc sc => newI fun wd Bd fd sd => newI fun we Be fe se => newI fun wf Bf ff sf => newI fun wg Bg fg sg => ?_
      have Bf' := Bf.fr fg (fun h => h)
      have Be' := Be.fr (ff.then0 fg) (fun h => h)
      have Bd' := Bd.fr ((fe.then0 ff).then0 fg) (fun h => h)
      have Bc' := Bc.fr (((fd.then0 fe).then0 ff).then0 fg) (fun h => h)
      have Bb' := Bb.fr ((((fc.then0 fd).then0 fe).then0 ff).then0 fg) (fun h => h)
      have Ba' := Ba.fr (((((fb.then0 fc).then0 fd).then0 fe).then0 ff).then0 fg) (fun h => h)
      have f1g : Fr None w wg := (((((((f1.then0 fa).then0 fb).then0 fc).then0 fd).then0 fe).then0 ff).then0 fg)
      have kc : k = 0 ∨ k = 1 ∨ k = 2 ∨ k = 3 ∨ k = 4 ∨ k = 5 := by omega
      refine idxB h0 (by omega) ?_
      have sel : ∀ {R' : Type} {Q' : R' → World → Prop} {K2 : Sl → W R'}, (∀ b cs T n, Blk wg b T cs → n = cntM k → cs = (fieldsM k).map (fun p => Value.int .i32 p.2.1) → K2 ⟨some ⟨b, 0, none⟩, n, n⟩ Q' wg) → ld (.sc .sl) ⟨wf.heap.size, 0 + k.toNat * 1, none⟩ K2 Q' wg := by
        intro R' Q' K2 hK
        rcases kc with rfl | rfl | rfl | rfl | rfl | rfl
        · exact fld0 Bg (x := ⟨_, _, _⟩) rfl (hK _ _ _ _ Ba' rfl rfl)
        · exact fld0 Bg (x := ⟨_, _, _⟩) rfl (hK _ _ _ _ Bb' rfl rfl)
        · exact fld0 Bg (x := ⟨_, _, _⟩) rfl (hK _ _ _ _ Bc' rfl rfl)
        · exact fld0 Bg (x := ⟨_, _, _⟩) rfl (hK _ _ _ _ Bd' rfl rfl)
        · exact fld0 Bg (x := ⟨_, _, _⟩) rfl (hK _ _ _ _ Be' rfl rfl)
        · exact fld0 Bg (x := ⟨_, _, _⟩) rfl (hK _ _ _ _ Bf' rfl rfl)
      refine sel fun b cs T n Bx hn hcs => ?_
      refine idxB hi (hin n hn) ?_
      refine fld0 Bx (x := p.2.1) (by rw [hcs, Nat.mul_one, Nat.zero_add, List.getElem?_map, hp]; rfl) ?_
      refine newI fun va Ca ga ta => newI fun vb Cb gb tb => newI fun vc Cc gc tc => newI fun vd Cd gd td => newI fun ve Ce ge te => newI fun vf Cf gf tf => newI fun vg Cg gg tg => ?_
      have Cf' := Cf.fr gg (fun h => h)
      have Ce' := Ce.fr (gf.then0 gg) (fun h => h)
      have Cd' := Cd.fr ((ge.then0 gf).then0 gg) (fun h => h)
      have Cc' := Cc.fr (((gd.then0 ge).then0 gf).then0 gg) (fun h => h)
      have Cb' := Cb.fr ((((gc.then0 gd).then0 ge).then0 gf).then0 gg) (fun h => h)
      have Ca' := Ca.fr (((((gb.then0 gc).then0 gd).then0 ge).then0 gf).then0 gg) (fun h => h)
      refine idxB h0 (by omega) ?_
      have sel2 : ∀ {R' : Type} {Q' : R' → World → Prop} {K2 : Sl → W R'}, (∀ b cs T n, Blk vg b T cs → n = cntM k → cs = (fieldsM k).map (fun p => Value.int .i32 p.2.2) → K2 ⟨some ⟨b, 0, none⟩, n, n⟩ Q' vg) → ld (.sc .sl) ⟨vf.heap.size, 0 + k.toNat * 1, none⟩ K2 Q' vg := by
        intro R' Q' K2 hK
        rcases kc with rfl | rfl | rfl | rfl | rfl | rfl
        · exact fld0 Cg (x := ⟨_, _, _⟩) rfl (hK _ _ _ _ Ca' rfl rfl)
        · exact fld0 Cg (x := ⟨_, _, _⟩) rfl (hK _ _ _ _ Cb' rfl rfl)
        · exact fld0 Cg (x := ⟨_, _, _⟩) rfl (hK _ _ _ _ Cc' rfl rfl)
        · exact fld0 Cg (x := ⟨_, _, _⟩) rfl (hK _ _ _ _ Cd' rfl rfl)
        · exact fld0 Cg (x := ⟨_, _, _⟩) rfl (hK _ _ _ _ Ce' rfl rfl)
        · exact fld0 Cg (x := ⟨_, _, _⟩) rfl (hK _ _ _ _ Cf' rfl rfl)
      refine sel2 fun b2 cs2 T2 n2 Bx2 hn2 hcs2 => ?_
      refine idxB hi (hin n2 hn2) ?_
      refine fld0 Bx2 (x := p.2.2) (by rw [hcs2, Nat.mul_one, Nat.zero_add, List.getElem?_map, hp]; rfl) ?_
      exact hk _ (((((((f1g.then0 ga).then0 gb).then0 gc).then0 gd).then0 ge).then0 gf).then0 gg)
theorem spec_r5_Check {c : Comp} (hc0 : 0 ≤ c.1) {K : Res [.sc (.int .i64)] → W R} (hk : ∀ w', Fr None w w' → K (checkM c) Q w') :
    callW Tryz.prog k_pinnaceref05_Check [.agg ⟨compC c⟩] [.sc (.int .i64)] K Q w := by
  refine C_pinnaceref05_Check c K Q w ?_
  unfold F_pinnaceref05_Check
  refine newI fun w1 B1 f1 s1 => ?_
  refine fldI B1 (x := c.1) rfl ?_
  refine spec_r5_Count hc0 fun w2 f2 => ?_
  have B2 := B1.fr f2 (fun h => h)
  have f02 := f1.then0 f2
  have h3 := cntM_le c.1
  refine condE (fun h => ?_) fun h => ?_
  · have e := hk w2 f02
    simp only [checkM, show cntM c.1 = 0 by omega, if_true] at e
    exact e
  have h0 : cntM c.1 ≠ 0 := by omega
  have cell : ∀ {i : Nat}, i < 3 → (compC c)[0 + 1 + (i : Int).toNat * 1]? = some (.int .i32 (fl c i)) := fun {i} hi => by
    rw [show 0 + 1 + (i : Int).toNat * 1 = 1 + i by simp]
    exact compC_fl c hi
  refine loopI (fun s w' => ∃ j : Nat, s = (j : Int) ∧ cntM c.1 ≤ j ∧ j ≤ 3 ∧ w' = w2 ∧ ∀ i, cntM c.1 ≤ i → i < j → fl c i = 0) (fun s _ => 3 - s.toNat) ⟨cntM c.1, rfl, Nat.le_refl _, h3, rfl, by omega⟩ ?_
  rintro s w' ⟨j, rfl, hj1, hj2, rfl, hz⟩
  refine condD (fun hlt => ?_) fun hge => ?_
  · rw [add_lit]
    refine idxB (by omega) (by omega) ?_
    refine fld0 B2 (x := fl c j) (cell (by omega)) ?_
    refine condN (fun hx => ?_) fun hx => ?_
    · have e := hk w' f02
      simp only [checkM, h0, if_false, over_of (c := c) (i := j) (by omega) hj1 hx, if_true] at e
      exact e
    · rw [w64 (by omega)]
      refine ⟨⟨j + 1, rfl, by omega, by omega, rfl, fun i hi hi2 => ?_⟩, by omega⟩
      rcases Nat.lt_succ_iff_lt_or_eq.1 hi2 with h | h
      · exact hz i hi h
      · subst h; exact hx
  · have hj3 : j = 3 := by omega
    subst hj3
    have hover : over c = false := not_over fun i h1 h2 => hz i h1 h2
    refine forI (N := cntM c.1) (fun s : Int => s) (fun j s w'' => s = j ∧ Fr None w' w'' ∧ ∀ i, i < j → inR c i = true) ⟨rfl, Fr.refl _ _, by omega⟩ (fun j s w' h => h.1) ?_ ?_
    · rintro j s1 w3 K' hj ⟨rfl, f3, hz2⟩ - hK
      have B3 := B2.fr f3 (fun h => h)
      refine fldI B3 (x := c.1) rfl ?_
      refine spec_r5_Range hc0 fun w4 f4 => ?_
      have B4 := B3.fr f4 (fun h => h)
      obtain ⟨x, hx⟩ : ∃ x, (fieldsM c.1)[j]? = some x := ⟨_, List.getElem?_eq_getElem hj⟩
      have hr : rangeM c.1 (j : Int) = (x.2.1, x.2.2, 0) := by simp [rangeM, hx]
      rw [hr]
      have hin : inR c j = (decide (x.2.1 ≤ fl c j) && decide (fl c j ≤ x.2.2)) := by simp [inR, hx]
      refine joinI (fun b w'' => b = !inR c j ∧ w'' = w4) ?_ ?_
      · rw [add_lit]
        refine idxB (by omega) (by omega) ?_
        refine fld0 B4 (x := fl c j) (cell (by omega)) ?_
        refine condD (fun hlt => ?_) fun hge => ?_
        · refine ⟨?_, rfl⟩
          have h1 : decide (x.2.1 ≤ fl c j) = false := decide_eq_false (Int.not_le.2 hlt)
          rw [hin, h1]; rfl
        · refine idxB (by omega) (by omega) ?_
          refine fld0 B4 (x := fl c j) (cell (by omega)) ?_
          refine ⟨?_, rfl⟩
          have h1 : decide (x.2.1 ≤ fl c j) = true := decide_eq_true (Int.not_lt.1 hge)
          rw [hin, h1, Bool.true_and]
          by_cases hgt : fl c j > x.2.2
          · rw [decide_eq_true hgt, decide_eq_false (Int.not_le.2 hgt)]; rfl
          · rw [decide_eq_false hgt, decide_eq_true (Int.not_lt.1 hgt)]; rfl
      · rintro b w5 ⟨rfl, rfl⟩
        refine condI (fun hb => ?_) fun hb => ?_
        · have e := hk w5 ((f02.then0 f3).then0 f4)
          simp only [checkM, h0, if_false, hover, not_all_inR (c := c) (i := j) (by omega) (by simpa using hb)] at e
          exact e
        · refine hK _ _ ⟨wsucc hj (by omega), f3.then0 f4, fun i hi => ?_⟩
          rcases Nat.lt_succ_iff_lt_or_eq.1 hi with h | h
          · exact hz2 i h
          · subst h; simpa using hb
    · rintro s1 w3 ⟨e1, f3, hz2⟩
      have e := hk w3 (f02.then0 f3)
      simp only [checkM, h0, if_false, hover, all_inR (c := c) (fun i h1 h2 => hz i h1 h2) hz2, if_true] at e
      exact e
theorem spec_r5_ListX {ok : Nat → Prop} {s : Sl} {l : List Comp} (hS : SlT ok w compT s l) (hm : l.length ≤ 9223372036854775807) (hl : ∀ c ∈ l, CompOk c) {K : Res [.sc (.int .i64)] → W R} (hk : ∀ w', Fr None w w' → K (listE l) Q w') :
    callW Tryz.prog k_pinnaceref05_List [.slice s.a s.n s.c] [.sc (.int .i64)] K Q w := by
  refine C_pinnaceref05_List s K Q w ?_
  unfold F_pinnaceref05_List
  have hlen := hS.len
  refine forI (N := s.n) (fun s : Int × Int => s.2) (fun j i w' => i = (lastK l j, (j : Int)) ∧ Fr None w w' ∧ listE l = listM (lastK l j) (l.drop j)) ⟨rfl, Fr.refl _ _, rfl⟩ (fun j s w' h => by rw [h.1]) ?_ ?_
  · rintro j i w1 K' hj ⟨rfl, f1, he⟩ - hK
    refine (hS.fr0 f1).get rfl rfl (by omega) fun x hx => ?_
    refine locI rfl rfl fun w2 B2 f2 s2 => ?_
    refine aggI B2 (x := x) rfl ?_
    have hx1 := (hl x (List.mem_of_getElem? hx)).1
    refine spec_r5_Check (c := x) hx1.1 fun w3 f3 => ?_
    have B3 := B2.fr f3 (fun h => h)
    have f13 := f2.then0 f3
    rw [listM_at hx] at he
    refine condN (fun hc => ?_) fun hc => ?_
    · rw [if_pos hc] at he
      rw [← he]
      exact hk _ (f1.then0 f13)
    · rw [if_neg (by simpa using hc)] at he
      refine fldI B3 (x := x.1) rfl ?_
      rw [w64 (x := x.1) (by omega)]
      refine condD (fun hle => ?_) fun hle => ?_
      · rw [if_pos hle] at he
        rw [← he]
        exact hk _ (f1.then0 f13)
      · rw [if_neg hle] at he
        refine fldI B3 (x := x.1) rfl ?_
        rw [w64 (x := x.1) (by omega)]
        refine hK _ _ ⟨?_, f1.then0 f13, he⟩
        rw [wsucc hj (by omega)]
        simp [lastK, hx]
  · rintro i w1 ⟨rfl, f1, he⟩
    rw [hS.len, listM_end] at he
    rw [← he]
    exact hk _ f1
theorem spec_r5_Twin {ok : Nat → Prop} {s : Sl} {l : List Comp} (hS : SlT ok w compT s l) (hm : Small l) {K : Res [.sc .sl] → W R}
    (hk : ∀ r w', Own (fun k => w.heap.size ≤ k) w' 92 compT r l → Fr None w w' → K r Q w') :
    callW Tryz.prog k_pinnaceref05_Twin [.slice s.a s.n s.c] [.sc .sl] K Q w := by
  refine C_pinnaceref05_Twin s K Q w ?_
  unfold F_pinnaceref05_Twin
  refine newI fun w1 B1 f1 s1 => ?_
  have own := Own.mk' (S := fun k => w.heap.size ≤ k) (w := w1) (E := 92) (t := compT) (l := []) (g := w.heap.size) (c := 0) (cur := ⟨[]⟩) (Nat.le_refl _) B1 (Nat.le_refl _) (Nat.zero_le _) rfl rfl
  refine appI (s := ⟨some ⟨w.heap.size, 0, none⟩, 0, 0⟩) (s2 := s) (S' := fun k => w.heap.size ≤ k) comps_ty own (hS.fr0 f1) (by simp; omega) (by rw [maxLen_eq]; simp; omega) (fun _ h => h) (by show _ ≤ _; omega) fun r w2 ho f2 s2 => ?_
  rw [List.nil_append] at ho
  exact hk r w2 ho (f1.newer f2 (fun x e => by simp only [Sl.v, Value.ownBlock, Option.some.injEq] at e; omega))
theorem comp_eq {x y : Comp} : (x.1 == y.1 && (((x.2.1 == y.2.1 && (x.2.2.1 == y.2.2.1 && (x.2.2.2 == y.2.2.2 && true)))) && true)) = decide (x = y) := by
  rw [Bool.eq_iff_iff]
  simp [Prod.ext_iff]
theorem eqV_comp (x y : Comp) : eqV Tryz.prog 9 92 (.agg ⟨compC x⟩) (.agg ⟨compC y⟩) = some (decide (x = y)) := by
  rw [← comp_eq]
  kernel_rfl
theorem eqG_comp : Tryz.prog.eqGuardType Tryz.prog.depth 92 = false := by kernel_rfl
theorem spec_r5_Same {ok ok2 : Nat → Prop} {s s2 : Sl} {l l2 : List Comp} (hS : SlT ok w compT s l) (hS2 : SlT ok2 w compT s2 l2) (hm : Small l) {K : Res [.sc .bool] → W R} (hk : ∀ w', Fr None w w' → K (decide (l = l2)) Q w') :
    callW Tryz.prog k_pinnaceref05_Same [.slice s.a s.n s.c, .slice s2.a s2.n s2.c] [.sc .bool] K Q w := by
  refine C_pinnaceref05_Same s s2 K Q w ?_
  unfold F_pinnaceref05_Same
  have h1 := hS.len
  have h2 := hS2.len
  refine condN (fun hne => ?_) fun heq => ?_
  · have e := hk w (Fr.refl _ _)
    rw [decide_eq_false (fun e => hne (by rw [h1, h2, e]))] at e
    exact e
  · refine forI (N := s.n) (fun s : Int => s) (fun j s w' => s = j ∧ Fr None w w' ∧ l.take j = l2.take j) ⟨rfl, Fr.refl _ _, rfl⟩ (fun j s w' h => h.1) ?_ ?_
    · rintro j i w1 K' hj ⟨rfl, f1, ht⟩ - hK
      refine (hS.fr0 f1.drew).get rfl rfl (by omega) fun x hx => ?_
      refine (hS2.fr0 f1.drew).get rfl rfl (by omega) fun y hy => ?_
      refine neqI eqG_comp (eqV_comp x y) ?_
      refine condI (fun hb => ?_) fun hb => ?_
      · have e := hk _ f1.drew
        rw [decide_eq_false (fun e => by subst e; rw [hx] at hy; cases hy; simp at hb)] at e
        exact e
      · have : x = y := by simpa using hb
        subst this
        exact hK _ _ ⟨wsucc hj (by omega), f1.drew, by rw [take_at hx, take_at hy, ht]⟩
    · rintro i w1 ⟨rfl, f1, ht⟩
      have e := hk _ f1
      rw [h1, List.take_length, List.take_of_length_le (by omega)] at ht
      rw [decide_eq_true ht] at e
      exact e
def findM (l : List Comp) (k : Int) : Int := match l.findIdx? (fun c => c.1 == k) with
  | some i => i
  | none => -1
theorem spec_r5_Find {ok : Nat → Prop} {s : Sl} {l : List Comp} (hS : SlT ok w compT s l) (hm : Small l) {k : Int} {K : Res [.sc (.int .i64)] → W R} (hk : ∀ w', Fr None w w' → K (findM l k) Q w') :
    callW Tryz.prog k_pinnaceref05_Find [.slice s.a s.n s.c, .int .u8 k] [.sc (.int .i64)] K Q w := by
  refine C_pinnaceref05_Find s k K Q w ?_
  unfold F_pinnaceref05_Find
  have hlen := hS.len
  refine forI (N := s.n) (fun s : Int => s) (fun j i w' => i = j ∧ Fr None w w' ∧ ∀ q y, q < j → l[q]? = some y → y.1 ≠ k) ⟨rfl, Fr.refl _ _, by omega⟩ (fun j s w' h => h.1) ?_ ?_
  · rintro j i w1 K' hj ⟨rfl, f1, hno⟩ - hK
    refine (hS.fr0 f1).get rfl rfl (by omega) fun x hx => ?_
    refine locI rfl rfl fun w2 B2 f2 s2 => ?_
    refine fldI B2 (x := x.1) rfl ?_
    refine condE (fun h => ?_) fun h => ?_
    · have : l.findIdx? (fun c => c.1 == k) = some j := by
        rw [List.findIdx?_eq_some_iff_getElem]
        obtain ⟨hl, he⟩ := List.getElem?_eq_some_iff.1 hx
        refine ⟨hl, by rw [he]; simpa using h, fun q hq => ?_⟩
        have := hno q _ hq (List.getElem?_eq_getElem (by omega))
        simpa using this
      have e := hk w2 (f1.then0 f2)
      rw [findM, this] at e
      exact e
    · refine hK _ _ ⟨wsucc hj (by omega), f1.then0 f2, fun q y hq hy => ?_⟩
      rcases Nat.lt_succ_iff_lt_or_eq.1 hq with h1 | h1
      · exact hno q y h1 hy
      · subst h1; rw [hx] at hy; cases hy; exact h
  · rintro i w1 ⟨rfl, f1, hno⟩
    have : l.findIdx? (fun c => c.1 == k) = none := by
      rw [List.findIdx?_eq_none_iff]
      intro x hx
      obtain ⟨q, hq⟩ := List.mem_iff_getElem?.1 hx
      have := hno q x (by rw [hlen]; exact (List.getElem?_eq_some_iff.1 hq).1) hq
      simpa using this
    have e := hk w1 f1
    rw [findM, this] at e
    exact e
def withG (c : Comp) : Bool → List Comp → List Comp
  | done, [] => if done then [] else [c]
  | done, x :: r => (if !done && decide (x.1 ≥ c.1) then [c] else []) ++ ((if x.1 ≠ c.1 then [x] else []) ++ withG c (done || decide (x.1 ≥ c.1)) r)
def withM (l : List Comp) (c : Comp) : List Comp := withG c false l
end Go.Proofs.YtchhhjlpnecjkaaGreat
namespace Go.Proofs.YtchhhjlpnecjkaaGreat.Den
open Go Go.RowKit Go.ChangeShapes Go.WideShapes Go.ChangeAt Go.Deep
variable {H : Type} {enc : TypeId × Value → H} {P : Program} {w : World}
def LeafOk (enc : TypeId × Value → H) (P : Program) (w : World) (t : TypeId) (c : Value) : Prop := ∃ fuel x, DataW.trod enc P w 0 (fun _ => true) true fuel t [c] = some x
def leafSc (P : Program) (t : TypeId) : Option Sc := match P.underlying t with
  | some (.int k) => some (.int k)
  | some .bool => some .bool
  | some .string => some .str
  | some (.slice _) => some .sl
  | _ => none
def leavesF (P : Program) (rec : TypeId → Option (List TypeId)) : Nat → List Field → Option (List TypeId)
  | _, [] => some []
  | acc, f :: fs => bif Nat.beq f.offset acc then match rec f.type with
    | none => none
    | some l => bif Nat.beq l.length (P.cellsOf f.type) then match leavesF P rec (acc + l.length) fs with
      | none => none
      | some r => some (l ++ r)
      else none
    else none
def leaves (P : Program) : Nat → TypeId → Option (List TypeId)
  | 0, _ => none
  | n + 1, t => match P.underlying t with
    | some (.struct fs) => (match leavesF P (leaves P n) 0 fs.toList with
      | none => none
      | some l => bif Nat.beq l.length (P.cellsOf t) then some l else none)
    | some (.array k e) => (match leaves P n e with
      | none => none
      | some l => bif Nat.beq l.length (P.cellsOf e) && Nat.beq (k * l.length) (P.cellsOf t) then some ((List.range k).flatMap fun _ => l) else none)
    | _ => bif (leafSc P t).isSome then some [t] else none
theorem leavesF_ok {rec : TypeId → Option (List TypeId)} {fuel : Nat}
    (hr : ∀ (t : TypeId) (ts : List TypeId) (cs : List Value) (x : DataW H × List MemPlace), rec t = some ts → DataW.trod enc P w 0 (fun _ => true) true fuel t cs = some x → cs.length = ts.length ∧ ∀ (i : Nat) (ti : TypeId) (c : Value), ts[i]? = some ti → cs[i]? = some c → LeafOk enc P w ti c) (cs : List Value) :
    ∀ (fs : List Field) (acc : Nat) (ts : List TypeId), leavesF P rec acc fs = some ts → (∀ f ∈ fs, ∃ y, DataW.trod enc P w 0 (fun _ => true) true fuel f.type ((cs.drop f.offset).take (P.cellsOf f.type)) = some y) →
      ∀ (i : Nat) (ti : TypeId) (c : Value), ts[i]? = some ti → cs[acc + i]? = some c → LeafOk enc P w ti c
  | [], _, ts, h, _, i, ti, c, hi, _ => by simp only [leavesF] at h; cases h; simp at hi
  | f :: fs, acc, ts, h, hf, i, ti, c, hi, hc => by
    simp only [leavesF] at h
    cases ho : Nat.beq f.offset acc with
    | false => rw [ho] at h; cases h
    | true =>
      rw [ho, cond_true] at h
      have ho := Nat.eq_of_beq_eq_true ho
      split at h
      · cases h
      · rename_i l hl
        cases hn : Nat.beq l.length (P.cellsOf f.type) with
        | false => rw [hn] at h; cases h
        | true =>
          rw [hn, cond_true] at h
          have hn := Nat.eq_of_beq_eq_true hn
          split at h
          · cases h
          · rename_i r hrr
            cases h
            obtain ⟨y, hy⟩ := hf f List.mem_cons_self
            obtain ⟨h1, h2⟩ := hr _ _ _ _ hl hy
            by_cases hil : i < l.length
            · rw [List.getElem?_append_left hil] at hi
              refine h2 i ti c hi ?_
              rw [List.getElem?_take, if_pos (by omega), List.getElem?_drop, ho]
              exact hc
            · rw [List.getElem?_append_right (by omega)] at hi
              exact leavesF_ok hr cs fs (acc + l.length) r hrr (fun g hg => hf g (List.mem_cons_of_mem _ hg)) (i - l.length) ti c hi (by rw [show acc + l.length + (i - l.length) = acc + i by omega]; exact hc)
theorem flat_range_len {α : Type} (l : List α) (k : Nat) : ((List.range k).flatMap fun _ => l).length = k * l.length := by
  induction k with
  | zero => simp
  | succ k ih => rw [List.range_succ, List.flatMap_append, List.length_append, ih, Nat.add_mul]; simp
theorem range_flat {α : Type} (l : List α) : ∀ (k i : Nat) (x : α), ((List.range k).flatMap fun _ => l)[i]? = some x → 0 < l.length ∧ i < k * l.length ∧ l[i % l.length]? = some x
  | 0, i, x, h => by simp at h
  | k + 1, i, x, h => by
    rw [List.range_succ, List.flatMap_append] at h
    have hlen := flat_range_len l k
    by_cases hi : i < k * l.length
    · rw [List.getElem?_append_left (by omega)] at h
      obtain ⟨h1, h2, h3⟩ := range_flat l k i x h
      exact ⟨h1, by rw [Nat.add_mul]; omega, h3⟩
    · rw [List.getElem?_append_right (by omega), hlen] at h
      simp only [List.flatMap_cons, List.flatMap_nil, List.append_nil] at h
      have hlt := (List.getElem?_eq_some_iff.1 h).1
      refine ⟨by omega, by rw [Nat.add_mul]; omega, ?_⟩
      have : i % l.length = i - k * l.length := by
        rw [show i = (i - k * l.length) + k * l.length by omega, Nat.add_mul_mod_self_right, Nat.mod_eq_of_lt hlt]
        omega
      rw [this]
      exact h
theorem leaves_ok : ∀ (n : Nat) (fuel : Nat) (t : TypeId) (ts : List TypeId) (cs : List Value) (x : DataW H × List MemPlace), leaves P n t = some ts → DataW.trod enc P w 0 (fun _ => true) true fuel t cs = some x →
    cs.length = ts.length ∧ ∀ (i : Nat) (ti : TypeId) (c : Value), ts[i]? = some ti → cs[i]? = some c → LeafOk enc P w ti c
  | 0, _, _, _, _, _, h, _ => by simp [leaves] at h
  | n + 1, 0, _, _, _, _, _, h => by simp [DataW.trod] at h
  | n + 1, fuel + 1, t, ts, cs, x, h, ht => by
    have one : ∀ c, cs = [c] → ts = [t] → cs.length = ts.length ∧ ∀ (i : Nat) (ti : TypeId) (c : Value), ts[i]? = some ti → cs[i]? = some c → LeafOk enc P w ti c := by
      intro c hc hts
      subst hc; subst hts
      refine ⟨rfl, fun i ti c' hi hc => ?_⟩
      rcases i with _ | i
      · simp at hi hc
        subst hi; subst hc
        exact ⟨_, x, ht⟩
      · simp at hi
    have ht0 := ht
    simp only [leaves] at h
    split at h
    · rename_i fs hu
      obtain ⟨xs, m, hm, _, hlen, hxl, hxs⟩ := DataW.trod_struct hu ht
      cases hm
      split at h
      · cases h
      · rename_i l hl
        cases hn : Nat.beq l.length (P.cellsOf t) with
        | false => rw [hn] at h; cases h
        | true =>
          rw [hn, cond_true] at h
          cases h
          have hn := Nat.eq_of_beq_eq_true hn
          refine ⟨by omega, fun i ti c hi hc => ?_⟩
          refine leavesF_ok (fun t ts cs x h1 h2 => leaves_ok n fuel t ts cs x h1 h2) cs fs.toList 0 ts hl (fun f hf => ?_) i ti c hi (by rw [Nat.zero_add]; exact hc)
          obtain ⟨q, hq⟩ := List.mem_iff_getElem?.1 hf
          rw [Array.getElem?_toList] at hq
          rw [hxs q f hq]
          exact ⟨_, List.getElem?_eq_getElem (by rw [hxl]; exact (Array.getElem?_eq_some_iff.1 hq).1)⟩
    · rename_i k e hu
      obtain ⟨xs, m, hm, _, hlen, hxl, hxs⟩ := DataW.trod_array hu ht
      cases hm
      split at h
      · cases h
      · rename_i l hl
        cases hn : (Nat.beq l.length (P.cellsOf e) && Nat.beq (k * l.length) (P.cellsOf t)) with
        | false => rw [hn] at h; cases h
        | true =>
          rw [hn, cond_true] at h
          cases h
          rw [Bool.and_eq_true] at hn
          have hn1 := Nat.eq_of_beq_eq_true hn.1
          have hn2 := Nat.eq_of_beq_eq_true hn.2
          refine ⟨by rw [flat_range_len, hlen, hn2], fun i ti c hi hc => ?_⟩
          obtain ⟨h1, h2, h3⟩ := range_flat l k i ti hi
          have hq : i / l.length < k := Nat.div_lt_of_lt_mul (by rw [Nat.mul_comm]; exact h2)
          have hy := hxs (i / l.length) hq
          rw [List.getElem?_eq_getElem (by rw [hxl]; exact hq)] at hy
          refine (leaves_ok n fuel e l _ _ hl hy).2 (i % l.length) ti c h3 ?_
          rw [List.getElem?_take, if_pos (by rw [← hn1]; exact Nat.mod_lt _ h1), List.getElem?_drop, ← hn1, Nat.mul_comm, Nat.div_add_mod]
          exact hc
    · rename_i h1 h2
      cases hsc : leafSc P t with
      | none => rw [hsc] at h; cases h
      | some s =>
        rw [hsc] at h
        cases h
        have : ∃ c, cs = [c] := by
          unfold leafSc at hsc
          split at hsc
          · rename_i hu; obtain ⟨n, hc, _⟩ := DataW.trod_int hu ht0; exact ⟨_, hc⟩
          · rename_i hu; obtain ⟨n, hc, _⟩ := DataW.trod_bool hu ht0; exact ⟨_, hc⟩
          · rename_i hu; obtain ⟨n, hc, _⟩ := DataW.trod_string hu ht0; exact ⟨_, hc⟩
          · rename_i hu
            rcases DataW.trod_slice hu ht0 with ⟨hc, _⟩ | ⟨a, len, cap, _, _, _, _, hc, _⟩
            · exact ⟨_, hc⟩
            · exact ⟨_, hc⟩
          · cases hsc
        obtain ⟨c, hc⟩ := this
        exact one c hc rfl
theorem LeafOk.int {t : TypeId} {c : Value} {k : IntKind} (h : LeafOk enc P w t c) (hu : P.underlying t = some (.int k)) : ∃ n, c = .int k n ∧ (Lit.int k n).wf = true := by
  obtain ⟨fuel, x, h⟩ := h
  obtain ⟨n, hc, _, hw⟩ := DataW.trod_int hu h
  exact ⟨n, by simpa using hc, hw⟩
theorem LeafOk.bool {t : TypeId} {c : Value} (h : LeafOk enc P w t c) (hu : P.underlying t = some .bool) : ∃ b, c = .bool b := by
  obtain ⟨fuel, x, h⟩ := h
  obtain ⟨n, hc, _⟩ := DataW.trod_bool hu h
  exact ⟨n, by simpa using hc⟩
theorem LeafOk.str {t : TypeId} {c : Value} (h : LeafOk enc P w t c) (hu : P.underlying t = some .string) : ∃ b, c = .string b := by
  obtain ⟨fuel, x, h⟩ := h
  obtain ⟨n, hc, _⟩ := DataW.trod_string hu h
  exact ⟨n, by simpa using hc⟩
theorem LeafOk.sc {t : TypeId} {c : Value} {s : Sc} (h : LeafOk enc P w t c) (hs : leafSc P t = some s) : ∃ x : s.T, c = s.e x := by
  unfold leafSc at hs
  split at hs
  · rename_i hu; cases hs; obtain ⟨n, hc, _⟩ := h.int hu; exact ⟨n, hc⟩
  · rename_i hu; cases hs; obtain ⟨n, hc⟩ := h.bool hu; exact ⟨n, hc⟩
  · rename_i hu; cases hs; obtain ⟨n, hc⟩ := h.str hu; exact ⟨n, hc⟩
  · rename_i hu
    cases hs
    obtain ⟨fuel, x, h⟩ := h
    rcases DataW.trod_slice hu h with ⟨hc, _⟩ | ⟨a, len, cap, _, _, _, _, hc, _⟩
    · exact ⟨⟨none, 0, 0⟩, by simpa using hc⟩
    · exact ⟨⟨some a, len, cap⟩, by simpa using hc⟩
  · cases hs
theorem tup_of : ∀ {ts : List TypeId} {ss : List Sc} {cs : List Value}, ts.map (leafSc P) = ss.map some → cs.length = ts.length → (∀ (i : Nat) (ti : TypeId) (c : Value), ts[i]? = some ti → cs[i]? = some c → LeafOk enc P w ti c) →
    ∃ x : Tup Sc.T ss, cs = Tup.e Sc.e ss x
  | [], [], [], _, _, _ => ⟨(), rfl⟩
  | [], _ :: _, _, h, _, _ => by simp at h
  | _ :: _, [], _, h, _, _ => by simp at h
  | [], [], _ :: _, _, h, _ => by simp at h
  | t :: ts, s :: ss, [], _, h, _ => by simp at h
  | t :: ts, s :: ss, c :: cs, h, hl, ho => by
    simp only [List.map_cons, List.cons.injEq] at h
    obtain ⟨x, hx⟩ := (ho 0 t c rfl rfl).sc h.1
    obtain ⟨y, hy⟩ := tup_of (cs := cs) h.2 (by simpa using hl) (fun i ti c hi hc => ho (i + 1) ti c (by simpa using hi) (by simpa using hc))
    rcases ss with _ | ⟨s2, ss⟩
    · rcases ts with _ | ⟨t2, ts⟩
      · rcases cs with _ | ⟨c2, cs⟩
        · exact ⟨x, by rw [hx]; rfl⟩
        · simp at hl
      · simp at h
    · exact ⟨(x, y), by rw [hx, hy]; rfl⟩
def AllLeaf (enc : TypeId × Value → H) (P : Program) (w : World) (ts : List TypeId) (cs : List Value) : Prop := cs.length = ts.length ∧ ∀ (i : Nat) (ti : TypeId) (c : Value), ts[i]? = some ti → cs[i]? = some c → LeafOk enc P w ti c
theorem list_of {α : Type} {p : Nat → α → Prop} : ∀ (n : Nat), (∀ i, i < n → ∃ x, p i x) → ∃ l : List α, l.length = n ∧ ∀ i x, l[i]? = some x → p i x
  | 0, _ => ⟨[], rfl, fun i x h => by simp at h⟩
  | n + 1, h => by
    obtain ⟨l, hl, hp⟩ := list_of n fun i hi => h i (by omega)
    obtain ⟨x, hx⟩ := h n (by omega)
    refine ⟨l ++ [x], by simp [hl], fun i y hy => ?_⟩
    by_cases hi : i < l.length
    · rw [List.getElem?_append_left hi] at hy; exact hp i y hy
    · rw [List.getElem?_append_right (by omega)] at hy
      have : i - l.length = 0 := by
        have := (List.getElem?_eq_some_iff.1 hy).1
        simp at this
        omega
      rw [this] at hy
      simp at hy
      subst hy
      rw [show i = n by omega]
      exact hx
theorem spot_of {a : Addr} {v : Value} (h : w.cell? a = some v) : a = ⟨a.block, a.off, none⟩ := by
  obtain ⟨b, o, s⟩ := a
  cases s with
  | none => rfl
  | some x =>
    exfalso
    simp only [World.cell?] at h
    split at h
    · cases h
    · cases h
theorem add0 (a : Addr) : a.add 0 = a := by unfold Addr.add; simp
theorem cells_at {base : Nat} {a : Addr} {n : Nat} {cs : List Value} (h : w.cells? base a n = some cs) : cs.length = n ∧ CellsAt w a cs := by
  unfold World.cells? at h
  split at h
  · refine ⟨?_, fun j u hj => ?_⟩
    · have := congrArg (Option.map List.length) (rfl : (List.range n).mapM (fun i => w.cell? (a.add i)) = _)
      rw [h] at this
      clear this
      have key : ∀ (l : List Nat) (ys : List Value), l.mapM (fun i => w.cell? (a.add i)) = some ys → ys.length = l.length := by
        intro l
        induction l with
        | nil => intro ys h; simp at h; subst h; rfl
        | cons x l ih =>
          intro ys h
          rw [List.mapM_cons] at h
          obtain ⟨y, hy, h2⟩ := Option.bind_eq_some_iff.1 h
          obtain ⟨ys', hys, h3⟩ := Option.bind_eq_some_iff.1 h2
          cases h3
          simp [ih ys' hys]
      rw [key _ _ h]
      simp
    · have key : ∀ (l : List Nat) (ys : List Value), l.mapM (fun i => w.cell? (a.add i)) = some ys → ∀ (j : Nat) (u : Value) (k : Nat), ys[j]? = some u → l[j]? = some k → w.cell? (a.add k) = some u := by
        intro l
        induction l with
        | nil => intro ys h j u k _ hk; simp at hk
        | cons x l ih =>
          intro ys h j u k hj hk
          rw [List.mapM_cons] at h
          obtain ⟨y, hy, h2⟩ := Option.bind_eq_some_iff.1 h
          obtain ⟨ys', hys, h3⟩ := Option.bind_eq_some_iff.1 h2
          cases h3
          rcases j with _ | j
          · simp at hj hk
            subst hj; subst hk
            exact hy
          · exact ih ys' hys j u k (by simpa using hj) (by simpa using hk)
      have hjl : j < n := by
        have key2 : ∀ (l : List Nat) (ys : List Value), l.mapM (fun i => w.cell? (a.add i)) = some ys → ys.length = l.length := by
          intro l
          induction l with
          | nil => intro ys h; simp at h; subst h; rfl
          | cons x l ih =>
            intro ys h
            rw [List.mapM_cons] at h
            obtain ⟨y, hy, h2⟩ := Option.bind_eq_some_iff.1 h
            obtain ⟨ys', hys, h3⟩ := Option.bind_eq_some_iff.1 h2
            cases h3
            simp [ih ys' hys]
        have := key2 _ _ h
        have := (List.getElem?_eq_some_iff.1 hj).1
        simp at *
        omega
      exact key _ _ h j u j hj (by simp [hjl])
  · cases h
structure SlArg (P : Program) (t e : TypeId) (ty : Ty) (ts : List TypeId) : Prop where
  under : P.underlying t = some (.slice e)
  size : P.cellsOf e = ty.size
  pos : 0 < ty.size
  leaf : leaves P 9 e = some ts
  sorts : ∃ ss : List Sc, ts.map (leafSc P) = ss.map some ∧ ((ty = .agg ss) ∨ ∃ s, ty = .sc s ∧ ss = [s])
theorem LeafOk.slice {t e : TypeId} {ty : Ty} {ts : List TypeId} (A : SlArg P t e ty ts) {c : Value} (h : LeafOk enc P w t c) :
    ∃ (s : Sl) (l : List ty.T), c = s.v ∧ SlT (fun k => k < w.heap.size) w ty s l ∧ s.c ≤ maxLen ∧ ∀ x ∈ l, AllLeaf enc P w ts (ty.cells x) := by
  obtain ⟨fuel, x, h⟩ := h
  rcases open_slice A.under h with ⟨hc, _⟩ | ⟨a, len, cap, m, n, D, Pl, hc, hb, hl, hm, hmm, _, hel⟩
  · exact ⟨⟨none, 0, 0⟩, [], by simpa [Sl.v] using hc, SlT.nil _, Nat.zero_le _, by simp⟩
  · have hmc : m = cap := by simpa using hmm
    subst hmc
    obtain ⟨ss, hss, hty⟩ := A.sorts
    have each : ∀ i, i < len → ∃ x : ty.T, CellsAt w (a.add (i * ty.size)) (ty.cells x) ∧ AllLeaf enc P w ts (ty.cells x) := by
      intro i hi
      obtain ⟨cs', h1, h2⟩ := hel i (by omega)
      obtain ⟨h3, h4⟩ := cells_at h1
      obtain ⟨h5, h6⟩ := leaves_ok 9 n e ts cs' _ A.leaf h2
      obtain ⟨x, hx⟩ := tup_of hss h5 h6
      rw [A.size] at h4
      rcases hty with rfl | ⟨s, rfl, rfl⟩
      · exact ⟨x, by rw [show Ty.cells (.agg ss) x = cs' from hx.symm]; exact h4, by rw [show Ty.cells (.agg ss) x = cs' from hx.symm]; exact ⟨h5, h6⟩⟩
      · exact ⟨x, by rw [show Ty.cells (.sc s) x = cs' from hx.symm]; exact h4, by rw [show Ty.cells (.sc s) x = cs' from hx.symm]; exact ⟨h5, h6⟩⟩
    obtain ⟨l, hll, hlp⟩ := list_of len each
    refine ⟨⟨some a, len, m⟩, l, by simpa [Sl.v] using hc, ⟨hll.symm, hl, ?_⟩, hm, fun x hx => ?_⟩
    · by_cases h0 : l = []
      · exact .inl h0
      · right
        have hpos : 0 < l.length := List.length_pos_iff.2 h0
        have hx0 := List.getElem?_eq_getElem hpos
        have hc0 := (hlp 0 _ hx0).1
        rw [Nat.zero_mul, add0] at hc0
        have hcl := ty.cells_len l[0]
        have hp := A.pos
        have hcell := hc0 0 _ (List.getElem?_eq_getElem (by omega))
        rw [add0] at hcell
        have ha := spot_of hcell
        refine ⟨a.block, a.off, by rw [ha], World.block_lt_of_cell? w a hcell, World.block_lt_of_cell? w a hcell, fun i x hx => ?_⟩
        refine Rd.cells.2 ?_
        have := (hlp i x hx).1
        rw [ha, add_lit] at this
        exact this
    · obtain ⟨i, hi⟩ := List.mem_iff_getElem?.1 hx
      exact (hlp i x hi).2
theorem trodAll_below {P : Program} (hl : laidOutB P = true) {W W' : World} (hb : Below W.heap.size W W') : ∀ {ts : List TypeId} {vs : List Value} {ds : List (DataW H)} {ps : List MemPlace}, (∀ t ∈ ts, P.readableRec t = true ∧ t < P.types.size) →
    DataW.TrodAll enc P W 0 (fun _ => true) true ts vs ds ps → (∀ x ∈ ps, x.block < W.heap.size) → DataW.TrodAll enc P W' 0 (fun b => decide (b < W.heap.size)) true ts vs ds ps
  | [], [], [], _, _, h, _ => h
  | [], [], _ :: _, _, _, h, _ => h.elim
  | [], _ :: _, _, _, _, h, _ => h.elim
  | _ :: _, [], _, _, _, h, _ => h.elim
  | _ :: _, _ :: _, [], _, _, h, _ => h.elim
  | t :: ts, v :: vs, d :: ds, ps, hr, ⟨p, q, h1, h2, e⟩, hlt => by
    subst e
    exact ⟨p, q, Below.trod hl (hr t List.mem_cons_self).1 (hr t List.mem_cons_self).2 h1 hb (fun x hx => hlt x (List.mem_append_left _ hx)),
      trodAll_below hl hb (fun u hu => hr u (List.mem_cons_of_mem _ hu)) h2 (fun x hx => hlt x (List.mem_append_right _ hx)), rfl⟩
theorem law_post {P : Program} (hl : laidOutB P = true) {f : Func} {s : ChangeSpec} {W W' : World} {args : Array Value} {ds gs : List (DataW H)} {before : List MemPlace} {tb : TypeId} (hbool : P.underlying tb = some .bool) (hres : f.resultTypes = #[tb])
    (hr : ∀ t ∈ f.params.toList, P.readableRec t = true ∧ t < P.types.size) (hvars : s.vars = []) (hs : (s.fn H (ds ++ [])).results = [.lit (.bool true)] ∧ (s.fn H (ds ++ [])).args = ds ∧ (s.fn H (ds ++ [])).vars = [])
    (hW : DataW.Whole enc P f.params.toList s.vars false W args.toList ds gs before) (hf : Fr None W W') : s.post enc P f false true false false W args (.bool true) W' := by
  have hlt := hW.lt
  have hW2 := hW
  obtain ⟨p, q, hA, hV, rfl, hfz, hnd⟩ := hW2
  rw [hvars] at hV
  obtain ⟨hgs, hq⟩ : gs = [] ∧ q = [] := by
    cases gs with
    | nil => exact ⟨rfl, hV⟩
    | cons _ _ => exact hV.elim
  subst hq; subst hgs
  refine ⟨ds, [], p ++ [], [], p, [], hW, ?_, ?_, ?_, hf.below.frame _, fun h => by cases h⟩
  · rw [hs.1, hres]
    exact trodAll_mk1 (shut_bool hbool true)
  · rw [hs.2.1]
    exact trodAll_below hl hf.below hr hA (fun x hx => hlt x (by simpa using hx))
  · rw [hs.2.2, hvars]
    rfl
theorem arg_slice {t e : TypeId} {ty : Ty} {ts : List TypeId} (A : SlArg P t e ty ts) {v : Value} {d : DataW H} {p : List MemPlace} (hval : Value.okWide P w .any 0 t v) (h : DataW.Trod enc P w 0 (fun _ => true) true t v d p) :
    ∃ (s : Sl) (l : List ty.T), v = s.v ∧ SlT (fun k => k < w.heap.size) w ty s l ∧ s.c ≤ maxLen ∧ ∀ x ∈ l, AllLeaf enc P w ts (ty.cells x) := by
  obtain ⟨a0, len, cap, rfl⟩ := okWide_slice A.under hval
  obtain ⟨fuel, hf⟩ := h
  exact LeafOk.slice A ⟨fuel, _, hf⟩
def aggB (P : Program) (t : TypeId) : Bool := match P.underlying t with
  | some (.struct _) => true
  | some (.array _ _) => true
  | _ => false
structure AggArg (P : Program) (t : TypeId) (ss : List Sc) (ts : List TypeId) : Prop where
  under : aggB P t = true
  leaf : leaves P 9 t = some ts
  sorts : ts.map (leafSc P) = ss.map some
theorem arg_agg {t : TypeId} {ss : List Sc} {ts : List TypeId} (A : AggArg P t ss ts) {v : Value} {d : DataW H} {p : List MemPlace} (hval : Value.okWide P w .any 0 t v) (h : DataW.Trod enc P w 0 (fun _ => true) true t v d p) :
    ∃ x : Tup Sc.T ss, v = .agg ⟨Tup.e Sc.e ss x⟩ ∧ AllLeaf enc P w ts (Tup.e Sc.e ss x) := by
  have : ∃ cs, v = .agg cs := by
    unfold Value.okWide at hval
    have hu := A.under
    unfold aggB at hu
    split at hu
    · rename_i fs hu2; rw [hu2] at hval; obtain ⟨cs, h, _⟩ := hval; exact ⟨cs, h⟩
    · rename_i n e hu2; rw [hu2] at hval; obtain ⟨cs, h, _⟩ := hval; exact ⟨cs, h⟩
    · cases hu
  obtain ⟨cs, rfl⟩ := this
  obtain ⟨fuel, hf⟩ := h
  have hf : DataW.trod enc P w 0 (fun _ => true) true fuel t cs.toList = some (d, p) := hf
  obtain ⟨h1, h2⟩ := leaves_ok 9 fuel t ts cs.toList _ A.leaf hf
  obtain ⟨x, hx⟩ := tup_of A.sorts h1 h2
  refine ⟨x, ?_, ?_⟩
  · rw [← hx]
  · rw [← hx]; exact ⟨h1, h2⟩
end Go.Proofs.YtchhhjlpnecjkaaGreat.Den
namespace Go.Proofs.YtchhhjlpnecjkaaGreat
open Go Go.RowKit Go.ChangeShapes Go.WideShapes Go.ChangeAt Go.Proofs.YtchhhjlpnecjkaaGreat.Den
variable {R : Type} {Q : R → World → Prop} {w : World}
theorem calls_of {f : Nat} {args : List Value} {W : World} (h : callW Tryz.prog f args [.sc .bool] (fun (r : Bool) (_ : Unit → World → Prop) w' => r = true ∧ Fr None W w') (fun _ _ => True) W) : Calls Tryz.prog f ⟨args⟩ W (fun e w' => e = .returned (.bool true) ∧ Fr None W w') :=
  Calls.mono h fun _ w' ⟨r, he, hr, hf⟩ => ⟨by rw [he, hr]; rfl, hf⟩
theorem own_knob : ownKnob Tryz.prog.godebug = none := by kernel_rfl
theorem laid_out : laidOutB Tryz.prog = true := by kernel_rfl
theorem comps_arg : SlArg Tryz.prog 55 92 compT [5, 21, 21, 21] :=
  ⟨by kernel_rfl, by kernel_rfl, by decide, by kernel_rfl, ⟨[.int .u8, .int .i32, .int .i32, .int .i32], by kernel_rfl, .inl rfl⟩⟩
theorem wf_u8 {n : Int} (h : (Lit.int .u8 n).wf = true) : 0 ≤ n ∧ n ≤ 255 := by simpa [Lit.wf, IntKind.min, IntKind.max, IntKind.bits, IntKind.signed] using h
theorem wf_u32 {n : Int} (h : (Lit.int .u32 n).wf = true) : 0 ≤ n ∧ n ≤ 4294967295 := by simpa [Lit.wf, IntKind.min, IntKind.max, IntKind.bits, IntKind.signed] using h
theorem wf_i32 {n : Int} (h : (Lit.int .i32 n).wf = true) : -2147483648 ≤ n ∧ n ≤ 2147483647 := by simpa [Lit.wf, IntKind.min, IntKind.max, IntKind.bits, IntKind.signed] using h
theorem u8_und : Tryz.prog.underlying 5 = some (.int .u8) := by kernel_rfl
theorem i32_und : Tryz.prog.underlying 21 = some (.int .i32) := by kernel_rfl
theorem bool_und : Tryz.prog.underlying 4 = some .bool := by kernel_rfl
theorem comp_ok {H : Type} {enc : TypeId × Value → H} {c : Comp} (h : AllLeaf enc Tryz.prog w [5, 21, 21, 21] (compT.cells c)) : CompOk c := by
  obtain ⟨_, h⟩ := h
  obtain ⟨_, e, h0⟩ := (h 0 _ _ rfl rfl).int u8_und
  cases e
  obtain ⟨_, e, h1⟩ := (h 1 _ _ rfl rfl).int i32_und
  cases e
  obtain ⟨_, e, h2⟩ := (h 2 _ _ rfl rfl).int i32_und
  cases e
  obtain ⟨_, e, h3⟩ := (h 3 _ _ rfl rfl).int i32_und
  cases e
  exact ⟨wf_u8 h0, wf_i32 h1, wf_i32 h2, wf_i32 h3⟩
abbrev u8T : Ty := .sc (.int .u8)
theorem Den.Rd.fld {a : Addr} {l : List Sc} {x : Tup Sc.T l} (h : Rd w a (.agg l) x) {i : Nat} {s : Sc} {y : s.T} (hy : (Tup.e Sc.e l x)[i]? = some (s.e y)) {K : s.T → W R} (hk : K y Q w) : ld (.sc s) (a.add i) K Q w := ⟨y, h i _ hy, hk⟩
theorem idxA {a : Addr} {n sz : Nat} {i : Int} (h0 : 0 ≤ i) (h1 : i < n) {K : Addr → W R} (hk : K (a.add (i.toNat * sz)) Q w) : idxW (some a) n sz i K Q w := ⟨a, rfl, h0, h1, hk⟩
theorem addA (a : Addr) (i j : Nat) : (a.add i).add j = a.add (i + j) := Go.Deep.add_add a i j
end Go.Proofs.YtchhhjlpnecjkaaGreat
namespace Go.Proofs.YtchhhjlpnecjkaaGreat.Den
open Go Go.RowKit
variable {R : Type} {Q : R → World → Prop} {w : World}
abbrev OB := (Nat → Prop) → World → Prop
def St (A : OB) : Prop := ∀ {F F' S : Nat → Prop} {w w' : World}, A F w → Fr S w w' → (∀ k, k < w.heap.size → F k → ¬ S k ∧ F' k) → A F' w'
abbrev Ex (F : Nat → Prop) (w : World) : Nat → Prop := fun k => F k ∨ w.heap.size ≤ k
theorem St.fr {A : OB} (h : St A) {F S : Nat → Prop} {w w' : World} (a : A F w) (f : Fr S w w') (hn : ∀ k, F k → ¬ S k) : A F w' := h a f fun k _ e => ⟨hn k e, e⟩
theorem St.fr0 {A : OB} (h : St A) {F : Nat → Prop} {w w' : World} (a : A F w) (f : Fr None w w') : A F w' := h a f fun _ _ e => ⟨fun h => h, e⟩
theorem St.mono {A : OB} (h : St A) {F F' : Nat → Prop} {w : World} (a : A F w) (hf : ∀ k, k < w.heap.size → F k → F' k) : A F' w := h a (Fr.refl None w) fun k hk e => ⟨fun h => h, hf k hk e⟩
def relab (lab : Nat → Nat) (n n' c : Nat) : Nat → Nat := fun k => if k < n then lab k else if k < n' then c else 0
theorem relab_lt {lab : Nat → Nat} {n n' c k : Nat} (h : k < n) : relab lab n n' c k = lab k := by simp [relab, h]
theorem relab_new {lab : Nat → Nat} {n n' c k : Nat} (h : n ≤ k) (h2 : k < n') : relab lab n n' c k = c := by simp [relab, show ¬ k < n by omega, h2]
theorem relab_ne {lab : Nat → Nat} {n n' c k : Nat} (h : relab lab n n' c k ≠ 0) : (lab k ≠ 0 ∧ k < n) ∨ (n ≤ k ∧ k < n') := by
  unfold relab at h
  split at h
  · exact .inl ⟨h, by assumption⟩
  · split at h
    · exact .inr ⟨by omega, by assumption⟩
    · exact absurd rfl h
theorem St.other {A : OB} (h : St A) {lab : Nat → Nat} {i j c : Nat} {w w' : World} (a : A (fun k => lab k = i) w) (f : Fr (fun k => lab k = j) w w') (hij : i ≠ j) : A (fun k => relab lab w.heap.size w'.heap.size c k = i) w' :=
  h a f fun k hk e => ⟨by omega, by show relab _ _ _ _ _ = _; rw [relab_lt hk]; exact e⟩
theorem St.grown {A : OB} (h : St A) {lab : Nat → Nat} {i : Nat} {w w' : World} (a : A (Ex (fun k => lab k = i) w) w') : A (fun k => relab lab w.heap.size w'.heap.size i k = i) w' :=
  h.mono a fun k hk e => by
    rcases Nat.lt_or_ge k w.heap.size with hl | hg
    · rw [relab_lt hl]
      rcases e with e | e
      · exact e
      · omega
    · exact relab_new hg hk
def Bl (b : Nat) (T : TypeId) (cs : List Value) : OB := fun F w => F b ∧ Blk w b T cs
theorem Bl.st {b : Nat} {T : TypeId} {cs : List Value} : St (Bl b T cs) := fun ⟨h1, h2⟩ f hs => ⟨(hs b h2.lt h1).2, h2.fr f (hs b h2.lt h1).1⟩
theorem Own.st {E : TypeId} {t : Ty} {s : Sl} {l : List t.T} : St fun F w => Own F w E t s l := fun {F F' S w w'} h f hs => by
  rcases h.cases with ⟨rfl, rfl⟩ | ⟨g, c, cur, rfl, hg, h3, h4, h5, h6, h7⟩
  · exact Own.nil _ _ _ _
  · have hl := (Array.getElem?_eq_some_iff.1 h3).1
    exact Own.mk' (hs g hl hg).2 ((f.block g hl (hs g hl hg).1).trans h3) h4 h5 h6 h7
theorem SlT.st {t : Ty} {s : Sl} {l : List t.T} : St fun F w => SlT F w t s l := fun {F F' S w w'} h f hs => by
  refine ⟨h.len, h.cap, h.at_.imp id ?_⟩
  rintro ⟨b, o, h1, h2, h3, h4⟩
  exact ⟨b, o, h1, (hs b h3 h2).2, Nat.lt_of_lt_of_le h3 f.size, fun i x hx => (h4 i x hx).keep (f.block b h3 (hs b h3 h2).1)⟩
def Mp {κ : Type} (P : Program) (k : TypeId) (ke : κ → Value) (b : Nat) (f : κ → Option Value) : OB := fun F w => F b ∧ MapB P k ke w b f
theorem Mp.st {κ : Type} {P : Program} {k : TypeId} {ke : κ → Value} {b : Nat} {f : κ → Option Value} : St (Mp P k ke b f) := fun ⟨h1, h2⟩ fr hs => ⟨(hs b h2.lt h1).2, h2.fr fr (hs b h2.lt h1).1⟩
theorem Fr.ex {F : Nat → Prop} {a b c : World} (h : Fr F a b) (k : Fr (Ex F a) b c) : Fr F a c := h.trans k (fun _ h => h) fun x hx e => by
  rcases e with e | e
  · exact e
  · omega
theorem Fr.exS {F S : Nat → Prop} {a b c : World} (h : Fr F a b) (k : Fr S b c) (hs : ∀ x, S x → F x ∨ a.heap.size ≤ x) : Fr F a c := h.ex (k.mono fun x _ e => hs x e)
theorem Fr.sub {S T : Nat → Prop} {a b : World} (h : Fr S a b) (hs : ∀ x, S x → T x) : Fr T a b := h.mono fun x _ e => hs x e
theorem Fr.any {S : Nat → Prop} {a b : World} (h : Fr None a b) : Fr S a b := h.mono fun _ _ e => e.elim
theorem Fr.lab {lab : Nat → Nat} {j : Nat} {a b : World} (h : Fr (fun k => lab k = j) a b) (hj : j ≠ 0) : Fr (fun k => lab k ≠ 0) a b := h.mono fun k _ e => by omega
theorem makeI {P : Program} {T E : TypeId} {t : Ty} {bytes : Nat} (H : SlTy P T E t bytes) {z : t.T} {zv : Value} (hz : (P.info? E).bind (·.zero) = some zv) (hzc : zv.cells.toList = t.cells z) {i : Int} {n : Nat} (hi : i = (n : Int)) (hb : n * bytes ≤ 140737488355328) (hm : n ≤ 9223372036854775807)
    {K : Sl → W R} (hk : ∀ w', Own (fun k => k = w.heap.size) w' E t ⟨some ⟨w.heap.size, 0, none⟩, n, n⟩ (List.replicate n z) → Fr None w w' → w'.heap.size = w.heap.size + 1 → K ⟨some ⟨w.heap.size, 0, none⟩, n, n⟩ Q w') :
    rawW P (Instr.makeSlice T (.int .i64 i) (.int .i64 i)) [.sc .sl] K Q w := by
  subst hi
  obtain ⟨i, z', h1, h2, h3, h4, h5⟩ := H.info
  rw [h1] at hz
  simp only [Option.bind_some, h2, Option.some.injEq] at hz
  subst hz
  have hbi : (i.bytes : Int) * (n : Int) ≤ 281474976710656 := by
    have : i.bytes * n ≤ 140737488355328 := by rw [h4, Nat.mul_comm]; exact hb
    have h : ((i.bytes * n : Nat) : Int) ≤ 140737488355328 := by omega
    rw [Int.natCast_mul] at h
    omega
  have hr := run_make (P := P) w T E i z' H.under h1 h2 .i64 .i64 n n (by omega) (Int.le_refl _) hbi (by omega)
  simp only [Int.toNat_natCast] at hr
  have hcells : (madeCells z'.cells (n * i.size)).toList = (List.replicate n z).flatMap t.cells := by
    apply List.ext_getElem?
    intro j
    have hpos := H.pos
    have hzs : z'.cells = ⟨t.cells z⟩ := by rw [← hzc]
    have hsz : (t.cells z).length = t.size := t.cells_len z
    by_cases hj : j < n * t.size
    · have hq : j / t.size < n := Nat.div_lt_of_lt_mul (by rw [Nat.mul_comm]; exact hj)
      have hml : j % t.size < (t.cells z).length := by rw [hsz]; exact Nat.mod_lt _ hpos
      have e1 := flat_at (l := List.replicate n z) (i := j / t.size) (x := z) (by simp [hq]) (j % t.size) _ (List.getElem?_eq_getElem hml)
      rw [Nat.mul_comm, Nat.div_add_mod] at e1
      rw [e1, hzs, h3]
      have hj' : j < (madeCells ⟨t.cells z⟩ (n * t.size)).size := by rw [size_madeCells]; exact hj
      rw [Array.getElem?_toList, Array.getElem?_eq_getElem hj']
      simp only [madeCells, Array.getElem_map, Array.getElem_range, List.size_toArray, hsz]
      congr 1
      rw [getElem!_pos (c := (⟨t.cells z⟩ : Array Value)) (i := j % t.size) (by simpa using hml)]
      simp
    · rw [List.getElem?_eq_none, List.getElem?_eq_none]
      · rw [flat_len]; simp; omega
      · rw [Array.length_toList, size_madeCells, h3]; omega
  refine ⟨⟨_, _, _⟩, _, hr, hk _ ?_ ((Fr.refl _ _).alloc _) (by simp)⟩
  have hl : (List.replicate n z).length = n := List.length_replicate
  have := Own.mk' (S := fun k => k = w.heap.size) (w := w.alloc (.cells (madeCells z'.cells (n * i.size)) E)) (E := E) (t := t) (l := List.replicate n z) (g := w.heap.size) (c := n) (cur := madeCells z'.cells (n * i.size)) rfl (heap_alloc_new w _) (by rw [hl]; exact Nat.le_refl _) (by rw [maxLen_eq]; exact hm) (by rw [size_madeCells, h3]) (by
    rw [hl, hcells, List.take_of_length_le]
    rw [flat_len, hl]; exact Nat.le_refl _)
  rw [hl] at this
  exact this
theorem appP {P : Program} {T E ty : TypeId} {t : Ty} {bytes : Nat} (H : SlTy P T E t bytes) {S : Nat → Prop} {o : Sl} {lo : List t.T} {x : t.T} {cs : List Value} (hc : cs = t.cells x) (ho : Own S w E t o lo) (hS : ∀ k, w.heap.size ≤ k → S k)
    (hb : (lo.length + 1) * bytes ≤ 140737488355328) (hm : lo.length + 1 ≤ 9223372036854775807) {K : Sl → W R}
    (hk : ∀ r w', Own S w' E t r (lo ++ [x]) → Fr (fun k => o.v.ownBlock = some k) w w' → K r Q w') : newW E cs (fun a => rawW P (Builtin.append_ #[T, T] ty #[.slice o.a o.n o.c, .slice (some a) 1 1]) [.sc .sl] K) Q w := by
  subst hc
  refine newI fun w2 B2 f2 s2 => ?_
  refine app1 (S' := S) H (ho.none f2) B2 rfl hb (by rw [maxLen_eq]; exact hm) (fun _ h => h) (hS _ (by omega)) fun r w3 o3 f3 s3 => ?_
  exact hk r w3 o3 (f2.any.then f3)
end Go.Proofs.YtchhhjlpnecjkaaGreat.Den
namespace Go.Proofs.YtchhhjlpnecjkaaGreat.Den
open Go Go.RowKit
variable {R : Type} {Q : R → World → Prop} {w : World} {P : Program} {T E ty : TypeId} {t : Ty} {bytes : Nat} {ok S : Nat → Prop} {s : Sl} {l : List t.T}
theorem SlT.from (h : SlT ok w t s l) {sz : Nat} (hsz : sz = t.size) {i : Int} {n : Nat} (hi : i = (n : Int)) (hl : n ≤ l.length) {K : Sl → W R} (hk : ∀ r, SlT ok w t r (l.drop n) → r.c = s.c - n → K r Q w) : slcW s.a s.n s.c sz (some i) none K Q w := by
  subst hi; subst hsz
  have hlen := h.len
  have hcap := h.cap
  refine chkI (by simp only [Option.getD_some, Option.getD_none]; omega) ?_
  simp only [Option.getD_some, Option.getD_none, Int.toNat_natCast]
  refine hk _ ⟨by simp; omega, by simp; omega, ?_⟩ rfl
  rcases h.at_ with rfl | ⟨b, o, ha, h1, h2, h3⟩
  · left; simp
  · by_cases hc : s.c = n
    · left
      exact List.drop_eq_nil_of_le (by omega)
    · right
      refine ⟨b, o + n * t.size, by simp only [if_neg hc, ha, Option.map_some, add_lit], h1, h2, fun i x hx => ?_⟩
      rw [List.getElem?_drop] at hx
      have := h3 (n + i) x hx
      rwa [Nat.add_mul, ← Nat.add_assoc] at this
theorem SlT.cutI (h : SlT ok w t s l) {sz : Nat} {hi : Int} {n : Nat} (hn : hi = (n : Int)) (hl : n ≤ l.length) {K : Sl → W R} (hk : ∀ s', s'.c = s.c → (∀ ok' w', SlT ok' w' t s l → SlT ok' w' t s' (l.take n)) → K s' Q w) : slcW s.a s.n s.c sz none (some hi) K Q w := by
  subst hn
  have hlen := h.len
  have hcap := h.cap
  refine chkI (by simp only [Option.getD_some, Option.getD_none]; omega) ?_
  simp only [Option.getD_some, Option.getD_none]
  refine hk _ (by simp) fun ok' w' h' => ⟨by simp; omega, by simp; omega, ?_⟩
  rcases h'.at_ with rfl | ⟨b, o, ha, h1, h2, h3⟩
  · left; simp
  · right
    refine ⟨b, o, ?_, h1, h2, fun i x hx => ?_⟩
    · rw [ha]
      split
      · rfl
      · simp [Addr.add]
    · rw [List.getElem?_take] at hx
      split at hx
      · exact h3 i x hx
      · cases hx
theorem cloneI (H : SlTy P T E t bytes) (h : SlT ok w t s l) (hb : l.length * bytes ≤ 140737488355328) (hm : l.length ≤ 9223372036854775807) {K : Sl → W R} (hk : ∀ r w', Own (Up w.heap.size) w' E t r l → Fr None w w' → K r Q w') :
    newW E [] (fun a => rawW P (Builtin.append_ #[T, T] ty #[.slice (some a) 0 0, .slice s.a s.n s.c]) [.sc .sl] K) Q w := by
  refine newI fun w1 B1 f1 s1 => ?_
  have own := Own.mk' (S := Up w.heap.size) (w := w1) (E := E) (t := t) (l := []) (g := w.heap.size) (c := 0) (cur := ⟨[]⟩) (Nat.le_refl _) B1 (Nat.le_refl _) (Nat.zero_le _) (by simp) (by simp)
  refine appI (s := ⟨some ⟨w.heap.size, 0, none⟩, 0, 0⟩) (s2 := s) (S' := Up w.heap.size) H own (h.fr0 f1) (by simpa using hb) (by rw [maxLen_eq]; simpa using hm) (fun _ h => h) (by show _ ≤ _; omega) fun r w2 o2 f2 s2 => ?_
  rw [List.nil_append] at o2
  exact hk r w2 o2 (f1.newer f2 (fun x e => own.own x e))
theorem run_append_zeros_grow (w : World) (tn : TypeId) (i : TypeInfo) (z : Value) (k kn : IntKind) (ht : P.underlying T = some (.slice E)) (htn : P.underlying tn = some (.int kn)) (hi : P.info? E = some i) (hz : i.zero = some z)
    (b : Addr) (sLen sCap : Nat) (olds : List Value) (hlo : olds.length = sLen * i.size) (holds : ∀ j v, olds[j]? = some v → w.cell? (b.add j) = some v) (n : Nat) (h0 : 0 < n * i.size)
    (hg : sCap < sLen + n) (h63 : ((sLen + n : Nat) : Int) ≤ 9223372036854775807) (hfit : Builtin.nextslicecap (sLen + n) sCap * i.bytes ≤ 281474976710656) (h48 : n * i.bytes ≤ 281474976710656) :
    (Builtin.append_ #[T, tn] ty #[.slice (some b) sLen sCap, .int k n]).run P w =
      .ok (.slice (some ⟨w.heap.size, 0, none⟩) (sLen + n) (grownCap w (sLen + n) sCap E))
        (w.drew.alloc (.cells (olds.toArray ++ Builtin.zeroCells z.cells n ++ Builtin.zeroCells z.cells (grownCap w (sLen + n) sCap E - (sLen + n))) E)) := by
  have hn : ¬ (sLen + n ≤ sCap) := by omega
  have hw : IntKind.i64.wrap (n : Int) = n := by rw [IntKind.wrap_i64]; omega
  have h63' : ¬ (9223372036854775807 < ((sLen : Int) + (n : Int))) := by omega
  have h48' : ¬ (281474976710656 < Builtin.nextslicecap (sLen + n) sCap * i.bytes) := by omega
  have h48i : ¬ (281474976710656 < (n : Int) * (i.bytes : Int)) := by rw [← Int.natCast_mul]; omega
  have hns : ¬ (n * i.size = 0) := by omega
  have hns' : ¬ (n = 0 ∨ i.size = 0) := by
    rintro (h | h)
    · rw [h] at h0; simp at h0
    · rw [h] at h0; simp at h0
  have hfo := run_firstCells_some (P := P) w.drew i.size sLen b sLen sCap olds hlo (by simpa using holds)
  simp [Builtin.append_, run_underlying ht, run_underlying htn, sizeOf, typeInfo, zeroValue, hi, hz, asInt, asIntOf, hw, hn, h63', h48', h48i, hns, show ¬ ((n : Int) < 0) by omega, Question.forced, hfo, newRow, grownCap]
end Go.Proofs.YtchhhjlpnecjkaaGreat.Den
namespace Go.Proofs.YtchhhjlpnecjkaaGreat
open Go Go.RowKit Go.Proofs.YtchhhjlpnecjkaaGreat.Den
def bitN (b : Bool) : Nat := if b = true then 1 else 0
theorem bitN_lt (b : Bool) : bitN b ≤ 1 := by cases b <;> decide
def bitsOf (v : Nat) : Nat → List Bool
  | 0 => []
  | n + 1 => bitsOf v n ++ [v.testBit n]
theorem bitsOf_len (v : Nat) : ∀ n, (bitsOf v n).length = n
  | 0 => rfl
  | n + 1 => by simp [bitsOf, bitsOf_len v n]
def bitAt (L : List Bool) (k : Nat) : Bool := (L[k]?).getD false
def byteAt (L : List Bool) (j : Nat) : Nat :=
  bitN (bitAt L (8 * j)) + 2 * bitN (bitAt L (8 * j + 1)) + 4 * bitN (bitAt L (8 * j + 2)) + 8 * bitN (bitAt L (8 * j + 3)) + 16 * bitN (bitAt L (8 * j + 4)) + 32 * bitN (bitAt L (8 * j + 5)) + 64 * bitN (bitAt L (8 * j + 6)) + 128 * bitN (bitAt L (8 * j + 7))
def packM (L : List Bool) : List Int := (List.range ((L.length + 7) / 8)).map fun j => (byteAt L j : Int)
def packP (L : List Bool) : List Int := (List.range (L.length / 8 + 1)).map fun j => (byteAt L j : Int)
theorem bitAt_ge {L : List Bool} {k : Nat} (h : L.length ≤ k) : bitAt L k = false := by
  unfold bitAt
  rw [List.getElem?_eq_none h]
  rfl
theorem bitAt_snoc (L : List Bool) (b : Bool) (k : Nat) : bitAt (L ++ [b]) k = if k = L.length then b else bitAt L k := by
  unfold bitAt
  rcases Nat.lt_trichotomy k L.length with h | h | h
  · rw [List.getElem?_append_left h, if_neg (by omega)]
  · subst h
    rw [List.getElem?_append_right (Nat.le_refl _), if_pos rfl, Nat.sub_self]
    rfl
  · rw [if_neg (by omega), List.getElem?_eq_none (by simp; omega), List.getElem?_eq_none (by omega)]
theorem byteAt_other {L : List Bool} {b : Bool} {j : Nat} (h : j ≠ L.length / 8) : byteAt (L ++ [b]) j = byteAt L j := by
  unfold byteAt
  simp only [bitAt_snoc]
  rw [if_neg (by omega), if_neg (by omega), if_neg (by omega), if_neg (by omega), if_neg (by omega), if_neg (by omega), if_neg (by omega), if_neg (by omega)]
theorem byteAt_here {L : List Bool} {b : Bool} : byteAt (L ++ [b]) (L.length / 8) = byteAt L (L.length / 8) + bitN b * 2 ^ (L.length % 8) ∧ byteAt L (L.length / 8) < 2 ^ (L.length % 8) := by
  obtain ⟨j, r, hr, hL, h1, h2⟩ : ∃ j r, r < 8 ∧ L.length = 8 * j + r ∧ L.length / 8 = j ∧ L.length % 8 = r := ⟨L.length / 8, L.length % 8, Nat.mod_lt _ (by decide), by omega, rfl, rfl⟩
  rw [h1, h2]
  have ge : ∀ k, 8 * j + r ≤ k → bitAt L k = false := fun k hk => bitAt_ge (by omega)
  have l0 := bitN_lt (bitAt L (8 * j))
  have l1 := bitN_lt (bitAt L (8 * j + 1))
  have l2 := bitN_lt (bitAt L (8 * j + 2))
  have l3 := bitN_lt (bitAt L (8 * j + 3))
  have l4 := bitN_lt (bitAt L (8 * j + 4))
  have l5 := bitN_lt (bitAt L (8 * j + 5))
  have l6 := bitN_lt (bitAt L (8 * j + 6))
  have z : bitN false = 0 := rfl
  unfold byteAt
  simp only [bitAt_snoc, hL]
  have : r = 0 ∨ r = 1 ∨ r = 2 ∨ r = 3 ∨ r = 4 ∨ r = 5 ∨ r = 6 ∨ r = 7 := by omega
  rcases this with rfl | rfl | rfl | rfl | rfl | rfl | rfl | rfl
  · rw [ge (8 * j) (by omega), ge (8 * j + 1) (by omega), ge (8 * j + 2) (by omega), ge (8 * j + 3) (by omega), ge (8 * j + 4) (by omega), ge (8 * j + 5) (by omega), ge (8 * j + 6) (by omega), ge (8 * j + 7) (by omega), z]
    simp [z]
  · rw [ge (8 * j + 1) (by omega), ge (8 * j + 2) (by omega), ge (8 * j + 3) (by omega), ge (8 * j + 4) (by omega), ge (8 * j + 5) (by omega), ge (8 * j + 6) (by omega), ge (8 * j + 7) (by omega), z]
    simp [z]; omega
  · rw [ge (8 * j + 2) (by omega), ge (8 * j + 3) (by omega), ge (8 * j + 4) (by omega), ge (8 * j + 5) (by omega), ge (8 * j + 6) (by omega), ge (8 * j + 7) (by omega), z]
    simp [z]; omega
  · rw [ge (8 * j + 3) (by omega), ge (8 * j + 4) (by omega), ge (8 * j + 5) (by omega), ge (8 * j + 6) (by omega), ge (8 * j + 7) (by omega), z]
    simp [z]; omega
  · rw [ge (8 * j + 4) (by omega), ge (8 * j + 5) (by omega), ge (8 * j + 6) (by omega), ge (8 * j + 7) (by omega), z]
    simp [z]; omega
  · rw [ge (8 * j + 5) (by omega), ge (8 * j + 6) (by omega), ge (8 * j + 7) (by omega), z]
    simp [z]; omega
  · rw [ge (8 * j + 6) (by omega), ge (8 * j + 7) (by omega), z]
    simp [z]; omega
  · rw [ge (8 * j + 7) (by omega), z]
    simp [z]; omega
theorem packM_len (L : List Bool) : (packM L).length = (L.length + 7) / 8 := by simp [packM]
theorem packP_len (L : List Bool) : (packP L).length = L.length / 8 + 1 := by simp [packP]
theorem packP_at (L : List Bool) : (packP L)[L.length / 8]? = some (byteAt L (L.length / 8) : Int) := by
  simp [packP]
theorem packM_snoc (L : List Bool) (b : Bool) : packM (L ++ [b]) = (packP L).set (L.length / 8) ((byteAt L (L.length / 8) + bitN b * 2 ^ (L.length % 8) : Nat) : Int) := by
  refine List.ext_getElem? fun i => ?_
  rw [List.getElem?_set]
  unfold packM packP
  simp only [List.length_append, List.length_cons, List.length_nil, List.length_map, List.length_range, List.getElem?_map]
  have e : (L.length + (0 + 1) + 7) / 8 = L.length / 8 + 1 := by omega
  rw [e]
  split
  · rename_i h
    subst h
    rw [if_pos (by omega), List.getElem?_range (by omega)]
    simp only [Option.map_some]
    rw [byteAt_here.1]
  · rename_i h
    rcases Nat.lt_or_ge i (L.length / 8 + 1) with hi | hi
    · rw [List.getElem?_range hi]
      simp only [Option.map_some]
      rw [byteAt_other (fun h2 => h h2.symm)]
    · rw [List.getElem?_eq_none (by simpa using hi)]
      rfl
theorem packP_0 {L : List Bool} (h : L.length % 8 = 0) : packP L = packM L ++ [0] := by
  unfold packP packM
  have e : (L.length + 7) / 8 = L.length / 8 := by omega
  rw [e, List.range_succ, List.map_append]
  have : byteAt L (L.length / 8) = 0 := by
    have := (byteAt_here (L := L) (b := false)).2
    rw [h] at this
    omega
  simp [this]
theorem packP_n {L : List Bool} (h : L.length % 8 ≠ 0) : packP L = packM L := by
  unfold packP packM
  have e : (L.length + 7) / 8 = L.length / 8 + 1 := by omega
  rw [e]
theorem byteAt_le (L : List Bool) (j : Nat) : byteAt L j ≤ 255 := by
  have l0 := bitN_lt (bitAt L (8 * j))
  have l1 := bitN_lt (bitAt L (8 * j + 1))
  have l2 := bitN_lt (bitAt L (8 * j + 2))
  have l3 := bitN_lt (bitAt L (8 * j + 3))
  have l4 := bitN_lt (bitAt L (8 * j + 4))
  have l5 := bitN_lt (bitAt L (8 * j + 5))
  have l6 := bitN_lt (bitAt L (8 * j + 6))
  have l7 := bitN_lt (bitAt L (8 * j + 7))
  unfold byteAt
  omega
theorem or_byte : ∀ r : Fin 8, ∀ b : Fin 2, ∀ x : Fin 128, x.val < 2 ^ r.val → bOr .u8 ((x.val : Nat) : Int) (shL .u8 ((b.val : Nat) : Int) ((r.val : Nat) : Int)) = ((x.val + b.val * 2 ^ r.val : Nat) : Int) := by decide +kernel
theorem shR_div {v : Int} {i : Nat} (h0 : 0 ≤ v) (hi : i ≤ 64) : shR .u64 v (i : Int) = ((v.toNat / 2 ^ i : Nat) : Int) := by
  unfold shR
  rw [Int.toNat_natCast, show min i (IntKind.bits .u64) = i from Nat.min_eq_left hi]
  obtain ⟨n, rfl⟩ := Int.eq_ofNat_of_zero_le h0
  rw [Int.fdiv_eq_ediv_of_nonneg _ (by exact_mod_cast Nat.zero_le (2 ^ i))]
  simp
theorem and_one {x : Int} (h0 : 0 ≤ x) (h1 : x ≤ 18446744073709551615) : bAnd .u64 x 1 = x % 2 := by
  unfold bAnd
  rw [BitVec.toNat_and, BitVec.toNat_ofInt, BitVec.toNat_ofInt]
  have e1 : (1 % ((2 ^ IntKind.bits .u64 : Nat) : Int)).toNat = 1 := by decide
  have e2 : (x % ((2 ^ IntKind.bits .u64 : Nat) : Int)).toNat = x.toNat := by
    have : ((2 ^ IntKind.bits .u64 : Nat) : Int) = 18446744073709551616 := by decide
    rw [this]; omega
  rw [e1, e2, Nat.and_one_is_mod]
  rw [IntKind.wrap_u64]
  omega
theorem bit_at {v : Int} {i : Nat} (h0 : 0 ≤ v) (h1 : v ≤ 18446744073709551615) (hi : i ≤ 64) : IntKind.wrap .u8 (bAnd .u64 (shR .u64 v (i : Int)) 1) = (bitN (v.toNat.testBit i) : Int) := by
  have hd : v.toNat / 2 ^ i ≤ v.toNat := Nat.div_le_self _ _
  rw [shR_div h0 hi, Nat.testBit_eq_decide_div_mod_eq]
  generalize v.toNat / 2 ^ i = q at hd
  rw [and_one (by omega) (by omega)]
  have : q % 2 = 0 ∨ q % 2 = 1 := by omega
  rcases this with h | h
  · have e : (q : Int) % 2 = 0 := by omega
    rw [e, h]; decide
  · have e : (q : Int) % 2 = 1 := by omega
    rw [e, h]; decide
end Go.Proofs.YtchhhjlpnecjkaaGreat
namespace Go.Proofs.YtchhhjlpnecjkaaGreat
open Go Go.RowKit Go.Proofs.YtchhhjlpnecjkaaGreat.Den
variable {R : Type} {Q : R → World → Prop} {w : World}
theorem bytes_ty : SlTy Tryz.prog 22 5 u8T 1 := slTy (by kernel_rfl)
def Wr (b : Nat) (L : List Bool) : OB := fun F w => L.length ≤ 1048576 ∧ F b ∧ ∃ s : Sl, Blk w b 154 [.slice s.a s.n s.c, .int .i64 (L.length : Int)] ∧ Own (fun k => F k ∧ k ≠ b) w 5 u8T s (packM L)
theorem Wr.st {b : Nat} {L : List Bool} : St (Wr b L) := fun ⟨h1, h2, s, h3, h4⟩ f hs =>
  ⟨h1, (hs b h3.lt h2).2, s, h3.fr f (hs b h3.lt h2).1, Own.st h4 f fun k hk e => ⟨(hs k hk e.1).1, (hs k hk e.1).2, e.2⟩⟩
theorem spec_bits_New {K : Res [.sc .ptr] → W R} (hk : ∀ b w', Wr b [] (Up w.heap.size) w' → Fr None w w' → K (some ⟨b, 0, none⟩) Q w') : callW Tryz.prog k_bits_New [] [.sc .ptr] K Q w := by
  refine C_bits_New K Q w ?_
  unfold F_bits_New
  refine newI fun w1 B1 f1 s1 => ?_
  exact hk _ w1 ⟨by simp, Nat.le_refl _, ⟨none, 0, 0⟩, B1, Own.nil _ _ _ _⟩ f1
def putB (L : List Bool) (v n : Int) : Int × List Bool :=
  if n < 0 ∨ 64 < n then (1, L) else if n < 64 ∧ v.toNat / 2 ^ n.toNat ≠ 0 then (5, L) else if 1048576 < (L.length : Int) + n then (3, L) else (0, L ++ bitsOf v.toNat n.toNat)
theorem spec_bits_Put {b : Nat} {L : List Bool} {F : Nat → Prop} (h : Wr b L F w) {v n : Int} (hv : 0 ≤ v ∧ v ≤ 18446744073709551615) (hn : -9223372036854775808 ≤ n ∧ n ≤ 9223372036854775807) {K : Res [.sc (.int .i64)] → W R} (hk : ∀ w', Wr b (putB L v n).2 (Ex F w) w' → Fr F w w' → K (putB L v n).1 Q w') :
    callW Tryz.prog k_bits_Writer_Put [.pointer (some ⟨b, 0, none⟩), .int .u64 v, .int .i64 n] [.sc (.int .i64)] K Q w := by
  refine C_bits_Writer_Put _ _ _ K Q w ?_
  unfold F_bits_Writer_Put
  have same : Wr b L (Ex F w) w := Wr.st.mono h fun k _ e => .inl e
  have hlen := h.1
  obtain ⟨_, hb, s0, B0, _⟩ := h
  refine condF rfl ?_
  refine joinI (fun z w' => z = decide (n < 0 ∨ 64 < n) ∧ w' = w) ?_ ?_
  · refine condD (fun h => ⟨by simp [h], rfl⟩) fun h => ⟨?_, rfl⟩
    simp only [h, false_or]
  rintro z w1 ⟨rfl, rfl⟩
  refine condD (fun h1 => ?_) fun h1 => ?_
  · have e : putB L v n = (1, L) := by rw [putB, if_pos h1]
    rw [e] at hk
    exact hk _ same (Fr.refl _ _)
  have e1 : putB L v n = if n < 64 ∧ v.toNat / 2 ^ n.toNat ≠ 0 then (5, L) else if 1048576 < (L.length : Int) + n then (3, L) else (0, L ++ bitsOf v.toNat n.toNat) := by rw [putB, if_neg h1]
  rw [e1] at hk
  clear e1
  have hn0 : 0 ≤ n ∧ n ≤ 64 := by omega
  clear hn
  obtain ⟨m, rfl⟩ := Int.eq_ofNat_of_zero_le hn0.1
  rw [Int.toNat_natCast] at hk
  refine joinI (fun z w' => z = decide ((m : Int) < 64 ∧ v.toNat / 2 ^ m ≠ 0) ∧ w' = w1) ?_ ?_
  · refine condD (fun h => chkI hn0.1 ⟨?_, rfl⟩) fun h => ⟨by simp [h], rfl⟩
    rw [shR_div hv.1 (by omega)]
    generalize v.toNat / 2 ^ m = q
    by_cases hq : q = 0
    · simp [hq]
    · have : ¬ (q : Int) = 0 := by omega
      simp [hq, h]
  rintro z w2 ⟨rfl, rfl⟩
  refine condD (fun h2 => ?_) fun h2 => ?_
  · rw [if_pos h2] at hk
    exact hk _ same (Fr.refl _ _)
  rw [if_neg h2] at hk
  refine ptrI (fldI B0 (i := 1) (x := (L.length : Int)) rfl ?_)
  rw [w64 (by omega)]
  refine condD (fun h3 => ?_) fun h3 => ?_
  · rw [if_pos h3] at hk
    exact hk _ same (Fr.refl _ _)
  have h3 : ¬ (1048576 : Int) < (L.length : Int) + m := h3
  rw [if_neg h3] at hk
  refine forI (N := m) (fun s : Int => s) (fun j i w' => i = (j : Int) ∧ Wr b (L ++ bitsOf v.toNat j) (Ex F w2) w' ∧ Fr F w2 w') ⟨rfl, by rw [bitsOf, List.append_nil]; exact same, Fr.refl _ _⟩ (fun j s w' h => h.1) ?_ ?_
  · rintro j i w3 K' hj ⟨rfl, hw, f3⟩ - hK
    have hs3 := f3.size
    obtain ⟨L1, hL1⟩ : ∃ L1, L ++ bitsOf v.toNat j = L1 := ⟨_, rfl⟩
    have hl1 : L1.length = L.length + j := by rw [← hL1, List.length_append, bitsOf_len]
    have hnext : L ++ bitsOf v.toNat (j + 1) = L1 ++ [v.toNat.testBit j] := by rw [bitsOf, ← List.append_assoc, hL1]
    rw [hL1] at hw
    obtain ⟨_, hb3, s3, B3, o3⟩ := hw
    refine ptrI (fldI B3 (i := 1) (x := (L1.length : Int)) rfl ?_)
    have hmod : Int.tmod (L1.length : Int) 8 = ((L1.length % 8 : Nat) : Int) := by rw [Int.tmod_eq_emod_of_nonneg (by omega)]; omega
    have hdiv : Int.tdiv (L1.length : Int) 8 = ((L1.length / 8 : Nat) : Int) := by rw [Int.tdiv_eq_ediv_of_nonneg (by omega)]; omega
    refine joinI (fun (_ : Unit) w' => ∃ s4 : Sl, Blk w' b 154 [.slice s4.a s4.n s4.c, .int .i64 (L1.length : Int)] ∧ Own (fun k => Ex F w2 k ∧ k ≠ b) w' 5 u8T s4 (packP L1) ∧ Fr F w2 w') ?_ ?_
    · rw [hmod]
      refine condI (fun hz => ?_) fun hz => ?_
      · have hz : L1.length % 8 = 0 := by
          have : ((L1.length % 8 : Nat) : Int) = 0 := by simpa using hz
          omega
        refine ptrI (fldI B3 (i := 0) (x := s3) rfl ?_)
        have hpl := packM_len L1
        refine appP (x := (0 : Int)) bytes_ty rfl o3 (fun k e => ⟨.inr (by omega), fun e2 => by have := B3.lt; omega⟩) (by omega) (by omega) fun r w4 o4 f4 => ?_
        have B4 := B3.fr f4 fun e => (o3.own b e).2 rfl
        have f24 : Fr F w2 w4 := f3.exS f4 fun k e => (o3.own k e).1
        refine ptrI ?_
        rw [add_lit]
        refine setI (i := 0) B4 (Nat.zero_lt_succ _) rfl fun w5 B5 f5 s5 => ?_
        refine ⟨r, B5, ?_, f24.exS f5 fun k e => by rw [e]; exact .inl hb⟩
        rw [packP_0 hz]
        exact o4.fr f5 fun k e e2 => e.2 e2
      · have hz : L1.length % 8 ≠ 0 := by
          intro e
          rw [e] at hz
          simp at hz
        exact ⟨s3, B3, by rw [packP_n hz]; exact o3, f3⟩
    · rintro _ w4 ⟨s4, B4, o4, f4⟩
      have fd : Fr None w4 w4.drew := (Fr.refl _ _).drew
      have B4 := B4.fr fd fun h => h
      have o4 := o4.none fd
      have f4 := f4.then0 fd
      have hpl := packP_len L1
      refine ptrI (fldI B4 (i := 0) (x := s4) rfl (ptrI (fldI B4 (i := 1) (x := (L1.length : Int)) rfl ?_)))
      rw [hdiv, w64 (by omega)]
      refine o4.idx rfl (by omega) (by omega) fun g x hg hx hrd => ldI x hrd ?_
      rw [Int.toNat_natCast, packP_at] at hx
      cases hx
      refine chkI (by omega) (ptrI (fldI B4 (i := 1) (x := (L1.length : Int)) rfl ?_))
      rw [hmod]
      refine chkI (by omega) (o4.idx rfl (by omega) (by omega) fun g2 x2 hg2 _ _ => ?_)
      rw [hg] at hg2
      cases hg2
      have hbit := bit_at (i := j) hv.1 hv.2 (by omega)
      rw [hbit]
      have hlt := byteAt_here (L := L1) (b := false)
      have hor : bOr .u8 (byteAt L1 (L1.length / 8) : Int) (shL .u8 (bitN (v.toNat.testBit j) : Int) ((L1.length % 8 : Nat) : Int)) = ((byteAt L1 (L1.length / 8) + bitN (v.toNat.testBit j) * 2 ^ (L1.length % 8) : Nat) : Int) :=
        or_byte ⟨L1.length % 8, Nat.mod_lt _ (by decide)⟩ ⟨bitN (v.toNat.testBit j), by have := bitN_lt (v.toNat.testBit j); omega⟩ ⟨byteAt L1 (L1.length / 8), by
          have h1 := hlt.2
          have h2 : (2 : Nat) ^ (L1.length % 8) ≤ 2 ^ 7 := Nat.pow_le_pow_right (by decide) (by omega)
          omega⟩ hlt.2
      rw [hor, Int.toNat_natCast]
      refine o4.set rfl (i := L1.length / 8) (by omega) hg _ fun w5 o5 f5 s5 => ?_
      rw [← packM_snoc, ← hnext] at o5
      have B5 := B4.fr f5 fun e => (o4.own b e).2 rfl
      refine ptrI (fldI B5 (i := 1) (x := (L1.length : Int)) rfl (ptrI ?_))
      rw [add_lit]
      refine setI (i := 1) B5 (by simp) rfl fun w6 B6 f6 s6 => ?_
      refine hK _ _ ⟨wsucc hj (by omega), ⟨?_, .inl hb, s4, ?_, o5.fr f6 fun k e e2 => e.2 e2⟩, (f4.exS f5 fun k e => (o4.own k e).1).exS f6 fun k e => by rw [e]; exact .inl hb⟩
      · rw [hnext, List.length_append, hl1]; simp; omega
      · rw [hnext, List.length_append]
        have : IntKind.wrap .i64 ((L1.length : Int) + 1) = ((L1.length + 1 : Nat) : Int) := by rw [w64 (by omega)]; rfl
        rw [this] at B6
        exact B6
  · rintro i w3 ⟨rfl, hw, f3⟩
    exact hk _ hw f3
theorem spec_bits_Len {b : Nat} {L : List Bool} {F : Nat → Prop} (h : Wr b L F w) {K : Res [.sc (.int .i64)] → W R} (hk : K (L.length : Int) Q w) : callW Tryz.prog k_bits_Writer_Len [.pointer (some ⟨b, 0, none⟩)] [.sc (.int .i64)] K Q w := by
  refine C_bits_Writer_Len _ K Q w ?_
  unfold F_bits_Writer_Len
  obtain ⟨_, _, s, B, _⟩ := h
  exact condF rfl (ptrI (fldI B (i := 1) (x := (L.length : Int)) rfl hk))
end Go.Proofs.YtchhhjlpnecjkaaGreat
namespace Go.Proofs.YtchhhjlpnecjkaaGreat
open Go Go.RowKit Go.Shelf Go.Proofs.YtchhhjlpnecjkaaGreat.Den
variable {R : Type} {Q : R → World → Prop} {w : World}
def len64Ren : Ren where
  f := fun x => match x with
    | 129 => 163
    | n => n
  t := fun x => match x with
    | 46 => 122
    | 3 => 3
    | 53 => 81
    | 4 => 4
    | 5 => 5
    | 9 => 9
    | n => n
  g := fun n => n
theorem len64Lays : Lays.n129 Tryz.prog len64Ren :=
  { mixed := rfl, f129 := Eq.trans Tryz.func163 rfl, t3 := Tryz.underlying3,
    a3 := Tryz.isAgg3, z3 := Tryz.sizeOf3, v3 := Tryz.zeroValue3, t4 := Tryz.underlying4, a4 := Tryz.isAgg4, z4 := Tryz.sizeOf4,
    v4 := Tryz.zeroValue4, t5 := Tryz.underlying5, a5 := Tryz.isAgg5, z5 := Tryz.sizeOf5, v5 := Tryz.zeroValue5,
    t9 := Tryz.underlying9, a9 := Tryz.isAgg9, z9 := Tryz.sizeOf9, v9 := Tryz.zeroValue9, t46 := Tryz.underlying122,
    a46 := Tryz.isAgg122, z46 := Tryz.sizeOf122, v46 := Tryz.zeroValue122, t53 := Tryz.underlying81, a53 := Tryz.isAgg81, z53 := Tryz.sizeOf81,
    v53 := Tryz.zeroValue81 }
theorem spec_Len64 {x : Int} (h0 : 0 ≤ x) (h1 : x ≤ 18446744073709551615) {K : Res [.sc (.int .i64)] → W R} (hk : K (Lib.bitLen x.toNat : Int) Q w) : callW Tryz.prog k_math_bits_Len64 [.int .u64 x] [.sc (.int .i64)] K Q w :=
  (Any.bits_Len64 len64Lays x w h0 h1).mono fun e w' ⟨h1, h2⟩ => by
    subst h2
    exact ⟨_, h1, hk⟩
theorem wU64 {x : Int} (h : 0 ≤ x ∧ x ≤ 18446744073709551615) : IntKind.wrap .u64 x = x := by rw [IntKind.wrap_u64]; omega
def groupsM (v : Nat) : Nat := max 1 ((Lib.bitLen v + 3) / 4)
theorem groupsM_le {v : Int} (h0 : 0 ≤ v) (h1 : v ≤ 18446744073709551615) : 1 ≤ groupsM v.toNat ∧ groupsM v.toNat ≤ 16 := by
  have := Any.bitLen_le64 v h0 h1
  unfold groupsM
  omega
theorem spec_nums_groups {v : Int} (h0 : 0 ≤ v) (h1 : v ≤ 18446744073709551615) {K : Res [.sc (.int .i64)] → W R} (hk : K (groupsM v.toNat : Int) Q w) : callW Tryz.prog k_nums_groups [.int .u64 v] [.sc (.int .i64)] K Q w := by
  refine C_nums_groups _ K Q w ?_
  unfold F_nums_groups
  refine spec_Len64 h0 h1 ?_
  have hb := Any.bitLen_le64 v h0 h1
  have e : (if IntKind.wrap .i64 (Int.tdiv (IntKind.wrap .i64 (IntKind.wrap .i64 ((Lib.bitLen v.toNat : Int) + 4) - 1)) 4) > 1 then IntKind.wrap .i64 (Int.tdiv (IntKind.wrap .i64 (IntKind.wrap .i64 ((Lib.bitLen v.toNat : Int) + 4) - 1)) 4) else 1) = (groupsM v.toNat : Int) := by
    rw [w64 (x := (Lib.bitLen v.toNat : Int) + 4) (by omega), w64 (x := (Lib.bitLen v.toNat : Int) + 4 - 1) (by omega), Int.tdiv_eq_ediv_of_nonneg (by omega), w64 (by omega)]
    unfold groupsM
    split <;> omega
  rw [← e] at hk
  exact hk
def grpV (v n j : Nat) : Nat := v / 2 ^ (4 * j) % 16 + if j + 1 < n then 16 else 0
def varL (v n : Nat) : Nat → List Bool
  | 0 => []
  | j + 1 => varL v n j ++ bitsOf (grpV v n j) 5
theorem varL_len (v n : Nat) : ∀ j, (varL v n j).length = 5 * j
  | 0 => rfl
  | j + 1 => by rw [varL, List.length_append, varL_len v n j, bitsOf_len]; omega
def varB (v : Nat) : List Bool := varL v (groupsM v) (groupsM v)
theorem varB_len (v : Nat) : (varB v).length = 5 * groupsM v := varL_len _ _ _
def putVarM (L : List Bool) (v : Nat) : Int × List Bool := if 1048576 < L.length + 5 * groupsM v then (3, L) else (0, L ++ varB v)
theorem and_15 {x : Int} (h0 : 0 ≤ x) (h1 : x ≤ 18446744073709551615) : bAnd .u64 x 15 = x % 16 := by
  unfold bAnd
  rw [BitVec.toNat_and, BitVec.toNat_ofInt, BitVec.toNat_ofInt]
  have e1 : (15 % ((2 ^ IntKind.bits .u64 : Nat) : Int)).toNat = 2 ^ 4 - 1 := by decide
  have e2 : (x % ((2 ^ IntKind.bits .u64 : Nat) : Int)).toNat = x.toNat := by
    have : ((2 ^ IntKind.bits .u64 : Nat) : Int) = 18446744073709551616 := by decide
    rw [this]; omega
  rw [e1, e2, Nat.and_two_pow_sub_one_eq_mod]
  rw [IntKind.wrap_u64]
  omega
theorem or_16 : ∀ x : Fin 16, bOr .u64 ((x.val : Nat) : Int) 16 = ((x.val + 16 : Nat) : Int) := by decide +kernel
theorem grpV_lt (v n j : Nat) : grpV v n j < 32 := by unfold grpV; split <;> omega
theorem spec_nums_PutVar {b : Nat} {L : List Bool} {F : Nat → Prop} (h : Wr b L F w) {v : Int} (hv : 0 ≤ v ∧ v ≤ 18446744073709551615) {K : Res [.sc (.int .i64)] → W R} (hk : ∀ w', Wr b (putVarM L v.toNat).2 (Ex F w) w' → Fr F w w' → K (putVarM L v.toNat).1 Q w') :
    callW Tryz.prog k_nums_PutVar [.pointer (some ⟨b, 0, none⟩), .int .u64 v] [.sc (.int .i64)] K Q w := by
  refine C_nums_PutVar _ _ K Q w ?_
  unfold F_nums_PutVar
  obtain ⟨hg1, hg2⟩ := groupsM_le hv.1 hv.2
  have hlen := h.1
  refine spec_nums_groups hv.1 hv.2 (condF rfl (spec_bits_Len h ?_))
  obtain ⟨g, hg⟩ : ∃ g, groupsM v.toNat = g := ⟨_, rfl⟩
  unfold putVarM varB at hk
  rw [hg] at hg1 hg2 hk ⊢
  rw [w64 (x := (g : Int) * 5) (by omega), w64 (by omega)]
  refine condD (fun h3 => ?_) fun h3 => ?_
  · have h3 : (1048576 : Int) < (L.length : Int) + (g : Int) * 5 := h3
    rw [if_pos (by omega)] at hk
    exact hk w (Wr.st.mono h fun k _ e => .inl e) (Fr.refl _ _)
  have h3 : ¬ (1048576 : Int) < (L.length : Int) + (g : Int) * 5 := h3
  rw [if_neg (by omega)] at hk
  refine forI (N := g) (fun s : Int => s) (fun j i w' => i = (j : Int) ∧ Wr b (L ++ varL v.toNat g j) (Ex F w) w' ∧ Fr F w w') ⟨rfl, by rw [varL, List.append_nil]; exact Wr.st.mono h fun k _ e => .inl e, Fr.refl _ _⟩ (fun j s w' h => h.1) ?_ ?_
  · rintro j i w3 K' hj ⟨rfl, hw, f3⟩ - hK
    have hs3 := f3.size
    rw [w64 (x := 4 * (j : Int)) (by omega), w64 (x := (g : Int) - 1) (by omega)]
    refine chkI (by omega) ?_
    have e4 : (4 * (j : Int)) = ((4 * j : Nat) : Int) := by omega
    have hd : v.toNat / 2 ^ (4 * j) ≤ v.toNat := Nat.div_le_self _ _
    have ea : bAnd .u64 (shR .u64 v (4 * (j : Int))) 15 = ((v.toNat / 2 ^ (4 * j) % 16 : Nat) : Int) := by
      rw [e4, shR_div hv.1 (by omega)]
      generalize v.toNat / 2 ^ (4 * j) = q at hd
      rw [and_15 (by omega) (by omega)]
      omega
    refine joinI (fun z w' => z = (grpV v.toNat g j : Int) ∧ w' = w3) ?_ ?_
    · refine condD (fun h => ⟨?_, rfl⟩) fun h => ⟨?_, rfl⟩
      · rw [ea, or_16 ⟨v.toNat / 2 ^ (4 * j) % 16, Nat.mod_lt _ (by decide)⟩]
        unfold grpV
        rw [if_pos (by omega)]
      · rw [ea]
        unfold grpV
        rw [if_neg (by omega), Nat.add_zero]
    rintro z w4 ⟨rfl, rfl⟩
    have hlt := grpV_lt v.toNat g j
    have hll := varL_len v.toNat g j
    have ep : putB (L ++ varL v.toNat g j) (grpV v.toNat g j : Int) 5 = (0, L ++ varL v.toNat g (j + 1)) := by
      rw [putB, if_neg (by omega), if_neg, if_neg (by rw [List.length_append, hll]; omega)]
      · rw [Int.toNat_natCast, show (5 : Int).toNat = 5 from rfl, varL, List.append_assoc]
      · rintro ⟨_, h⟩
        apply h
        rw [Int.toNat_natCast, show (5 : Int).toNat = 5 from rfl]
        exact Nat.div_eq_of_lt (by omega)
    refine spec_bits_Put hw (v := (grpV v.toNat g j : Int)) (n := 5) (by omega) (by omega) fun w5 hw5 f5 => ?_
    rw [ep] at hw5
    have hs5 := f5.size
    refine hK _ _ ⟨wsucc hj (by omega), Wr.st.mono hw5 fun k _ e => ?_, f3.exS f5 fun k e => e⟩
    rcases e with e | e
    · exact e
    · exact .inr (by omega)
  · rintro i w3 ⟨rfl, hw, f3⟩
    exact hk _ hw f3
def widthM (lo hi : Int) : Nat := if hi < lo then 0 else Lib.bitLen (hi - lo).toNat
theorem w64_range {lo hi : Int} (h1 : -9223372036854775808 ≤ lo) (h2 : lo ≤ hi) (h3 : hi ≤ 9223372036854775807) : IntKind.wrap .u64 (IntKind.wrap .u64 hi - IntKind.wrap .u64 lo) = hi - lo := by
  rw [IntKind.wrap_u64, IntKind.wrap_u64, IntKind.wrap_u64]
  omega
theorem spec_nums_Width {lo hi : Int} (h1 : -9223372036854775808 ≤ lo ∧ lo ≤ 9223372036854775807) (h2 : -9223372036854775808 ≤ hi ∧ hi ≤ 9223372036854775807) {K : Res [.sc (.int .i64)] → W R} (hk : K (widthM lo hi : Int) Q w) : callW Tryz.prog k_nums_Width [.int .i64 lo, .int .i64 hi] [.sc (.int .i64)] K Q w := by
  refine C_nums_Width _ _ K Q w ?_
  unfold F_nums_Width
  unfold widthM at hk
  refine condD (fun h => ?_) fun h => ?_
  · rw [if_pos h] at hk
    exact hk
  · rw [if_neg h] at hk
    rw [w64_range h1.1 (by omega) h2.2]
    exact spec_Len64 (by omega) (by omega) hk
def putInM (L : List Bool) (n lo hi : Int) : Int × List Bool := if hi < lo then (1, L) else if n < lo ∨ hi < n then (5, L) else putB L (n - lo) (widthM lo hi)
theorem spec_nums_PutIn {b : Nat} {L : List Bool} {F : Nat → Prop} (h : Wr b L F w) {n lo hi : Int} (h1 : -9223372036854775808 ≤ lo ∧ lo ≤ 9223372036854775807) (h2 : -9223372036854775808 ≤ hi ∧ hi ≤ 9223372036854775807) {K : Res [.sc (.int .i64)] → W R}
    (hk : ∀ w', Wr b (putInM L n lo hi).2 (Ex F w) w' → Fr F w w' → K (putInM L n lo hi).1 Q w') :
    callW Tryz.prog k_nums_PutIn [.pointer (some ⟨b, 0, none⟩), .int .i64 n, .int .i64 lo, .int .i64 hi] [.sc (.int .i64)] K Q w := by
  refine C_nums_PutIn _ _ _ _ K Q w ?_
  unfold F_nums_PutIn
  unfold putInM at hk
  have same : Wr b L (Ex F w) w := Wr.st.mono h fun k _ e => .inl e
  refine condF rfl (condD (fun h3 => ?_) fun h3 => ?_)
  · rw [if_pos h3] at hk
    exact hk _ same (Fr.refl _ _)
  rw [if_neg h3] at hk
  refine joinI (fun z w' => z = decide (n < lo ∨ hi < n) ∧ w' = w) ?_ ?_
  · refine condD (fun h => ⟨by simp [h], rfl⟩) fun h => ⟨?_, rfl⟩
    simp [h]
  rintro z w1 ⟨rfl, rfl⟩
  refine condD (fun h4 => ?_) fun h4 => ?_
  · rw [if_pos h4] at hk
    exact hk _ same (Fr.refl _ _)
  rw [if_neg h4] at hk
  refine spec_nums_Width h1 h2 ?_
  rw [w64_range (lo := lo) (hi := n) h1.1 (by omega) (by omega)]
  have hw : (widthM lo hi : Int) ≤ 64 := by
    unfold widthM
    split
    · decide
    · have := Any.bitLen_le64 (hi - lo) (by omega) (by omega)
      omega
  exact spec_bits_Put h (by omega) (by omega) hk
end Go.Proofs.YtchhhjlpnecjkaaGreat
namespace Go.Proofs.YtchhhjlpnecjkaaGreat
open Go Go.RowKit Go.Proofs.YtchhhjlpnecjkaaGreat.Den
variable {R : Type} {Q : R → World → Prop} {w : World}
theorem spec_bytes_Clone {ok : Nat → Prop} {s : Sl} {l : List Int} (hS : SlT ok w u8T s l) (hm : l.length ≤ 140737488355328) {K : Res [.sc .sl] → W R} (hk : ∀ r w', Own (Up w.heap.size) w' 5 u8T r l → Fr None w w' → K r Q w') :
    callW Tryz.prog k_bytes_Clone [.slice s.a s.n s.c] [.sc .sl] K Q w := by
  refine C_bytes_Clone s K Q w ?_
  unfold F_bytes_Clone
  refine condI (fun hn => ?_) fun _ => cloneI bytes_ty hS (by omega) (by omega) hk
  have : l = [] := by
    rcases hS.at_ with e | ⟨b, o, e, _⟩
    · exact e
    · rw [e] at hn; cases hn
  subst this
  exact hk ⟨none, 0, 0⟩ w (Own.nil _ _ _ _) (Fr.refl _ _)
theorem spec_bits_Bytes {b : Nat} {L : List Bool} {F : Nat → Prop} (h : Wr b L F w) {K : Res [.sc .sl] → W R} (hk : ∀ r w', Own (Up w.heap.size) w' 5 u8T r (packM L) → Fr None w w' → K r Q w') :
    callW Tryz.prog k_bits_Writer_Bytes [.pointer (some ⟨b, 0, none⟩)] [.sc .sl] K Q w := by
  refine C_bits_Writer_Bytes _ K Q w ?_
  unfold F_bits_Writer_Bytes
  obtain ⟨hl, _, s, B, o⟩ := h
  refine condF rfl (ptrI (fldI B (i := 0) (x := s) rfl (spec_bytes_Clone o.sl (by rw [packM_len]; omega) fun r w1 o1 f1 => hk r w1 o1 f1)))
def stepF (c : Int) : Int := if bAnd .u32 c 1 ≠ 0 then bXor .u32 (shR .u32 c 1) 3988292384 else shR .u32 c 1
theorem spec_frame_step {c : Int} {K : Res [.sc (.int .u32)] → W R} (hk : K (stepF c) Q w) : callW Tryz.prog k_frame_step [.int .u32 c] [.sc (.int .u32)] K Q w := by
  refine C_frame_step _ K Q w ?_
  unfold F_frame_step
  unfold stepF at hk
  refine condN (fun h => ?_) fun h => ?_
  · rw [if_pos h] at hk; exact hk
  · rw [if_neg (by omega)] at hk; exact hk
def stepsF : Nat → Int → Int
  | 0, c => c
  | n + 1, c => stepF (stepsF n c)
def byteF (c x : Int) : Int := stepsF 8 (bXor .u32 c (IntKind.wrap .u32 x))
def sumF (l : List Int) : Int := bXor .u32 4294967295 (l.foldl byteF 4294967295)
theorem spec_frame_Sum {ok : Nat → Prop} {s : Sl} {l : List Int} (hS : SlT ok w u8T s l) (hm : l.length ≤ 9223372036854775807) {K : Res [.sc (.int .u32)] → W R} (hk : K (sumF l) Q w) : callW Tryz.prog k_frame_Sum [.slice s.a s.n s.c] [.sc (.int .u32)] K Q w := by
  refine C_frame_Sum s K Q w ?_
  unfold F_frame_Sum
  have hlen := hS.len
  refine forI (N := s.n) (fun s : Int × Int => s.2) (fun j s w' => s = ((l.take j).foldl byteF 4294967295, (j : Int)) ∧ w' = w) ⟨rfl, rfl⟩ (fun j s w' h => by rw [h.1]) ?_ ?_
  · rintro j s1 w1 K' hj ⟨rfl, rfl⟩ - hK
    refine hS.get rfl rfl (by omega) fun x hx => ?_
    have e : (l.take (j + 1)).foldl byteF 4294967295 = byteF ((l.take j).foldl byteF 4294967295) x := by rw [take_at hx, List.foldl_append]; rfl
    generalize (l.take j).foldl byteF 4294967295 = c at e
    refine forI (N := 8) (fun s : Int × Int => s.2) (fun i s w' => s = (stepsF i (bXor .u32 c (IntKind.wrap .u32 x)), (i : Int)) ∧ w' = w1) ⟨rfl, rfl⟩ (fun j s w' h => by rw [h.1]) ?_ ?_
    · rintro i s2 w2 K2 hi ⟨rfl, rfl⟩ - hK2
      exact spec_frame_step (hK2 _ _ ⟨by rw [wsucc hi (by omega)]; rfl, rfl⟩)
    · rintro s2 w2 ⟨rfl, rfl⟩
      exact hK _ _ ⟨by rw [wsucc hj (by omega), e]; rfl, rfl⟩
  · rintro s1 w1 ⟨rfl, rfl⟩
    rw [List.take_of_length_le (by omega)]
    exact hk
theorem set_end {α : Type} (a : List α) (x y : α) (r : List α) {j : Nat} (h : j = a.length) : (a ++ x :: r).set j y = a ++ [y] ++ r := by
  subst h
  simp
def tailF (s : Int) : List Int := (List.range 4).map fun i : Nat => IntKind.wrap .u8 (shR .u32 s (8 * (i : Int)))
theorem spec_frame_tail {x : Int} {K : Res [.sc .sl] → W R} (hk : ∀ r w', Own (Up w.heap.size) w' 5 u8T r (tailF x) → Fr None w w' → K r Q w') :
    callW Tryz.prog k_frame_tail [.int .u32 x] [.sc .sl] K Q w := by
  refine C_frame_tail _ K Q w ?_
  unfold F_frame_tail
  refine makeI bytes_ty (z := (0 : Int)) (zv := .int .u8 0) (by kernel_rfl) rfl (n := 4) rfl (by decide) (by decide) fun w1 o1 f1 s1 => ?_
  refine forI (N := 4) (fun s : Int => s) (fun j i w' => i = (j : Int) ∧ Own (Up w.heap.size) w' 5 u8T ⟨some ⟨w.heap.size, 0, none⟩, 4, 4⟩ (((List.range j).map fun i : Nat => IntKind.wrap .u8 (shR .u32 x (8 * (i : Int)))) ++ List.replicate (4 - j) 0) ∧ Fr None w w') ⟨rfl, o1.mono fun k _ e => by show w.heap.size ≤ k; omega, f1⟩ (fun j s w' h => h.1) ?_ ?_
  · rintro j i w2 K' hj ⟨rfl, o2, f2⟩ - hK
    rw [w64 (x := 8 * (j : Int)) (by omega)]
    refine chkI (by omega) (o2.idx rfl (by omega) (by simp; omega) fun g y hg _ _ => ?_)
    rw [Int.toNat_natCast]
    refine o2.set rfl (i := j) (by simp; omega) hg _ fun w3 o3 f3 s3 => ?_
    refine hK _ _ ⟨wsucc hj (by decide), ?_, f2.newer f3 fun k e => o2.own k e⟩
    have e : ((List.range j).map (fun i : Nat => IntKind.wrap .u8 (shR .u32 x (8 * (i : Int)))) ++ List.replicate (4 - j) 0).set j (IntKind.wrap .u8 (shR .u32 x (8 * (j : Int)))) = (List.range (j + 1)).map (fun i : Nat => IntKind.wrap .u8 (shR .u32 x (8 * (i : Int)))) ++ List.replicate (4 - (j + 1)) 0 := by
      have : 4 - j = (4 - (j + 1)) + 1 := by omega
      rw [this, List.replicate_succ, List.range_succ, List.map_append]
      exact set_end _ _ _ _ (by simp)
    rw [e] at o3
    exact o3
  · rintro i w2 ⟨_, o2, f2⟩
    have e : ((List.range 4).map (fun i : Nat => IntKind.wrap .u8 (shR .u32 x (8 * (i : Int)))) ++ List.replicate (4 - 4) 0) = tailF x := by simp [tailF]
    rw [e] at o2
    exact hk _ w2 o2 f2
def sealF (l : List Int) : List Int := l ++ tailF (sumF l)
theorem spec_frame_Seal {ok : Nat → Prop} {s : Sl} {l : List Int} (hS : SlT ok w u8T s l) (hm : l.length ≤ 140737488355000) {K : Res [.sc .sl, .sc (.int .i64)] → W R} (h1 : 4096 < l.length → K (⟨none, 0, 0⟩, 3) Q w) (hk : l.length ≤ 4096 → ∀ r w', Own (Up w.heap.size) w' 5 u8T r (sealF l) → Fr None w w' → K (r, 0) Q w') :
    callW Tryz.prog k_frame_Seal [.slice s.a s.n s.c] [.sc .sl, .sc (.int .i64)] K Q w := by
  refine C_frame_Seal s K Q w ?_
  unfold F_frame_Seal
  have hlen := hS.len
  refine condD (fun h => h1 (by omega)) fun h => ?_
  refine spec_bytes_Clone hS (by omega) fun r w2 o2 f2 => spec_frame_Sum (hS.fr0 f2) (by omega) (spec_frame_tail fun t w3 o3 f3 => ?_)
  have hs2 := f2.size
  have hs3 := f3.size
  refine appI bytes_ty (S' := Up w.heap.size) (o2.none f3) o3.sl (by simp [tailF]; omega) (by rw [maxLen_eq]; simp [tailF]; omega) (fun _ h => h) (by show w.heap.size ≤ _; omega) fun r2 w4 o4 f4 _ => ?_
  exact hk (by omega) r2 w4 o4 ((f2.then0 f3).newer f4 fun k e => o2.own k e)
end Go.Proofs.YtchhhjlpnecjkaaGreat
namespace Go.Proofs.YtchhhjlpnecjkaaGreat
open Go Go.RowKit Go.Proofs.YtchhhjlpnecjkaaGreat.Den
abbrev Ent := Int × List Comp
def kindsOf (m : Nat) : List Int := ((List.range 6).filter (Nat.testBit m)).map fun (k : Nat) => (k : Int)
abbrev F3 := Int × Int × Int
def fieldsOf (l : List Comp) (k : Int) : F3 := match l.find? (fun c => c.1 == k) with
  | some c => c.2
  | none => (0, 0, 0)
structure Valid (m : Nat) (l : List Comp) : Prop where
  list : listE l = 0
  mask : maskN l = m
abbrev Rising (l : List Int) : Prop := l.Pairwise (· < ·)
theorem rising_ext : ∀ {l k : List Int}, Rising l → Rising k → (∀ x, x ∈ l ↔ x ∈ k) → l = k
  | [], [], _, _, _ => rfl
  | [], y :: k, _, _, h => by have := (h y).2 List.mem_cons_self; simp at this
  | x :: l, [], _, _, h => by have := (h x).1 List.mem_cons_self; simp at this
  | x :: l, y :: k, hl, hk, h => by
    rw [Rising, List.pairwise_cons] at hl hk
    have hxy : x = y := by
      rcases List.mem_cons.1 ((h x).1 List.mem_cons_self) with e | e
      · exact e
      · rcases List.mem_cons.1 ((h y).2 List.mem_cons_self) with e2 | e2
        · exact e2.symm
        · have h1 := hk.1 x e
          have h2 := hl.1 y e2
          omega
    subst hxy
    congr 1
    refine rising_ext hl.2 hk.2 fun z => ⟨fun hz => ?_, fun hz => ?_⟩
    · rcases List.mem_cons.1 ((h z).1 (List.mem_cons_of_mem _ hz)) with e | e
      · have := hl.1 z hz; omega
      · exact e
    · rcases List.mem_cons.1 ((h z).2 (List.mem_cons_of_mem _ hz)) with e | e
      · have := hk.1 z hz; omega
      · exact e
theorem listM_0 : ∀ {l : List Comp} {last : Int}, listM last l = 0 ↔ (∀ c ∈ l, checkM c = 0 ∧ last < c.1) ∧ Rising (l.map (·.1))
  | [], _ => by simp [listM]
  | c :: r, last => by
    rw [listM]
    by_cases h1 : checkM c = 0
    · rw [if_neg (by simpa using h1)]
      by_cases h2 : c.1 ≤ last
      · rw [if_pos h2]
        simp
        intro h3
        omega
      · rw [if_neg h2, listM_0, List.map_cons, Rising, Rising, List.pairwise_cons]
        constructor
        · rintro ⟨h3, h4⟩
          refine ⟨fun x hx => ?_, fun y hy => ?_, h4⟩
          · rcases List.mem_cons.1 hx with rfl | hx
            · exact ⟨h1, by omega⟩
            · have := h3 x hx; exact ⟨this.1, by omega⟩
          · obtain ⟨x, hx, rfl⟩ := List.mem_map.1 hy
            exact (h3 x hx).2
        · rintro ⟨h3, h4, h5⟩
          exact ⟨fun x hx => ⟨(h3 x (List.mem_cons_of_mem _ hx)).1, h4 _ (List.mem_map_of_mem hx)⟩, h5⟩
    · rw [if_pos (by simpa using h1)]
      constructor
      · intro h; exact absurd h h1
      · rintro ⟨h3, _⟩; exact absurd (h3 c List.mem_cons_self).1 h1
theorem listE_0 {l : List Comp} : listE l = 0 ↔ (∀ c ∈ l, checkM c = 0) ∧ Rising (l.map (·.1)) := by
  unfold listE
  rw [listM_0]
  constructor
  · rintro ⟨h1, h2⟩; exact ⟨fun c hc => (h1 c hc).1, h2⟩
  · rintro ⟨h1, h2⟩; exact ⟨fun c hc => ⟨h1 c hc, by have := checkM_kind (h1 c hc); omega⟩, h2⟩
theorem has_iff {l : List Comp} {k : Nat} : has l k = true ↔ (k : Int) ∈ l.map (·.1) := by
  simp [has]
theorem kindsOf_mem {m : Nat} {x : Int} : x ∈ kindsOf m ↔ ∃ k : Nat, k < 6 ∧ Nat.testBit m k = true ∧ x = (k : Int) := by
  simp only [kindsOf, List.mem_map, List.mem_filter, List.mem_range]
  constructor
  · rintro ⟨k, ⟨h1, h2⟩, rfl⟩; exact ⟨k, h1, h2, rfl⟩
  · rintro ⟨k, h1, h2, rfl⟩; exact ⟨k, ⟨h1, h2⟩, rfl⟩
theorem kindsOf_rising (m : Nat) : Rising (kindsOf m) := by
  unfold kindsOf Rising
  rw [List.pairwise_map]
  refine (List.Pairwise.filter _ List.pairwise_lt_range).imp fun h => ?_
  exact Int.ofNat_lt.2 h
theorem Valid.kinds {m : Nat} {l : List Comp} (h : Valid m l) : l.map (·.1) = kindsOf m := by
  obtain ⟨h1, h2⟩ := listE_0.1 h.list
  refine rising_ext h2 (kindsOf_rising m) fun x => ?_
  rw [kindsOf_mem]
  constructor
  · intro hx
    obtain ⟨c, hc, rfl⟩ := List.mem_map.1 hx
    have hk := checkM_kind (h1 c hc)
    refine ⟨c.1.toNat, by omega, ?_, by omega⟩
    rw [← h.mask, maskN_bit l (by omega), has_iff, show ((c.1.toNat : Nat) : Int) = c.1 by omega]
    exact List.mem_map_of_mem hc
  · rintro ⟨k, hk, hb, rfl⟩
    rw [← h.mask, maskN_bit l hk, has_iff] at hb
    exact hb
theorem fieldsOf_mem {l : List Comp} (hr : Rising (l.map (·.1))) {c : Comp} (hc : c ∈ l) : fieldsOf l c.1 = c.2 := by
  unfold fieldsOf
  have : l.find? (fun x => x.1 == c.1) = some c := by
    induction l with
    | nil => simp at hc
    | cons x r ih =>
      rw [List.map_cons, Rising, List.pairwise_cons] at hr
      rcases List.mem_cons.1 hc with h | h
      · subst h; simp
      · have := hr.1 c.1 (List.mem_map_of_mem h)
        rw [List.find?_cons_of_neg (by simp; omega)]
        exact ih hr.2 h
  rw [this]
theorem Valid.rising {m : Nat} {l : List Comp} (h : Valid m l) : Rising (l.map (·.1)) := (listE_0.1 h.list).2
theorem Valid.eq {m : Nat} {l : List Comp} (h : Valid m l) : l = (kindsOf m).map fun k => (k, fieldsOf l k) := by
  have e1 : (kindsOf m).map (fun k => (k, fieldsOf l k)) = l.map fun c => (c.1, fieldsOf l c.1) := by
    rw [← h.kinds, List.map_map]; rfl
  rw [e1]
  have : l.map (fun c => (c.1, fieldsOf l c.1)) = l.map id := List.map_congr_left fun c hc => by rw [fieldsOf_mem h.rising hc]; rfl
  rw [this, List.map_id]
theorem Valid.mk' {m : Nat} (hm : m < 64) {g : Int → F3} (hc : ∀ k ∈ kindsOf m, checkM (k, g k) = 0) : Valid m ((kindsOf m).map fun k => (k, g k)) := by
  have e : ((kindsOf m).map fun k => ((k, g k) : Comp)).map (·.1) = kindsOf m := by rw [List.map_map]; exact List.map_id _
  constructor
  · rw [listE_0, e]
    refine ⟨fun c hc' => ?_, kindsOf_rising m⟩
    obtain ⟨k, hk, rfl⟩ := List.mem_map.1 hc'
    exact hc k hk
  · refine mask_ext (maskN_lt _) hm fun k hk => ?_
    rw [maskN_bit _ hk, Bool.eq_iff_iff, has_iff, e, kindsOf_mem]
    constructor
    · rintro ⟨q, _, hb, he⟩
      have : q = k := by omega
      subst this; exact hb
    · intro hb; exact ⟨k, hk, hb, rfl⟩
theorem Valid.small {m : Nat} {l : List Comp} (h : Valid m l) : l.length ≤ 6 := by
  have : (l.map (·.1)).length = l.length := List.length_map _
  rw [← this, h.kinds, kindsOf, List.length_map]
  exact List.length_filter_le _ (List.range 6)
theorem withG_done {c : Comp} : ∀ {l : List Comp}, (∀ x ∈ l, x.1 ≠ c.1) → withG c true l = l
  | [], _ => rfl
  | x :: r, h => by
    rw [withG, Bool.true_or, withG_done fun y hy => h y (List.mem_cons_of_mem _ hy)]
    simp [h x List.mem_cons_self]
theorem withM_put {c : Comp} : ∀ {l : List Comp}, Rising (l.map (·.1)) → c.1 ∈ l.map (·.1) → withM l c = l.map fun x => if x.1 = c.1 then c else x
  | [], _, h => by simp at h
  | x :: r, hr, hm => by
    rw [List.map_cons, Rising, List.pairwise_cons] at hr
    rw [withM, withG]
    by_cases h : x.1 = c.1
    · have hno : ∀ y ∈ r, y.1 ≠ c.1 := fun y hy e => by have := hr.1 y.1 (List.mem_map_of_mem hy); omega
      rw [List.map_cons, if_pos h]
      have : r.map (fun x => if x.1 = c.1 then c else x) = r := by
        have e : r.map (fun x => if x.1 = c.1 then c else x) = r.map id := List.map_congr_left fun y hy => by rw [if_neg (hno y hy)]; rfl
        rw [e, List.map_id]
      rw [this]
      have hge : decide (x.1 ≥ c.1) = true := decide_eq_true (by omega)
      rw [hge, Bool.or_true, withG_done (by simpa using hno)]
      simp [h]
    · have hm' : c.1 ∈ r.map (·.1) := by
        rcases List.mem_cons.1 hm with e | e
        · exact absurd e.symm h
        · exact e
      have hlt := hr.1 c.1 hm'
      have hge : decide (x.1 ≥ c.1) = false := decide_eq_false (by omega)
      rw [hge, List.map_cons, if_neg h]
      have ih := withM_put hr.2 hm'
      rw [withM] at ih
      simp [h, ih]
theorem withM_valid {m : Nat} (hm : m < 64) {l : List Comp} {c : Comp} (h : Valid m l) (hc : checkM c = 0) (hk : c.1 ∈ kindsOf m) : Valid m (withM l c) ∧ ∀ k ∈ kindsOf m, fieldsOf (withM l c) k = if k = c.1 then c.2 else fieldsOf l k := by
  have e1 := withM_put h.rising (c := c) (by rw [h.kinds]; exact hk)
  have e2 : withM l c = (kindsOf m).map fun k => (k, if k = c.1 then c.2 else fieldsOf l k) := by
    rw [e1]
    conv => lhs; rw [h.eq]
    rw [List.map_map]
    refine List.map_congr_left fun k _ => ?_
    simp only [Function.comp]
    split
    · rename_i e; rw [e]
    · rfl
  have hv : Valid m ((kindsOf m).map fun k => (k, if k = c.1 then c.2 else fieldsOf l k)) := Valid.mk' hm fun k hk2 => by
    split
    · rename_i e; subst e; exact hc
    · have : ((k, fieldsOf l k) : Comp) ∈ l := by rw [h.eq]; exact List.mem_map.2 ⟨k, hk2, by rw [← h.eq]⟩
      exact (listE_0.1 h.list).1 _ this
  rw [e2]
  refine ⟨hv, fun k hk2 => ?_⟩
  exact fieldsOf_mem hv.rising (c := (k, if k = c.1 then c.2 else fieldsOf l k)) (List.mem_map.2 ⟨k, hk2, rfl⟩)
def rowM (L : List Ent) (id : Int) : Option Nat := L.findIdx? (fun e => e.1 == id)
theorem rowM_none {L : List Ent} {id : Int} : rowM L id = none ↔ ∀ e ∈ L, e.1 ≠ id := by
  unfold rowM
  rw [List.findIdx?_eq_none_iff]
  simp
def addM (m : Nat) (L : List Ent) (id : Int) (l : List Comp) : Int := if listE l ≠ 0 then listE l else if maskN l ≠ m then 4 else if (rowM L id).isSome then 9 else 0
def setL (L : List Ent) (i : Nat) (c : Comp) : List Ent := L.modify i fun e => (e.1, withM e.2 c)
def dropI {α : Type} (l : List α) (i : Nat) : List α := (match l[l.length - 1]? with
  | some z => l.set i z
  | none => l).take (l.length - 1)
theorem dropI_map {α β : Type} (f : α → β) (l : List α) (i : Nat) : (dropI l i).map f = dropI (l.map f) i := by
  unfold dropI
  rw [List.length_map, List.getElem?_map]
  cases l[l.length - 1]? <;> simp [List.map_take, List.map_set]
theorem dropI_eq {α : Type} {l : List α} {i : Nat} {z : α} (h : l[l.length - 1]? = some z) : dropI l i = (l.set i z).take (l.length - 1) := by rw [dropI, h]
theorem dropI_len {α : Type} (l : List α) (i : Nat) : (dropI l i).length = l.length - 1 := by
  unfold dropI
  cases l[l.length - 1]? <;> simp
structure TabOk (m : Nat) (L : List Ent) : Prop where
  mask : m < 64
  nodup : (L.map (·.1)).Nodup
  ids : ∀ e ∈ L, 0 ≤ e.1 ∧ e.1 ≤ 4294967295
  valid : ∀ e ∈ L, Valid m e.2
  small : L.length ≤ 1048576
theorem TabOk.nil {m : Nat} (h : m < 64) : TabOk m [] := ⟨h, by simp, by simp, by simp, by simp⟩
theorem TabOk.add {m : Nat} {L : List Ent} (h : TabOk m L) {id : Int} {l : List Comp} (hid : 0 ≤ id ∧ id ≤ 4294967295) (ha : addM m L id l = 0) (hs : L.length < 1048576) : TabOk m (L ++ [(id, l)]) := by
  unfold addM at ha
  split at ha
  · rename_i h1; exact absurd ha h1
  · rename_i h1
    split at ha
    · cases ha
    · rename_i h2
      split at ha
      · cases ha
      · rename_i h3
        have hr : rowM L id = none := by simpa using h3
        refine ⟨h.mask, ?_, ?_, ?_, by simp; omega⟩
        · rw [List.map_append, List.nodup_append]
          refine ⟨h.nodup, by simp, fun x hx y hy => ?_⟩
          simp at hy
          subst hy
          obtain ⟨e, he, rfl⟩ := List.mem_map.1 hx
          exact rowM_none.1 hr e he
        · intro e he
          rcases List.mem_append.1 he with he | he
          · exact h.ids e he
          · simp at he; subst he; exact hid
        · intro e he
          rcases List.mem_append.1 he with he | he
          · exact h.valid e he
          · simp at he; subst he; exact ⟨by simpa using h1, by simpa using h2⟩
theorem dropI_get {α : Type} {l : List α} {i q : Nat} {z : α} (hz : l[l.length - 1]? = some z) : (dropI l i)[q]? = if q < l.length - 1 then (if q = i then some z else l[q]?) else none := by
  rw [dropI_eq hz, List.getElem?_take]
  by_cases hq : q < l.length - 1
  · rw [if_pos hq, if_pos hq, List.getElem?_set]
    by_cases hi : i = q
    · subst hi
      rw [if_pos rfl, if_pos rfl, if_pos (by omega)]
    · rw [if_neg hi, if_neg (fun e => hi e.symm)]
  · rw [if_neg hq, if_neg hq]
theorem dropI_mem {α : Type} {l : List α} {i : Nat} {x : α} (h : x ∈ dropI l i) : x ∈ l := by
  unfold dropI at h
  split at h
  · rename_i z hz
    have := List.mem_of_mem_take h
    rcases List.mem_or_eq_of_mem_set this with h | h
    · exact h
    · subst h; exact List.mem_of_getElem? hz
  · exact List.mem_of_mem_take h
theorem dropI_nodup {α : Type} {l : List α} {i : Nat} (hn : l.Nodup) (hi : i < l.length) : (dropI l i).Nodup := by
  obtain ⟨z, hz⟩ : ∃ z, l[l.length - 1]? = some z := ⟨_, List.getElem?_eq_getElem (by omega)⟩
  have uniq : ∀ (a b : Nat) (x : α), l[a]? = some x → l[b]? = some x → a = b := by
    intro a b x ha hb
    obtain ⟨ha1, ha2⟩ := List.getElem?_eq_some_iff.1 ha
    obtain ⟨hb1, hb2⟩ := List.getElem?_eq_some_iff.1 hb
    rcases Nat.lt_trichotomy a b with h | h | h
    · exact absurd (ha2.trans hb2.symm) (List.pairwise_iff_getElem.1 hn a b ha1 hb1 h)
    · exact h
    · exact absurd (hb2.trans ha2.symm) (List.pairwise_iff_getElem.1 hn b a hb1 ha1 h)
  rw [List.Nodup, List.pairwise_iff_getElem]
  intro a b ha hb hab he
  have ha' := List.getElem?_eq_getElem ha
  have hb' := List.getElem?_eq_getElem hb
  rw [he] at ha'
  have hl := dropI_len l i
  rw [dropI_get hz, if_pos (by omega)] at ha' hb'
  by_cases h1 : a = i
  · rw [if_pos h1] at ha'
    rw [if_neg (by omega)] at hb'
    have := uniq b (l.length - 1) _ hb' (by rw [hz, ha'])
    omega
  · rw [if_neg h1] at ha'
    by_cases h2 : b = i
    · rw [if_pos h2] at hb'
      have := uniq a (l.length - 1) _ ha' (by rw [hz, hb'])
      omega
    · rw [if_neg h2] at hb'
      have := uniq a b _ ha' hb'
      omega
theorem TabOk.drop {m : Nat} {L : List Ent} (h : TabOk m L) {i : Nat} (hi : i < L.length) : TabOk m (dropI L i) :=
  ⟨h.mask, by rw [dropI_map]; exact dropI_nodup h.nodup (by simpa using hi), fun e he => h.ids e (dropI_mem he), fun e he => h.valid e (dropI_mem he), by rw [dropI_len]; have := h.small; omega⟩
theorem setL_eq {L : List Ent} {i : Nat} {e : Ent} {c : Comp} (h : L[i]? = some e) : setL L i c = L.set i (e.1, withM e.2 c) := by
  unfold setL
  apply List.ext_getElem?
  intro q
  rw [List.getElem?_modify, List.getElem?_set]
  by_cases hq : i = q
  · subst hq
    have := (List.getElem?_eq_some_iff.1 h).1
    have e2 := (List.getElem?_eq_some_iff.1 h).2
    simp [this, e2]
  · simp [hq]
theorem setL_ids {L : List Ent} {i : Nat} {e : Ent} {c : Comp} (h : L[i]? = some e) : (setL L i c).map (·.1) = L.map (·.1) := by
  rw [setL_eq h, List.map_set]
  apply List.ext_getElem?
  intro q
  rw [List.getElem?_set]
  by_cases hq : i = q
  · subst hq
    have := (List.getElem?_eq_some_iff.1 h).1
    have e2 := (List.getElem?_eq_some_iff.1 h).2
    simp [this, e2]
  · simp [hq]
theorem setL_len {L : List Ent} {i : Nat} {c : Comp} : (setL L i c).length = L.length := by simp [setL]
theorem TabOk.set {m : Nat} {L : List Ent} (h : TabOk m L) {i : Nat} {e : Ent} {c : Comp} (hi : L[i]? = some e) (hc : checkM c = 0) (hk : c.1 ∈ kindsOf m) : TabOk m (setL L i c) := by
  have hv := h.valid e (List.mem_of_getElem? hi)
  refine ⟨h.mask, by rw [setL_ids hi]; exact h.nodup, fun x hx => ?_, fun x hx => ?_, by rw [setL_len]; exact h.small⟩
  · rw [setL_eq hi] at hx
    rcases List.mem_or_eq_of_mem_set hx with hx | rfl
    · exact h.ids x hx
    · exact h.ids e (List.mem_of_getElem? hi)
  · rw [setL_eq hi] at hx
    rcases List.mem_or_eq_of_mem_set hx with hx | rfl
    · exact h.valid x hx
    · exact (withM_valid h.mask hv hc hk).1
end Go.Proofs.YtchhhjlpnecjkaaGreat
namespace Go.Proofs.YtchhhjlpnecjkaaGreat
open Go Go.RowKit Go.Proofs.YtchhhjlpnecjkaaGreat.Den
variable {R : Type} {Q : R → World → Prop} {w : World}
abbrev idT : Ty := .sc (.int .u32)
theorem ids_ty : SlTy Tryz.prog 77 54 idT 4 := slTy (by kernel_rfl)
theorem id_und : Tryz.prog.underlying 54 = some (.int .u32) := by kernel_rfl
def IdOk (i : Int) : Prop := 0 ≤ i ∧ i ≤ 4294967295
theorem Den.Own.relab {lab : Nat → Nat} {E : TypeId} {t : Ty} {s : Sl} {l : List t.T} {j : Nat} (h : Own (fun x => lab x = j) w E t s l) (n' c : Nat) : Own (fun x => relab lab w.heap.size n' c x = j) w E t s l :=
  h.mono fun k hk e => by rw [relab_lt hk]; exact e
end Go.Proofs.YtchhhjlpnecjkaaGreat
namespace Go.Proofs.YtchhhjlpnecjkaaGreat
open Go Go.RowKit Go.Proofs.YtchhhjlpnecjkaaGreat.Den
variable {R : Type} {Q : R → World → Prop} {w : World}
structure SM where
  first : Int
  gen : List Int
  used : List Bool
  free : List Int
  fresh : Nat
def idOf (slot gen : Int) : Int := gen * 1024 + slot
def genOf (id : Int) : Int := id / 1024
def SM.n (s : SM) : Nat := s.gen.length
def SM.count (s : SM) : Nat := s.used.countP (fun b => b)
def SM.new (n : Nat) (first : Int) : SM := ⟨first, List.replicate n 0, List.replicate n false, [], 0⟩
def SM.use (s : SM) (i : Nat) (g : Int) : SM := { s with gen := s.gen.set i g, used := s.used.set i true }
def SM.take (s : SM) : Option (Int × SM) := match s.free.getLast? with
  | some x => match s.gen[x.toNat]? with
    | some g => some (idOf x (g + 1), { s.use x.toNat (g + 1) with free := s.free.dropLast })
    | none => none
  | none => if s.fresh < s.n then some (idOf s.fresh s.first, { s.use s.fresh s.first with fresh := s.fresh + 1 }) else none
def SM.ids (s : SM) : Nat → List Int
  | 0 => []
  | j + 1 => s.ids j ++ (match s.used[j]?, s.gen[j]? with
    | some true, some g => [idOf j g]
    | _, _ => [])
def SM.list (s : SM) : List Int := s.ids s.n
structure SMOk (s : SM) : Prop where
  pos : 1 ≤ s.n
  le : s.n ≤ 1024
  len : s.used.length = s.n
  first : 1 ≤ s.first ∧ s.first ≤ 4194303
  fresh : s.fresh ≤ s.n
  old : ∀ i g, s.gen[i]? = some g → i < s.fresh → 1 ≤ g ∧ g ≤ 4194303
  new : ∀ i g, s.gen[i]? = some g → s.fresh ≤ i → g = 0
  unused : ∀ i, s.used[i]? = some true → i < s.fresh
  free : ∀ x, x ∈ s.free ↔ ∃ i : Nat, x = (i : Int) ∧ i < s.fresh ∧ s.used[i]? = some false ∧ ∃ g, s.gen[i]? = some g ∧ g < 4194303
  nodup : s.free.Nodup
theorem SMOk.use {s : SM} (h : SMOk s) {i : Nat} {g : Int} (hi : i < s.n) (hg : 1 ≤ g ∧ g ≤ 4194303) {fr : Nat} (hfr : fr ≤ s.n) (hge : s.fresh ≤ fr) (hif : i < fr) (hle : ∀ j, s.fresh ≤ j → j < fr → j = i) {free : List Int} (hfree : ∀ x, x ∈ free ↔ x ∈ s.free ∧ x ≠ (i : Int)) (hnd : free.Nodup) :
    SMOk { s.use i g with fresh := fr, free := free } := by
  refine ⟨?_, ?_, ?_, h.first, ?_, fun j g' h1 h2 => ?_, fun j g' h1 h2 => ?_, fun j h1 => ?_, fun x => ?_, hnd⟩
  · simpa [SM.n, SM.use] using h.pos
  · simpa [SM.n, SM.use] using h.le
  · simpa [SM.n, SM.use] using h.len
  · simpa [SM.n, SM.use] using hfr
  · simp only [SM.use, List.getElem?_set] at h1
    split at h1
    · split at h1
      · cases h1; exact hg
      · cases h1
    · rename_i hne
      rcases Nat.lt_or_ge j s.fresh with hj | hj
      · exact h.old j g' h1 hj
      · exact absurd (hle j hj h2).symm hne
  · simp only [SM.use, List.getElem?_set] at h1
    split at h1
    · rename_i e; subst e; simp only at h2; omega
    · exact h.new j g' h1 (Nat.le_trans hge h2)
  · simp only [SM.use, List.getElem?_set] at h1
    split at h1
    · rename_i e; subst e; exact hif
    · exact Nat.lt_of_lt_of_le (h.unused j h1) hge
  · rw [hfree, h.free]
    simp only [SM.use]
    constructor
    · rintro ⟨⟨j, rfl, h1, h2, h3⟩, hne⟩
      have hji : ¬ i = j := fun e => hne (by rw [e])
      exact ⟨j, rfl, Nat.lt_of_lt_of_le h1 hge, by rw [List.getElem?_set_ne hji]; exact h2, by rw [List.getElem?_set_ne hji]; exact h3⟩
    · rintro ⟨j, rfl, h1, h2, h3⟩
      have hji : ¬ i = j := fun e => by
        subst e
        rw [List.getElem?_set_self (by rw [h.len]; exact hi)] at h2
        cases h2
      rw [List.getElem?_set_ne hji] at h2 h3
      refine ⟨⟨j, rfl, ?_, h2, h3⟩, fun e => hji (by omega)⟩
      rcases Nat.lt_or_ge j s.fresh with hj | hj
      · exact hj
      · exact absurd (hle j hj h1).symm hji
theorem getLast_split {α : Type} {l : List α} {x : α} (h : l.getLast? = some x) : l = l.dropLast ++ [x] := by
  obtain ⟨ys, rfl⟩ := List.getLast?_eq_some_iff.1 h
  simp
theorem SMOk.freeGet {s : SM} (h : SMOk s) {x : Int} (hx : x ∈ s.free) : ∃ i : Nat, x = (i : Int) ∧ i < s.n ∧ s.used[i]? = some false ∧ ∃ g, s.gen[i]? = some g ∧ 1 ≤ g ∧ g < 4194303 := by
  obtain ⟨i, rfl, h1, h2, g, h3, h4⟩ := (h.free x).1 hx
  exact ⟨i, rfl, Nat.lt_of_lt_of_le h1 h.fresh, h2, g, h3, (h.old i g h3 h1).1, h4⟩
theorem SMOk.take {s s' : SM} {id : Int} (h : SMOk s) (ht : s.take = some (id, s')) : SMOk s' := by
  unfold SM.take at ht
  split at ht
  · rename_i x hx
    have hmem : x ∈ s.free := List.mem_of_getLast? hx
    obtain ⟨i, rfl, hi, hu, g, hg, h1, h2⟩ := h.freeGet hmem
    rw [Int.toNat_natCast, hg] at ht
    simp only [Option.some.injEq, Prod.mk.injEq] at ht
    obtain ⟨_, rfl⟩ := ht
    have hsp := getLast_split hx
    have hnd := h.nodup
    rw [hsp] at hnd
    have hif := (h.free _).1 hmem
    obtain ⟨i', e, hif, _⟩ := hif
    have : i' = i := by omega
    subst this
    refine h.use (fr := s.fresh) hi ⟨by omega, by omega⟩ h.fresh (Nat.le_refl _) hif (fun j h1 h2 => by omega) (fun y => ?_) (List.nodup_append.1 hnd).1
    conv => rhs; rw [hsp]
    rw [List.mem_append, List.mem_singleton]
    constructor
    · intro hy
      exact ⟨.inl hy, fun e => (List.nodup_append.1 hnd).2.2 y hy _ (by simp) e⟩
    · rintro ⟨hy | hy, hne⟩
      · exact hy
      · exact absurd hy hne
  · rename_i hn
    have hfe : s.free = [] := by simpa using hn
    split at ht
    · rename_i hlt
      simp only [Option.some.injEq, Prod.mk.injEq] at ht
      obtain ⟨_, rfl⟩ := ht
      refine h.use (fr := s.fresh + 1) (free := s.free) hlt h.first hlt (by omega) (by omega) (fun j h1 h2 => by omega) (fun y => ?_) h.nodup
      rw [hfe]; simp
    · cases ht
abbrev boolT : Ty := .sc .bool
theorem bools_ty : SlTy Tryz.prog 70 4 boolT 1 := slTy (by kernel_rfl)
theorem spec_slots_Gen {id : Int} (h : 0 ≤ id ∧ id ≤ 4294967295) {K : Res [.sc (.int .i64)] → W R} (hk : K (genOf id) Q w) : callW Tryz.prog k_slots_Gen [.int .u32 id] [.sc (.int .i64)] K Q w := by
  refine C_slots_Gen id K Q w ?_
  unfold F_slots_Gen
  have : IntKind.wrap .i64 (IntKind.wrap .u32 (Int.tdiv id 1024)) = genOf id := by rw [Int.tdiv_eq_ediv_of_nonneg h.1, wu32 (by omega), w64 (by omega)]; rfl
  rw [this]
  exact hk
end Go.Proofs.YtchhhjlpnecjkaaGreat
namespace Go.Proofs.YtchhhjlpnecjkaaGreat.Den
open Go Go.RowKit
variable {R : Type} {Q : R → World → Prop} {w : World} {P : Program} {T E ty : TypeId} {t : Ty} {bytes : Nat}
theorem zeroCells_flat {z' : Value} {z : t.T} (hzc : z'.cells.toList = t.cells z) (hpos : 0 < t.size) (n : Nat) : (Builtin.zeroCells z'.cells n).toList = (List.replicate n z).flatMap t.cells := by
  apply List.ext_getElem?
  intro j
  have hzs : z'.cells = ⟨t.cells z⟩ := by rw [← hzc]
  have hsz : (t.cells z).length = t.size := t.cells_len z
  by_cases hj : j < n * t.size
  · have hq : j / t.size < n := Nat.div_lt_of_lt_mul (by rw [Nat.mul_comm]; exact hj)
    have hml : j % t.size < (t.cells z).length := by rw [hsz]; exact Nat.mod_lt _ hpos
    have e1 := flat_at (l := List.replicate n z) (i := j / t.size) (x := z) (by simp [hq]) (j % t.size) _ (List.getElem?_eq_getElem hml)
    rw [Nat.mul_comm, Nat.div_add_mod] at e1
    rw [e1, hzs]
    have hj' : j < (Builtin.zeroCells ⟨t.cells z⟩ n).size := by rw [size_zeroCells]; simp [hsz]; exact hj
    rw [Array.getElem?_toList, Array.getElem?_eq_getElem hj']
    simp only [Builtin.zeroCells, Array.getElem_map, Array.getElem_range, List.size_toArray, hsz]
    congr 1
    rw [getElem!_pos (c := (⟨t.cells z⟩ : Array Value)) (i := j % t.size) (by simpa using hml)]
    simp
  · rw [List.getElem?_eq_none, List.getElem?_eq_none]
    · rw [flat_len]; simp; omega
    · rw [Array.length_toList, size_zeroCells, hzs]; simp [hsz]; omega
theorem run_append_zeros_room (w : World) (tn : TypeId) (i : TypeInfo) (z : Value) (k kn : IntKind) (ht : P.underlying T = some (.slice E)) (htn : P.underlying tn = some (.int kn)) (hi : P.info? E = some i) (hz : i.zero = some z)
    (g sLen sCap : Nat) (cur : Array Value) (hg : w.heap[g]? = some (.cells cur E (0, 0))) (n : Nat) (h0 : 0 < n * i.size) (hroom : sLen + n ≤ sCap) (h48 : n * i.bytes ≤ 281474976710656) (h63 : (n : Int) ≤ 9223372036854775807) (hfit : sLen * i.size + n * z.cells.size ≤ cur.size) (h1 : ∀ u ∈ (Builtin.zeroCells z.cells n).toList, u.oneCell' = true) :
    (Builtin.append_ #[T, tn] ty #[.slice (some ⟨g, 0, none⟩) sLen sCap, .int k n]).run P w =
      .ok (.slice (some ⟨g, 0, none⟩) (sLen + n) sCap) (w.setRow g (cur.toList.take (sLen * i.size) ++ (Builtin.zeroCells z.cells n).toList ++ cur.toList.drop (sLen * i.size + (Builtin.zeroCells z.cells n).toList.length)).toArray) := by
  have hw : IntKind.i64.wrap (n : Int) = n := by rw [IntKind.wrap_i64]; omega
  have h48i : ¬ (281474976710656 < (n : Int) * (i.bytes : Int)) := by rw [← Int.natCast_mul]; omega
  have hns' : ¬ (n = 0 ∨ i.size = 0) := by
    rintro (h | h)
    · rw [h] at h0; simp at h0
    · rw [h] at h0; simp at h0
  have hst := run_storeCells_at P g (sLen * i.size) E (Builtin.zeroCells z.cells n).toList 0 cur w hg (by rw [Array.length_toList, size_zeroCells]; simpa using hfit) h1
  simp only [Nat.add_zero] at hst
  simp [Builtin.append_, run_underlying ht, run_underlying htn, sizeOf, typeInfo, zeroValue, hi, hz, asInt, asIntOf, hw, h48i, show ¬ (n * i.size = 0) by omega, hroom, show ¬ ((n : Int) < 0) by omega, Addr.add_lit, hst]
theorem appZ (H : SlTy P T E t bytes) {z : t.T} {zv : Value} (hz : (P.info? E).bind (·.zero) = some zv) (hzc : zv.cells.toList = t.cells z) {tn : TypeId} {kn : IntKind} (htn : P.underlying tn = some (.int kn)) {S S' : Nat → Prop} {s : Sl} {l : List t.T} (h : Own S w E t s l) {n : Nat} (hn : 0 < n) {k : IntKind} {ni : Int} (hni : ni = (n : Int))
    (hb : (l.length + n) * bytes ≤ 140737488355328) (hm : l.length + n ≤ maxLen) (h1 : ∀ k, S k → S' k) (h1' : S' w.heap.size) {K : Sl → W R}
    (hk : ∀ r w', Own S' w' E t r (l ++ List.replicate n z) → Fr (fun k => s.v.ownBlock = some k) w w' → w'.heap.size ≤ w.heap.size + 1 → K r Q w') : rawW P (Builtin.append_ #[T, tn] ty #[.slice s.a s.n s.c, .int k ni]) [.sc .sl] K Q w := by
  subst hni
  obtain ⟨i, z', hi, hz', hs, hby, hzs⟩ := H.info
  rw [hi] at hz
  simp only [Option.bind_some, hz', Option.some.injEq] at hz
  subst hz
  have flat : (l ++ List.replicate n z).flatMap t.cells = l.flatMap t.cells ++ (List.replicate n z).flatMap t.cells := List.flatMap_append
  have hlen : (l ++ List.replicate n z).length = l.length + n := by simp
  have hmi : ((l.length + n : Nat) : Int) ≤ 9223372036854775807 := by simp only [maxLen] at hm; omega
  have hzf := zeroCells_flat (t := t) hzc H.pos
  have hns : 0 < n * i.size := by rw [hs]; exact Nat.mul_pos hn H.pos
  have hnb : n * i.bytes ≤ 140737488355328 := by
    rw [hby]
    exact Nat.le_trans (Nat.mul_le_mul_right _ (by omega)) hb
  have one : ∀ u ∈ (Builtin.zeroCells z'.cells n).toList, u.oneCell' = true := fun u hu => by
    rw [hzf] at hu
    obtain ⟨x, _, hx⟩ := List.mem_flatMap.1 hu
    exact t.one x H.fine u hx
  have grown : ∀ (old : Nat) {v : Value} {w' : World}, old < l.length + n → v = .slice (some ⟨w.heap.size, 0, none⟩) (l.length + n) (grownCap w (l.length + n) old E) →
      w' = w.drew.alloc (.cells ((l.flatMap t.cells).toArray ++ Builtin.zeroCells z'.cells n ++ Builtin.zeroCells z'.cells (grownCap w (l.length + n) old E - (l.length + n))) E) →
      ∃ r : Sl, v = r.v ∧ K r Q w' := by
    intro old v w' ho hv hw
    have hge := grownCap_ge w (l.length + n) old E
    have hcm := grownCap_le_maxLen w (l.length + n) old E hm
    generalize grownCap w (l.length + n) old E = G at hge hcm hv hw
    subst hv; subst hw
    refine ⟨⟨_, _, _⟩, rfl, hk _ _ ?_ ((Fr.refl _ w).drew.alloc _) (by simp)⟩
    rw [← hlen]
    refine Own.mk' h1' (heap_alloc_new w.drew _) (by rw [hlen]; exact hge) hcm ?_ ?_
    · simp only [Array.size_append, List.size_toArray, flat_len, size_zeroCells, hzs, ← Nat.add_mul]
      congr 1
      omega
    · simp only [Array.toList_append, List.append_assoc, hzf]
      rw [← List.append_assoc, flat, ← flat_len (l ++ List.replicate n z), flat]
      exact List.take_left
  have hsn := h.len
  rcases h.cases with ⟨rfl, rfl⟩ | ⟨g, c, cur, rfl, hS, h3, h4, h5, h6, h7⟩
  · have hr := Lib.run_append_nil_zeros (P := P) w T tn ty E i z' k kn H.under htn hi hz' n hn (by rw [hs]; exact H.pos) (by simpa using hmi) (by omega)
    obtain ⟨r, hv, hK⟩ := grown 0 (by simpa using hn) (v := .slice (some ⟨w.heap.size, 0, none⟩) n (grownCap w n 0 E))
      (w' := w.drew.alloc (.cells (Builtin.zeroCells z'.cells n ++ Builtin.zeroCells z'.cells (grownCap w n 0 E - n)) E)) (by simp) (by simp)
    refine ⟨r, _, ?_, hK⟩
    rw [hv] at hr
    exact hr
  · by_cases hroom : l.length + n ≤ c
    · have hfit : l.length * i.size + n * z'.cells.size ≤ cur.size := by rw [hzs, hs, h6, ← Nat.add_mul]; exact Nat.mul_le_mul_right _ hroom
      have hr := run_append_zeros_room (P := P) (T := T) (E := E) (ty := ty) w tn i z' k kn H.under htn hi hz' g l.length c cur h3 n hns hroom (by omega) (by omega) hfit one
      refine ⟨⟨some ⟨g, 0, none⟩, l.length + n, c⟩, _, hr, hk _ _ ?_ ?_ (by simp [World.setRow])⟩
      · rw [← hlen]
        have hzl : (Builtin.zeroCells z'.cells n).toList.length = n * t.size := by rw [Array.length_toList, size_zeroCells, hzs]
        refine Own.mk' (h1 g hS) (setRow_heap w g cur _ E _ h3) (by rw [hlen]; exact hroom) h5 ?_ ?_
        · rw [hzs, hs] at hfit
          have hcl : cur.toList.length = cur.size := Array.length_toList
          simp only [List.size_toArray, List.length_append, List.length_take, List.length_drop, hzl, hcl, hs]
          omega
        · rw [hs, h7, hzf, ← flat, ← flat_len (l ++ List.replicate n z)]
          exact List.take_left
      · exact ⟨rfl, rfl, rfl, by simp [World.setRow], fun k _ hk => setRow_other w g k _ (fun e => hk (by simp [Sl.v, Value.ownBlock, e]))⟩
    · have holds : ∀ j u, (l.flatMap t.cells)[j]? = some u → w.cell? ((⟨g, 0, none⟩ : Addr).add j) = some u := h.sl.cellsAt rfl
      have hr := run_append_zeros_grow (P := P) (T := T) (E := E) (ty := ty) w tn i z' k kn H.under htn hi hz' ⟨g, 0, none⟩ l.length c _ (by rw [flat_len, hs]) holds n hns (by omega) hmi (growslice_fits (by omega) (by rw [hby]; exact hb)) (by omega)
      obtain ⟨r, hv, hK⟩ := grown c (by omega) rfl rfl
      refine ⟨r, _, ?_, hK⟩
      rw [hv] at hr
      exact hr
end Go.Proofs.YtchhhjlpnecjkaaGreat.Den
namespace Go.Proofs.YtchhhjlpnecjkaaGreat
open Go Go.RowKit Go.Proofs.YtchhhjlpnecjkaaGreat.Den
variable {R : Type} {Q : R → World → Prop} {w : World}
abbrev BytesOk (l : List Int) : Prop := ∀ x ∈ l, 0 ≤ x ∧ x ≤ 255
theorem string_und : Tryz.prog.underlying 9 = some .string := by kernel_rfl
theorem strI {ok : Nat → Prop} {s : Sl} {l : List Int} (hS : SlT ok w u8T s l) {K : ByteArray → W R} (hk : K (strOfNums l) Q w) : rawQ Tryz.prog (Go.convert 22 9 (.slice s.a s.n s.c)) [.sc .str] K Q w := by
  refine ⟨strOfNums l, ?_, hk⟩
  have hlen := hS.len
  rcases hS.at_ with rfl | ⟨b, o, ha, h1, h2, h3⟩
  · rw [run_convert_bytes_string w _ _ _ _ _ _ bytes_ty.under u8_und string_und]
    have hn : s.n = 0 := hlen
    rw [hn]
    cases hsa : s.a with
    | none => simp [Conv.bytesToString]; rfl
    | some a =>
      have hl : (loadCells a 0).run Tryz.prog w = .ok #[] w := by have := run_loadCells_list (P := Tryz.prog) w a [] (fun j v h => by simp at h); simpa using this
      rw [run_bytesToString w a 0 s.c [] hl]
      rfl
  · rw [ha]
    refine run_convert_bytes_arg w _ _ bytes_ty.under u8_und b o s.n s.c l hlen.symm (fun i hi => ?_) _ string_und
    have hx : l[i]? = some l[i] := List.getElem?_eq_getElem (by omega)
    have := h3 i _ hx
    rw [show i * u8T.size = i from Nat.mul_one i] at this
    rw [this]
    simp [List.getD, hx]
theorem ofNat_inj {x y : Int} (hx : 0 ≤ x ∧ x ≤ 255) (hy : 0 ≤ y ∧ y ≤ 255) (h : UInt8.ofNat x.toNat = UInt8.ofNat y.toNat) : x = y := by
  have := congrArg UInt8.toNat h
  simp at this
  omega
theorem str_eq {l l2 : List Int} (h1 : BytesOk l) (h2 : BytesOk l2) : ((strOfNums l).toList == (strOfNums l2).toList) = decide (l = l2) := by
  rw [ByteArray.toList_eq, ByteArray.toList_eq, strOfNums_data, strOfNums_data, Bool.eq_iff_iff]
  simp only [beq_iff_eq, decide_eq_true_eq]
  refine ⟨fun h => ?_, fun h => by rw [h]⟩
  induction l generalizing l2 with
  | nil => cases l2 with
    | nil => rfl
    | cons y r => simp at h
  | cons x r ih => cases l2 with
    | nil => simp at h
    | cons y r2 =>
      rw [List.map_cons, List.map_cons, List.cons.injEq] at h
      rw [ofNat_inj (h1 x List.mem_cons_self) (h2 y List.mem_cons_self) h.1, ih (fun z hz => h1 z (List.mem_cons_of_mem _ hz)) (fun z hz => h2 z (List.mem_cons_of_mem _ hz)) h.2]
theorem spec_r1_Same {ok ok2 : Nat → Prop} {s s2 : Sl} {l l2 : List Int} (hS : SlT ok w u8T s l) (hS2 : SlT ok2 w u8T s2 l2) (h1 : BytesOk l) (h2 : BytesOk l2) {K : Res [.sc .bool] → W R} (hk : K (decide (l = l2)) Q w) :
    callW Tryz.prog k_pinnaceref01_Same [.slice s.a s.n s.c, .slice s2.a s2.n s2.c] [.sc .bool] K Q w := by
  refine C_pinnaceref01_Same s s2 K Q w ?_
  unfold F_pinnaceref01_Same
  refine strI hS (strI hS2 ?_)
  rw [str_eq h1 h2]
  exact hk
def bitsU (l : List Int) : List Bool := l.flatMap fun x => bitsOf x.toNat 8
theorem bitsU_len (l : List Int) : (bitsU l).length = 8 * l.length := by
  induction l with
  | nil => rfl
  | cons x r ih =>
    have : bitsU (x :: r) = bitsOf x.toNat 8 ++ bitsU r := rfl
    rw [this, List.length_append, ih, bitsOf_len, List.length_cons]
    omega
theorem spec_r1_Bits {ok : Nat → Prop} {s : Sl} {l : List Int} (hS : SlT ok w u8T s l) (hb : BytesOk l) (hm : l.length ≤ 1048576) {K : Res [.sc .sl] → W R} (hk : ∀ r w', Own (Up w.heap.size) w' 4 boolT r (bitsU l) → Fr None w w' → K r Q w') :
    callW Tryz.prog k_pinnaceref01_Bits [.slice s.a s.n s.c] [.sc .sl] K Q w := by
  refine C_pinnaceref01_Bits s K Q w ?_
  unfold F_pinnaceref01_Bits
  have hlen := hS.len
  refine forI (N := s.n) (fun s : Sl × Int => s.2) (fun j st v => st.2 = (j : Int) ∧ Own (Up w.heap.size) v 4 boolT st.1 (bitsU (l.take j)) ∧ Fr None w v) ⟨rfl, Own.nil _ _ _ _, Fr.refl _ _⟩ (fun j s w' h => h.1) ?_ ?_
  · rintro j ⟨z, _⟩ v K' hj ⟨rfl, o, fv⟩ - hK
    refine (hS.fr0 fv).get rfl rfl (by omega) fun x hx => ?_
    have hx1 := hb x (List.mem_of_getElem? hx)
    have e : bitsU (l.take (j + 1)) = bitsU (l.take j) ++ bitsOf x.toNat 8 := by unfold bitsU; rw [take_at hx, List.flatMap_append]; simp
    have hll : (bitsU (l.take j)).length ≤ 8 * 1048576 := by rw [bitsU_len]; simp; omega
    refine forI (N := 8) (fun s : Sl × Int × Int => s.2.2) (fun i st u => st.2.2 = (i : Int) ∧ st.2.1 = ((x.toNat / 2 ^ i : Nat) : Int) ∧ Own (Up w.heap.size) u 4 boolT st.1 (bitsU (l.take j) ++ bitsOf x.toNat i) ∧ Fr None w u) ⟨rfl, by simp; omega, by simpa [bitsOf] using o, fv⟩ (fun j s w' h => h.1) ?_ ?_
    · rintro i ⟨z2, b, _⟩ u K2 hi ⟨rfl, rfl, o2, fu⟩ - hK2
      have hz := fu.size
      have hbl := bitsOf_len x.toNat i
      have hd : x.toNat / 2 ^ i ≤ 255 := Nat.le_trans (Nat.div_le_self _ _) (by omega)
      refine appP (x := (Int.tmod ((x.toNat / 2 ^ i : Nat) : Int) 2 == 1)) bools_ty rfl o2 (fun k e => by show w.heap.size ≤ k; omega) (by simp only [List.length_append, hbl]; omega) (by simp only [List.length_append, hbl]; omega) fun r u2 o3 f3 => ?_
      refine hK2 _ _ ⟨wsucc hi (by omega), ?_, ?_, fu.newer f3 fun k e => o2.own k e⟩
      · show IntKind.wrap .u8 (Int.tdiv ((x.toNat / 2 ^ i : Nat) : Int) 2) = _
        rw [Nat.pow_succ, ← Nat.div_div_eq_div_mul]
        generalize x.toNat / 2 ^ i = q at hd ⊢
        rw [Int.tdiv_eq_ediv_of_nonneg (by omega), wu8 (by omega)]
        omega
      · show Own _ u2 _ boolT r (bitsU (l.take j) ++ (bitsOf x.toNat i ++ [x.toNat.testBit i]))
        have e : x.toNat.testBit i = (Int.tmod ((x.toNat / 2 ^ i : Nat) : Int) 2 == 1) := by
          rw [Nat.testBit_eq_decide_div_mod_eq]
          generalize x.toNat / 2 ^ i = q at hd ⊢
          rw [Int.tmod_eq_emod_of_nonneg (by omega), Bool.eq_iff_iff]
          simp only [decide_eq_true_eq, beq_iff_eq]
          omega
        rw [e, ← List.append_assoc]
        exact o3
    · rintro ⟨z2, b, _⟩ u ⟨rfl, _, o2, fu⟩
      refine hK _ _ ⟨wsucc hj (by omega), ?_, fu⟩
      rw [e]
      exact o2
  · rintro ⟨z, _⟩ v ⟨_, o, fv⟩
    rw [List.take_of_length_le (by omega)] at o
    exact hk z v o fv
def tapsD : List Nat := [0, 1, 2, 4, 5, 7, 8, 10, 11, 12, 16, 22, 23, 26]
def tapBlk : List Value := tapsD.map fun (k : Nat) => .int .i64 (k : Int)
theorem tapBlk_eq : tapBlk = [.int .i64 0, .int .i64 1, .int .i64 2, .int .i64 4, .int .i64 5, .int .i64 7, .int .i64 8, .int .i64 10, .int .i64 11, .int .i64 12, .int .i64 16, .int .i64 22, .int .i64 23, .int .i64 26] := rfl
theorem taps14 : tapsD.take 14 = tapsD := rfl
theorem tapsD_le : ∀ k ∈ tapsD, k ≤ 26 := by decide
def flipAt (L : List Bool) (i : Nat) : List Bool := L.set i (!((L[i]?).getD false))
theorem flipAt_len (L : List Bool) (i : Nat) : (flipAt L i).length = L.length := List.length_set
def tapD (i : Nat) (L : List Bool) (k : Nat) : List Bool := flipAt L (i + 32 - k)
def stepD (L : List Bool) (i : Nat) : List Bool := if (L[i]?).getD false = true then tapsD.foldl (tapD i) L else L
def initD (m : List Bool) : List Bool := (List.range 32).foldl flipAt (m ++ List.replicate 32 false)
def divD (m : List Bool) (j : Nat) : List Bool := (List.range j).foldl stepD (initD m)
def numD (left : List Bool) : Nat → Int
  | 0 => 0
  | k + 1 => if (left[31 - k]?).getD false = false then IntKind.wrap .u32 (IntKind.wrap .u32 (numD left k * 2) + 1) else IntKind.wrap .u32 (numD left k * 2)
def sumD (l : List Int) : Int := numD ((divD (bitsU l) (bitsU l).length).drop (bitsU l).length) 32
theorem foldl_len {α : Type} (f : List Bool → α → List Bool) (hf : ∀ L a, (f L a).length = L.length) : ∀ (l : List α) (L : List Bool), (l.foldl f L).length = L.length
  | [], _ => rfl
  | a :: r, L => by rw [List.foldl_cons, foldl_len f hf r, hf]
theorem stepD_len (L : List Bool) (i : Nat) : (stepD L i).length = L.length := by
  unfold stepD
  split
  · exact foldl_len _ (fun L a => flipAt_len L _) _ _
  · rfl
theorem initD_len (m : List Bool) : (initD m).length = m.length + 32 := by
  unfold initD
  rw [foldl_len _ flipAt_len]
  simp
theorem divD_len (m : List Bool) (j : Nat) : (divD m j).length = m.length + 32 := by
  unfold divD
  rw [foldl_len _ stepD_len, initD_len]
theorem divD_zero (m : List Bool) : divD m 0 = (List.range 32).foldl flipAt (m ++ List.replicate 32 false) := by unfold divD initD; rw [List.range_zero, List.foldl_nil]
theorem flipI {S : Nat → Prop} {s : Sl} {l : List Bool} (o : Own S w 4 boolT s l) {i : Nat} (hi : i < l.length) {i1 i2 : Int} (h1 : i1 = (i : Int)) (h2 : i2 = (i : Int)) {K : W R} (hk : ∀ w', Own S w' 4 boolT s (flipAt l i) → Fr (fun k => s.v.ownBlock = some k) w w' → w'.heap.size = w.heap.size → K Q w') :
    idxW s.a s.n 1 i1 (fun x => ld (.sc .bool) x fun b => idxW s.a s.n 1 i2 fun y => stoL y [.bool (!b)] 0 K) Q w := by
  subst h1; subst h2
  refine o.idx rfl (by omega) (by omega) fun g x hg hx hr => ?_
  rw [Int.toNat_natCast] at hx hr ⊢
  refine ldI x hr ?_
  refine o.idx rfl (by omega) (by omega) fun g2 x2 hg2 hx2 hr2 => ?_
  rw [hg] at hg2
  cases hg2
  rw [Int.toNat_natCast]
  refine o.set rfl hi hg (!x) fun w' o' f' s' => hk w' ?_ f' s'
  unfold flipAt
  rw [hx]
  exact o'
theorem spec_r3_Sum {ok : Nat → Prop} {s : Sl} {l : List Int} (hS : SlT ok w u8T s l) (hb : BytesOk l) (hm : l.length ≤ 1048576) {K : Res [.sc (.int .u32)] → W R} (hk : ∀ w', Fr None w w' → K (sumD l) Q w') :
    callW Tryz.prog k_pinnaceref03_Sum [.slice s.a s.n s.c] [.sc (.int .u32)] K Q w := by
  refine C_pinnaceref03_Sum s K Q w ?_
  unfold F_pinnaceref03_Sum
  refine spec_r1_Bits hS hb hm fun r w1 o1 f1 => ?_
  have hl := bitsU_len l
  generalize hB : bitsU l = B at o1 hl
  refine appZ bools_ty (z := false) (zv := .bool false) (by kernel_rfl) rfl (tn := 3) (kn := .i64) (by kernel_rfl) (S' := Up w.heap.size) (n := 32) o1 (by decide) rfl (by omega) (by rw [maxLen_eq]; omega) (fun _ h => h) (by have := f1.size; show w.heap.size ≤ _; omega) fun x w2 o2 f2 z2 => ?_
  have f02 : Fr None w w2 := f1.newer f2 fun k e => o1.own k e
  have upx : ∀ {a b c : World} {L : List Bool}, Fr None w a → Own (Up w.heap.size) c 4 boolT x L → Fr (fun k => x.v.ownBlock = some k) a b → Fr None w b := fun f o g => f.newer g fun k e => o.own k e
  refine forI (N := 32) (fun s : Int => s) (fun j i v => i = (j : Int) ∧ Own (Up w.heap.size) v 4 boolT x ((List.range j).foldl flipAt (B ++ List.replicate 32 false)) ∧ Fr None w v) ⟨rfl, o2, f02⟩ (fun j s w' h => h.1) ?_ ?_
  · rintro j i v K' hj ⟨rfl, o, fv⟩ - hK
    refine flipI o (i := j) (by rw [foldl_len _ flipAt_len]; simp; omega) rfl rfl fun v2 o' f' s' => hK _ _ ⟨wsucc hj (by omega), ?_, upx fv o f'⟩
    rw [List.range_succ, List.foldl_append]
    exact o'
  rintro i v ⟨_, o, fv⟩
  have hxn : x.n = B.length + 32 := by rw [o2.len]; simp
  rw [← tapBlk_eq]
  refine newI fun v1 B1 e1 t1 => ?_
  have hzv := fv.size
  have nx0 : ¬ x.v.ownBlock = some v.heap.size := fun e => by have := o.lt e; omega
  have o := o.none e1
  have fv1 := fv.then0 e1
  refine loopI (fun (st : Int) u => ∃ j : Nat, st = (j : Int) ∧ j ≤ B.length ∧ Own (Up w.heap.size) u 4 boolT x (divD B j) ∧ Blk u v.heap.size 3 tapBlk ∧ Fr None w u)
    (fun st _ => B.length - st.toNat) ⟨0, rfl, by omega, by rw [divD_zero]; exact o, B1, fv1⟩ ?_
  rintro st u ⟨j, rfl, hj, oj, Bj, fu⟩
  rw [w64 (x := (j : Int) + 32) (by omega)]
  refine condD (fun hlt => ?_) fun hge => ?_
  · have hlt : (j : Int) + 32 < (x.n : Int) := hlt
    have hjl : j < B.length := by omega
    have hdl := divD_len B j
    refine joinI (fun (_ : Unit) u' => Own (Up w.heap.size) u' 4 boolT x (divD B (j + 1)) ∧ Blk u' v.heap.size 3 tapBlk ∧ Fr None w u') ?_ ?_
    · have estep : divD B (j + 1) = stepD (divD B j) j := by unfold divD; rw [List.range_succ, List.foldl_append]; rfl
      refine oj.idx rfl (by omega) (by omega) fun g y hg hy hr => ?_
      rw [Int.toNat_natCast] at hy hr ⊢
      refine ldI y hr ?_
      refine condI (fun hn => ?_) fun hn => ?_
      · have hn : y = false := by simpa using hn
        have : divD B (j + 1) = divD B j := by rw [estep]; unfold stepD; rw [hy, hn]; rfl
        rw [this]
        exact ⟨oj, Bj, fu⟩
      · have hn : y = true := by simpa using hn
        have e2 : divD B (j + 1) = tapsD.foldl (tapD j) (divD B j) := by rw [estep]; unfold stepD; rw [hy, hn]; rfl
        rw [e2]
        refine forI (N := 14) (fun s : Int => s) (fun q i u' => i = (q : Int) ∧ Own (Up w.heap.size) u' 4 boolT x ((tapsD.take q).foldl (tapD j) (divD B j)) ∧ Blk u' v.heap.size 3 tapBlk ∧ Fr None w u') ⟨rfl, by rw [List.take_zero]; exact oj, Bj, fu⟩ (fun j s w' h => h.1) ?_ ?_
        · rintro q i u' K2 hq ⟨rfl, o', B', f'⟩ - hK2
          refine idxB (by omega) (by omega) ?_
          have go : ∀ {k : Nat}, tapsD[q]? = some k → k ≤ 26 → idxW x.a x.n 1 (IntKind.wrap .i64 ((j : Int) + 32 - (k : Int))) (fun x_18 => ld (.sc .bool) x_18 fun (x_19 : Bool) => idxW x.a x.n 1 (IntKind.wrap .i64 ((j : Int) + 32 - (k : Int))) fun x_20 => stoL x_20 [.bool (!x_19)] 0 <| K2 (IntKind.wrap .i64 ((q : Int) + 1))) (fun r w => K r Q w) u' := by
            intro k hk hk26
            have ew : IntKind.wrap .i64 ((j : Int) + 32 - (k : Int)) = ((j + 32 - k : Nat) : Int) := by rw [w64 (by omega)]; omega
            refine flipI o' (i := j + 32 - k) (by rw [foldl_len (tapD j) (fun L a => flipAt_len L _), hdl]; omega) ew ew fun u2 o2 g2 s2 => hK2 _ _ ⟨wsucc hq (by omega), ?_, B'.fr g2 nx0, upx f' o' g2⟩
            rw [take_at hk, List.foldl_append]
            exact o2
          obtain ⟨k, hk⟩ : ∃ k, tapsD[q]? = some k := ⟨_, List.getElem?_eq_getElem (show q < tapsD.length from hq)⟩
          refine fld0 B' (i := 0 + (q : Int).toNat * 1) (x := (k : Int)) ?_ (go hk (tapsD_le k (List.mem_of_getElem? hk)))
          rw [Int.toNat_natCast, Nat.zero_add, Nat.mul_one, tapBlk, List.getElem?_map, hk]
          rfl
        · rintro i u' ⟨_, o', B', f'⟩
          rw [taps14] at o'
          exact ⟨o', B', f'⟩
    · rintro _ u' ⟨o', B', f'⟩
      refine ⟨⟨j + 1, by rw [w64 (by omega)]; rfl, by omega, o', B', f'⟩, ?_⟩
      rw [w64 (by omega)]
      simp only [Int.toNat_natCast]
      omega
  · have hge : ¬ (j : Int) + 32 < (x.n : Int) := hge
    have hjl : j = B.length := by omega
    subst hjl
    have hdl := divD_len B B.length
    refine oj.sl.from (n := B.length) rfl (by rw [w64 (by omega)]; omega) (by omega) fun y hy _ => ?_
    have hyl : ((divD B B.length).drop B.length).length = 32 := by rw [List.length_drop, hdl]; omega
    have eS : sumD l = numD ((divD B B.length).drop B.length) 32 := by unfold sumD; rw [hB]
    generalize (divD B B.length).drop B.length = left at hy hyl eS
    refine loopI (fun (st : Int × Int) u' => ∃ k : Nat, k ≤ 32 ∧ st = (numD left k, 31 - (k : Int)) ∧ Fr None w u' ∧ SlT (Up w.heap.size) u' boolT y left) (fun st _ => (st.2 + 1).toNat) ⟨0, by omega, rfl, fu, hy⟩ ?_
    rintro st u2 ⟨k, hk32, rfl, fu2, hy2⟩
    dsimp only
    refine condD (fun hg => ?_) fun hg => ?_
    · have hg : (31 - (k : Int)) ≥ 0 := hg
      refine hy2.get (j := 31 - k) rfl (by omega) (by omega) fun b hb => ?_
      refine joinI (fun z u' => z = numD left (k + 1) ∧ u2 = u') ?_ ?_
      · refine condI (fun hbn => ⟨?_, rfl⟩) fun hbn => ⟨?_, rfl⟩
        · have hbn : b = false := by simpa using hbn
          rw [numD, hb, hbn]
          simp
        · have hbn : b = true := by simpa using hbn
          rw [numD, hb, hbn]
          simp
      · rintro z u3 ⟨rfl, rfl⟩
        refine ⟨⟨k + 1, by omega, ?_, fu2, hy2⟩, ?_⟩
        · rw [w64 (by omega)]
          congr 1
          omega
        · rw [w64 (by omega)]
          omega
    · have hg : ¬ (31 - (k : Int)) ≥ 0 := hg
      have hk' : k = 32 := by omega
      subst hk'
      have := hk u2 fu2
      rw [eS] at this
      exact this
end Go.Proofs.YtchhhjlpnecjkaaGreat
namespace Go.Proofs.YtchhhjlpnecjkaaGreat
open Go Go.RowKit Go.Proofs.YtchhhjlpnecjkaaGreat.Den
variable {R : Type} {Q : R → World → Prop} {w : World}
abbrev entT : Ty := .agg [.int .u32, .sl]
abbrev entC (r : Int × Sl) : List Value := [.int .u32 r.1, .slice r.2.a r.2.n r.2.c]
theorem ents_ty : SlTy Tryz.prog 23 57 entT 32 := slTy (by kernel_rfl)
structure EntsR (ok : Nat → Prop) (w : World) (raws : List (Int × Sl)) (L : List Ent) : Prop where
  len : raws.length = L.length
  at_ : ∀ (i : Nat) (r : Int × Sl) (e : Ent), raws[i]? = some r → L[i]? = some e → r.1 = e.1 ∧ SlT ok w compT r.2 e.2
theorem EntsR.fr {ok S : Nat → Prop} {w' : World} {raws : List (Int × Sl)} {L : List Ent} (h : EntsR ok w raws L) (f : Fr S w w') (hn : ∀ k, ok k → ¬ S k) : EntsR ok w' raws L :=
  ⟨h.len, fun i r e h1 h2 => ⟨(h.at_ i r e h1 h2).1, (h.at_ i r e h1 h2).2.fr f hn⟩⟩
theorem EntsR.mono {ok ok' : Nat → Prop} {raws : List (Int × Sl)} {L : List Ent} (h : EntsR ok w raws L) (hn : ∀ k, k < w.heap.size → ok k → ok' k) : EntsR ok' w raws L :=
  ⟨h.len, fun i r e h1 h2 => ⟨(h.at_ i r e h1 h2).1, (h.at_ i r e h1 h2).2.mono hn⟩⟩
theorem EntsR.get {ok : Nat → Prop} {raws : List (Int × Sl)} {L : List Ent} (h : EntsR ok w raws L) {i : Nat} {e : Ent} (he : L[i]? = some e) : ∃ r, raws[i]? = some r ∧ r.1 = e.1 ∧ SlT ok w compT r.2 e.2 := by
  obtain ⟨hl, _⟩ := List.getElem?_eq_some_iff.1 he
  have hr := List.getElem?_eq_getElem (l := raws) (i := i) (by rw [h.len]; exact hl)
  exact ⟨_, hr, h.at_ i _ e hr he⟩
theorem EntsR.nil (ok : Nat → Prop) (w : World) : EntsR ok w [] [] := ⟨rfl, fun i r e h => by simp at h⟩
section
variable {lab : Nat → Nat} {b m : Nat} {s : Sl} {raws : List (Int × Sl)} {L : List Ent}
theorem EntsR.relab (h : EntsR (fun k => lab k = 3) w raws L) (n' c : Nat) : EntsR (fun k => relab lab w.heap.size n' c k = 3) w raws L := h.mono fun k hk e => by rw [relab_lt hk]; exact e
end
section
variable {lab : Nat → Nat} {b m : Nat} {L : List Ent}
theorem EntsR.drop {ok : Nat → Prop} {raws : List (Int × Sl)} {L : List Ent} (h : EntsR ok w raws L) (i : Nat) : EntsR ok w (dropI raws i) (dropI L i) := by
  refine ⟨by rw [dropI_len, dropI_len, h.len], fun q r e h1 h2 => ?_⟩
  by_cases h0 : L = []
  · subst h0; simp [dropI] at h2
  · have hp : 0 < L.length := List.length_pos_iff.2 h0
    have hl := h.len
    obtain ⟨z, hz⟩ : ∃ z, raws[raws.length - 1]? = some z := ⟨_, List.getElem?_eq_getElem (by omega)⟩
    obtain ⟨y, hy⟩ : ∃ y, L[L.length - 1]? = some y := ⟨_, List.getElem?_eq_getElem (by omega)⟩
    rw [dropI_get hz] at h1
    rw [dropI_get hy] at h2
    rw [hl] at h1
    by_cases hq : q < L.length - 1
    · rw [if_pos hq] at h1 h2
      by_cases hqi : q = i
      · rw [if_pos hqi] at h1 h2
        cases h1; cases h2
        rw [hl] at hz
        exact h.at_ _ _ _ hz hy
      · rw [if_neg hqi] at h1 h2
        exact h.at_ q r e h1 h2
    · rw [if_neg hq] at h1; cases h1
theorem spec_r10_SameEnt {ok ok2 : Nat → Prop} {id id2 : Int} {s s2 : Sl} {l l2 : List Comp} (hS : SlT ok w compT s l) (hS2 : SlT ok2 w compT s2 l2) (hm : Small l) {K : Res [.sc .bool] → W R} (hk : ∀ w', Fr None w w' → K (decide (id = id2 ∧ l = l2)) Q w') :
    callW Tryz.prog k_pinnaceref10_SameEnt [.agg ⟨entC (id, s)⟩, .agg ⟨entC (id2, s2)⟩] [.sc .bool] K Q w := by
  refine C_pinnaceref10_SameEnt (id, s) (id2, s2) K Q w ?_
  unfold F_pinnaceref10_SameEnt
  refine newI fun w1 B1 f1 s1 => newI fun w2 B2 f2 s2' => ?_
  have B12 := B1.fr f2 fun h => h
  refine joinK ?_
  refine fldI B12 (x := id) rfl ?_
  refine fldI B2 (x := id2) rfl ?_
  have f02 := f1.then0 f2
  refine condE (fun h => ?_) fun h => ?_
  · refine fldI B12 (x := s) rfl ?_
    refine fldI B2 (x := s2) rfl ?_
    refine spec_r5_Same (hS.fr0 f02) (hS2.fr0 f02) hm fun w3 f3 => ?_
    have e := hk w3 (f02.then0 f3)
    have : decide (id = id2 ∧ l = l2) = decide (l = l2) := decide_eq_decide.2 ⟨fun h => h.2, fun h2 => ⟨h, h2⟩⟩
    rw [this] at e
    exact e
  · have e := hk w2 f02
    rw [decide_eq_false (fun h2 => h h2.1)] at e
    exact e
end
end Go.Proofs.YtchhhjlpnecjkaaGreat
namespace Go.Proofs.YtchhhjlpnecjkaaGreat
open Go Go.RowKit Go.Proofs.YtchhhjlpnecjkaaGreat.Den
variable {R : Type} {Q : R → World → Prop} {w : World}
theorem fIdx {b : Nat} {i : Int} {j : Nat} (hi : i = (j : Int)) (hj : j < 3) {K : Addr → W R} (hk : K ⟨b, 1 + j, none⟩ Q w) : idxW (some (Addr.add ⟨b, 0, none⟩ 1)) 3 1 i K Q w := by
  subst hi
  refine idxA (by omega) (by omega) ?_
  rw [addA, add_lit]
  simpa using hk
theorem spec_schema_at {k i : Int} {K : Res [.agg [.str, .int .i32, .int .i32], .sc .bool] → W R} (h0 : (i < 0 ∨ ((fieldsM k).length : Int) ≤ i) → ∀ w', Fr None w w' → K ((⟨#[]⟩, 0, 0), false) Q w')
    (hk : ∀ p w', 0 ≤ i → (fieldsM k)[i.toNat]? = some p → Fr None w w' → K (p, true) Q w') : callW Tryz.prog k_schema_at [.int .u8 k, .int .i64 i] [.agg [.str, .int .i32, .int .i32], .sc .bool] K Q w := by
  refine C_schema_at _ _ K Q w ?_
  unfold F_schema_at
  refine newI fun w1 B1 f1 s1 => spec_schema_of fun s w2 hS f2 => ?_
  have B2 := B1.fr f2 fun h => h
  have hn : s.n = (fieldsM k).length := hS.len
  have f02 := f1.then0 f2
  refine joinI (fun z w' => z = decide (i < 0 ∨ ((fieldsM k).length : Int) ≤ i) ∧ w' = w2) ?_ ?_
  · refine condD (fun h => ⟨by simp [h], rfl⟩) fun h => ⟨?_, rfl⟩
    rw [hn]
    simp [h]
  · rintro z w' ⟨rfl, rfl⟩
    refine condD (fun h => ?_) fun h => ?_
    · refine stoAll B2 rfl rfl fun w3 B3 f3 s3 => aggI B3 (x := ((⟨#[]⟩ : ByteArray), (0 : Int), (0 : Int))) rfl ?_
      exact h0 h w3 (f02.newer f3 fun k e => by omega)
    · have hi0 : 0 ≤ i := by omega
      have hi1 : i < ((fieldsM k).length : Int) := by omega
      refine hS.get (j := i.toNat) rfl (by omega) (by omega) fun y hy => ?_
      refine stoAll B2 rfl rfl fun w3 B3 f3 s3 => aggI B3 (x := y) rfl ?_
      exact hk y w3 hi0 hy (f02.newer f3 fun k e => by omega)
theorem spec_schema_Range {k i : Int} {K : Res [.sc (.int .i32), .sc (.int .i32), .sc (.int .i64)] → W R} (hk : ∀ w', Fr None w w' → K (rangeM k i) Q w') :
    callW Tryz.prog k_schema_Range [.int .u8 k, .int .i64 i] [.sc (.int .i32), .sc (.int .i32), .sc (.int .i64)] K Q w := by
  refine C_schema_Range _ _ K Q w ?_
  unfold F_schema_Range
  refine spec_schema_at (fun h w1 f1 => ?_) fun p w1 h0 hp f1 => ?_
  · refine newI fun w2 B2 f2 s2 => stoAll B2 rfl rfl fun w3 B3 f3 s3 => condT rfl ?_
    have e : rangeM k i = (0, 0, 1) := by
      unfold rangeM
      split
      · rw [List.getElem?_eq_none (by omega)]
      · rfl
    have := hk w3 (f1.then0 (f2.newer f3 fun k e => by omega))
    rw [e] at this
    exact this
  · refine newI fun w2 B2 f2 s2 => stoAll B2 rfl rfl fun w3 B3 f3 s3 => condF rfl ?_
    have fd : Fr None w3 w3.drew := (Fr.refl _ _).drew
    have B3 := B3.fr fd fun h => h
    refine fldI B3 (i := 1) (x := p.2.1) rfl (fldI B3 (i := 2) (x := p.2.2) rfl ?_)
    have e : rangeM k i = (p.2.1, p.2.2, 0) := by
      unfold rangeM
      rw [if_pos h0, hp]
    have := hk _ ((f1.then0 (f2.newer f3 fun k e => by omega)).then0 fd)
    rw [e] at this
    exact this
theorem Den.SlT.readK {ok : Nat → Prop} {t : Ty} {s : Sl} {l : List t.T} (h : SlT ok w t s l) {sz : Nat} (hsz : sz = t.size) {i : Int} {j : Nat} (hi : i = j) {x : t.T} (hj : l[j]? = some x) {K : Addr → W R} (hk : ∀ a, (∀ w', SlT ok w' t s l → Rd w' a t x) → K a Q w) :
    (idxW s.a s.n sz i K) Q w := by
  subst hi; subst hsz
  have hjl := (List.getElem?_eq_some_iff.1 hj).1
  have hn := h.len
  rcases h.at_ with e | ⟨b, o, ha, _, _, hrd⟩
  · rw [e] at hjl; simp at hjl
  · rw [ha]
    refine ⟨_, rfl, by omega, by omega, hk _ fun w' h' => ?_⟩
    rw [add_lit, Int.toNat_natCast]
    rcases h'.at_ with e | ⟨b', o', ha', _, _, hrd'⟩
    · rw [e] at hjl; simp at hjl
    · rw [ha] at ha'
      cases ha'
      exact hrd' j x hj
end Go.Proofs.YtchhhjlpnecjkaaGreat
namespace Go.Proofs.YtchhhjlpnecjkaaGreat
open Go Go.RowKit Go.Proofs.YtchhhjlpnecjkaaGreat.Den
variable {R : Type} {Q : R → World → Prop} {w : World}
theorem spec_schema_Told {k : Int} {K : Res [.sc .bool] → W R} (hk : ∀ w', Fr None w w' → K (toldM k) Q w') : callW Tryz.prog k_schema_Told [.int .u8 k] [.sc .bool] K Q w := by
  refine C_schema_Told _ K Q w ?_
  unfold F_schema_Told
  exact spec_schema_of fun s w1 _ f1 => hk w1 f1
theorem spec_snap_secret {c : Comp} {K : Res [.sc .bool] → W R} (hk : ∀ w', Fr None w w' → K (!toldM c.1) Q w') : callW Tryz.prog k_snap_secret [.agg ⟨compC c⟩] [.sc .bool] K Q w := by
  refine C_snap_secret c K Q w ?_
  unfold F_snap_secret
  exact newI fun w1 B1 f1 s1 => fldI B1 (i := 0) (x := c.1) rfl (spec_schema_Told fun w2 f2 => hk w2 (f1.then0 f2))
def secretM (l : List Comp) : Bool := l.any fun c => !toldM c.1
theorem spec_snap_anySecret {ok : Nat → Prop} {s : Sl} {l : List Comp} (hS : SlT ok w compT s l) (hm : l.length ≤ 9223372036854775807) {K : Res [.sc .bool] → W R} (hk : ∀ w', Fr None w w' → K (secretM l) Q w') :
    callW Tryz.prog k_slices_ContainsFunc_Comp [.slice s.a s.n s.c, .func (.func 71) #[] #[]] [.sc .bool] K Q w := by
  refine C_slices_ContainsFunc_Comp__snap_secret s K Q w ?_
  unfold F_slices_ContainsFunc_Comp__snap_secret
  refine C_slices_IndexFunc_Comp__snap_secret s _ _ w ?_
  unfold F_slices_IndexFunc_Comp__snap_secret
  have hlen := hS.len
  refine forI (N := s.n) (fun s : Int => s) (fun j i w' => i = j ∧ Fr None w w' ∧ secretM (l.take j) = false) ⟨rfl, Fr.refl _ _, rfl⟩ (fun j s w' h => h.1) ?_ ?_
  · rintro j i w1 K' hj ⟨rfl, f1, hno⟩ - hK
    refine (hS.fr0 f1).get rfl rfl (by omega) fun c hc => spec_snap_secret fun w2 f2 => ?_
    have e : secretM (l.take (j + 1)) = (secretM (l.take j) || !toldM c.1) := by unfold secretM; rw [take_at hc, List.any_append]; simp
    refine condI (fun h => ?_) fun h => ?_
    · have : secretM l = true := by
        unfold secretM
        exact List.any_eq_true.2 ⟨c, List.mem_of_getElem? hc, h⟩
      have hk := hk w2 (f1.then0 f2)
      rw [this] at hk
      have e2 : decide ((j : Int) ≥ 0) = true := decide_eq_true (by omega)
      rw [← e2] at hk
      exact hk
    · exact hK _ _ ⟨wsucc hj (by omega), f1.then0 f2, by rw [e, hno, h]; rfl⟩
  · rintro i w1 ⟨rfl, f1, hno⟩
    rw [List.take_of_length_le (by omega)] at hno
    have hk := hk w1 f1
    rw [hno] at hk
    exact hk
def oneM (e : Ent) : Int := if genOf e.1 < 1 ∨ 4194303 < genOf e.1 then 4 else listE e.2
theorem spec_snap_one {ok : Nat → Prop} {r : Int × Sl} {e : Ent} (h1 : r.1 = e.1) (hS : SlT ok w compT r.2 e.2) (hm : Small e.2) (hid : IdOk e.1) {K : Res [.sc (.int .i64)] → W R} (hk : ∀ w', Fr None w w' → K (oneM e) Q w') :
    callW Tryz.prog k_snap_one [.agg ⟨[.int .u32 r.1, .slice r.2.a r.2.n r.2.c]⟩] [.sc (.int .i64)] K Q w := by
  refine C_snap_one r K Q w ?_
  unfold F_snap_one
  unfold oneM at hk
  refine newI fun w1 B1 f1 s1 => fldI B1 (i := 0) (x := r.1) rfl ?_
  rw [h1]
  refine spec_slots_Gen hid ?_
  refine joinI (fun z w' => z = decide (genOf e.1 < 1 ∨ 4194303 < genOf e.1) ∧ w' = w1) ?_ ?_
  · refine condD (fun h => ⟨by simp [h], rfl⟩) fun h => ⟨?_, rfl⟩
    simp [h]
  rintro z w2 ⟨rfl, rfl⟩
  refine condD (fun h => ?_) fun h => ?_
  · rw [if_pos h] at hk
    exact hk w2 f1
  · rw [if_neg h] at hk
    exact fldI B1 (i := 1) (x := r.2) rfl (spec_schema_List (hS.fr0 f1) hm fun w3 f3 => hk w3 (f1.then0 f3))
def formM : Int → List Ent → Int
  | _, [] => 0
  | last, e :: r => if e.1 ≤ last then 4 else if oneM e ≠ 0 then oneM e else if secretM e.2 = true then 4 else formM e.1 r
def lastE (l : List Ent) (j : Nat) : Int := match j with
  | 0 => 0
  | j + 1 => ((l[j]?).map (·.1)).getD 0
theorem spec_snap_Form {ok : Nat → Prop} {s : Sl} {raws : List (Int × Sl)} {L : List Ent} (hS : SlT ok w entT s raws) (hE : EntsR ok w raws L) (hm : L.length ≤ 9223372036854775807) (hL : ∀ e ∈ L, IdOk e.1 ∧ Small e.2) {K : Res [.sc (.int .i64)] → W R} (hk : ∀ w', Fr None w w' → K (formM 0 L) Q w') :
    callW Tryz.prog k_snap_Form [.slice s.a s.n s.c] [.sc (.int .i64)] K Q w := by
  refine C_snap_Form s K Q w ?_
  unfold F_snap_Form
  have hlen := hS.len
  have hel := hE.len
  refine forI (N := s.n) (fun s : Int × Int => s.2) (fun j s w' => s = (lastE L j, (j : Int)) ∧ Fr None w w' ∧ formM 0 L = formM (lastE L j) (L.drop j)) ⟨rfl, Fr.refl _ _, rfl⟩ (fun j s w' h => by rw [h.1]) ?_ ?_
  · rintro j s1 w1 K' hj ⟨rfl, f1, hf⟩ - hK
    obtain ⟨e, he⟩ : ∃ e, L[j]? = some e := ⟨_, List.getElem?_eq_getElem (by omega)⟩
    obtain ⟨r1, hr1, ha1, ha2⟩ := hE.get he
    obtain ⟨hid, hsm⟩ := hL e (List.mem_of_getElem? he)
    have hdrop : L.drop j = e :: L.drop (j + 1) := by
      obtain ⟨hl, hg⟩ := List.getElem?_eq_some_iff.1 he
      rw [List.drop_eq_getElem_cons hl, hg]
    rw [hdrop, formM] at hf
    rw [hf] at hk
    refine (hS.fr0 f1).get rfl rfl (by omega) fun y hy => ?_
    rw [hr1] at hy
    cases hy
    refine newI fun w2 B2 f2 s2 => stoAll B2 rfl rfl fun w3 B3 f3 s3 => fldI B3 (i := 0) (x := r1.1) rfl ?_
    have f13 : Fr None w1 w3 := f2.newer f3 fun k e => by omega
    have f03 := f1.then0 f13
    rw [ha1]
    refine condD (fun h => ?_) fun h => ?_
    · rw [if_pos h] at hk
      exact hk w3 f03
    rw [if_neg h] at hk hf
    refine fldI B3 (i := 0) (x := r1.1) rfl (aggI B3 (x := r1) rfl (spec_snap_one ha1 (ha2.fr0 f03) hsm hid fun w4 f4 => ?_))
    have f04 := f03.then0 f4
    refine condN (fun hne => ?_) fun heq => ?_
    · rw [if_pos hne] at hk
      exact hk w4 f04
    rw [if_neg (by omega)] at hk hf
    refine fldI (B3.fr f4 fun h => h) (i := 1) (x := r1.2) rfl (spec_snap_anySecret (ha2.fr0 f04) (Nat.le_trans hsm (by decide)) fun w5 f5 => ?_)
    have f05 := f04.then0 f5
    refine condI (fun h => ?_) fun h => ?_
    · rw [if_pos h] at hk
      exact hk w5 f05
    · rw [if_neg (by rw [h]; decide)] at hk hf
      have hlast : lastE L (j + 1) = e.1 := by
        show ((L[j]?).map (·.1)).getD 0 = e.1
        rw [he]; rfl
      refine hK _ _ ⟨?_, f05, by rw [hlast]; exact hf⟩
      rw [wsucc hj (by omega), hlast, ha1]
  · rintro s1 w1 ⟨rfl, f1, hf⟩
    rw [List.drop_of_length_le (by omega), formM] at hf
    have hk := hk w1 f1
    rw [hf] at hk
    exact hk
end Go.Proofs.YtchhhjlpnecjkaaGreat
namespace Go.Proofs.YtchhhjlpnecjkaaGreat
open Go Go.RowKit Go.Proofs.YtchhhjlpnecjkaaGreat.Den
variable {R : Type} {Q : R → World → Prop} {w : World}
def cmp3 (x y : Int) : Int := if x < y then -1 else if x > y then 1 else 0
theorem half {i j : Nat} (h : i + j ≤ 9223372036854775807) : IntKind.wrap .i64 (shR .u64 (IntKind.wrap .u64 (IntKind.wrap .i64 ((i : Int) + (j : Int)))) 1) = (((i + j) / 2 : Nat) : Int) := by
  have e : IntKind.wrap .u64 (IntKind.wrap .i64 ((i : Int) + (j : Int))) = ((i + j : Nat) : Int) := by
    rw [w64 (by omega), IntKind.wrap_u64]; omega
  rw [e, show (1 : Int) = ((1 : Nat) : Int) from rfl, shR_div (by omega) (by decide), Int.toNat_natCast, w64 (by omega)]
theorem spec_Compare_ID {x y : Int} {K : Res [.sc (.int .i64)] → W R} (hk : K (cmp3 x y) Q w) : callW Tryz.prog k_cmp_Compare_ID [.int .u32 x, .int .u32 y] [.sc (.int .i64)] K Q w := by
  refine C_cmp_Compare_ID _ _ K Q w ?_
  unfold F_cmp_Compare_ID
  refine C_cmp_isNaN_ID _ _ _ _ ?_
  unfold F_cmp_isNaN_ID
  refine C_cmp_isNaN_ID _ _ _ _ ?_
  unfold F_cmp_isNaN_ID
  unfold cmp3 at hk
  refine condF (by simp) (condF (by simp) (condD (fun h => ?_) fun h => condD (fun h2 => ?_) fun h2 => ?_))
  · rw [if_pos h] at hk; exact hk
  · rw [if_neg h, if_pos h2] at hk; exact hk
  · rw [if_neg h, if_neg h2] at hk; exact hk
theorem spec_snap_Find_c1 {r : Int × Sl} {id : Int} {K : Res [.sc (.int .i64)] → W R} (hk : ∀ w', Fr None w w' → K (cmp3 r.1 id) Q w') : callW Tryz.prog k_snap_Find_c1 [.agg ⟨[.int .u32 r.1, .slice r.2.a r.2.n r.2.c]⟩, .int .u32 id] [.sc (.int .i64)] K Q w := by
  refine C_snap_Find_c1 r _ K Q w ?_
  unfold F_snap_Find_c1
  exact newI fun w1 B1 f1 s1 => fldI B1 (i := 0) (x := r.1) rfl (spec_Compare_ID (hk w1 f1))
def findE (L : List Ent) (id : Int) : Int := match L.findIdx? (fun e => e.1 == id) with
  | some i => i
  | none => -1
theorem cmp3_lt {x y : Int} : cmp3 x y < 0 ↔ x < y := by
  unfold cmp3
  split
  · simp; assumption
  · split
    · simp; omega
    · simp; omega
theorem cmp3_0 {x y : Int} : cmp3 x y = 0 ↔ x = y := by
  unfold cmp3
  split
  · simp; omega
  · split
    · simp; omega
    · simp; omega
theorem ids_lt {L : List Ent} (hs : L.Pairwise fun a b => a.1 < b.1) {p q : Nat} {a b : Ent} (hpq : p < q) (ha : L[p]? = some a) (hb : L[q]? = some b) : a.1 < b.1 := by
  obtain ⟨h1, rfl⟩ := List.getElem?_eq_some_iff.1 ha
  obtain ⟨h2, rfl⟩ := List.getElem?_eq_some_iff.1 hb
  exact List.pairwise_iff_getElem.1 hs p q h1 h2 hpq
theorem findE_some {L : List Ent} (hs : L.Pairwise fun a b => a.1 < b.1) {i : Nat} {e : Ent} (he : L[i]? = some e) : findE L e.1 = (i : Int) := by
  have : L.findIdx? (fun x => x.1 == e.1) = some i := by
    rw [List.findIdx?_eq_some_iff_getElem]
    obtain ⟨hl, hg⟩ := List.getElem?_eq_some_iff.1 he
    refine ⟨hl, by rw [hg]; simp, fun q hq => ?_⟩
    have := ids_lt hs hq (List.getElem?_eq_getElem (by omega)) he
    simp; omega
  rw [findE, this]
theorem findE_none {L : List Ent} {id : Int} (h : ∀ (q : Nat) e, L[q]? = some e → e.1 ≠ id) : findE L id = -1 := by
  have : L.findIdx? (fun x => x.1 == id) = none := by
    rw [List.findIdx?_eq_none_iff]
    intro x hx
    obtain ⟨q, hq⟩ := List.mem_iff_getElem?.1 hx
    simpa using h q x hq
  rw [findE, this]
theorem spec_snap_Find {ok : Nat → Prop} {s : Sl} {raws : List (Int × Sl)} {L : List Ent} (hS : SlT ok w entT s raws) (hE : EntsR ok w raws L) (hs : L.Pairwise fun a b => a.1 < b.1) (hm : L.length ≤ 4611686018427387903) {id : Int} {K : Res [.sc (.int .i64)] → W R} (hk : ∀ w', Fr None w w' → K (findE L id) Q w') :
    callW Tryz.prog k_snap_Find [.slice s.a s.n s.c, .int .u32 id] [.sc (.int .i64)] K Q w := by
  refine C_snap_Find s _ K Q w ?_
  unfold F_snap_Find
  refine C_slices_BinarySearchFunc_Ent__snap_Find_c1 s _ _ _ w ?_
  unfold F_slices_BinarySearchFunc_Ent__snap_Find_c1
  have hlen := hS.len
  have hel := hE.len
  refine loopI (fun (st : Int × Int) w' => ∃ i j : Nat, st = ((i : Int), (j : Int)) ∧ i ≤ j ∧ j ≤ L.length ∧ (∀ (q : Nat) e, q < i → L[q]? = some e → e.1 < id) ∧ (∀ (q : Nat) e, j ≤ q → L[q]? = some e → id ≤ e.1) ∧ Fr None w w') (fun st _ => (st.2 - st.1).toNat)
    ⟨0, s.n, rfl, by omega, by omega, fun q e h => absurd h (by omega), fun q e h he => by have := (List.getElem?_eq_some_iff.1 he).1; omega, Fr.refl _ _⟩ ?_
  rintro st w1 ⟨i, j, rfl, hij, hj, hlo, hhi, f1⟩
  dsimp only
  rw [half (i := i) (j := j) (by omega)]
  refine condD (fun hlt => ?_) fun hge => ?_
  · have hlt : (i : Int) < j := hlt
    obtain ⟨h, hh⟩ : ∃ h, (i + j) / 2 = h := ⟨_, rfl⟩
    rw [hh]
    have h1 : i ≤ h := by omega
    have h2 : h < j := by omega
    obtain ⟨e, he⟩ : ∃ e, L[h]? = some e := ⟨_, List.getElem?_eq_getElem (by omega)⟩
    obtain ⟨r1, hr1, ha1, _⟩ := hE.get he
    refine (hS.fr0 f1).get (j := h) rfl rfl (by omega) fun y hy => ?_
    rw [hr1] at hy
    cases hy
    refine spec_snap_Find_c1 fun w2 f2 => ?_
    rw [ha1]
    refine joinI (fun (z : Int × Int) w' => z = (if e.1 < id then (((h + 1 : Nat) : Int), (j : Int)) else ((i : Int), (h : Int))) ∧ w' = w2) ?_ ?_
    · refine condD (fun hc => ⟨?_, rfl⟩) fun hc => ⟨?_, rfl⟩
      · rw [if_pos (cmp3_lt.1 hc), w64 (by omega)]; rfl
      · rw [if_neg fun hx => hc (cmp3_lt.2 hx)]
    rintro z w3 ⟨rfl, rfl⟩
    by_cases hc : e.1 < id
    · rw [if_pos hc]
      refine ⟨⟨h + 1, j, rfl, by omega, hj, fun q e' hq he' => ?_, hhi, f1.then0 f2⟩, by dsimp only; omega⟩
      rcases Nat.lt_succ_iff_lt_or_eq.1 hq with hq | rfl
      · have := ids_lt hs hq he' he; omega
      · rw [he] at he'; cases he'; exact hc
    · rw [if_neg hc]
      refine ⟨⟨i, h, rfl, h1, by omega, hlo, fun q e' hq he' => ?_, f1.then0 f2⟩, by dsimp only; omega⟩
      rcases Nat.lt_or_eq_of_le hq with hq | rfl
      · have := ids_lt hs hq he he'; omega
      · rw [he] at he'; cases he'; omega
  · have hge : ¬ (i : Int) < j := hge
    have : i = j := by omega
    subst this
    refine joinI (fun (z : Int × Bool) w' => z.1 = (i : Int) ∧ (if z.2 = true then z.1 else -1) = findE L id ∧ Fr None w w') ?_ ?_
    · refine condD (fun hin => ?_) fun hout => ?_
      · have hin : (i : Int) < s.n := hin
        obtain ⟨e, he⟩ : ∃ e, L[i]? = some e := ⟨_, List.getElem?_eq_getElem (by omega)⟩
        obtain ⟨r1, hr1, ha1, _⟩ := hE.get he
        refine (hS.fr0 f1).get (j := i) rfl rfl (by omega) fun y hy => ?_
        rw [hr1] at hy
        cases hy
        refine spec_snap_Find_c1 fun w2 f2 => ⟨rfl, ?_, f1.then0 f2⟩
        rw [ha1]
        by_cases hc : e.1 = id
        · subst hc
          have : (cmp3 e.1 e.1 == 0) = true := by simpa using cmp3_0.2 rfl
          dsimp only
          rw [if_pos this, findE_some hs he]
        · have : ¬ (cmp3 e.1 id == 0) = true := by simpa using fun x => hc (cmp3_0.1 x)
          dsimp only
          rw [if_neg this, findE_none fun q e' he' => ?_]
          rcases Nat.lt_trichotomy q i with h | h | h
          · have := hlo q e' h he'; omega
          · subst h; rw [he] at he'; cases he'; exact hc
          · have := ids_lt hs h he he'; have := hhi i e (Nat.le_refl _) he; omega
      · have hout : ¬ (i : Int) < s.n := hout
        refine ⟨rfl, ?_, f1⟩
        dsimp only
        rw [if_neg (by decide), findE_none fun q e' he' => ?_]
        have := hlo q e' (by have := (List.getElem?_eq_some_iff.1 he').1; omega) he'
        omega
    rintro ⟨z1, z2⟩ w2 ⟨h1, h2, f2⟩
    dsimp only at h1 h2
    cases z2 with
    | true =>
      rw [if_pos rfl] at h2
      subst h2
      exact hk w2 f2
    | false =>
      rw [if_neg (by decide)] at h2
      have := hk w2 f2
      rw [← h2] at this
      exact this
end Go.Proofs.YtchhhjlpnecjkaaGreat
namespace Go.Proofs.YtchhhjlpnecjkaaGreat
open Go Go.RowKit Go.Proofs.YtchhhjlpnecjkaaGreat.Den
variable {R : Type} {Q : R → World → Prop} {w : World}
def oldM (L : List Ent) (id k : Int) : Comp := match L.findIdx? (fun e => e.1 == id) with
  | some i => (((L[i]?).bind fun e => e.2.find? fun c => c.1 == k)).getD (0, 0, 0, 0)
  | none => (0, 0, 0, 0)
theorem spec_packet_old {ok : Nat → Prop} {s : Sl} {raws : List (Int × Sl)} {L : List Ent} (hS : SlT ok w entT s raws) (hE : EntsR ok w raws L) (hs : L.Pairwise fun a b => a.1 < b.1) (hm : L.length ≤ 4611686018427387903) (hL : ∀ e ∈ L, e.2.length ≤ 9223372036854775807) {id k : Int} {K : Res [.agg [.int .u8, .int .i32, .int .i32, .int .i32]] → W R} (hk : ∀ w', Fr None w w' → K (oldM L id k) Q w') :
    callW Tryz.prog k_packet_old [.slice s.a s.n s.c, .int .u32 id, .int .u8 k] [.agg [.int .u8, .int .i32, .int .i32, .int .i32]] K Q w := by
  refine C_packet_old s _ _ K Q w ?_
  unfold F_packet_old
  refine newI fun w1 B1 f1 s1 => spec_snap_Find (hS.fr0 f1) (hE.fr f1 fun _ _ h => h) hs hm fun w2 f2 => ?_
  have B2 := B1.fr f2 fun h => h
  have f02 := f1.then0 f2
  have hs2 := f02.size
  unfold oldM at hk
  unfold findE
  cases hf : L.findIdx? (fun e => e.1 == id) with
  | none =>
    rw [hf] at hk
    refine condT rfl (stoAll B2 rfl rfl fun w3 B3 f3 s3 => aggI B3 (x := ((0, 0, 0, 0) : Comp)) rfl ?_)
    exact hk w3 (f02.newer f3 fun k e => by omega)
  | some i =>
    rw [hf] at hk
    dsimp only at hk
    have hil : i < L.length := by
      rw [List.findIdx?_eq_some_iff_getElem] at hf
      exact hf.1
    obtain ⟨e, he⟩ : ∃ e, L[i]? = some e := ⟨_, List.getElem?_eq_getElem hil⟩
    obtain ⟨r1, hr1, ha1, ha2⟩ := hE.get he
    rw [he] at hk
    refine condF (decide_eq_false (by show ¬ ((i : Int) < 0); omega)) ?_
    refine (hS.fr0 f02).readK rfl rfl hr1 fun ad had => (had _ (hS.fr0 f02)).fld (i := 1) (s := .sl) (y := r1.2) rfl ?_
    have hcl := ha2.len
    have hle := hL e (List.mem_of_getElem? he)
    refine forI (N := r1.2.n) (fun s : Int => s) (fun j t v => t = (j : Int) ∧ Fr None w2 v ∧ (∀ (q : Nat) c, q < j → e.2[q]? = some c → c.1 ≠ k)) ⟨rfl, Fr.refl _ _, fun q c h => absurd h (by omega)⟩ (fun j s w' h => h.1) ?_ ?_
    · rintro j t v K' hj ⟨rfl, fv, hno⟩ - hK
      refine ((ha2.fr0 f02).fr0 fv).get rfl rfl (by omega) fun c hc => ?_
      refine newI fun v1 C1 g1 t1 => stoAll C1 rfl rfl fun v2 C2 g2 t2 => fldI C2 (i := 0) (x := c.1) rfl ?_
      have gv : Fr None v v2 := g1.newer g2 fun k e => by omega
      have hsv := (fv.then0 gv).size
      refine condE (fun h => ?_) fun h => ?_
      · refine aggI C2 (x := c) rfl (stoAll ((B2.fr fv fun h => h).fr gv fun h => h) rfl rfl fun v3 C3 g3 t3 => aggI C3 (x := c) rfl ?_)
        have hfd : e.2.find? (fun c => c.1 == k) = some c := by
          rw [List.find?_eq_some_iff_getElem]
          obtain ⟨hl, hg⟩ := List.getElem?_eq_some_iff.1 hc
          refine ⟨by simpa using h, j, hl, hg, fun q hq => ?_⟩
          have := hno q _ hq (List.getElem?_eq_getElem (by omega))
          simpa using this
        have := hk v3 (((f02.then0 fv).then0 gv).newer g3 fun k e => by omega)
        simp only [Option.bind_some, hfd, Option.getD_some] at this
        exact this
      · refine hK _ _ ⟨wsucc hj (by omega), fv.then0 gv, fun q c' hq hc' => ?_⟩
        rcases Nat.lt_succ_iff_lt_or_eq.1 hq with h1 | h1
        · exact hno q c' h1 hc'
        · subst h1; rw [hc] at hc'; cases hc'; exact h
    · rintro t v ⟨_, fv, hno⟩
      have hfd : e.2.find? (fun c => c.1 == k) = none := by
        rw [List.find?_eq_none]
        intro x hx
        obtain ⟨q, hq⟩ := List.mem_iff_getElem?.1 hx
        have := hno q x (by have := (List.getElem?_eq_some_iff.1 hq).1; omega) hq
        simpa using this
      have hsv := fv.size
      refine stoAll (B2.fr fv fun h => h) rfl rfl fun v3 C3 g3 t3 => aggI C3 (x := ((0, 0, 0, 0) : Comp)) rfl ?_
      have := hk v3 ((f02.then0 fv).newer g3 fun k e => by omega)
      simp only [Option.bind_some, hfd, Option.getD_none] at this
      exact this
end Go.Proofs.YtchhhjlpnecjkaaGreat
namespace Go.Proofs.YtchhhjlpnecjkaaGreat.Den
open Go Go.RowKit
variable {R : Type} {Q : R → World → Prop} {w : World} {α β : Type}
structure All2 (p : α → β → Prop) (l : List α) (k : List β) : Prop where
  len : l.length = k.length
  at_ : ∀ (i : Nat) (a : α) (b : β), l[i]? = some a → k[i]? = some b → p a b
theorem All2.nil (p : α → β → Prop) : All2 p [] [] := ⟨rfl, fun i a b h => by simp at h⟩
theorem All2.imp {p q : α → β → Prop} {l : List α} {k : List β} (h : All2 p l k) (hi : ∀ a b, p a b → q a b) : All2 q l k := ⟨h.len, fun i a b h1 h2 => hi a b (h.at_ i a b h1 h2)⟩
theorem All2.snoc {p : α → β → Prop} {l : List α} {k : List β} {a : α} {b : β} (h : All2 p l k) (hp : p a b) : All2 p (l ++ [a]) (k ++ [b]) := by
  refine ⟨by simp [h.len], fun i x y h1 h2 => ?_⟩
  have hl := h.len
  by_cases hi : i < l.length
  · rw [List.getElem?_append_left hi] at h1
    rw [List.getElem?_append_left (by omega)] at h2
    exact h.at_ i x y h1 h2
  · rw [List.getElem?_append_right (by omega)] at h1 h2
    have hz : i - l.length = 0 := by have := (List.getElem?_eq_some_iff.1 h1).1; simp at this; omega
    rw [hz] at h1
    rw [show i - k.length = 0 by omega] at h2
    simp at h1 h2
    subst h1; subst h2
    exact hp
theorem All2.get {p : α → β → Prop} {l : List α} {k : List β} (h : All2 p l k) {i : Nat} {b : β} (hb : k[i]? = some b) : ∃ a, l[i]? = some a ∧ p a b := by
  obtain ⟨hl, _⟩ := List.getElem?_eq_some_iff.1 hb
  have ha := List.getElem?_eq_getElem (l := l) (i := i) (by rw [h.len]; exact hl)
  exact ⟨_, ha, h.at_ i _ b ha hb⟩
theorem All2.getL {p : α → β → Prop} {l : List α} {k : List β} (h : All2 p l k) {i : Nat} {a : α} (ha : l[i]? = some a) : ∃ b, k[i]? = some b ∧ p a b := by
  obtain ⟨hl, _⟩ := List.getElem?_eq_some_iff.1 ha
  have hb := List.getElem?_eq_getElem (l := k) (i := i) (by rw [← h.len]; exact hl)
  exact ⟨_, hb, h.at_ i a _ ha hb⟩
theorem All2.take {p : α → β → Prop} {l : List α} {k : List β} (h : All2 p l k) (n : Nat) : All2 p (l.take n) (k.take n) := by
  refine ⟨by simp [h.len], fun i a b h1 h2 => ?_⟩
  rw [List.getElem?_take] at h1 h2
  split at h1
  · rename_i hi; rw [if_pos hi] at h2; exact h.at_ i a b h1 h2
  · cases h1
theorem All2.drop {p : α → β → Prop} {l : List α} {k : List β} (h : All2 p l k) (n : Nat) : All2 p (l.drop n) (k.drop n) := by
  refine ⟨by simp [h.len], fun i a b h1 h2 => ?_⟩
  rw [List.getElem?_drop] at h1 h2
  exact h.at_ _ a b h1 h2
abbrev Rel (α β : Type) := (Nat → Prop) → World → α → β → Prop
def Rel.st (ρ : Rel α β) : Prop := ∀ a b, St fun F w => ρ F w a b
structure DR {t : Ty} (ρ : Rel t.T β) (ok : Nat → Prop) (w : World) (s : Sl) (raws : List t.T) (L : List β) : Prop where
  sl : SlT ok w t s raws
  all : All2 (fun a b => ρ ok w a b) raws L
theorem DR.st {t : Ty} {ρ : Rel t.T β} (hρ : ρ.st) {s : Sl} {raws : List t.T} {L : List β} : St fun F w => DR ρ F w s raws L := fun {_F _F' _S _w _w'} h f hs =>
  ⟨SlT.st h.sl f hs, h.all.imp fun a b hab => hρ a b hab f hs⟩
structure DO {t : Ty} (ρ : Rel t.T β) (E : TypeId) (S : Nat → Prop) (w : World) (s : Sl) (raws : List t.T) (L : List β) (lab : Nat → Nat) : Prop where
  own : Own (fun k => S k ∧ lab k = 0) w E t s raws
  len : raws.length = L.length
  at_ : ∀ (i : Nat) (a : t.T) (b : β), raws[i]? = some a → L[i]? = some b → ρ (fun k => S k ∧ lab k = i + 1) w a b
section
variable {t : Ty} {ρ : Rel t.T β} {E : TypeId} {S : Nat → Prop} {s : Sl} {raws : List t.T} {L : List β} {lab : Nat → Nat}
theorem DO.nil (S : Nat → Prop) (w : World) : DO ρ E S w ⟨none, 0, 0⟩ [] [] (fun _ => 0) := ⟨Own.nil _ _ _ _, rfl, fun i a b h => by simp at h⟩
theorem DO.read (hρ : ρ.st) (h : DO ρ E S w s raws L lab) : DR ρ S w s raws L := ⟨SlT.st.mono h.own.sl fun _ _ e => e.1, h.len, fun i a b h1 h2 => St.mono (A := fun F w => ρ F w a b) (hρ a b) (h.at_ i a b h1 h2) fun _ _ e => e.1⟩
theorem DO.fr (hρ : ρ.st) (h : DO ρ E S w s raws L lab) {S' T : Nat → Prop} {w' : World} (f : Fr T w w') (hs : ∀ k, k < w.heap.size → S k → ¬ T k ∧ S' k) : DO ρ E S' w' s raws L lab :=
  ⟨Own.st h.own f fun k hk e => ⟨(hs k hk e.1).1, (hs k hk e.1).2, e.2⟩, h.len, fun i a b h1 h2 => hρ a b (h.at_ i a b h1 h2) f fun k hk e => ⟨(hs k hk e.1).1, (hs k hk e.1).2, e.2⟩⟩
theorem DO.fr0 (hρ : ρ.st) (h : DO ρ E S w s raws L lab) {w' : World} (f : Fr None w w') : DO ρ E S w' s raws L lab := h.fr hρ f fun _ _ e => ⟨fun h => h, e⟩
theorem DO.app {P : Program} {T ty : TypeId} {bytes : Nat} (H : SlTy P T E t bytes) (hρ : ρ.st) {w1 : World} (h : DO ρ E S w1 s raws L lab) (f : Fr None w1 w) (hS : ∀ k, w1.heap.size ≤ k → S k) {a : t.T} {b : β} (hab : ρ (fun k => w1.heap.size ≤ k) w a b)
    {cs : List Value} (hc : cs = t.cells a) (hb : (L.length + 1) * bytes ≤ 140737488355328) (hm : L.length + 1 ≤ 9223372036854775807) {K : Sl → W R}
    (hk : ∀ r lab' w', DO ρ E S w' r (raws ++ [a]) (L ++ [b]) lab' → Fr (fun k => s.v.ownBlock = some k) w w' → K r Q w') :
    newW E cs (fun x => rawW P (Builtin.append_ #[T, T] ty #[.slice s.a s.n s.c, .slice (some x) 1 1]) [.sc .sl] K) Q w := by
  have hfs := f.size
  have hl := h.len
  have o1 : Own (fun k => (S k ∧ lab k = 0 ∧ k < w1.heap.size) ∨ w.heap.size ≤ k) w E t s raws := Own.st h.own f fun k hk e => ⟨fun h => h, .inl ⟨e.1, e.2, hk⟩⟩
  have own0 : ∀ k, s.v.ownBlock = some k → lab k = 0 ∧ k < w1.heap.size := fun k e => ⟨(h.own.own k e).2, h.own.lt e⟩
  refine appP H hc o1 (fun k e => .inr e) (by rw [hl]; exact hb) (by rw [hl]; exact hm) fun r w' o' f' => ?_
  have hfs' := f'.size
  refine hk r (fun k => if k < w1.heap.size then lab k else if k < w.heap.size then L.length + 1 else 0) w' ⟨?_, by simp [hl], fun i x y h1 h2 => ?_⟩ f'
  · refine o'.mono fun k _ e => ?_
    rcases e with e | e
    · exact ⟨e.1, by simp only [if_pos e.2.2]; exact e.2.1⟩
    · exact ⟨hS k (by omega), by simp only [if_neg (show ¬ k < w1.heap.size by omega), if_neg (show ¬ k < w.heap.size by omega)]⟩
  · by_cases hi : i < raws.length
    · rw [List.getElem?_append_left hi] at h1
      rw [List.getElem?_append_left (by omega)] at h2
      have h3 := h.at_ i x y h1 h2
      refine hρ x y h3 (f.any.then f') fun k hk e => ⟨fun e2 => ?_, e.1, ?_⟩
      · have := (own0 k e2).1; omega
      · simp only [if_pos hk]; exact e.2
    · rw [List.getElem?_append_right (by omega)] at h1 h2
      have hz : i - raws.length = 0 := by have := (List.getElem?_eq_some_iff.1 h1).1; simp at this; omega
      rw [hz] at h1
      rw [show i - L.length = 0 by omega] at h2
      simp at h1 h2
      subst h1; subst h2
      refine hρ a b hab f' fun k hk e => ⟨fun e2 => ?_, hS k e, ?_⟩
      · have := (own0 k e2).2; omega
      · have e : w1.heap.size ≤ k := e
        simp only [if_neg (show ¬ k < w1.heap.size by omega), if_pos hk]
        omega
end
end Go.Proofs.YtchhhjlpnecjkaaGreat.Den
namespace Go.Proofs.YtchhhjlpnecjkaaGreat
open Go Go.RowKit Go.Proofs.YtchhhjlpnecjkaaGreat.Den
variable {R : Type} {Q : R → World → Prop} {w : World}
theorem spec_diff_find_c1 {c : Comp} {k : Int} {bk : Nat} {T : TypeId} (B : Blk w bk T [.int .u8 k]) {K : Res [.sc .bool] → W R} (hk : ∀ w', Fr None w w' → K (c.1 == k) Q w') :
    callW Tryz.prog k_diff_find_c1 [.agg ⟨compC c⟩, .pointer (some ⟨bk, 0, none⟩)] [.sc .bool] K Q w := by
  refine C_diff_find_c1 c _ K Q w ?_
  unfold F_diff_find_c1
  refine newI fun w1 B1 f1 s1 => fldI B1 (i := 0) (x := c.1) rfl (ptrI (fld0 (B.fr f1 fun h => h) (i := 0) (x := k) rfl (hk w1 f1)))
theorem spec_IndexFunc_kind {ok : Nat → Prop} {s : Sl} {l : List Comp} (hS : SlT ok w compT s l) (hm : l.length ≤ 9223372036854775807) {k : Int} {bk : Nat} {T : TypeId} (B : Blk w bk T [.int .u8 k]) {K : Res [.sc (.int .i64)] → W R} (hk : ∀ w', Fr None w w' → K (findM l k) Q w') :
    callW Tryz.prog k_slices_IndexFunc_Comp [.slice s.a s.n s.c, .func (.func 165) #[] #[.pointer (some ⟨bk, 0, none⟩)]] [.sc (.int .i64)] K Q w := by
  refine C_slices_IndexFunc_Comp__diff_find_c1 s _ K Q w ?_
  unfold F_slices_IndexFunc_Comp__diff_find_c1
  have hlen := hS.len
  refine forI (N := s.n) (fun s : Int => s) (fun j i w' => i = j ∧ Fr None w w' ∧ ∀ q y, q < j → l[q]? = some y → y.1 ≠ k) ⟨rfl, Fr.refl _ _, by omega⟩ (fun j s w' h => h.1) ?_ ?_
  · rintro j i w1 K' hj ⟨rfl, f1, hno⟩ - hK
    refine (hS.fr0 f1).get rfl rfl (by omega) fun x hx => spec_diff_find_c1 (B.fr f1 fun h => h) fun w2 f2 => ?_
    refine condE (fun h => ?_) fun h => ?_
    · have : l.findIdx? (fun c => c.1 == k) = some j := by
        rw [List.findIdx?_eq_some_iff_getElem]
        obtain ⟨hl, he⟩ := List.getElem?_eq_some_iff.1 hx
        refine ⟨hl, by rw [he]; simpa using h, fun q hq => ?_⟩
        have := hno q _ hq (List.getElem?_eq_getElem (by omega))
        simpa using this
      have e := hk w2 (f1.then0 f2)
      rw [findM, this] at e
      exact e
    · refine hK _ _ ⟨wsucc hj (by omega), f1.then0 f2, fun q y hq hy => ?_⟩
      rcases Nat.lt_succ_iff_lt_or_eq.1 hq with h1 | h1
      · exact hno q y h1 hy
      · subst h1; rw [hx] at hy; cases hy; exact h
  · rintro i w1 ⟨rfl, f1, hno⟩
    have : l.findIdx? (fun c => c.1 == k) = none := by
      rw [List.findIdx?_eq_none_iff]
      intro x hx
      obtain ⟨q, hq⟩ := List.mem_iff_getElem?.1 hx
      have := hno q x (by rw [hlen]; exact (List.getElem?_eq_some_iff.1 hq).1) hq
      simpa using this
    have e := hk w1 f1
    rw [findM, this] at e
    exact e
def findC (l : List Comp) (k : Int) : Comp × Bool := match l.findIdx? (fun c => c.1 == k) with
  | some i => ((l[i]?).getD (0, 0, 0, 0), true)
  | none => ((0, 0, 0, 0), false)
theorem spec_diff_find {ok : Nat → Prop} {s : Sl} {l : List Comp} (hS : SlT ok w compT s l) (hm : l.length ≤ 9223372036854775807) {k : Int} {K : Res [.agg [.int .u8, .int .i32, .int .i32, .int .i32], .sc .bool] → W R} (hk : ∀ w', Fr None w w' → K (findC l k) Q w') :
    callW Tryz.prog k_diff_find [.slice s.a s.n s.c, .int .u8 k] [.agg [.int .u8, .int .i32, .int .i32, .int .i32], .sc .bool] K Q w := by
  refine C_diff_find s _ K Q w ?_
  unfold F_diff_find
  refine newI fun w1 B1 f1 s1 => newI fun w2 B2 f2 s2 => ?_
  have f02 := f1.then0 f2
  refine spec_IndexFunc_kind (hS.fr0 f02) hm (B1.fr f2 fun h => h) fun w3 f3 => ?_
  have B3 := B2.fr f3 fun h => h
  have f03 := f02.then0 f3
  have hs := f03.size
  unfold findC at hk
  unfold findM
  cases hf : l.findIdx? (fun c => c.1 == k) with
  | none =>
    rw [hf] at hk
    refine condT rfl (stoAll B3 rfl rfl fun w4 B4 f4 s4 => aggI B4 (x := ((0, 0, 0, 0) : Comp)) rfl ?_)
    exact hk w4 (f03.newer f4 fun k e => by omega)
  | some i =>
    rw [hf] at hk
    dsimp only at hk
    have hil : i < l.length := by
      rw [List.findIdx?_eq_some_iff_getElem] at hf
      exact hf.1
    refine condF (decide_eq_false (by show ¬ ((i : Int) < 0); omega)) ?_
    refine (hS.fr0 f03).get (j := i) rfl rfl hil fun y hy => ?_
    rw [hy] at hk
    refine stoAll B3 rfl rfl fun w4 B4 f4 s4 => aggI B4 (x := y) rfl ?_
    exact hk w4 (f03.newer f4 fun k e => by omega)
end Go.Proofs.YtchhhjlpnecjkaaGreat
namespace Go.Proofs.YtchhhjlpnecjkaaGreat
open Go Go.RowKit Go.Proofs.YtchhhjlpnecjkaaGreat.Den
variable {R : Type} {Q : R → World → Prop} {w : World}
abbrev ChgRaw := Int × Int × Sl × Sl
theorem spec_diff_nothing {r : ChgRaw} {K : Res [.sc .bool] → W R} (hk : ∀ w', Fr None w w' → K (decide (r.2.1 = 0 ∧ r.2.2.1.n = 0 ∧ r.2.2.2.n = 0)) Q w') :
    callW Tryz.prog k_diff_nothing [.agg ⟨[.int .u32 r.1, .int .u8 r.2.1, .slice r.2.2.1.a r.2.2.1.n r.2.2.1.c, .slice r.2.2.2.a r.2.2.2.n r.2.2.2.c]⟩] [.sc .bool] K Q w := by
  refine C_diff_nothing r K Q w ?_
  unfold F_diff_nothing
  refine newI fun w1 B f1 s1 => ?_
  refine joinI (fun z w' => z = decide (r.2.1 = 0 ∧ r.2.2.1.n = 0 ∧ r.2.2.2.n = 0) ∧ w' = w1) ?_ fun z w' ⟨hz, hw⟩ => by subst hz; subst hw; exact hk _ f1
  refine fldI B (i := 1) (x := r.2.1) rfl (condE (fun a => ?_) fun a => ⟨by simp [a], rfl⟩)
  refine fldI B (i := 2) (x := r.2.2.1) rfl (condE (fun b => ?_) fun b => ⟨?_, rfl⟩)
  · have b : r.2.2.1.n = 0 := by have b : (r.2.2.1.n : Int) = 0 := b; omega
    refine fldI B (i := 3) (x := r.2.2.2) rfl ⟨?_, rfl⟩
    by_cases c : r.2.2.2.n = 0
    · simp [a, b, c]
    · have : ¬ (r.2.2.2.n : Int) = 0 := by omega
      simp [a, b, c]
  · have b : ¬ r.2.2.1.n = 0 := by have b : ¬ (r.2.2.1.n : Int) = 0 := b; omega
    simp [b]
end Go.Proofs.YtchhhjlpnecjkaaGreat
namespace Go.Proofs.YtchhhjlpnecjkaaGreat
open Go Go.RowKit Go.Proofs.YtchhhjlpnecjkaaGreat.Den
variable {R : Type} {Q : R → World → Prop} {w : World}
theorem appLab {P : Program} {T E ty : TypeId} {t : Ty} {bytes : Nat} (H : SlTy P T E t bytes) {lab : Nat → Nat} {i : Nat} {o : Sl} {lo : List t.T} {x : t.T} {cs : List Value} (hc : cs = t.cells x) (ho : Own (fun k => lab k = i) w E t o lo)
    (hb : (lo.length + 1) * bytes ≤ 140737488355328) (hm : lo.length + 1 ≤ 9223372036854775807) {K : Sl → W R}
    (hk : ∀ r w', Own (fun k => relab lab w.heap.size w'.heap.size i k = i) w' E t r (lo ++ [x]) → Fr (fun k => lab k = i) w w' → K r Q w') : newW E cs (fun a => rawW P (Builtin.append_ #[T, T] ty #[.slice o.a o.n o.c, .slice (some a) 1 1]) [.sc .sl] K) Q w :=
  appP H hc (ho.mono fun k _ e => Or.inl e : Own (Ex (fun k => lab k = i) w) w E t o lo) (fun k e => .inr e) hb hm fun r w' o' f' =>
    hk r w' (St.grown (A := fun F w => Own F w E t r (lo ++ [x])) Own.st o') (f'.sub fun k e => ho.own k e)
abbrev Chg := Int × Int × List Comp × List Comp
abbrev chgT : Ty := .agg [.int .u32, .int .u8, .sl, .sl]
theorem chgs_ty : SlTy Tryz.prog 78 86 chgT 56 := slTy (by kernel_rfl)
def chgR : Rel ChgRaw Chg := fun F w r d => r.1 = d.1 ∧ r.2.1 = d.2.1 ∧ SlT F w compT r.2.2.1 d.2.2.1 ∧ SlT F w compT r.2.2.2 d.2.2.2
theorem chgR_st : chgR.st := fun a b => fun {F F' S w w'} h f hs => ⟨h.1, h.2.1, SlT.st h.2.2.1 f hs, SlT.st h.2.2.2 f hs⟩
def lostM (a b : List Comp) : Int := bNot .u8 (maskN a : Int) (maskN b : Int)
def newM (a l : List Comp) : List Comp := l.filter fun c => !(findC a c.1).2
def chM (a l : List Comp) : List Comp := l.filter fun c => (findC a c.1).2 && !decide ((findC a c.1).1 = c)
def changeM (a b : Ent) : Chg := (b.1, lostM a.2 b.2, newM a.2 b.2, chM a.2 b.2)
theorem newM_le (a l : List Comp) : (newM a l).length ≤ l.length := List.length_filter_le _ _
theorem chM_le (a l : List Comp) : (chM a l).length ≤ l.length := List.length_filter_le _ _
theorem newM_snoc (a l : List Comp) (c : Comp) : newM a (l ++ [c]) = newM a l ++ if (findC a c.1).2 = false then [c] else [] := by
  unfold newM
  rw [List.filter_append]
  congr 1
  by_cases h : (findC a c.1).2 = true
  · simp [List.filter, h]
  · simp [List.filter, h]
theorem chM_snoc (a l : List Comp) (c : Comp) : chM a (l ++ [c]) = chM a l ++ if (findC a c.1).2 = true ∧ (findC a c.1).1 ≠ c then [c] else [] := by
  unfold chM
  rw [List.filter_append]
  congr 1
  by_cases h : (findC a c.1).2 = true
  · by_cases hq : (findC a c.1).1 = c
    · simp [List.filter, h, hq]
    · simp [List.filter, h, hq]
  · simp [List.filter, h]
structure ChgI (n bd : Nat) (id lost : Int) (a l : List Comp) (lab : Nat → Nat) (sn ss : Sl) (w : World) : Prop where
  blk : Blk w bd 86 [.int .u32 id, .int .u8 lost, .slice sn.a sn.n sn.c, .slice ss.a ss.n ss.c]
  lb : lab bd = 3
  new : Own (fun k => lab k = 1) w 92 compT sn (newM a l)
  set : Own (fun k => lab k = 2) w 92 compT ss (chM a l)
  up : ∀ k, lab k ≠ 0 → n ≤ k ∧ k < w.heap.size
theorem ChgI.fr0 {n bd : Nat} {id lost : Int} {a l : List Comp} {lab : Nat → Nat} {sn ss : Sl} (h : ChgI n bd id lost a l lab sn ss w) {w' : World} (f : Fr None w w') : ChgI n bd id lost a l lab sn ss w' :=
  ⟨h.blk.fr f fun h => h, h.lb, h.new.none f, h.set.none f, fun k e => ⟨(h.up k e).1, Nat.lt_of_lt_of_le (h.up k e).2 f.size⟩⟩
theorem spec_diff_change {ok ok2 : Nat → Prop} {r1 r2 : Int × Sl} {e1 e2 : Ent} (h1 : SlT ok w compT r1.2 e1.2) (h2 : SlT ok2 w compT r2.2 e2.2) (hid : r2.1 = e2.1) (hm1 : Small e1.2) (hm2 : Small e2.2) (hc1 : ∀ c ∈ e1.2, CompOk c) (hc2 : ∀ c ∈ e2.2, CompOk c) {K : Res [.agg [.int .u32, .int .u8, .sl, .sl]] → W R}
    (hk : ∀ r w', chgR (Up w.heap.size) w' r (changeM e1 e2) → Fr None w w' → K r Q w') :
    callW Tryz.prog k_diff_change [.agg ⟨[.int .u32 r1.1, .slice r1.2.a r1.2.n r1.2.c]⟩, .agg ⟨[.int .u32 r2.1, .slice r2.2.a r2.2.n r2.2.c]⟩] [.agg [.int .u32, .int .u8, .sl, .sl]] K Q w := by
  refine C_diff_change r1 r2 K Q w ?_
  unfold F_diff_change
  refine newI fun w1 B1 f1 s1 => newI fun w2 B2 f2 s2 => newI fun w3 B3 f3 s3 => ?_
  have B1 := (B1.fr f2 fun h => h).fr f3 fun h => h
  have B2 := B2.fr f3 fun h => h
  have f03 := (f1.then0 f2).then0 f3
  have l1 := h1.len
  have l2 := h2.len
  have hz := f03.size
  refine joinI (fun s v => ∃ bd, s = some ⟨bd, 0, none⟩ ∧ w3.heap.size ≤ bd ∧ Blk v bd 86 [.int .u32 e2.1, .int .u8 (lostM e1.2 e2.2), .slice none 0 0, .slice none 0 0] ∧ Fr None w3 v) ?_ ?_
  · have fd : Fr None w3 w3.drew := (Fr.refl _ _).drew
    have B1 := B1.fr fd fun h => h
    have B2 := B2.fr fd fun h => h
    have f0d := f03.then0 fd
    have g1 := h1.fr0 f0d
    have g2 := h2.fr0 f0d
    refine bothI ?_ (bothI ?_ ?_)
    · refine fldI B2 (i := 0) (x := r2.1) rfl (fldI B1 (i := 1) (x := r1.2) rfl (fldI B2 (i := 1) (x := r2.2) rfl ?_))
      refine spec_schema_Mask g1 hm1 hc1 fun w4 f4 => ?_
      refine andI ((B2.fr f4 fun h => h).rd (s := .sl) (i := 1) (x := r2.2) rfl) (andI ((B2.fr f4 fun h => h).rd (s := .int .u32) (i := 0) (x := r2.1) rfl) ?_)
      refine spec_schema_Mask (g2.fr0 f4) hm2 hc2 fun w5 f5 => andI (((B2.fr f4 fun h => h).fr f5 fun h => h).rd (s := .int .u32) (i := 0) (x := r2.1) rfl) ?_
      have f35 := (fd.then0 f4).then0 f5
      have hs := f35.size
      refine newI fun w6 B6 f6 s6 => stoAll B6 rfl rfl fun w7 B7 f7 s7 => ⟨_, rfl, hs, ?_, (f35.then0 f6).newer f7 fun k e => by omega⟩
      rw [← hid]; exact B7
    · refine fldI B2 (i := 0) (x := r2.1) rfl (fldI B1 (i := 1) (x := r1.2) rfl (fldI B2 (i := 1) (x := r2.2) rfl ?_))
      refine spec_schema_Mask g1 hm1 hc1 fun w4 f4 => ?_
      refine andI ((B2.fr f4 fun h => h).rd (s := .sl) (i := 1) (x := r2.2) rfl) (andI ((B2.fr f4 fun h => h).rd (s := .int .u32) (i := 0) (x := r2.1) rfl) ?_)
      have f34 := fd.then0 f4
      have hs := f34.size
      refine newI fun w5 B5 f5 s5 => ?_
      refine spec_schema_Mask ((g2.fr0 f4).fr0 f5) hm2 hc2 fun w6 f6 => andI ((((B2.fr f4 fun h => h).fr f5 fun h => h).fr f6 fun h => h).rd (s := .int .u32) (i := 0) (x := r2.1) rfl) ?_
      refine stoAll (B5.fr f6 fun h => h) rfl rfl fun w7 B7 f7 s7 => ⟨_, rfl, hs, ?_, ((f34.then0 f5).then0 f6).newer f7 fun k e => by omega⟩
      rw [← hid]; exact B7
    · refine fldI B2 (i := 0) (x := r2.1) rfl (fldI B1 (i := 1) (x := r1.2) rfl (fldI B2 (i := 1) (x := r2.2) rfl ?_))
      have hs := fd.size
      refine newI fun w4 B4 f4 s4 => ?_
      refine spec_schema_Mask (g1.fr0 f4) hm1 hc1 fun w5 f5 => ?_
      have B25 := (B2.fr f4 fun h => h).fr f5 fun h => h
      refine andI (B25.rd (s := .sl) (i := 1) (x := r2.2) rfl) (andI (B25.rd (s := .int .u32) (i := 0) (x := r2.1) rfl) ?_)
      refine spec_schema_Mask ((g2.fr0 f4).fr0 f5) hm2 hc2 fun w6 f6 => andI ((B25.fr f6 fun h => h).rd (s := .int .u32) (i := 0) (x := r2.1) rfl) ?_
      refine stoAll ((B4.fr f5 fun h => h).fr f6 fun h => h) rfl rfl fun w7 B7 f7 s7 => ⟨_, rfl, hs, ?_, (((fd.then0 f4).then0 f5).then0 f6).newer f7 fun k e => by have : w3.drew.heap.size = w3.heap.size := rfl; omega⟩
      rw [← hid]; exact B7
  rintro s v0 ⟨bd, rfl, hbd, B0, f3v⟩
  refine fldI (B2.fr f3v fun h => h) (i := 1) (x := r2.2) rfl ?_
  have hbl := B0.lt
  refine forI (N := r2.2.n) (fun s : Int => s) (fun j i v => i = (j : Int) ∧ (∃ lab sn ss, ChgI w3.heap.size bd e2.1 (lostM e1.2 e2.2) e1.2 (e2.2.take j) lab sn ss v) ∧ Fr None w3 v)
    ⟨rfl, ⟨fun k => if k = bd then 3 else 0, ⟨none, 0, 0⟩, ⟨none, 0, 0⟩, B0, by simp, Own.nil _ _ _ _, Own.nil _ _ _ _, fun k e => by
      by_cases hkb : k = bd
      · subst hkb; exact ⟨hbd, hbl⟩
      · exact absurd (if_neg hkb) e⟩, f3v⟩ (fun j s w' h => h.1) ?_ ?_
  · rintro j i v K' hj ⟨rfl, ⟨lab, sn, ss, D⟩, fv⟩ - hK
    refine (h2.fr0 (f03.then0 fv)).get rfl rfl (by omega) fun c hc => ?_
    refine newI fun v1 C1 g1 t1 => stoAll C1 rfl rfl fun v2 C2 g2 t2 => ?_
    have gv2 : Fr None v v2 := g1.newer g2 fun k e => by omega
    have fv2 := fv.then0 gv2
    refine fldI (B1.fr fv2 fun h => h) (i := 1) (x := r1.2) rfl (fldI C2 (i := 0) (x := c.1) rfl ?_)
    refine spec_diff_find (h1.fr0 (f03.then0 fv2)) (Nat.le_trans hm1 (by decide)) fun v3 g3 => ?_
    have C3 := C2.fr g3 fun h => h
    refine newI fun v4 C4 g4 t4 => stoAll C4 rfl rfl fun v5 C5 g5 t5 => ?_
    have g35 : Fr None v3 v5 := g4.newer g5 fun k e => by omega
    have C35 := C3.fr g35 fun h => h
    have gv5 := (gv2.then0 g3).then0 g35
    have D5 := D.fr0 gv5
    have fv5 := fv.then0 gv5
    have hs5 := gv5.size
    have hcl : c ∈ e2.2 := List.mem_of_getElem? hc
    have eN := newM_snoc e1.2 (e2.2.take j) c
    have eS := chM_snoc e1.2 (e2.2.take j) c
    rw [← take_at hc] at eN eS
    have lN : (newM e1.2 (e2.2.take j)).length ≤ 1048576 := Nat.le_trans (newM_le _ _) (Nat.le_trans (by simp; omega) hm2)
    have lS : (chM e1.2 (e2.2.take j)).length ≤ 1048576 := Nat.le_trans (chM_le _ _) (Nat.le_trans (by simp; omega) hm2)
    generalize findC e1.2 c.1 = fc at C5 eN eS
    refine joinI (fun (_ : Unit) v => (∃ lab sn ss, ChgI w3.heap.size bd e2.1 (lostM e1.2 e2.2) e1.2 (e2.2.take (j + 1)) lab sn ss v) ∧ Fr None w3 v) ?_ ?_
    · refine condI (fun hb => ?_) fun hb => ?_
      · have hb : fc.2 = false := by simpa using hb
        refine ptrI (fldI D5.blk (i := 2) (x := sn) rfl (aggI C35 (x := c) rfl ?_))
        refine appLab (x := c) comps_ty rfl D5.new (by omega) (by omega) fun r v6 o6 g6 => ?_
        have hs6 := g6.size
        have B6 := D5.blk.fr g6 fun e => by have := D5.lb; omega
        refine ptrI ?_
        rw [add_lit]
        refine setI (i := 2) B6 (by simp) rfl fun v7 B7 g7 t7 => ?_
        have nb : ∀ k, relab lab v5.heap.size v6.heap.size 1 k ≠ 3 → k ≠ bd := fun k e e2 => by
          subst e2
          rw [relab_lt (D5.blk.lt)] at e
          exact e D5.lb
        refine ⟨⟨relab lab v5.heap.size v6.heap.size 1, r, ss, B7, ?_, ?_, ?_, fun k e => ?_⟩, ?_⟩
        · rw [relab_lt D5.blk.lt]; exact D5.lb
        · rw [eN, if_pos hb]
          exact o6.fr g7 fun k e => nb k (by omega)
        · rw [eS, if_neg (by simp [hb]), List.append_nil]
          have := St.other (A := fun F w => Own F w 92 compT ss (chM e1.2 (e2.2.take j))) Own.st (c := 1) D5.set g6 (by decide)
          exact this.fr g7 fun k e => nb k (by omega)
        · rcases relab_ne e with e | e
          · have := D5.up k e.1; omega
          · have := fv5.size; omega
        · refine (fv5.newer g6 fun k e => ?_).newer g7 fun k e => by omega
          exact (D5.up k (by omega)).1
      · have hb : fc.2 = true := by simpa using hb
        refine aggI C5 (x := fc.1) rfl (aggI C35 (x := c) rfl ?_)
        refine neqI eqG_comp (eqV_comp fc.1 c) ?_
        refine joinI (fun (_ : Unit) v => (∃ lab sn ss, ChgI w3.heap.size bd e2.1 (lostM e1.2 e2.2) e1.2 (e2.2.take (j + 1)) lab sn ss v) ∧ Fr None w3 v) ?_ fun _ v h => h
        refine condI (fun hd => ?_) fun hd => ?_
        · have hd : fc.1 ≠ c := by simpa using hd
          refine ptrI (fldI D5.blk (i := 3) (x := ss) rfl (aggI C35 (x := c) rfl ?_))
          refine appLab (x := c) comps_ty rfl D5.set (by omega) (by omega) fun r v6 o6 g6 => ?_
          have hs6 := g6.size
          have B6 := D5.blk.fr g6 fun e => by have := D5.lb; omega
          refine ptrI ?_
          rw [add_lit]
          refine setI (i := 3) B6 (by simp) rfl fun v7 B7 g7 t7 => ?_
          have nb : ∀ k, relab lab v5.heap.size v6.heap.size 2 k ≠ 3 → k ≠ bd := fun k e e2 => by
            subst e2
            rw [relab_lt (D5.blk.lt)] at e
            exact e D5.lb
          refine ⟨⟨relab lab v5.heap.size v6.heap.size 2, sn, r, B7, ?_, ?_, ?_, fun k e => ?_⟩, ?_⟩
          · rw [relab_lt D5.blk.lt]; exact D5.lb
          · rw [eN, if_neg (by simp [hb]), List.append_nil]
            have := St.other (A := fun F w => Own F w 92 compT sn (newM e1.2 (e2.2.take j))) Own.st (c := 2) D5.new g6 (by decide)
            exact this.fr g7 fun k e => nb k (by omega)
          · rw [eS, if_pos ⟨hb, hd⟩]
            exact o6.fr g7 fun k e => nb k (by omega)
          · rcases relab_ne e with e | e
            · have := D5.up k e.1; omega
            · have := fv5.size; omega
          · refine (fv5.newer g6 fun k e => ?_).newer g7 fun k e => by omega
            exact (D5.up k (by omega)).1
        · have hd : fc.1 = c := by simpa using hd
          refine ⟨⟨lab, sn, ss, D5.blk, D5.lb, ?_, ?_, D5.up⟩, fv5⟩
          · rw [eN, if_neg (by simp [hb]), List.append_nil]; exact D5.new
          · rw [eS, if_neg (fun h => h.2 hd), List.append_nil]; exact D5.set
    · rintro _ v6 ⟨hD, f6⟩
      exact hK _ _ ⟨wsucc hj (by omega), hD, f6⟩
  · rintro i v ⟨_, ⟨lab, sn, ss, D⟩, fv⟩
    rw [List.take_of_length_le (by omega)] at D
    have hs := fv.size
    refine ptrI (aggI D.blk (x := ((e2.1, lostM e1.2 e2.2, sn, ss) : ChgRaw)) rfl ?_)
    refine stoAll (B3.fr fv fun h => h) rfl rfl fun v1 C1 g1 t1 => aggI C1 (x := ((e2.1, lostM e1.2 e2.2, sn, ss) : ChgRaw)) rfl ?_
    refine hk _ v1 ⟨rfl, rfl, ?_, ?_⟩ ((f03.then0 fv).newer g1 fun k e => by omega)
    · exact SlT.st D.new.sl g1 fun k hk e => by
        have := D.up k (by omega)
        exact ⟨by omega, show w.heap.size ≤ k by omega⟩
    · exact SlT.st D.set.sl g1 fun k hk e => by
        have := D.up k (by omega)
        exact ⟨by omega, show w.heap.size ≤ k by omega⟩
end Go.Proofs.YtchhhjlpnecjkaaGreat
namespace Go.Proofs.YtchhhjlpnecjkaaGreat
open Go Go.RowKit Go.Proofs.YtchhhjlpnecjkaaGreat.Den
variable {R : Type} {Q : R → World → Prop} {w : World}
theorem spec_r5_Told {k : Int} {K : Res [.sc .bool] → W R} (hk : K (decide (k < 5)) Q w) : callW Tryz.prog k_pinnaceref05_Told [.int .u8 k] [.sc .bool] K Q w := by
  refine C_pinnaceref05_Told _ K Q w ?_
  unfold F_pinnaceref05_Told
  exact hk
def fewM (l : List Ent) : Int := l.foldl (fun n e => IntKind.wrap .i64 (n + (e.2.length : Int))) (l.length : Int)
theorem spec_r18_Few {ok : Nat → Prop} {s : Sl} {raws : List (Int × Sl)} {L : List Ent} (hS : SlT ok w entT s raws) (hE : EntsR ok w raws L) (hm : L.length ≤ 9223372036854775807) {K : Res [.sc .bool] → W R} (hk : ∀ w', Fr None w w' → K (decide (fewM L ≤ 400)) Q w') :
    callW Tryz.prog k_pinnaceref18_Few [.slice s.a s.n s.c] [.sc .bool] K Q w := by
  refine C_pinnaceref18_Few s K Q w ?_
  unfold F_pinnaceref18_Few
  have hlen := hS.len
  have hel := hE.len
  have hsn : (s.n : Int) = (L.length : Int) := by omega
  refine forI (N := s.n) (fun s : Int × Int => s.2) (fun j s w' => s = ((L.take j).foldl (fun n e => IntKind.wrap .i64 (n + (e.2.length : Int))) (L.length : Int), (j : Int)) ∧ Fr None w w') ⟨by rw [hsn]; rfl, Fr.refl _ _⟩ (fun j s w' h => by rw [h.1]) ?_ ?_
  · rintro j s1 w1 K' hj ⟨rfl, f1⟩ - hK
    obtain ⟨e, he⟩ : ∃ e, L[j]? = some e := ⟨_, List.getElem?_eq_getElem (by omega)⟩
    obtain ⟨r1, hr1, ha1, ha2⟩ := hE.get he
    have hn := ha2.len
    have ef : (L.take (j + 1)).foldl (fun n e => IntKind.wrap .i64 (n + (e.2.length : Int))) (L.length : Int) = IntKind.wrap .i64 ((L.take j).foldl (fun n e => IntKind.wrap .i64 (n + (e.2.length : Int))) (L.length : Int) + (e.2.length : Int)) := by rw [take_at he, List.foldl_append]; rfl
    refine (hS.fr0 f1).get rfl rfl (by omega) fun y hy => ?_
    rw [hr1] at hy
    cases hy
    refine newI fun w2 B2 f2 s2 => stoAll B2 rfl rfl fun w3 B3 f3 s3 => fldI B3 (i := 1) (x := r1.2) rfl ?_
    refine hK _ _ ⟨?_, f1.then0 (f2.newer f3 fun k e => by omega)⟩
    rw [wsucc hj (by omega), ef, hn]
  · rintro s1 w1 ⟨rfl, f1⟩
    rw [List.take_of_length_le (by omega)]
    exact hk w1 f1
theorem spec_r7_Gen2 {id : Int} (hid : IdOk id) {K : Res [.sc (.int .i64)] → W R} (hk : K (genOf id) Q w) : callW Tryz.prog k_pinnaceref07_Gen [.int .u32 id] [.sc (.int .i64)] K Q w := by
  refine C_pinnaceref07_Gen _ K Q w ?_
  unfold F_pinnaceref07_Gen
  obtain ⟨h0, h1⟩ := hid
  have : IntKind.wrap .i64 (Int.tdiv (IntKind.wrap .i64 id) 1024) = genOf id := by rw [w64 (x := id) (by omega), Int.tdiv_eq_ediv_of_nonneg h0, w64 (by omega)]; rfl
  rw [this]
  exact hk
def toldAll (l : List Comp) : Bool := l.all fun c => decide (c.1 < 5)
def badD (prev : Int) (first : Bool) (e : Ent) : Prop := genOf e.1 < 1 ∨ 4194303 < genOf e.1 ∨ (first = false ∧ e.1 ≤ prev)
instance (prev : Int) (first : Bool) (e : Ent) : Decidable (badD prev first e) := by unfold badD; infer_instance
def formD : Int → Bool → List Ent → Int
  | _, _, [] => 0
  | prev, first, e :: r => if badD prev first e then 4 else if listE e.2 ≠ 0 then listE e.2 else if toldAll e.2 = false then 4 else formD e.1 false r
theorem spec_r18_Form {ok : Nat → Prop} {s : Sl} {raws : List (Int × Sl)} {L : List Ent} (hS : SlT ok w entT s raws) (hE : EntsR ok w raws L) (hm : L.length ≤ 9223372036854775807) (hL : ∀ e ∈ L, IdOk e.1 ∧ e.2.length ≤ 9223372036854775807 ∧ ∀ c ∈ e.2, CompOk c) {K : Res [.sc (.int .i64)] → W R} (hk : ∀ w', Fr None w w' → K (formD 0 true L) Q w') :
    callW Tryz.prog k_pinnaceref18_Form [.slice s.a s.n s.c] [.sc (.int .i64)] K Q w := by
  refine C_pinnaceref18_Form s K Q w ?_
  unfold F_pinnaceref18_Form
  have hlen := hS.len
  have hel := hE.len
  refine forI (N := s.n) (fun s : Int => s) (fun j i w' => i = (j : Int) ∧ Fr None w w' ∧ formD 0 true L = formD (lastE L j) (j == 0) (L.drop j)) ⟨rfl, Fr.refl _ _, rfl⟩ (fun j s w' h => h.1) ?_ ?_
  · rintro j i w1 K' hj ⟨rfl, f1, hf⟩ - hK
    obtain ⟨e, he⟩ : ∃ e, L[j]? = some e := ⟨_, List.getElem?_eq_getElem (by omega)⟩
    obtain ⟨r1, hr1, ha1, ha2⟩ := hE.get he
    obtain ⟨hid, hsm, hco⟩ := hL e (List.mem_of_getElem? he)
    have hdrop : L.drop j = e :: L.drop (j + 1) := by
      obtain ⟨hl, hg⟩ := List.getElem?_eq_some_iff.1 he
      rw [List.drop_eq_getElem_cons hl, hg]
    rw [hdrop, formD] at hf
    rw [hf] at hk
    refine (hS.fr0 f1).get rfl rfl (by omega) fun y hy => ?_
    rw [hr1] at hy
    cases hy
    refine newI fun w2 B2 f2 s2 => stoAll B2 rfl rfl fun w3 B3 f3 s3 => fldI B3 (i := 0) (x := r1.1) rfl ?_
    have f13 : Fr None w1 w3 := f2.newer f3 fun k e => by omega
    have f03 := f1.then0 f13
    rw [ha1]
    refine spec_r7_Gen2 hid ?_
    have fd : Fr None w3 w3.drew := (Fr.refl _ _).drew
    have f0d := f03.then0 fd
    have Bd := B3.fr fd fun h => h
    refine joinI (fun z w' => z = decide (badD (lastE L j) (j == 0) e) ∧ w' = w3.drew) ?_ ?_
    · refine condD (fun h => ⟨(decide_eq_true (.inl h)).symm, rfl⟩) fun h1 => condD (fun h => ⟨(decide_eq_true (.inr (.inl h))).symm, rfl⟩) fun h2 => ?_
      refine condD (fun h => ?_) fun h => ⟨?_, rfl⟩
      · obtain ⟨q, rfl⟩ : ∃ q, j = q + 1 := ⟨j - 1, by omega⟩
        refine fldI Bd (i := 0) (x := r1.1) rfl ?_
        obtain ⟨e0, he0⟩ : ∃ e0, L[q]? = some e0 := ⟨_, List.getElem?_eq_getElem (by omega)⟩
        obtain ⟨r0, hr0, hb1, _⟩ := hE.get he0
        have hq : IntKind.wrap .i64 (((q + 1 : Nat) : Int) - 1) = (q : Int) := by rw [w64 (by omega)]; omega
        rw [hq]
        refine (hS.fr0 f0d).readK rfl rfl hr0 fun ad had => (had _ (hS.fr0 f0d)).fld (i := 0) (s := .int .u32) (y := r0.1) rfl ⟨?_, rfl⟩
        have hl : lastE L (q + 1) = e0.1 := by show ((L[q]?).map (·.1)).getD 0 = e0.1; rw [he0]; rfl
        rw [hl, ha1, hb1]
        unfold badD
        simp [h1, h2]
      · have : j = 0 := by omega
        subst this
        unfold badD
        simp [h1, h2]
    rintro z w4 ⟨rfl, rfl⟩
    refine condD (fun h => ?_) fun h => ?_
    · rw [if_pos h] at hk
      exact hk _ f0d
    rw [if_neg h] at hk hf
    refine fldI Bd (i := 1) (x := r1.2) rfl (spec_r5_ListX (ha2.fr0 f0d) hsm hco fun w5 f5 => ?_)
    have f05 := f0d.then0 f5
    refine condN (fun hne => ?_) fun heq => ?_
    · rw [if_pos hne] at hk
      exact hk w5 f05
    rw [if_neg (by omega)] at hk hf
    have hcl := ha2.len
    refine fldI (Bd.fr f5 fun h => h) (i := 1) (x := r1.2) rfl ?_
    refine forI (N := r1.2.n) (fun s : Int => s) (fun i t w' => t = (i : Int) ∧ Fr None w w' ∧ toldAll (e.2.take i) = true) ⟨rfl, f05, rfl⟩ (fun j s w' h => h.1) ?_ ?_
    · rintro i t w6 K2 hi ⟨rfl, f6, hno⟩ - hK2
      refine (ha2.fr0 f6).get rfl rfl (by omega) fun c hc => ?_
      refine newI fun w7 B7 f7 s7 => stoAll B7 rfl rfl fun w8 B8 f8 s8 => fldI B8 (i := 0) (x := c.1) rfl (spec_r5_Told ?_)
      have f68 : Fr None w6 w8 := f7.newer f8 fun k e => by omega
      by_cases hk5 : c.1 < 5
      · refine condF (by simp [hk5]) (hK2 _ _ ⟨wsucc hi (by omega), f6.then0 f68, ?_⟩)
        unfold toldAll at hno ⊢
        rw [take_at hc, List.all_append, hno]
        simp [hk5]
      · refine condT (by simp [hk5]) ?_
        have : toldAll e.2 = false := by
          unfold toldAll
          rw [List.all_eq_false]
          exact ⟨c, List.mem_of_getElem? hc, by simpa using hk5⟩
        rw [if_pos this] at hk
        exact hk w8 (f6.then0 f68)
    · rintro t w6 ⟨rfl, f6, hno⟩
      rw [List.take_of_length_le (by omega)] at hno
      rw [if_neg (by rw [hno]; decide)] at hf
      have hlast : lastE L (j + 1) = e.1 := by
        show ((L[j]?).map (·.1)).getD 0 = e.1
        rw [he]; rfl
      exact hK _ _ ⟨wsucc hj (by omega), f6, by rw [hlast]; exact hf⟩
  · rintro i w1 ⟨rfl, f1, hf⟩
    rw [List.drop_of_length_le (by omega), formD] at hf
    have hk := hk w1 f1
    rw [hf] at hk
    exact hk
theorem told_same {k : Int} (h : 0 ≤ k ∧ k ≤ 5) : toldM k = decide (k < 5) := by
  have : k = 0 ∨ k = 1 ∨ k = 2 ∨ k = 3 ∨ k = 4 ∨ k = 5 := by omega
  rcases this with rfl | rfl | rfl | rfl | rfl | rfl <;> rfl
theorem secret_same {l : List Comp} (h : listE l = 0) : secretM l = !toldAll l := by
  unfold secretM toldAll
  rw [List.not_all_eq_any_not]
  have hc := (listE_0.1 h).1
  clear h
  induction l with
  | nil => rfl
  | cons c r ih =>
    rw [List.any_cons, List.any_cons, ih fun x hx => hc x (List.mem_cons_of_mem _ hx), told_same (checkM_kind (hc c List.mem_cons_self))]
theorem form_same : ∀ (L : List Ent) (prev : Int) (first : Bool), (first = true → prev = 0) → formM prev L = formD prev first L
  | [], _, _, _ => rfl
  | e :: r, prev, first, h => by
    have ih := form_same r e.1 false (fun h => by cases h)
    rw [formM, formD, ih]
    unfold oneM
    by_cases hg : genOf e.1 < 1 ∨ 4194303 < genOf e.1
    · rw [if_pos hg]
      have hb : badD prev first e := by
        rcases hg with h | h
        · exact .inl h
        · exact .inr (.inl h)
      rw [if_pos hb]
      split
      · rfl
      · rfl
    · rw [if_neg hg]
      have he : (e.1 ≤ prev) ↔ badD prev first e := by
        constructor
        · intro hle
          cases first with
          | false => exact .inr (.inr ⟨rfl, hle⟩)
          | true =>
            have := h rfl
            refine .inl ?_
            unfold genOf
            omega
        · rintro (h1 | h1 | h1)
          · exact absurd (.inl h1) hg
          · exact absurd (.inr h1) hg
          · exact h1.2
      by_cases hle : e.1 ≤ prev
      · rw [if_pos hle, if_pos (he.1 hle)]
      · rw [if_neg hle, if_neg fun x => hle (he.2 x)]
        by_cases hl : listE e.2 = 0
        · rw [if_neg (c := listE e.2 ≠ 0) (fun x => x hl), if_neg (c := listE e.2 ≠ 0) (fun x => x hl), secret_same hl]
          cases toldAll e.2 <;> rfl
        · rw [if_pos hl, if_pos hl]
end Go.Proofs.YtchhhjlpnecjkaaGreat
