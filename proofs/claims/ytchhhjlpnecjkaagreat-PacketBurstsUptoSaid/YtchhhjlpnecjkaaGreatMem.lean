/-
  Slices that one owns, appending to them, maps that one owns.
-/
import Derived.Test.YtchhhjlpnecjkaaGreatLib
import Derived.Maps.Keyed
import Derived.ChangeMaps5
namespace Go.Proofs.YtchhhjlpnecjkaaGreat.Den
open Go Go.RowKit
variable {R : Type} {Q : R → World → Prop} {w : World}

/-! ### cells -/
theorem Rd.cells : ∀ {t : Ty} {a : Addr} {x : t.T}, Rd w a t x ↔ CellsAt w a (t.cells x)
  | .sc s, a, x => by
    constructor
    · intro h j u hj
      rcases j with _ | j
      · simp [Ty.cells] at hj
        subst hj
        have : a.add 0 = a := by unfold Addr.add; simp
        rw [this]
        exact h
      · simp [Ty.cells] at hj
    · intro h
      have := h 0 (s.e x) (by simp [Ty.cells])
      have e : a.add 0 = a := by unfold Addr.add; simp
      rw [e] at this
      exact this
  | .agg _, _, _ => Iff.rfl

theorem Sc.one : ∀ (s : Sc) (x : s.T), s ≠ .raw → (s.e x).oneCell' = true
  | .int _, _, _ | .bool, _, _ | .str, _, _ | .ptr, _, _ | .sl, _, _ | .map, _, _ => rfl
  | .raw, _, h => (h rfl).elim
def Ty.fine : Ty → Bool
  | .sc .raw => false
  | .sc _ => true
  | .agg l => l.all fun s => match s with
    | .raw => false
    | _ => true
theorem Ty.one : ∀ (t : Ty) (x : t.T), t.fine = true → ∀ u ∈ t.cells x, u.oneCell' = true
  | .sc s, x, h, u, hu => by
    simp only [Ty.cells, List.mem_singleton] at hu
    subst hu
    exact Sc.one s x (fun e => by subst e; simp [Ty.fine] at h)
  | .agg l, x, h, u, hu => by
    simp only [Ty.cells] at hu
    simp only [Ty.fine, List.all_eq_true] at h
    revert h
    revert hu
    induction l with
    | nil => intro hu; simp [Tup.e] at hu
    | cons s r ih =>
      intro hu h
      have hs : s ≠ .raw := fun e => by have := h s List.mem_cons_self; subst e; simp at this
      cases r with
      | nil =>
        simp only [Tup.e, List.mem_singleton] at hu
        subst hu
        exact Sc.one s x hs
      | cons s2 r =>
        simp only [Tup.e, List.mem_cons] at hu
        rcases hu with rfl | hu
        · exact Sc.one s x.1 hs
        · exact ih x.2 hu (fun z hz => h z (List.mem_cons_of_mem _ hz))

theorem flat_len {t : Ty} (l : List t.T) : (l.flatMap t.cells).length = l.length * t.size := by
  induction l with
  | nil => simp
  | cons x r ih => rw [List.flatMap_cons, List.length_append, ih, t.cells_len, List.length_cons, Nat.add_mul]; omega
theorem flat_at {t : Ty} : ∀ {l : List t.T} {i : Nat} {x : t.T}, l[i]? = some x → ∀ j u, (t.cells x)[j]? = some u → (l.flatMap t.cells)[i * t.size + j]? = some u
  | [], _, _, h, _, _, _ => by simp at h
  | y :: r, 0, x, h, j, u, hj => by
    simp at h
    subst h
    have hl : j < (t.cells y).length := (List.getElem?_eq_some_iff.1 hj).1
    rw [List.flatMap_cons, Nat.zero_mul, Nat.zero_add, List.getElem?_append_left hl]
    exact hj
  | y :: r, i + 1, x, h, j, u, hj => by
    simp at h
    rw [List.flatMap_cons, List.getElem?_append_right (by rw [t.cells_len, Nat.add_mul]; omega), t.cells_len]
    have := flat_at h j u hj
    rw [show (i + 1) * t.size + j - t.size = i * t.size + j by rw [Nat.add_mul]; omega]
    exact this
theorem flat_take {t : Ty} (l : List t.T) (n : Nat) : (l.take n).flatMap t.cells = (l.flatMap t.cells).take (n * t.size) := by
  induction l generalizing n with
  | nil => simp
  | cons x r ih =>
    rcases n with _ | n
    · simp
    · rw [List.take_succ_cons, List.flatMap_cons, List.flatMap_cons, ih]
      have e1 : (n + 1) * t.size = (t.cells x).length + n * t.size := by rw [t.cells_len, Nat.add_mul]; omega
      rw [e1, List.take_length_add_append]

/-! ### an own slice -/
/-- it reads as l; its block, if it has one, is all its own, and one of S. -/
structure Own (S : Nat → Prop) (w : World) (E : TypeId) (t : Ty) (s : Sl) (l : List t.T) : Prop where
  row : w.ownsRow 0 E t.size s.v l.length (l.flatMap t.cells)
  own : ∀ k, s.v.ownBlock = some k → S k

theorem Own.nil (S : Nat → Prop) (w : World) (E : TypeId) (t : Ty) : Own S w E t ⟨none, 0, 0⟩ [] := ⟨World.ownsRow_nil w 0 E t.size, by simp [Sl.v, Value.ownBlock]⟩

section
variable {S : Nat → Prop} {E : TypeId} {t : Ty} {s : Sl} {l : List t.T}

theorem Own.cases (h : Own S w E t s l) : (s = ⟨none, 0, 0⟩ ∧ l = []) ∨ ∃ g c cur, s = ⟨some ⟨g, 0, none⟩, l.length, c⟩ ∧ S g ∧ w.heap[g]? = some (.cells cur E (0, 0)) ∧ l.length ≤ c ∧ c ≤ maxLen ∧ cur.size = c * t.size ∧ cur.toList.take (l.length * t.size) = l.flatMap t.cells := by
  obtain ⟨a, n, c⟩ := s
  rcases h.row.2 with ⟨h1, h2⟩ | ⟨g, cap, cur, h1, _, h3, h4, h5, h6, h7⟩
  · simp only [Sl.v, Value.slice.injEq] at h1
    obtain ⟨rfl, rfl, rfl⟩ := h1
    exact .inl ⟨rfl, List.eq_nil_of_length_eq_zero h2⟩
  · simp only [Sl.v, Value.slice.injEq] at h1
    obtain ⟨rfl, rfl, rfl⟩ := h1
    exact .inr ⟨g, _, cur, rfl, h.own g rfl, h3, h4, h5, h6, h7⟩

theorem Own.mk' {g c : Nat} {cur : Array Value} (hg : S g) (h3 : w.heap[g]? = some (.cells cur E (0, 0))) (h4 : l.length ≤ c) (h5 : c ≤ maxLen) (h6 : cur.size = c * t.size) (h7 : cur.toList.take (l.length * t.size) = l.flatMap t.cells) :
    Own S w E t ⟨some ⟨g, 0, none⟩, l.length, c⟩ l :=
  ⟨⟨flat_len l, .inr ⟨g, c, cur, rfl, Nat.zero_le _, h3, h4, h5, h6, h7⟩⟩, fun k hk => by simp [Sl.v, Value.ownBlock] at hk; subst hk; exact hg⟩

theorem Own.len (h : Own S w E t s l) : s.n = l.length := by
  rcases h.cases with ⟨rfl, rfl⟩ | ⟨g, c, cur, rfl, _⟩ <;> rfl
theorem Own.cap (h : Own S w E t s l) : s.n ≤ s.c := by
  rcases h.cases with ⟨rfl, rfl⟩ | ⟨g, c, cur, rfl, _, _, hc, _⟩
  · exact Nat.le_refl _
  · exact hc
theorem Own.small (h : Own S w E t s l) : l.length ≤ maxLen := by
  rcases h.cases with ⟨rfl, rfl⟩ | ⟨g, c, cur, rfl, _, _, hc, h2, _⟩
  · simp
  · exact Nat.le_trans hc h2

theorem Own.mono {S' : Nat → Prop} (h : Own S w E t s l) (hs : ∀ k, k < w.heap.size → S k → S' k) : Own S' w E t s l :=
  ⟨h.row, fun k hk => hs k (h.row.lt k hk).2 (h.own k hk)⟩

theorem Own.fr {T : Nat → Prop} {w' : World} (h : Own S w E t s l) (f : Fr T w w') (hn : ∀ k, S k → ¬ T k) : Own S w' E t s l := by
  rcases h.cases with ⟨rfl, rfl⟩ | ⟨g, c, cur, rfl, hg, h3, h4, h5, h6, h7⟩
  · exact Own.nil _ _ _ _
  · exact Own.mk' hg ((f.block g (Array.getElem?_eq_some_iff.1 h3).1 (hn g hg)).trans h3) h4 h5 h6 h7

theorem Own.read (h : Own S w E t s l) {g : Nat} (hg : s.a = some ⟨g, 0, none⟩) {i : Nat} {x : t.T} (hx : l[i]? = some x) : Rd w ⟨g, i * t.size, none⟩ t x := by
  rcases h.cases with ⟨rfl, rfl⟩ | ⟨g, c, cur, rfl, hS, h3, h4, h5, h6, h7⟩
  · simp at hx
  · simp only [Option.some.injEq, Addr.mk.injEq, and_true] at hg
    subst hg
    refine Rd.cells.2 fun j u hj => ?_
    have := flat_at hx j u hj
    rw [← h7, List.getElem?_take] at this
    split at this
    · rw [add_lit, cell_of_row w g _ cur E (0, 0) h3]
      simpa using this
    · cases this

theorem Own.sl (h : Own S w E t s l) : SlT S w t s l := by
  refine ⟨h.len, h.cap, ?_⟩
  rcases h.cases with ⟨rfl, rfl⟩ | ⟨g, c, cur, rfl, hg, h3, h4, h5, h6, h7⟩
  · exact .inl rfl
  · refine .inr ⟨g, 0, rfl, hg, (Array.getElem?_eq_some_iff.1 h3).1, fun i x hx => ?_⟩
    rw [Nat.zero_add]
    exact h.read rfl hx

theorem putAt_get : ∀ (vs : List Value) {cs : List Value} {o : Nat}, o + vs.length ≤ cs.length → putAt cs o vs = cs.take o ++ vs ++ cs.drop (o + vs.length)
  | [], cs, o, _ => by simp [putAt]
  | v :: vs, cs, o, h => by
    simp only [List.length_cons] at h
    rw [putAt, putAt_get vs (by simp; omega)]
    rw [List.take_set, List.length_cons, List.drop_set_of_lt (by omega)]
    rw [show o + 1 + vs.length = o + (vs.length + 1) by omega]
    congr 1
    rw [show List.take (o + 1) cs = List.take o cs ++ [cs[o]'(by omega)] by rw [List.take_append_getElem]]
    rw [List.set_append_right _ _ (by simp; omega)]
    simp [Nat.min_eq_left (by omega : o ≤ cs.length)]

theorem putAt_take : ∀ (vs cs : List Value) (o m : Nat), (putAt cs o vs).take m = putAt (cs.take m) o vs
  | [], _, _, _ => rfl
  | v :: vs, cs, o, m => by rw [putAt, putAt_take vs, List.take_set]; rfl

theorem flat_set {t : Ty} : ∀ {l : List t.T} {i : Nat} {x : t.T}, i < l.length → (l.set i x).flatMap t.cells = putAt (l.flatMap t.cells) (i * t.size) (t.cells x)
  | [], _, _, h => by simp at h
  | y :: r, 0, x, h => by
    rw [putAt_get _ (by rw [flat_len, t.cells_len, List.length_cons, Nat.add_mul]; omega)]
    rw [List.set_cons_zero, List.flatMap_cons, List.flatMap_cons, Nat.zero_mul, List.take_zero, List.nil_append, Nat.zero_add, t.cells_len, ← t.cells_len y, List.drop_left]
  | y :: r, i + 1, x, h => by
    have hi : i < r.length := by simpa using h
    have hle : i * t.size + t.size ≤ r.length * t.size := by rw [← Nat.succ_mul]; exact Nat.mul_le_mul_right _ hi
    rw [List.set_cons_succ, List.flatMap_cons, List.flatMap_cons, flat_set hi, putAt_get _ (by rw [flat_len, t.cells_len]; exact hle), putAt_get _ (by rw [List.length_append, flat_len, t.cells_len, t.cells_len, Nat.add_mul]; omega)]
    have e1 : (i + 1) * t.size = (t.cells y).length + i * t.size := by rw [t.cells_len, Nat.add_mul]; omega
    rw [e1, List.take_length_add_append, Nat.add_assoc, List.drop_length_add_append]
    simp

/-- x[i], to be written. -/
theorem Own.set (h : Own S w E t s l) (hf : t.fine = true) {i : Nat} (hi : i < l.length) {g : Nat} (hg : s.a = some ⟨g, 0, none⟩) (x : t.T) {K : W R}
    (hk : ∀ w', Own S w' E t s (l.set i x) → Fr (fun k => s.v.ownBlock = some k) w w' → w'.heap.size = w.heap.size → K Q w') : stoL ⟨g, i * t.size, none⟩ (t.cells x) 0 K Q w := by
  rcases h.cases with ⟨rfl, rfl⟩ | ⟨g, c, cur, rfl, hS, h3, h4, h5, h6, h7⟩
  · simp at hi
  · simp only [Option.some.injEq, Addr.mk.injEq, and_true] at hg
    subst hg
    have hle : i * t.size + t.size ≤ l.length * t.size := by rw [← Nat.succ_mul]; exact Nat.mul_le_mul_right _ hi
    have hle2 : l.length * t.size ≤ c * t.size := Nat.mul_le_mul_right _ h4
    refine stoBlk (T := E) (cs := cur.toList) (t.cells x) 0 h3 (by rw [t.cells_len]; simp; omega) (t.one x hf) fun w' hb hfr hsz => ?_
    rw [Nat.add_zero] at hb
    refine hk w' ?_ (hfr.mono fun k _ e => by simp [Sl.v, Value.ownBlock, e]) hsz
    have hl : (l.set i x).length = l.length := List.length_set
    have := Own.mk' (S := S) (w := w') (E := E) (t := t) (l := l.set i x) (g := g) (c := c) (cur := ⟨putAt cur.toList (i * t.size) (t.cells x)⟩) hS hb (by rw [hl]; exact h4) h5 (by simp [putAt_length, h6]) (by
      rw [hl, flat_set hi, ← h7, putAt_take])
    rw [hl] at this
    exact this

theorem putAt_set_lt {v : Value} : ∀ (vs cs : List Value) (o q : Nat), q < o → (putAt cs o vs).set q v = putAt (cs.set q v) o vs
  | [], _, _, _, _ => rfl
  | a :: vs, cs, o, q, h => by
    rw [putAt, putAt, putAt_set_lt vs _ _ _ (by omega), List.set_comm _ _ (by omega)]
theorem putAt_set {v : Value} : ∀ (vs cs : List Value) (o j : Nat), j < vs.length → (putAt cs o vs).set (o + j) v = putAt cs o (vs.set j v)
  | [], _, _, _, h => by simp at h
  | a :: vs, cs, o, 0, _ => by
    rw [putAt, show o + 0 = o from rfl, putAt_set_lt vs _ _ _ (by omega), List.set_set]
    rfl
  | a :: vs, cs, o, j + 1, h => by
    rw [putAt, show o + (j + 1) = o + 1 + j by omega, putAt_set vs _ _ _ (by simpa using h)]
    rfl

/-- one cell of x[i], to be written. -/
theorem Own.setFld (h : Own S w E t s l) {i j : Nat} {x x' : t.T} (hx : l[i]? = some x) {g : Nat} (hg : s.a = some ⟨g, 0, none⟩) (hj : j < t.size) {v : Value} (hc : t.cells x' = (t.cells x).set j v) (h1 : v.oneCell' = true) {K : W R}
    (hk : ∀ w', Own S w' E t s (l.set i x') → Fr (fun k => s.v.ownBlock = some k) w w' → w'.heap.size = w.heap.size → K Q w') : stoL ⟨g, i * t.size + j, none⟩ [v] 0 K Q w := by
  obtain ⟨hi, he⟩ := List.getElem?_eq_some_iff.1 hx
  rcases h.cases with ⟨rfl, rfl⟩ | ⟨g, c, cur, rfl, hS, h3, h4, h5, h6, h7⟩
  · simp at hi
  · simp only [Option.some.injEq, Addr.mk.injEq, and_true] at hg
    subst hg
    have hle : i * t.size + t.size ≤ l.length * t.size := by rw [← Nat.succ_mul]; exact Nat.mul_le_mul_right _ hi
    have hle2 : l.length * t.size ≤ c * t.size := Nat.mul_le_mul_right _ h4
    refine stoBlk (T := E) (cs := cur.toList) (o := i * t.size + j) [v] 0 h3 (by simp; omega) (by simpa using h1) fun w' hb hfr hsz => ?_
    rw [Nat.add_zero] at hb
    refine hk w' ?_ (hfr.mono fun k _ e => by simp [Sl.v, Value.ownBlock, e]) hsz
    have hl : (l.set i x').length = l.length := List.length_set
    have hself : putAt (l.flatMap t.cells) (i * t.size) (t.cells x) = l.flatMap t.cells := by
      rw [← flat_set hi]
      congr 1
      rw [← he]
      exact List.set_getElem_self hi
    have := Own.mk' (S := S) (w := w') (E := E) (t := t) (l := l.set i x') (g := g) (c := c) (cur := ⟨putAt cur.toList (i * t.size + j) [v]⟩) hS hb (by rw [hl]; exact h4) h5 (by simp [putAt_length, h6]) (by
      rw [hl, flat_set hi, hc, ← putAt_set _ _ _ _ (by rw [t.cells_len]; exact hj), hself, ← h7, ← List.take_set]
      rfl)
    rw [hl] at this
    exact this

/-- x[:n] -/
theorem Own.take (h : Own S w E t s l) {n : Nat} (hn : n ≤ l.length) : Own S w E t ⟨s.a, n, s.c⟩ (l.take n) := by
  rcases h.cases with ⟨rfl, rfl⟩ | ⟨g, c, cur, rfl, hS, h3, h4, h5, h6, h7⟩
  · simp at hn; subst hn; exact Own.nil _ _ _ _
  · have hl : (l.take n).length = n := by simp; omega
    have := Own.mk' (S := S) (w := w) (E := E) (t := t) (l := l.take n) (g := g) (c := c) (cur := cur) hS h3 (by omega) h5 h6 (by
      rw [hl, flat_take, ← h7, List.take_take, Nat.min_eq_left (Nat.mul_le_mul_right _ hn)])
    rw [hl] at this
    exact this

/-- a literal. -/
theorem Own.lit (w : World) (E : TypeId) (t : Ty) (l : List t.T) (hS : S w.heap.size) (hm : l.length ≤ maxLen) {cs : List Value} (hc : cs = l.flatMap t.cells) {n : Nat} (hn : n = l.length) : Own S (w.alloc (.cells ⟨cs⟩ E)) E t ⟨some ⟨w.heap.size, 0, none⟩, n, n⟩ l := by
  subst hc; subst hn
  exact Own.mk' hS (heap_alloc_new w _) (Nat.le_refl _) hm (flat_len l) (by rw [List.take_of_length_le (by rw [flat_len]; exact Nat.le_refl _)])

end

/-! ### append -/
/-- of the program: a slice's type. -/
structure SlTy (P : Program) (T E : TypeId) (t : Ty) (bytes : Nat) : Prop where
  under : P.underlying T = some (.slice E)
  info : ∃ i z, P.info? E = some i ∧ i.zero = some z ∧ i.size = t.size ∧ i.bytes = bytes ∧ z.cells.size = t.size
  pos : 0 < t.size
  fine : t.fine = true

theorem SlT.cellsAt {ok : Nat → Prop} {t : Ty} {s : Sl} {l : List t.T} (h : SlT ok w t s l) {a : Addr} (ha : s.a = some a) : ∀ j u, (l.flatMap t.cells)[j]? = some u → w.cell? (a.add j) = some u := by
  intro j u hj
  rcases h.at_ with rfl | ⟨b, o, ha', _, _, hr⟩
  · simp at hj
  · rw [ha] at ha'
    cases ha'
    have hj' : j < l.length * t.size := by have := (List.getElem?_eq_some_iff.1 hj).1; rwa [flat_len] at this
    have hp : 0 < t.size := by rcases Nat.eq_zero_or_pos t.size with h0 | h0; (rw [h0] at hj'; simp at hj'); exact h0
    have hi : j / t.size < l.length := Nat.div_lt_of_lt_mul (by rw [Nat.mul_comm]; exact hj')
    have hx := List.getElem?_eq_getElem hi
    have hm : j % t.size < (t.cells l[j / t.size]).length := by rw [t.cells_len]; exact Nat.mod_lt _ hp
    have := flat_at hx (j % t.size) _ (List.getElem?_eq_getElem hm)
    rw [Nat.mul_comm, Nat.div_add_mod, hj] at this
    rw [add_lit]
    have hc := Rd.cells.1 (hr _ _ hx) (j % t.size) _ (List.getElem?_eq_getElem hm)
    rw [add_lit, Nat.add_assoc, Nat.mul_comm, Nat.div_add_mod] at hc
    rw [hc]
    exact this.symm

theorem appI {P : Program} {T E ty : TypeId} {t : Ty} {bytes : Nat} (H : SlTy P T E t bytes) {S S' ok : Nat → Prop} {s s2 : Sl} {l l2 : List t.T} (h : Own S w E t s l) (h2 : SlT ok w t s2 l2)
    (hb : (l.length + l2.length) * bytes ≤ 140737488355328) (hm : l.length + l2.length ≤ maxLen) (h1 : ∀ k, S k → S' k) (h1' : S' w.heap.size) {K : Sl → W R}
    (hk : ∀ r w', Own S' w' E t r (l ++ l2) → Fr (fun k => s.v.ownBlock = some k) w w' → w'.heap.size ≤ w.heap.size + 1 → K r Q w') : rawW P (Builtin.append_ #[T, T] ty #[.slice s.a s.n s.c, .slice s2.a s2.n s2.c]) [.sc .sl] K Q w := by
  obtain ⟨i, z, hi, hz, hs, hby, hzs⟩ := H.info
  have hn2 := h2.len
  have flat : (l ++ l2).flatMap t.cells = l.flatMap t.cells ++ l2.flatMap t.cells := List.flatMap_append
  have hlen : (l ++ l2).length = l.length + l2.length := List.length_append
  have hmi : ((l.length + l2.length : Nat) : Int) ≤ 9223372036854775807 := by simp only [maxLen] at hm; omega
  -- nothing is added
  by_cases h0 : l2 = []
  · subst h0
    have hrun : (Builtin.append_ #[T, T] ty #[.slice s.a s.n s.c, .slice s2.a s2.n s2.c]).run P w = .ok (.slice s.a s.n s.c) w := by
      rw [show s2.n = 0 from hn2]
      rcases h.cases with ⟨rfl, rfl⟩ | ⟨g, c, cur, rfl, hS, h3, h4, h5, h6, h7⟩
      · rcases hsa : s2.a with _ | a <;> simp [Builtin.append_, run_underlying H.under, sizeOf, typeInfo, hi, Builtin.lenOf, Builtin.firstCells, loadCells, loadCellsFrom]
      · rcases hsa : s2.a with _ | a <;> simp [Builtin.append_, run_underlying H.under, sizeOf, typeInfo, hi, Builtin.lenOf, Builtin.firstCells, loadCells, loadCellsFrom, h4, storeCells]
    refine ⟨s, w, hrun, hk s w ?_ (Fr.refl _ _) (by omega)⟩
    rw [List.append_nil]
    exact h.mono fun k _ hk => h1 k hk
  rcases h2.at_ with e0 | ⟨b2, o2, ha2, _, _, _⟩
  · exact (h0 e0).elim
  have hnews := h2.cellsAt ha2
  have hl2 : (l2.flatMap t.cells).length = l2.length * i.size := by rw [flat_len, hs]
  have hpos : 0 < l2.length := List.length_pos_iff.2 h0
  have one : ∀ u ∈ l2.flatMap t.cells, u.oneCell' = true := fun u hu => by
    obtain ⟨x, _, hx⟩ := List.mem_flatMap.1 hu
    exact t.one x H.fine u hx
  -- a new row
  have grown : ∀ (old : Nat) {v : Value} {w' : World}, old < l.length + l2.length → v = .slice (some ⟨w.heap.size, 0, none⟩) (l.length + l2.length) (grownCap w (l.length + l2.length) old E) →
      w' = w.drew.alloc (.cells ((l.flatMap t.cells).toArray ++ (l2.flatMap t.cells).toArray ++ Builtin.zeroCells z.cells (grownCap w (l.length + l2.length) old E - (l.length + l2.length))) E) →
      ∃ r : Sl, v = r.v ∧ K r Q w' := by
    intro old v w' ho hv hw
    have hge := grownCap_ge w (l.length + l2.length) old E
    have hcm := grownCap_le_maxLen w (l.length + l2.length) old E hm
    generalize grownCap w (l.length + l2.length) old E = G at hge hcm hv hw
    subst hv; subst hw
    refine ⟨⟨_, _, _⟩, rfl, hk _ _ ?_ ((Fr.refl _ w).drew.alloc _) (by simp)⟩
    rw [← hlen]
    refine Own.mk' h1' (heap_alloc_new w.drew _) (by rw [hlen]; exact hge) hcm ?_ ?_
    · simp only [Array.size_append, List.size_toArray, flat_len, size_zeroCells, hzs, ← Nat.add_mul]
      congr 1
      rw [hlen]
      omega
    · simp only [Array.toList_append, List.append_assoc]
      rw [← List.append_assoc, flat, ← flat_len (l ++ l2), flat]
      exact List.take_left
  rcases h.cases with ⟨rfl, rfl⟩ | ⟨g, c, cur, rfl, hS, h3, h4, h5, h6, h7⟩
  · have hr := run_append_nil (P := P) w T ty E i z H.under hi hz ⟨b2, o2, none⟩ l2.length s2.c _ hl2 hnews hpos (by simpa using hmi) (by rw [hby]; simp at hb; omega)
    obtain ⟨r, hv, hK⟩ := grown 0 (by simpa using hpos) (v := .slice (some ⟨w.heap.size, 0, none⟩) l2.length (grownCap w l2.length 0 E))
      (w' := w.drew.alloc (.cells ((l2.flatMap t.cells).toArray ++ Builtin.zeroCells z.cells (grownCap w l2.length 0 E - l2.length)) E)) (by simp) (by simp)
    refine ⟨r, _, ?_, hK⟩
    rw [hn2, ha2]
    rw [hv] at hr
    exact hr
  · by_cases hroom : l.length + l2.length ≤ c
    · have hfit : l.length * i.size + (l2.flatMap t.cells).length ≤ cur.size := by rw [hl2, hs, h6, ← Nat.add_mul]; exact Nat.mul_le_mul_right _ hroom
      have hr := run_append_room (P := P) w T ty E i H.under hi g l.length c cur h3 ⟨b2, o2, none⟩ l2.length s2.c _ hl2 hnews one hroom hfit
      refine ⟨⟨some ⟨g, 0, none⟩, l.length + l2.length, c⟩, _, by rw [hn2, ha2]; exact hr, hk _ _ ?_ ?_ (by simp [World.setRow])⟩
      · rw [← hlen]
        refine Own.mk' (h1 g hS) (setRow_heap w g cur _ E _ h3) (by rw [hlen]; exact hroom) h5 ?_ ?_
        · simp only [List.size_toArray, List.length_append, List.length_take, List.length_drop, Array.length_toList]
          omega
        · rw [hs, h7, ← flat, ← flat_len (l ++ l2)]
          exact List.take_left
      · exact ⟨rfl, rfl, rfl, by simp [World.setRow], fun k _ hk => setRow_other w g k _ (fun e => hk (by simp [Sl.v, Value.ownBlock, e]))⟩
    · have holds : ∀ j u, (l.flatMap t.cells)[j]? = some u → w.cell? ((⟨g, 0, none⟩ : Addr).add j) = some u := h.sl.cellsAt rfl
      have hr := run_append_grow (P := P) w T ty E i z H.under hi hz ⟨g, 0, none⟩ l.length c _ (by rw [flat_len, hs]) holds ⟨b2, o2, none⟩ l2.length s2.c _ hl2 hnews (by omega) hmi (growslice_fits (by omega) (by rw [hby]; exact hb))
      obtain ⟨r, hv, hK⟩ := grown c (by omega) rfl rfl
      refine ⟨r, _, ?_, hK⟩
      rw [hn2, ha2]
      rw [hv] at hr
      exact hr

theorem Own.idx {S : Nat → Prop} {E : TypeId} {t : Ty} {s : Sl} {l : List t.T} (h : Own S w E t s l) {sz : Nat} (hsz : sz = t.size) {i : Int} (h0 : 0 ≤ i) (h1 : i < l.length) {K : Addr → W R}
    (hk : ∀ g x, s.a = some ⟨g, 0, none⟩ → l[i.toNat]? = some x → Rd w ⟨g, i.toNat * t.size, none⟩ t x → K ⟨g, i.toNat * t.size, none⟩ Q w) : idxW s.a s.n sz i K Q w := by
  subst hsz
  have hi : i.toNat < l.length := by omega
  rcases h.cases with ⟨rfl, rfl⟩ | ⟨g, c, cur, rfl, hS, h3, h4, h5, h6, h7⟩
  · simp at hi
  · refine ⟨⟨g, 0, none⟩, rfl, h0, h1, ?_⟩
    rw [add_lit, Nat.zero_add]
    have hx := List.getElem?_eq_getElem hi
    exact hk g _ rfl hx (h.read rfl hx)

/-! ### maps -/
open Go.ChangeMaps Go.MapKept in
/-- block b of w is a map that holds what f says; ke: the keys as values. -/
def MapB {κ : Type} (P : Program) (k : TypeId) (ke : κ → Value) (w : World) (b : Nat) (f : κ → Option Value) : Prop :=
  ∃ es clock, w.heap[b]? = some (.map es clock) ∧ Go.MapKept.Stamped es clock ∧ (∀ x ∈ es.toList, ∃ l, keyOf P k x.key = some l) ∧ (∀ x ∈ es.toList, ∃ i, x.key = ke i) ∧ es.toList.Pairwise (fun x y => x.key ≠ y.key) ∧
    ∀ i v, f i = some v ↔ ∃ x ∈ es.toList, x.key = ke i ∧ x.val = v

section
variable {κ : Type} {P : Program} {k : TypeId} {ke : κ → Value} {b : Nat} {f : κ → Option Value}

theorem MapB.lt (h : MapB P k ke w b f) : b < w.heap.size := by
  obtain ⟨es, clock, hb, _⟩ := h
  exact (Array.getElem?_eq_some_iff.1 hb).1
theorem MapB.fr {S : Nat → Prop} {w' : World} (h : MapB P k ke w b f) (hf : Fr S w w') (hn : ¬ S b) : MapB P k ke w' b f := by
  have hl := h.lt
  obtain ⟨es, clock, hb, r⟩ := h
  exact ⟨es, clock, (hf.block b hl hn).trans hb, r⟩
theorem MapB.made (w : World) : MapB P k ke (w.alloc (.map #[] 0)) w.heap.size (fun _ => none) :=
  ⟨#[], 0, heap_alloc_new w _, Go.MapKept.stamped_empty 0, by simp, by simp, by simp, by simp⟩
theorem MapB.congr (h : MapB P k ke w b f) {g : κ → Option Value} (e : ∀ i, g i = f i) : MapB P k ke w b g := by
  have : g = f := funext e
  rw [this]
  exact h

theorem mapNewI {T : TypeId} {K : Option Nat → W R} (hk : K (some w.heap.size) Q (w.alloc (.map #[] 0))) : rawW P (Instr.makeMap T none) [.sc .map] K Q w :=
  ⟨some w.heap.size, _, by rfl, hk⟩

theorem pw_inj {es : List MapEntry} (h : es.Pairwise (fun x y => x.key ≠ y.key)) {x y : MapEntry} (hx : x ∈ es) (hy : y ∈ es) (e : x.key = y.key) : x = y := by
  induction es with
  | nil => simp at hx
  | cons z r ih =>
    rw [List.pairwise_cons] at h
    rcases List.mem_cons.1 hx with h1 | h1
    · rcases List.mem_cons.1 hy with h2 | h2
      · rw [h1, h2]
      · subst h1; exact absurd e (h.1 _ h2)
    · rcases List.mem_cons.1 hy with h2 | h2
      · subst h2; exact absurd e.symm (h.1 _ h1)
      · exact ih h.2 h1 h2

theorem perm_erase {α : Type} : ∀ {l : List α} {j : Nat} {x : α}, l[j]? = some x → l.Perm (x :: l.eraseIdx j)
  | [], _, _, h => by simp at h
  | y :: r, 0, x, h => by simp at h; subst h; exact List.Perm.refl _
  | y :: r, j + 1, x, h => by
    simp at h
    rw [List.eraseIdx_cons_succ]
    exact ((perm_erase h).cons y).trans (List.Perm.swap x y _)

theorem MapB.look (h : MapB P k ke w b f) (Kd : Go.Maps.Keyed P k) {T e : TypeId} (ht : P.underlying T = some (.map k e)) {z : Value} (hz : (P.info? e).bind (·.zero) = some z) {i : κ} {l : Lit} (hkey : keyOf P k (ke i) = some l) (ok : Bool) :
    (Instr.lookup T (.map (some b)) (ke i) ok).run P w = .ok (if ok then .tuple #[(f i).getD z, .bool (f i).isSome] else (f i).getD z) w := by
  obtain ⟨es, clock, hb, _, hks, _, hpw, hf⟩ := h
  have hz' : (zeroValue e).run P w = .ok z w := by
    obtain ⟨i, hi, hz⟩ := Option.bind_eq_some_iff.1 hz
    simp [zeroValue, typeInfo, hi, hz]
  rcases Kd.find w hkey es.toList hks with ⟨h1, h2⟩ | ⟨j, e0, h1, h2, h3⟩
  · have hn : f i = none := by
      cases hfi : f i with
      | none => rfl
      | some v => obtain ⟨x, hx, hk, _⟩ := (hf i v).1 hfi; exact absurd hk (h2 x hx)
    simp [Instr.lookup, run_underlying ht, MapKept.run_getObj_map hb, Kd.check w _ hkey, h1, hz', hn, Result.andThen]
  · have hs : f i = some e0.val := (hf i _).2 ⟨e0, List.mem_of_getElem? h2, h3, rfl⟩
    simp [Instr.lookup, run_underlying ht, MapKept.run_getObj_map hb, Kd.check w _ hkey, h1, hs, Result.andThen]

theorem MapB.put [DecidableEq κ] (h : MapB P k ke w b f) (Kd : Go.Maps.Keyed P k) (hke : ∀ i j, ke i = ke j → i = j) {T e : TypeId} (ht : P.underlying T = some (.map k e)) {i : κ} {l : Lit} (hkey : keyOf P k (ke i) = some l) (v : Value) :
    ∃ w', (Instr.mapUpdate T (.map (some b)) (ke i) v).run P w = .ok () w' ∧ MapB P k ke w' b (fun j => if j = i then some v else f j) ∧ Fr (fun k => k = b) w w' ∧ w'.heap.size = w.heap.size := by
  obtain ⟨es, clock, hb, hst, hks, hki, hpw, hf⟩ := h
  have frame : ∀ o, Fr (fun k => k = b) w (Go.ChangeMaps.setBlock w b o) := fun o => ⟨rfl, rfl, rfl, by simp [Go.ChangeMaps.setBlock], fun j _ hj => Go.ChangeMaps.heap_setBlock_other hb _ hj⟩
  rcases Kd.find w hkey es.toList hks with ⟨h1, h2⟩ | ⟨j, e0, h1, h2, h3⟩
  · refine ⟨Go.ChangeMaps.setBlock w b (.map (es.push ⟨ke i, v, clock⟩) (clock + 1)), ?_, ⟨_, _, Go.ChangeMaps.heap_setBlock_same hb _, Go.MapKept.stamped_push hst h2, ?_, ?_, ?_, ?_⟩, frame _, by simp [Go.ChangeMaps.setBlock]⟩
    · simp [Instr.mapUpdate, run_underlying ht, MapKept.run_getObj_map hb, Kd.check w false hkey, h1, MapKept.run_setObj_map _ hb, Result.andThen, Go.ChangeMaps.setBlock]
    · intro x hx
      simp only [Array.toList_push, List.mem_append, List.mem_singleton] at hx
      rcases hx with hx | rfl
      · exact hks x hx
      · exact ⟨_, hkey⟩
    · intro x hx
      simp only [Array.toList_push, List.mem_append, List.mem_singleton] at hx
      rcases hx with hx | rfl
      · exact hki x hx
      · exact ⟨_, rfl⟩
    · rw [Array.toList_push, List.pairwise_append]
      refine ⟨hpw, by simp, fun x hx y hy => ?_⟩
      simp only [List.mem_singleton] at hy
      subst hy
      exact h2 x hx
    · intro j u
      simp only [Array.toList_push, List.mem_append, List.mem_singleton]
      show (if _ then _ else _) = _ ↔ _
      by_cases hji : j = i
      · subst hji
        rw [if_pos rfl]
        constructor
        · intro e; cases e; exact ⟨_, .inr rfl, rfl, rfl⟩
        · rintro ⟨x, hx | rfl, hk, rfl⟩
          · exact absurd hk (h2 x hx)
          · rfl
      · rw [if_neg hji, hf]
        constructor
        · rintro ⟨x, hx, r⟩; exact ⟨x, .inl hx, r⟩
        · rintro ⟨x, hx | rfl, hk, rfl⟩
          · exact ⟨x, hx, hk, rfl⟩
          · exact absurd (hke _ _ hk).symm hji
  · have hj : es[j]? = some e0 := by simpa using h2
    have hjl : j < es.toList.length := (List.getElem?_eq_some_iff.1 h2).1
    have hm : (es.modify j fun e' => { e' with key := ke i, val := v }).toList = es.toList.set j { e0 with key := ke i, val := v } := by
      rw [Array.toList_modify]
      apply List.ext_getElem?
      intro q
      rw [List.getElem?_modify, List.getElem?_set]
      by_cases hq : j = q
      · subst hq; simp [h2]; simpa using hjl
      · simp [hq]
    refine ⟨Go.ChangeMaps.setBlock w b (.map (es.modify j fun e' => { e' with key := ke i, val := v }) clock), ?_, ⟨_, _, Go.ChangeMaps.heap_setBlock_same hb _, Go.MapKept.stamped_modify hst j _ (fun _ _ => rfl) (fun e _ he => by rw [hj] at he; cases he; exact h3.symm), ?_, ?_, ?_, ?_⟩, frame _, by simp [Go.ChangeMaps.setBlock]⟩
    · simp [Instr.mapUpdate, run_underlying ht, MapKept.run_getObj_map hb, Kd.check w false hkey, h1, hj, h3, Kd.stays w hkey, MapKept.run_setObj_map _ hb, Result.andThen, Go.ChangeMaps.setBlock]
    · intro x hx
      rw [hm] at hx
      rcases List.mem_or_eq_of_mem_set hx with hx | rfl
      · exact hks x hx
      · exact ⟨_, hkey⟩
    · intro x hx
      rw [hm] at hx
      rcases List.mem_or_eq_of_mem_set hx with hx | rfl
      · exact hki x hx
      · exact ⟨_, rfl⟩
    · rw [hm, ← List.pairwise_map (f := fun x : MapEntry => x.key) (R := fun a b => a ≠ b), List.map_set]
      rw [show (List.map (fun x : MapEntry => x.key) es.toList).set j (ke i) = List.map (fun x : MapEntry => x.key) es.toList by
        apply List.ext_getElem?
        intro q
        rw [List.getElem?_set]
        by_cases hq : j = q
        · subst hq; simp [h2, h3]; simpa using hjl
        · simp [hq]]
      rw [List.pairwise_map]
      exact hpw
    · intro q u
      rw [hm]
      have hother : ∀ x, x ∈ es.toList.set j { e0 with key := ke i, val := v } ↔ x = { e0 with key := ke i, val := v } ∨ (x ∈ es.toList ∧ x.key ≠ ke i) := by
        intro x
        constructor
        · intro hx
          obtain ⟨p, hp⟩ := List.mem_iff_getElem?.1 hx
          rw [List.getElem?_set] at hp
          by_cases hq : j = p
          · subst hq; rw [if_pos rfl, if_pos hjl] at hp; exact .inl (Option.some.inj hp).symm
          · rw [if_neg hq] at hp
            refine .inr ⟨List.mem_of_getElem? hp, fun hk => hq ?_⟩
            have e1 := pw_inj hpw (List.mem_of_getElem? h2) (List.mem_of_getElem? hp) (h3.trans hk.symm)
            subst e1
            by_cases hlt : j < p
            · have hpl := (List.getElem?_eq_some_iff.1 hp).1
              have a1 := (List.getElem?_eq_some_iff.1 hp).2
              have a2 := (List.getElem?_eq_some_iff.1 h2).2
              have := (List.pairwise_iff_getElem.1 hpw) j p hjl hpl hlt
              rw [a1, a2] at this
              exact absurd rfl this
            · have hpl := (List.getElem?_eq_some_iff.1 hp).1
              have a1 := (List.getElem?_eq_some_iff.1 hp).2
              have a2 := (List.getElem?_eq_some_iff.1 h2).2
              have := (List.pairwise_iff_getElem.1 hpw) p j hpl hjl (by omega)
              rw [a1, a2] at this
              exact absurd rfl this
        · rintro (rfl | ⟨hx, hk⟩)
          · exact List.mem_of_getElem? (i := j) (by rw [List.getElem?_set, if_pos rfl, if_pos hjl])
          · obtain ⟨p, hp⟩ := List.mem_iff_getElem?.1 hx
            refine List.mem_of_getElem? (i := p) ?_
            rw [List.getElem?_set, if_neg]
            · exact hp
            · intro e; subst e; rw [h2] at hp; cases hp; exact hk h3
      show (if _ then _ else _) = _ ↔ _
      by_cases hji : q = i
      · subst hji
        rw [if_pos rfl]
        constructor
        · intro e; cases e; exact ⟨_, (hother _).2 (.inl rfl), rfl, rfl⟩
        · rintro ⟨x, hx, hk, rfl⟩
          rcases (hother x).1 hx with rfl | ⟨_, hne⟩
          · rfl
          · exact absurd hk hne
      · rw [if_neg hji, hf]
        constructor
        · rintro ⟨x, hx, hk, hv⟩; exact ⟨x, (hother x).2 (.inr ⟨hx, fun e => hji (hke _ _ (hk.symm.trans e))⟩), hk, hv⟩
        · rintro ⟨x, hx, hk, rfl⟩
          rcases (hother x).1 hx with rfl | ⟨hx', hne⟩
          · exact absurd (hke _ _ hk).symm hji
          · exact ⟨x, hx', hk, rfl⟩

theorem MapB.del [DecidableEq κ] (h : MapB P k ke w b f) (Kd : Go.Maps.Keyed P k) (hke : ∀ i j, ke i = ke j → i = j) {T e ty : TypeId} (ht : P.underlying T = some (.map k e)) {i : κ} {l : Lit} (hkey : keyOf P k (ke i) = some l) :
    ∃ w', (Builtin.delete_ #[T, k] ty #[.map (some b), ke i]).run P w = .ok (.tuple #[]) w' ∧ MapB P k ke w' b (fun j => if j = i then none else f j) ∧ Fr (fun k => k = b) w w' ∧ w'.heap.size = w.heap.size := by
  obtain ⟨es, clock, hb, hst, hks, hki, hpw, hf⟩ := h
  have frame : ∀ o, Fr (fun k => k = b) w (Go.ChangeMaps.setBlock w b o) := fun o => ⟨rfl, rfl, rfl, by simp [Go.ChangeMaps.setBlock], fun j _ hj => Go.ChangeMaps.heap_setBlock_other hb _ hj⟩
  rcases Kd.find w hkey es.toList hks with ⟨h1, h2⟩ | ⟨j, e0, h1, h2, h3⟩
  · refine ⟨Go.ChangeMaps.setBlock w b (.map es clock), ?_, ⟨es, clock, Go.ChangeMaps.heap_setBlock_same hb _, hst, hks, hki, hpw, fun j u => ?_⟩, frame _, by simp [Go.ChangeMaps.setBlock]⟩
    · simp [Builtin.delete_, run_underlying ht, MapKept.run_getObj_map hb, Kd.check w _ hkey, h1, MapKept.run_setObj_map _ hb, Result.andThen, Go.ChangeMaps.setBlock]
    · show (if _ then _ else _) = _ ↔ _
      by_cases hji : j = i
      · subst hji
        rw [if_pos rfl]
        constructor
        · intro e; cases e
        · rintro ⟨x, hx, hk, _⟩; exact absurd hk (h2 x hx)
      · rw [if_neg hji]; exact hf j u
  · have hjl : j < es.toList.length := (List.getElem?_eq_some_iff.1 h2).1
    have hjs : j < es.size := by simpa using hjl
    have hsub : (es.eraseIdxIfInBounds j).toList = es.toList.eraseIdx j := by
      unfold Array.eraseIdxIfInBounds
      rw [dif_pos hjs]
      simp
    have hsl : ∀ x ∈ es.toList.eraseIdx j, x ∈ es.toList := fun x hx => (List.eraseIdx_sublist _ _).subset hx
    have hother : ∀ x, x ∈ es.toList.eraseIdx j ↔ (x ∈ es.toList ∧ x.key ≠ ke i) := by
      intro x
      have hperm : es.toList.Perm (e0 :: es.toList.eraseIdx j) := by
        exact perm_erase h2
      have hpw2 : (e0 :: es.toList.eraseIdx j).Pairwise (fun x y => x.key ≠ y.key) := (hperm.pairwise_iff (fun {_ _} hne => Ne.symm hne)).1 hpw
      rw [List.pairwise_cons] at hpw2
      constructor
      · intro hx
        exact ⟨hsl x hx, fun hk => hpw2.1 x hx (h3.trans hk.symm)⟩
      · rintro ⟨hx, hk⟩
        rcases List.mem_cons.1 (hperm.mem_iff.1 hx) with rfl | hx
        · exact absurd h3 hk
        · exact hx
    refine ⟨Go.ChangeMaps.setBlock w b (.map (es.eraseIdxIfInBounds j) clock), ?_, ⟨_, clock, Go.ChangeMaps.heap_setBlock_same hb _, Go.MapKept.stamped_erase hst j, ?_, ?_, ?_, fun q u => ?_⟩, frame _, by simp [Go.ChangeMaps.setBlock]⟩
    · simp [Builtin.delete_, run_underlying ht, MapKept.run_getObj_map hb, Kd.check w _ hkey, h1, MapKept.run_setObj_map _ hb, Result.andThen, Go.ChangeMaps.setBlock]
    · intro x hx; rw [hsub] at hx; exact hks x (hsl x hx)
    · intro x hx; rw [hsub] at hx; exact hki x (hsl x hx)
    · rw [hsub]; exact hpw.sublist (List.eraseIdx_sublist _ _)
    · rw [hsub]
      show (if _ then _ else _) = _ ↔ _
      by_cases hji : q = i
      · subst hji
        rw [if_pos rfl]
        constructor
        · intro e; cases e
        · rintro ⟨x, hx, hk, _⟩; exact absurd hk ((hother x).1 hx).2
      · rw [if_neg hji, hf]
        constructor
        · rintro ⟨x, hx, hk, hv⟩; exact ⟨x, (hother x).2 ⟨hx, fun e => hji (hke _ _ (hk.symm.trans e))⟩, hk, hv⟩
        · rintro ⟨x, hx, hk, hv⟩; exact ⟨x, ((hother x).1 hx).1, hk, hv⟩

end

end Go.Proofs.YtchhhjlpnecjkaaGreat.Den
