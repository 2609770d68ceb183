/-
  Arguments: what is read of them lies in memory as these proofs name it; and what a law's proof owes besides.
-/
import Derived.Test.YtchhhjlpnecjkaaGreatRul
import Derived.ProofKit
import Derived.Deep.Slices
import Derived.OpenShut
namespace Go.Proofs.YtchhhjlpnecjkaaGreat.Den
open Go Go.RowKit Go.ChangeShapes Go.WideShapes Go.ChangeAt Go.Deep
variable {H : Type} {enc : TypeId × Value → H} {P : Program} {w : World}

/-- one cell, read as a value of type t. -/
def LeafOk (enc : TypeId × Value → H) (P : Program) (w : World) (t : TypeId) (c : Value) : Prop := ∃ fuel x, DataW.trod enc P w 0 (fun _ => true) true fuel t [c] = some x

def leafSc (P : Program) (t : TypeId) : Option Sc := match P.underlying t with
  | some (.int k) => some (.int k)
  | some .bool => some .bool
  | some .string => some .str
  | some (.slice _) => some .sl
  | _ => none
def leavesF (P : Program) (rec : TypeId → Option (List TypeId)) : Nat → List Field → Option (List TypeId)
  | _, [] => some []
  | acc, f :: fs => bif Nat.beq f.offset acc then match rec f.type with
    | none => none
    | some l => bif Nat.beq l.length (P.cellsOf f.type) then match leavesF P rec (acc + l.length) fs with
      | none => none
      | some r => some (l ++ r)
      else none
    else none
def leaves (P : Program) : Nat → TypeId → Option (List TypeId)
  | 0, _ => none
  | n + 1, t => match P.underlying t with
    | some (.struct fs) => (match leavesF P (leaves P n) 0 fs.toList with
      | none => none
      | some l => bif Nat.beq l.length (P.cellsOf t) then some l else none)
    | some (.array k e) => (match leaves P n e with
      | none => none
      | some l => bif Nat.beq l.length (P.cellsOf e) && Nat.beq (k * l.length) (P.cellsOf t) then some ((List.range k).flatMap fun _ => l) else none)
    | _ => bif (leafSc P t).isSome then some [t] else none

theorem mapM_mem {α β : Type} {f : α → Option β} : ∀ {l : List α} {ys : List β}, l.mapM f = some ys → ∀ x ∈ l, ∃ y, f x = some y
  | [], _, _, x, hx => by simp at hx
  | a :: l, ys, h, x, hx => by
    rw [List.mapM_cons] at h
    obtain ⟨y, hy, h2⟩ := Option.bind_eq_some_iff.1 h
    obtain ⟨ys', hys, _⟩ := Option.bind_eq_some_iff.1 h2
    rcases List.mem_cons.1 hx with rfl | hx
    · exact ⟨y, hy⟩
    · exact mapM_mem hys x hx

theorem leavesF_ok {rec : TypeId → Option (List TypeId)} {fuel : Nat}
    (hr : ∀ (t : TypeId) (ts : List TypeId) (cs : List Value) (x : DataW H × List MemPlace), rec t = some ts → DataW.trod enc P w 0 (fun _ => true) true fuel t cs = some x → cs.length = ts.length ∧ ∀ (i : Nat) (ti : TypeId) (c : Value), ts[i]? = some ti → cs[i]? = some c → LeafOk enc P w ti c) (cs : List Value) :
    ∀ (fs : List Field) (acc : Nat) (ts : List TypeId), leavesF P rec acc fs = some ts → (∀ f ∈ fs, ∃ y, DataW.trod enc P w 0 (fun _ => true) true fuel f.type ((cs.drop f.offset).take (P.cellsOf f.type)) = some y) →
      ∀ (i : Nat) (ti : TypeId) (c : Value), ts[i]? = some ti → cs[acc + i]? = some c → LeafOk enc P w ti c
  | [], _, ts, h, _, i, ti, c, hi, _ => by simp only [leavesF] at h; cases h; simp at hi
  | f :: fs, acc, ts, h, hf, i, ti, c, hi, hc => by
    simp only [leavesF] at h
    cases ho : Nat.beq f.offset acc with
    | false => rw [ho] at h; cases h
    | true =>
      rw [ho, cond_true] at h
      have ho := Nat.eq_of_beq_eq_true ho
      split at h
      · cases h
      · rename_i l hl
        cases hn : Nat.beq l.length (P.cellsOf f.type) with
        | false => rw [hn] at h; cases h
        | true =>
          rw [hn, cond_true] at h
          have hn := Nat.eq_of_beq_eq_true hn
          split at h
          · cases h
          · rename_i r hrr
            cases h
            obtain ⟨y, hy⟩ := hf f List.mem_cons_self
            obtain ⟨h1, h2⟩ := hr _ _ _ _ hl hy
            by_cases hil : i < l.length
            · rw [List.getElem?_append_left hil] at hi
              refine h2 i ti c hi ?_
              rw [List.getElem?_take, if_pos (by omega), List.getElem?_drop, ho]
              exact hc
            · rw [List.getElem?_append_right (by omega)] at hi
              exact leavesF_ok hr cs fs (acc + l.length) r hrr (fun g hg => hf g (List.mem_cons_of_mem _ hg)) (i - l.length) ti c hi (by rw [show acc + l.length + (i - l.length) = acc + i by omega]; exact hc)

theorem flat_range_len {α : Type} (l : List α) (k : Nat) : ((List.range k).flatMap fun _ => l).length = k * l.length := by
  induction k with
  | zero => simp
  | succ k ih => rw [List.range_succ, List.flatMap_append, List.length_append, ih, Nat.add_mul]; simp
theorem range_flat {α : Type} (l : List α) : ∀ (k i : Nat) (x : α), ((List.range k).flatMap fun _ => l)[i]? = some x → 0 < l.length ∧ i < k * l.length ∧ l[i % l.length]? = some x
  | 0, i, x, h => by simp at h
  | k + 1, i, x, h => by
    rw [List.range_succ, List.flatMap_append] at h
    have hlen := flat_range_len l k
    by_cases hi : i < k * l.length
    · rw [List.getElem?_append_left (by omega)] at h
      obtain ⟨h1, h2, h3⟩ := range_flat l k i x h
      exact ⟨h1, by rw [Nat.add_mul]; omega, h3⟩
    · rw [List.getElem?_append_right (by omega), hlen] at h
      simp only [List.flatMap_cons, List.flatMap_nil, List.append_nil] at h
      have hlt := (List.getElem?_eq_some_iff.1 h).1
      refine ⟨by omega, by rw [Nat.add_mul]; omega, ?_⟩
      have : i % l.length = i - k * l.length := by
        rw [show i = (i - k * l.length) + k * l.length by omega, Nat.add_mul_mod_self_right, Nat.mod_eq_of_lt hlt]
        omega
      rw [this]
      exact h

theorem leaves_ok : ∀ (n : Nat) (fuel : Nat) (t : TypeId) (ts : List TypeId) (cs : List Value) (x : DataW H × List MemPlace), leaves P n t = some ts → DataW.trod enc P w 0 (fun _ => true) true fuel t cs = some x →
    cs.length = ts.length ∧ ∀ (i : Nat) (ti : TypeId) (c : Value), ts[i]? = some ti → cs[i]? = some c → LeafOk enc P w ti c
  | 0, _, _, _, _, _, h, _ => by simp [leaves] at h
  | n + 1, 0, _, _, _, _, _, h => by simp [DataW.trod] at h
  | n + 1, fuel + 1, t, ts, cs, x, h, ht => by
    have one : ∀ c, cs = [c] → ts = [t] → cs.length = ts.length ∧ ∀ (i : Nat) (ti : TypeId) (c : Value), ts[i]? = some ti → cs[i]? = some c → LeafOk enc P w ti c := by
      intro c hc hts
      subst hc; subst hts
      refine ⟨rfl, fun i ti c' hi hc => ?_⟩
      rcases i with _ | i
      · simp at hi hc
        subst hi; subst hc
        exact ⟨_, x, ht⟩
      · simp at hi
    have ht0 := ht
    simp only [leaves] at h
    split at h
    · rename_i fs hu
      obtain ⟨xs, m, hm, _, hlen, hxl, hxs⟩ := DataW.trod_struct hu ht
      cases hm
      split at h
      · cases h
      · rename_i l hl
        cases hn : Nat.beq l.length (P.cellsOf t) with
        | false => rw [hn] at h; cases h
        | true =>
          rw [hn, cond_true] at h
          cases h
          have hn := Nat.eq_of_beq_eq_true hn
          refine ⟨by omega, fun i ti c hi hc => ?_⟩
          refine leavesF_ok (fun t ts cs x h1 h2 => leaves_ok n fuel t ts cs x h1 h2) cs fs.toList 0 ts hl (fun f hf => ?_) i ti c hi (by rw [Nat.zero_add]; exact hc)
          obtain ⟨q, hq⟩ := List.mem_iff_getElem?.1 hf
          rw [Array.getElem?_toList] at hq
          rw [hxs q f hq]
          exact ⟨_, List.getElem?_eq_getElem (by rw [hxl]; exact (Array.getElem?_eq_some_iff.1 hq).1)⟩
    · rename_i k e hu
      obtain ⟨xs, m, hm, _, hlen, hxl, hxs⟩ := DataW.trod_array hu ht
      cases hm
      split at h
      · cases h
      · rename_i l hl
        cases hn : (Nat.beq l.length (P.cellsOf e) && Nat.beq (k * l.length) (P.cellsOf t)) with
        | false => rw [hn] at h; cases h
        | true =>
          rw [hn, cond_true] at h
          cases h
          rw [Bool.and_eq_true] at hn
          have hn1 := Nat.eq_of_beq_eq_true hn.1
          have hn2 := Nat.eq_of_beq_eq_true hn.2
          refine ⟨by rw [flat_range_len, hlen, hn2], fun i ti c hi hc => ?_⟩
          obtain ⟨h1, h2, h3⟩ := range_flat l k i ti hi
          have hq : i / l.length < k := Nat.div_lt_of_lt_mul (by rw [Nat.mul_comm]; exact h2)
          have hy := hxs (i / l.length) hq
          rw [List.getElem?_eq_getElem (by rw [hxl]; exact hq)] at hy
          refine (leaves_ok n fuel e l _ _ hl hy).2 (i % l.length) ti c h3 ?_
          rw [List.getElem?_take, if_pos (by rw [← hn1]; exact Nat.mod_lt _ h1), List.getElem?_drop, ← hn1, Nat.mul_comm, Nat.div_add_mod]
          exact hc
    · rename_i h1 h2
      cases hsc : leafSc P t with
      | none => rw [hsc] at h; cases h
      | some s =>
        rw [hsc] at h
        cases h
        have : ∃ c, cs = [c] := by
          unfold leafSc at hsc
          split at hsc
          · rename_i hu; obtain ⟨n, hc, _⟩ := DataW.trod_int hu ht0; exact ⟨_, hc⟩
          · rename_i hu; obtain ⟨n, hc, _⟩ := DataW.trod_bool hu ht0; exact ⟨_, hc⟩
          · rename_i hu; obtain ⟨n, hc, _⟩ := DataW.trod_string hu ht0; exact ⟨_, hc⟩
          · rename_i hu
            rcases DataW.trod_slice hu ht0 with ⟨hc, _⟩ | ⟨a, len, cap, _, _, _, _, hc, _⟩
            · exact ⟨_, hc⟩
            · exact ⟨_, hc⟩
          · cases hsc
        obtain ⟨c, hc⟩ := this
        exact one c hc rfl

/-- what a cell is. -/
theorem LeafOk.int {t : TypeId} {c : Value} {k : IntKind} (h : LeafOk enc P w t c) (hu : P.underlying t = some (.int k)) : ∃ n, c = .int k n ∧ (Lit.int k n).wf = true := by
  obtain ⟨fuel, x, h⟩ := h
  obtain ⟨n, hc, _, hw⟩ := DataW.trod_int hu h
  exact ⟨n, by simpa using hc, hw⟩
theorem LeafOk.bool {t : TypeId} {c : Value} (h : LeafOk enc P w t c) (hu : P.underlying t = some .bool) : ∃ b, c = .bool b := by
  obtain ⟨fuel, x, h⟩ := h
  obtain ⟨n, hc, _⟩ := DataW.trod_bool hu h
  exact ⟨n, by simpa using hc⟩
theorem LeafOk.str {t : TypeId} {c : Value} (h : LeafOk enc P w t c) (hu : P.underlying t = some .string) : ∃ b, c = .string b := by
  obtain ⟨fuel, x, h⟩ := h
  obtain ⟨n, hc, _⟩ := DataW.trod_string hu h
  exact ⟨n, by simpa using hc⟩

theorem LeafOk.sc {t : TypeId} {c : Value} {s : Sc} (h : LeafOk enc P w t c) (hs : leafSc P t = some s) : ∃ x : s.T, c = s.e x := by
  unfold leafSc at hs
  split at hs
  · rename_i hu; cases hs; obtain ⟨n, hc, _⟩ := h.int hu; exact ⟨n, hc⟩
  · rename_i hu; cases hs; obtain ⟨n, hc⟩ := h.bool hu; exact ⟨n, hc⟩
  · rename_i hu; cases hs; obtain ⟨n, hc⟩ := h.str hu; exact ⟨n, hc⟩
  · rename_i hu
    cases hs
    obtain ⟨fuel, x, h⟩ := h
    rcases DataW.trod_slice hu h with ⟨hc, _⟩ | ⟨a, len, cap, _, _, _, _, hc, _⟩
    · exact ⟨⟨none, 0, 0⟩, by simpa using hc⟩
    · exact ⟨⟨some a, len, cap⟩, by simpa using hc⟩
  · cases hs

/-- cells of known leaves are a tuple. -/
theorem tup_of : ∀ {ts : List TypeId} {ss : List Sc} {cs : List Value}, ts.map (leafSc P) = ss.map some → cs.length = ts.length → (∀ (i : Nat) (ti : TypeId) (c : Value), ts[i]? = some ti → cs[i]? = some c → LeafOk enc P w ti c) →
    ∃ x : Tup Sc.T ss, cs = Tup.e Sc.e ss x
  | [], [], [], _, _, _ => ⟨(), rfl⟩
  | [], _ :: _, _, h, _, _ => by simp at h
  | _ :: _, [], _, h, _, _ => by simp at h
  | [], [], _ :: _, _, h, _ => by simp at h
  | t :: ts, s :: ss, [], _, h, _ => by simp at h
  | t :: ts, s :: ss, c :: cs, h, hl, ho => by
    simp only [List.map_cons, List.cons.injEq] at h
    obtain ⟨x, hx⟩ := (ho 0 t c rfl rfl).sc h.1
    obtain ⟨y, hy⟩ := tup_of (cs := cs) h.2 (by simpa using hl) (fun i ti c hi hc => ho (i + 1) ti c (by simpa using hi) (by simpa using hc))
    rcases ss with _ | ⟨s2, ss⟩
    · rcases ts with _ | ⟨t2, ts⟩
      · rcases cs with _ | ⟨c2, cs⟩
        · exact ⟨x, by rw [hx]; rfl⟩
        · simp at hl
      · simp at h
    · exact ⟨(x, y), by rw [hx, hy]; rfl⟩

/-- every leaf of a tuple is read. -/
def AllLeaf (enc : TypeId × Value → H) (P : Program) (w : World) (ts : List TypeId) (cs : List Value) : Prop := cs.length = ts.length ∧ ∀ (i : Nat) (ti : TypeId) (c : Value), ts[i]? = some ti → cs[i]? = some c → LeafOk enc P w ti c

theorem list_of {α : Type} {p : Nat → α → Prop} : ∀ (n : Nat), (∀ i, i < n → ∃ x, p i x) → ∃ l : List α, l.length = n ∧ ∀ i x, l[i]? = some x → p i x
  | 0, _ => ⟨[], rfl, fun i x h => by simp at h⟩
  | n + 1, h => by
    obtain ⟨l, hl, hp⟩ := list_of n fun i hi => h i (by omega)
    obtain ⟨x, hx⟩ := h n (by omega)
    refine ⟨l ++ [x], by simp [hl], fun i y hy => ?_⟩
    by_cases hi : i < l.length
    · rw [List.getElem?_append_left hi] at hy; exact hp i y hy
    · rw [List.getElem?_append_right (by omega)] at hy
      have : i - l.length = 0 := by
        have := (List.getElem?_eq_some_iff.1 hy).1
        simp at this
        omega
      rw [this] at hy
      simp at hy
      subst hy
      rw [show i = n by omega]
      exact hx

theorem spot_of {a : Addr} {v : Value} (h : w.cell? a = some v) : a = ⟨a.block, a.off, none⟩ := by
  obtain ⟨b, o, s⟩ := a
  cases s with
  | none => rfl
  | some x =>
    exfalso
    simp only [World.cell?] at h
    split at h
    · cases h
    · cases h
theorem add0 (a : Addr) : a.add 0 = a := by unfold Addr.add; simp
theorem cells_at {base : Nat} {a : Addr} {n : Nat} {cs : List Value} (h : w.cells? base a n = some cs) : cs.length = n ∧ CellsAt w a cs := by
  unfold World.cells? at h
  split at h
  · refine ⟨?_, fun j u hj => ?_⟩
    · have := congrArg (Option.map List.length) (rfl : (List.range n).mapM (fun i => w.cell? (a.add i)) = _)
      rw [h] at this
      clear this
      have key : ∀ (l : List Nat) (ys : List Value), l.mapM (fun i => w.cell? (a.add i)) = some ys → ys.length = l.length := by
        intro l
        induction l with
        | nil => intro ys h; simp at h; subst h; rfl
        | cons x l ih =>
          intro ys h
          rw [List.mapM_cons] at h
          obtain ⟨y, hy, h2⟩ := Option.bind_eq_some_iff.1 h
          obtain ⟨ys', hys, h3⟩ := Option.bind_eq_some_iff.1 h2
          cases h3
          simp [ih ys' hys]
      rw [key _ _ h]
      simp
    · have key : ∀ (l : List Nat) (ys : List Value), l.mapM (fun i => w.cell? (a.add i)) = some ys → ∀ (j : Nat) (u : Value) (k : Nat), ys[j]? = some u → l[j]? = some k → w.cell? (a.add k) = some u := by
        intro l
        induction l with
        | nil => intro ys h j u k _ hk; simp at hk
        | cons x l ih =>
          intro ys h j u k hj hk
          rw [List.mapM_cons] at h
          obtain ⟨y, hy, h2⟩ := Option.bind_eq_some_iff.1 h
          obtain ⟨ys', hys, h3⟩ := Option.bind_eq_some_iff.1 h2
          cases h3
          rcases j with _ | j
          · simp at hj hk
            subst hj; subst hk
            exact hy
          · exact ih ys' hys j u k (by simpa using hj) (by simpa using hk)
      have hjl : j < n := by
        have key2 : ∀ (l : List Nat) (ys : List Value), l.mapM (fun i => w.cell? (a.add i)) = some ys → ys.length = l.length := by
          intro l
          induction l with
          | nil => intro ys h; simp at h; subst h; rfl
          | cons x l ih =>
            intro ys h
            rw [List.mapM_cons] at h
            obtain ⟨y, hy, h2⟩ := Option.bind_eq_some_iff.1 h
            obtain ⟨ys', hys, h3⟩ := Option.bind_eq_some_iff.1 h2
            cases h3
            simp [ih ys' hys]
        have := key2 _ _ h
        have := (List.getElem?_eq_some_iff.1 hj).1
        simp at *
        omega
      exact key _ _ h j u j hj (by simp [hjl])
  · cases h

/-- what one must know of a slice's type. -/
structure SlArg (P : Program) (t e : TypeId) (ty : Ty) (ts : List TypeId) : Prop where
  under : P.underlying t = some (.slice e)
  size : P.cellsOf e = ty.size
  pos : 0 < ty.size
  leaf : leaves P 9 e = some ts
  sorts : ∃ ss : List Sc, ts.map (leafSc P) = ss.map some ∧ ((ty = .agg ss) ∨ ∃ s, ty = .sc s ∧ ss = [s])

/-- a slice that is read: it lies in memory as a list. -/
theorem LeafOk.slice {t e : TypeId} {ty : Ty} {ts : List TypeId} (A : SlArg P t e ty ts) {c : Value} (h : LeafOk enc P w t c) :
    ∃ (s : Sl) (l : List ty.T), c = s.v ∧ SlT (fun k => k < w.heap.size) w ty s l ∧ s.c ≤ maxLen ∧ ∀ x ∈ l, AllLeaf enc P w ts (ty.cells x) := by
  obtain ⟨fuel, x, h⟩ := h
  rcases open_slice A.under h with ⟨hc, _⟩ | ⟨a, len, cap, m, n, D, Pl, hc, hb, hl, hm, hmm, _, hel⟩
  · exact ⟨⟨none, 0, 0⟩, [], by simpa [Sl.v] using hc, SlT.nil _, Nat.zero_le _, by simp⟩
  · have hmc : m = cap := by simpa using hmm
    subst hmc
    obtain ⟨ss, hss, hty⟩ := A.sorts
    have each : ∀ i, i < len → ∃ x : ty.T, CellsAt w (a.add (i * ty.size)) (ty.cells x) ∧ AllLeaf enc P w ts (ty.cells x) := by
      intro i hi
      obtain ⟨cs', h1, h2⟩ := hel i (by omega)
      obtain ⟨h3, h4⟩ := cells_at h1
      obtain ⟨h5, h6⟩ := leaves_ok 9 n e ts cs' _ A.leaf h2
      obtain ⟨x, hx⟩ := tup_of hss h5 h6
      rw [A.size] at h4
      rcases hty with rfl | ⟨s, rfl, rfl⟩
      · exact ⟨x, by rw [show Ty.cells (.agg ss) x = cs' from hx.symm]; exact h4, by rw [show Ty.cells (.agg ss) x = cs' from hx.symm]; exact ⟨h5, h6⟩⟩
      · exact ⟨x, by rw [show Ty.cells (.sc s) x = cs' from hx.symm]; exact h4, by rw [show Ty.cells (.sc s) x = cs' from hx.symm]; exact ⟨h5, h6⟩⟩
    obtain ⟨l, hll, hlp⟩ := list_of len each
    refine ⟨⟨some a, len, m⟩, l, by simpa [Sl.v] using hc, ⟨hll.symm, hl, ?_⟩, hm, fun x hx => ?_⟩
    · by_cases h0 : l = []
      · exact .inl h0
      · right
        have hpos : 0 < l.length := List.length_pos_iff.2 h0
        have hx0 := List.getElem?_eq_getElem hpos
        have hc0 := (hlp 0 _ hx0).1
        rw [Nat.zero_mul, add0] at hc0
        have hcl := ty.cells_len l[0]
        have hp := A.pos
        have hcell := hc0 0 _ (List.getElem?_eq_getElem (by omega))
        rw [add0] at hcell
        have ha := spot_of hcell
        refine ⟨a.block, a.off, by rw [ha], World.block_lt_of_cell? w a hcell, World.block_lt_of_cell? w a hcell, fun i x hx => ?_⟩
        refine Rd.cells.2 ?_
        have := (hlp i x hx).1
        rw [ha, add_lit] at this
        exact this
    · obtain ⟨i, hi⟩ := List.mem_iff_getElem?.1 hx
      exact (hlp i x hi).2

/-! ### a law's post -/
theorem trodAll_below {P : Program} (hl : laidOutB P = true) {W W' : World} (hb : Below W.heap.size W W') : ∀ {ts : List TypeId} {vs : List Value} {ds : List (DataW H)} {ps : List MemPlace}, (∀ t ∈ ts, P.readableRec t = true ∧ t < P.types.size) →
    DataW.TrodAll enc P W 0 (fun _ => true) true ts vs ds ps → (∀ x ∈ ps, x.block < W.heap.size) → DataW.TrodAll enc P W' 0 (fun b => decide (b < W.heap.size)) true ts vs ds ps
  | [], [], [], _, _, h, _ => h
  | [], [], _ :: _, _, _, h, _ => h.elim
  | [], _ :: _, _, _, _, h, _ => h.elim
  | _ :: _, [], _, _, _, h, _ => h.elim
  | _ :: _, _ :: _, [], _, _, h, _ => h.elim
  | t :: ts, v :: vs, d :: ds, ps, hr, ⟨p, q, h1, h2, e⟩, hlt => by
    subst e
    exact ⟨p, q, Below.trod hl (hr t List.mem_cons_self).1 (hr t List.mem_cons_self).2 h1 hb (fun x hx => hlt x (List.mem_append_left _ hx)),
      trodAll_below hl hb (fun u hu => hr u (List.mem_cons_of_mem _ hu)) h2 (fun x hx => hlt x (List.mem_append_right _ hx)), rfl⟩

theorem law_post {P : Program} (hl : laidOutB P = true) {f : Func} {s : ChangeSpec} {W W' : World} {args : Array Value} {ds gs : List (DataW H)} {before : List MemPlace} {tb : TypeId} (hbool : P.underlying tb = some .bool) (hres : f.resultTypes = #[tb])
    (hr : ∀ t ∈ f.params.toList, P.readableRec t = true ∧ t < P.types.size) (hvars : s.vars = []) (hs : (s.fn H (ds ++ [])).results = [.lit (.bool true)] ∧ (s.fn H (ds ++ [])).args = ds ∧ (s.fn H (ds ++ [])).vars = [])
    (hW : DataW.Whole enc P f.params.toList s.vars false W args.toList ds gs before) (hf : Fr None W W') : s.post enc P f false true false false W args (.bool true) W' := by
  have hlt := hW.lt
  have hW2 := hW
  obtain ⟨p, q, hA, hV, rfl, hfz, hnd⟩ := hW2
  rw [hvars] at hV
  obtain ⟨hgs, hq⟩ : gs = [] ∧ q = [] := by
    cases gs with
    | nil => exact ⟨rfl, hV⟩
    | cons _ _ => exact hV.elim
  subst hq; subst hgs
  refine ⟨ds, [], p ++ [], [], p, [], hW, ?_, ?_, ?_, hf.below.frame _, fun h => by cases h⟩
  · rw [hs.1, hres]
    exact trodAll_mk1 (shut_bool hbool true)
  · rw [hs.2.1]
    exact trodAll_below hl hf.below hr hA (fun x hx => hlt x (by simpa using hx))
  · rw [hs.2.2, hvars]
    rfl

/-! ### arguments, one by one -/
theorem arg_int {t : TypeId} {k : IntKind} (hu : P.underlying t = some (.int k)) {v : Value} {d : DataW H} {p : List MemPlace} (hval : Value.okWide P w .any 0 t v) (h : DataW.Trod enc P w 0 (fun _ => true) true t v d p) : ∃ n, v = .int k n ∧ (Lit.int k n).wf = true := by
  obtain ⟨n, h1, _, _, h2⟩ := open_int hu hval h
  exact ⟨n, h1, h2⟩
theorem arg_slice {t e : TypeId} {ty : Ty} {ts : List TypeId} (A : SlArg P t e ty ts) {v : Value} {d : DataW H} {p : List MemPlace} (hval : Value.okWide P w .any 0 t v) (h : DataW.Trod enc P w 0 (fun _ => true) true t v d p) :
    ∃ (s : Sl) (l : List ty.T), v = s.v ∧ SlT (fun k => k < w.heap.size) w ty s l ∧ s.c ≤ maxLen ∧ ∀ x ∈ l, AllLeaf enc P w ts (ty.cells x) := by
  obtain ⟨a0, len, cap, rfl⟩ := okWide_slice A.under hval
  obtain ⟨fuel, hf⟩ := h
  exact LeafOk.slice A ⟨fuel, _, hf⟩

def aggB (P : Program) (t : TypeId) : Bool := match P.underlying t with
  | some (.struct _) => true
  | some (.array _ _) => true
  | _ => false
/-- a struct or an array by value. -/
structure AggArg (P : Program) (t : TypeId) (ss : List Sc) (ts : List TypeId) : Prop where
  under : aggB P t = true
  leaf : leaves P 9 t = some ts
  sorts : ts.map (leafSc P) = ss.map some
theorem arg_agg {t : TypeId} {ss : List Sc} {ts : List TypeId} (A : AggArg P t ss ts) {v : Value} {d : DataW H} {p : List MemPlace} (hval : Value.okWide P w .any 0 t v) (h : DataW.Trod enc P w 0 (fun _ => true) true t v d p) :
    ∃ x : Tup Sc.T ss, v = .agg ⟨Tup.e Sc.e ss x⟩ ∧ AllLeaf enc P w ts (Tup.e Sc.e ss x) := by
  have : ∃ cs, v = .agg cs := by
    unfold Value.okWide at hval
    have hu := A.under
    unfold aggB at hu
    split at hu
    · rename_i fs hu2; rw [hu2] at hval; obtain ⟨cs, h, _⟩ := hval; exact ⟨cs, h⟩
    · rename_i n e hu2; rw [hu2] at hval; obtain ⟨cs, h, _⟩ := hval; exact ⟨cs, h⟩
    · cases hu
  obtain ⟨cs, rfl⟩ := this
  obtain ⟨fuel, hf⟩ := h
  have hf : DataW.trod enc P w 0 (fun _ => true) true fuel t cs.toList = some (d, p) := hf
  obtain ⟨h1, h2⟩ := leaves_ok 9 fuel t ts cs.toList _ A.leaf hf
  obtain ⟨x, hx⟩ := tup_of A.sorts h1 h2
  refine ⟨x, ?_, ?_⟩
  · rw [← hx]
  · rw [← hx]; exact ⟨h1, h2⟩

end Go.Proofs.YtchhhjlpnecjkaaGreat.Den
