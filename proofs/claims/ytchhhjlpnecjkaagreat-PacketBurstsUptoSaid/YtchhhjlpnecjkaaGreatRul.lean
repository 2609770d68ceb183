/-
  Rules that the walks use: local blocks, loops over rows, numbers in their range.
-/
import Derived.Test.YtchhhjlpnecjkaaGreatMem
import Derived.Laws.BitsLemmas
namespace Go.Proofs.YtchhhjlpnecjkaaGreat.Den
open Go Go.RowKit
variable {R : Type} {Q : R → World → Prop} {w : World}

/-! ### numbers -/
theorem w64 {x : Int} (h : -9223372036854775808 ≤ x ∧ x ≤ 9223372036854775807) : IntKind.wrap .i64 x = x := by rw [IntKind.wrap_i64]; omega
theorem w32 {x : Int} (h : -2147483648 ≤ x ∧ x ≤ 2147483647) : IntKind.wrap .i32 x = x := by rw [IntKind.wrap_i32]; omega
theorem wu32 {x : Int} (h : 0 ≤ x ∧ x ≤ 4294967295) : IntKind.wrap .u32 x = x := by rw [IntKind.wrap_u32]; omega
theorem wu8 {x : Int} (h : 0 ≤ x ∧ x ≤ 255) : IntKind.wrap .u8 x = x := by rw [IntKind.wrap_u8]; omega
theorem maxLen_eq : maxLen = 9223372036854775807 := by simp [maxLen]

/-! ### local blocks -/
theorem newI {T : TypeId} {cs : List Value} {K : Addr → W R} (hk : ∀ w', Blk w' w.heap.size T cs → Fr None w w' → w'.heap.size = w.heap.size + 1 → K ⟨w.heap.size, 0, none⟩ Q w') : newW T cs K Q w :=
  hk _ (Blk.new w T cs) ((Fr.refl _ _).alloc _) (by simp)

theorem putAt_all : ∀ {vs cs : List Value}, vs.length = cs.length → putAt cs 0 vs = vs := by
  intro vs cs h
  rw [putAt_get vs (by omega)]
  simp [h]

def one1 : List Value → Bool
  | [] => true
  | v :: r => v.oneCell' && one1 r
theorem one1_mem : ∀ {vs : List Value}, one1 vs = true → ∀ v ∈ vs, v.oneCell' = true
  | u :: r, h, v, hv => by
    simp only [one1, Bool.and_eq_true] at h
    rcases List.mem_cons.1 hv with rfl | hv
    · exact h.1
    · exact one1_mem h.2 v hv

/-- a whole block is written. -/
theorem stoAll {b : Nat} {T : TypeId} {cs vs : List Value} {K : W R} (h : Blk w b T cs) (hl : vs.length = cs.length) (h1 : one1 vs = true) (hk : ∀ w', Blk w' b T vs → Fr (fun k => k = b) w w' → w'.heap.size = w.heap.size → K Q w') : stoL ⟨b, 0, none⟩ vs 0 K Q w :=
  stoBlk vs 0 h (by omega) (one1_mem h1) fun w' hb hf hs => hk w' (by rw [putAt_all hl] at hb; exact hb) hf hs

/-- a copy of its own. -/
theorem locI {T : TypeId} {cs vs : List Value} {K : Addr → W R} (hl : vs.length = cs.length) (h1 : one1 vs = true)
    (hk : ∀ w', Blk w' w.heap.size T vs → Fr None w w' → w'.heap.size = w.heap.size + 1 → K ⟨w.heap.size, 0, none⟩ Q w') : newW T cs (fun a => stoL a vs 0 (K a)) Q w :=
  newI fun _ B f hs => stoAll B hl h1 fun w2 B2 f2 hs2 => hk w2 B2 (f.thenNew f2 (fun x e => by omega)) (by omega)

/-- one cell of a block. -/
theorem fldI {b : Nat} {T : TypeId} {cs : List Value} {s : Sc} {i : Nat} {K : s.T → W R} (B : Blk w b T cs) {x : s.T} (hx : cs[i]? = some (s.e x)) (hk : K x Q w) : ld (.sc s) (Addr.add ⟨b, 0, none⟩ i) K Q w :=
  ⟨x, by rw [add_lit, Nat.zero_add]; exact (B.cell i).trans hx, hk⟩
theorem fld0 {b : Nat} {T : TypeId} {cs : List Value} {s : Sc} {i : Nat} {K : s.T → W R} (B : Blk w b T cs) {x : s.T} (hx : cs[i]? = some (s.e x)) (hk : K x Q w) : ld (.sc s) ⟨b, i, none⟩ K Q w :=
  ⟨x, (B.cell i).trans hx, hk⟩
/-- all of a block. -/
theorem aggI {b : Nat} {T : TypeId} {cs : List Value} {l : List Sc} {K : Tup Sc.T l → W R} (B : Blk w b T cs) {x : Tup Sc.T l} (hx : cs = Tup.e Sc.e l x) (hk : K x Q w) : ld (.agg l) ⟨b, 0, none⟩ K Q w :=
  ⟨x, by subst hx; exact B.cells 0 _ (fun j u h => by rw [Nat.zero_add]; exact h), hk⟩
/-- a part of a block. -/
theorem aggI' {b o : Nat} {T : TypeId} {cs : List Value} {l : List Sc} {K : Tup Sc.T l → W R} (B : Blk w b T cs) {x : Tup Sc.T l} (hx : ∀ j u, (Tup.e Sc.e l x)[j]? = some u → cs[o + j]? = some u) (hk : K x Q w) : ld (.agg l) ⟨b, o, none⟩ K Q w :=
  ⟨x, B.cells o _ hx, hk⟩
/-- one cell is written. -/
theorem setI {b : Nat} {T : TypeId} {cs : List Value} {i : Nat} {v : Value} {K : W R} (B : Blk w b T cs) (hi : i < cs.length) (h1 : v.oneCell' = true)
    (hk : ∀ w', Blk w' b T (cs.set i v) → Fr (fun k => k = b) w w' → w'.heap.size = w.heap.size → K Q w') : stoL ⟨b, i, none⟩ [v] 0 K Q w :=
  stoBlk (o := i) [v] 0 B (by simp; omega) (by simpa using h1) fun w' hb hf hs => hk w' (by simpa [putAt] using hb) hf hs
/-- an element's address in a block of its own. -/
theorem idxB {b : Nat} {n sz : Nat} {i : Int} (h0 : 0 ≤ i) (h1 : i < n) {o : Nat} {K : Addr → W R} (hk : K ⟨b, o + i.toNat * sz, none⟩ Q w) : idxW (some ⟨b, o, none⟩) n sz i K Q w :=
  ⟨_, rfl, h0, h1, by rw [add_lit]; exact hk⟩
theorem ptrI {a : Addr} {K : Addr → W R} (hk : K a Q w) : ptrW (some a) K Q w := hk
theorem chkI {c : Prop} {K : W R} (h : c) (hk : K Q w) : chkW c K Q w := ⟨h, hk⟩
theorem Fr.newer {a b c : World} {T : Nat → Prop} (h : Fr None a b) (k : Fr T b c) (ht : ∀ x, T x → a.heap.size ≤ x) : Fr None a c := h.thenNew k ht

/-! ### loops over 0 .. N - 1 -/
theorem forI {σ : Type} {step : (σ → W R) → σ → W R} {done : σ → W R} {s0 : σ} {N : Nat} (idx : σ → Int) (P : Nat → σ → World → Prop)
    (h0 : P 0 s0 w) (hi : ∀ j s w', P j s w' → idx s = j)
    (hs : ∀ j s w' (K : σ → W R), j < N → P j s w' → idx s = j → (∀ s' w'', P (j + 1) s' w'' → K s' Q w'') → step K s Q w') (hd : ∀ s w', P N s w' → done s Q w') :
    loopW (fun K s => cond (decide (idx s < (N : Int))) (step K s) (done s)) s0 Q w := by
  refine loopI (fun s w' => ∃ j, j ≤ N ∧ P j s w') (fun s _ => N - (idx s).toNat) ⟨0, Nat.zero_le _, h0⟩ ?_
  rintro s w' ⟨j, hj, hp⟩
  have e := hi j s w' hp
  rcases Nat.lt_or_ge j N with hlt | hge
  · refine condT (by simp [e]; omega) ?_
    refine hs j s w' _ hlt hp e ?_
    intro s' w'' hp'
    refine ⟨⟨j + 1, hlt, hp'⟩, ?_⟩
    rw [hi _ _ _ hp', e]
    omega
  · have : j = N := by omega
    subst this
    exact condF (by simp [e]) (hd s w' hp)
theorem wsucc {j N : Nat} (h : j < N) (hN : N ≤ 9223372036854775807) : IntKind.wrap .i64 ((j : Int) + 1) = ((j + 1 : Nat) : Int) := by rw [w64 (by omega)]; rfl

/-! ### types -/
def slTyB (P : Program) (T E : TypeId) (t : Ty) (bytes : Nat) : Bool := match P.underlying T, P.info? E with
  | some (.slice E'), some i => Nat.beq E' E && (match i.zero with
    | some z => Nat.beq i.size t.size && Nat.beq i.bytes bytes && Nat.beq z.cells.size t.size
    | none => false) && Nat.blt 0 t.size && t.fine
  | _, _ => false
theorem slTy {P : Program} {T E : TypeId} {t : Ty} {bytes : Nat} (h : slTyB P T E t bytes = true) : SlTy P T E t bytes := by
  unfold slTyB at h
  split at h
  · rename_i E' i h1 h2
    simp only [Bool.and_eq_true] at h
    obtain ⟨⟨⟨hE, hz⟩, hp⟩, hf⟩ := h
    have := Nat.eq_of_beq_eq_true hE
    subst this
    split at hz
    · rename_i z hz1
      simp only [Bool.and_eq_true] at hz
      exact ⟨h1, ⟨i, z, h2, hz1, Nat.eq_of_beq_eq_true hz.1.1, Nat.eq_of_beq_eq_true hz.1.2, Nat.eq_of_beq_eq_true hz.2⟩, by simpa [Nat.blt_eq] using hp, hf⟩
    · cases hz
  · cases h

/-! ### append, once more: one element; a fresh slice -/
/-- the element is a block of its own. -/
theorem app1 {P : Program} {T E ty : TypeId} {t : Ty} {bytes : Nat} (H : SlTy P T E t bytes) {S S' : Nat → Prop} {s : Sl} {l : List t.T} {b : Nat} {T' : TypeId} {cs : List Value} {x : t.T} (h : Own S w E t s l) (B : Blk w b T' cs) (hc : cs = t.cells x)
    (hb : (l.length + 1) * bytes ≤ 140737488355328) (hm : l.length + 1 ≤ maxLen) (h1 : ∀ k, S k → S' k) (h1' : S' w.heap.size) {K : Sl → W R}
    (hk : ∀ r w', Own S' w' E t r (l ++ [x]) → Fr (fun k => s.v.ownBlock = some k) w w' → w'.heap.size ≤ w.heap.size + 1 → K r Q w') : rawW P (Builtin.append_ #[T, T] ty #[.slice s.a s.n s.c, .slice (some ⟨b, 0, none⟩) 1 1]) [.sc .sl] K Q w := by
  have h2 : SlT (fun _ => True) w t ⟨some ⟨b, 0, none⟩, 1, 1⟩ [x] := by
    refine ⟨rfl, Nat.le_refl _, .inr ⟨b, 0, rfl, trivial, B.lt, fun i y hy => ?_⟩⟩
    rcases i with _ | i
    · simp at hy
      subst hy
      subst hc
      exact Rd.cells.2 (B.cells _ _ (fun j u hj => by rw [Nat.zero_add, Nat.zero_mul, Nat.zero_add]; exact hj))
    · simp at hy
  exact appI H h h2 hb hm h1 h1' hk

/-! ### rows of a list -/
theorem SlT.get {ok : Nat → Prop} {t : Ty} {s : Sl} {l : List t.T} (h : SlT ok w t s l) {sz : Nat} (hsz : sz = t.size) {i : Int} {j : Nat} (hi : i = j) (hj : j < l.length) {K : t.T → W R} (hk : ∀ x, l[j]? = some x → K x Q w) :
    idxW s.a s.n sz i (fun a => ld t a K) Q w := by
  subst hi
  refine h.idx hsz (by omega) (by omega) fun a x hx hr => ldI x hr (hk x (by simpa using hx))
theorem drop_at {α : Type} {l : List α} {j : Nat} {x : α} (h : l[j]? = some x) : l.drop j = x :: l.drop (j + 1) := by
  obtain ⟨hl, he⟩ := List.getElem?_eq_some_iff.1 h
  rw [List.drop_eq_getElem_cons hl, he]
theorem take_at {α : Type} {l : List α} {j : Nat} {x : α} (h : l[j]? = some x) : l.take (j + 1) = l.take j ++ [x] := by
  rw [List.take_add_one, h]; rfl

/-! ### what lies behind n -/
abbrev Up (n : Nat) : Nat → Prop := fun k => n ≤ k
theorem Fr.up {n : Nat} {a b : World} (h : Fr None a b) : Fr (Up n) a b := h.mono fun _ _ h => h.elim
theorem Fr.upLe {n m : Nat} {a b : World} (h : Fr (Up n) a b) (hn : m ≤ n) : Fr (Up m) a b := h.mono fun _ _ h => Nat.le_trans hn h
theorem Fr.ofUp {n : Nat} {a b : World} (h : Fr (Up n) a b) (hn : a.heap.size ≤ n) : Fr None a b := h.mono fun x hx h => by have : n ≤ x := h; omega
theorem Fr.thenUp {n : Nat} {a b c : World} (h : Fr None a b) (k : Fr (Up n) b c) (hn : a.heap.size ≤ n) : Fr None a c := h.newer k fun _ e => Nat.le_trans hn e
theorem Own.up {n m : Nat} {E : TypeId} {t : Ty} {s : Sl} {l : List t.T} (h : Own (Up n) w E t s l) (hn : m ≤ n) : Own (Up m) w E t s l := h.mono fun _ _ h => Nat.le_trans hn h
theorem Own.none {S : Nat → Prop} {w' : World} {E : TypeId} {t : Ty} {s : Sl} {l : List t.T} (h : Own S w E t s l) (f : Fr None w w') : Own S w' E t s l := h.fr f fun _ _ h => h

/-- append(o, x) to a list that lies behind n. -/
theorem appF {P : Program} {T E ty : TypeId} {t : Ty} {bytes : Nat} (H : SlTy P T E t bytes) {n : Nat} {o : Sl} {lo : List t.T} {x : t.T} {cs : List Value} (hc : cs = t.cells x) (ho : Own (Up n) w E t o lo) (hn : n ≤ w.heap.size)
    (hb : (lo.length + 1) * bytes ≤ 140737488355328) (hm : lo.length + 1 ≤ 9223372036854775807) {K : Sl → W R}
    (hk : ∀ r w', Own (Up n) w' E t r (lo ++ [x]) → Fr (fun k => o.v.ownBlock = some k) w w' → (∀ k, r.v.ownBlock = some k → o.v.ownBlock = some k ∨ w.heap.size ≤ k) → K r Q w') : newW E cs (fun a => rawW P (Builtin.append_ #[T, T] ty #[.slice o.a o.n o.c, .slice (some a) 1 1]) [.sc .sl] K) Q w := by
  subst hc
  refine newI fun w2 B2 f2 s2 => ?_
  have ho2 : Own (fun k => o.v.ownBlock = some k) w2 E t o lo := ⟨(ho.none f2).row, fun k h => h⟩
  refine app1 (S' := fun k => o.v.ownBlock = some k ∨ w.heap.size ≤ k) H ho2 B2 rfl hb (by rw [maxLen_eq]; exact hm) (fun _ h => .inl h) (.inr (by omega)) fun r w3 o3 f3 s3 => ?_
  refine hk r w3 (o3.mono fun k _ h => ?_) (f2.trans f3 (fun _ h => h.elim) (fun x _ e => e)) o3.own
  rcases h with h | h
  · exact ho.own k h
  · exact Nat.le_trans hn h
theorem Sl.own (s : Sl) : s.v.ownBlock = s.a.map (·.block) := by
  obtain ⟨a, n, c⟩ := s
  cases a <;> rfl
theorem Own.lt {S : Nat → Prop} {E : TypeId} {t : Ty} {s : Sl} {l : List t.T} (h : Own S w E t s l) {k : Nat} (e : s.v.ownBlock = some k) : k < w.heap.size := (h.row.lt k e).2
theorem Own.upFr {n : Nat} {v w' : World} {E : TypeId} {t : Ty} {s : Sl} {l : List t.T} (h : Own (Up n) v E t s l) (f : Fr (fun k => s.v.ownBlock = some k) w w') : Fr (Up n) w w' := f.mono fun _ _ e => h.own _ e
theorem Fr.thenOwn {n : Nat} {a b c v : World} {E : TypeId} {t : Ty} {s : Sl} {l : List t.T} (h : Fr (Up n) a b) (o : Own (Up n) v E t s l) (f : Fr (fun k => s.v.ownBlock = some k) b c) : Fr (Up n) a c := h.then (o.upFr f)
theorem Blk.frUp {n : Nat} {w' : World} {b : Nat} {T : TypeId} {cs : List Value} (h : Blk w b T cs) (f : Fr (Up n) w w') (hb : b < n) : Blk w' b T cs := h.fr f fun e => by have : n ≤ b := e; omega
theorem SlT.frUp {ok : Nat → Prop} {n : Nat} {w' : World} {t : Ty} {s : Sl} {l : List t.T} (h : SlT ok w t s l) (f : Fr (Up n) w w') (hn : w.heap.size ≤ n) : SlT ok w' t s l := h.fr0 (f.ofUp hn)

/-! ### more than one order -/
theorem bothI {X Y : W R} (h1 : X Q w) (h2 : Y Q w) : bothW X Y Q w := ⟨h1, h2⟩
theorem both4 {X : W R} (h : X Q w) : bothW X (bothW X (bothW X X)) Q w := ⟨h, h, h, h⟩
theorem andI {p : World → Prop} {X : W R} (h : p w) (hx : X Q w) : andW p X Q w := ⟨h, hx⟩
theorem Blk.rd {b : Nat} {T : TypeId} {cs : List Value} (B : Blk w b T cs) {s : Sc} {i : Nat} {x : s.T} (hx : cs[i]? = some (s.e x)) : Rd w (Addr.add ⟨b, 0, none⟩ i) (.sc s) x := by
  rw [add_lit, Nat.zero_add]
  exact (B.cell i).trans hx

theorem setA {b : Nat} {T : TypeId} {cs : List Value} {i : Nat} {v : Value} {K : W R} (B : Blk w b T cs) (hi : i < cs.length) (h1 : v.oneCell' = true)
    (hk : ∀ w', Blk w' b T (cs.set i v) → Fr (fun k => k = b) w w' → w'.heap.size = w.heap.size → K Q w') : stoL (Addr.add ⟨b, 0, none⟩ i) [v] 0 K Q w := by
  rw [add_lit, Nat.zero_add]
  exact setI B hi h1 hk

end Go.Proofs.YtchhhjlpnecjkaaGreat.Den
