/-
  Objects by the blocks they lie in; making slices; more rules.
-/
import Derived.Test.YtchhhjlpnecjkaaGreatBase
namespace Go.Proofs.YtchhhjlpnecjkaaGreat.Den
open Go Go.RowKit
variable {R : Type} {Q : R → World → Prop} {w : World}

/-! ### objects -/
/-- a thing that lies in blocks of F. -/
abbrev OB := (Nat → Prop) → World → Prop
/-- it stays as long as nobody writes there. -/
def St (A : OB) : Prop := ∀ {F F' S : Nat → Prop} {w w' : World}, A F w → Fr S w w' → (∀ k, k < w.heap.size → F k → ¬ S k ∧ F' k) → A F' w'
/-- F, and what is new. -/
abbrev Ex (F : Nat → Prop) (w : World) : Nat → Prop := fun k => F k ∨ w.heap.size ≤ k
theorem St.fr {A : OB} (h : St A) {F S : Nat → Prop} {w w' : World} (a : A F w) (f : Fr S w w') (hn : ∀ k, F k → ¬ S k) : A F w' := h a f fun k _ e => ⟨hn k e, e⟩
theorem St.fr0 {A : OB} (h : St A) {F : Nat → Prop} {w w' : World} (a : A F w) (f : Fr None w w') : A F w' := h a f fun _ _ e => ⟨fun h => h, e⟩
theorem St.mono {A : OB} (h : St A) {F F' : Nat → Prop} {w : World} (a : A F w) (hf : ∀ k, k < w.heap.size → F k → F' k) : A F' w := h a (Fr.refl None w) fun k hk e => ⟨fun h => h, hf k hk e⟩

def relab (lab : Nat → Nat) (n n' c : Nat) : Nat → Nat := fun k => if k < n then lab k else if k < n' then c else 0
theorem relab_lt {lab : Nat → Nat} {n n' c k : Nat} (h : k < n) : relab lab n n' c k = lab k := by simp [relab, h]
theorem relab_new {lab : Nat → Nat} {n n' c k : Nat} (h : n ≤ k) (h2 : k < n') : relab lab n n' c k = c := by simp [relab, show ¬ k < n by omega, h2]
theorem relab_ne {lab : Nat → Nat} {n n' c k : Nat} (h : relab lab n n' c k ≠ 0) : (lab k ≠ 0 ∧ k < n) ∨ (n ≤ k ∧ k < n') := by
  unfold relab at h
  split at h
  · exact .inl ⟨h, by assumption⟩
  · split at h
    · exact .inr ⟨by omega, by assumption⟩
    · exact absurd rfl h
/-- what has another label stays. -/
theorem St.other {A : OB} (h : St A) {lab : Nat → Nat} {i j c : Nat} {w w' : World} (a : A (fun k => lab k = i) w) (f : Fr (fun k => lab k = j) w w') (hij : i ≠ j) : A (fun k => relab lab w.heap.size w'.heap.size c k = i) w' :=
  h a f fun k hk e => ⟨by omega, by show relab _ _ _ _ _ = _; rw [relab_lt hk]; exact e⟩
/-- .. and what has grown gets its own. -/
theorem St.grown {A : OB} (h : St A) {lab : Nat → Nat} {i : Nat} {w w' : World} (a : A (Ex (fun k => lab k = i) w) w') : A (fun k => relab lab w.heap.size w'.heap.size i k = i) w' :=
  h.mono a fun k hk e => by
    rcases Nat.lt_or_ge k w.heap.size with hl | hg
    · rw [relab_lt hl]
      rcases e with e | e
      · exact e
      · omega
    · exact relab_new hg hk
/-- all labels, grown. -/
theorem relab_ex {lab : Nat → Nat} {F : Nat → Prop} {n n' c : Nat} (h : ∀ k, lab k ≠ 0 → F k) : ∀ k, relab lab n n' c k ≠ 0 → F k ∨ n ≤ k := fun k e => by
  rcases relab_ne e with ⟨e, _⟩ | ⟨e, _⟩
  · exact .inl (h k e)
  · exact .inr e

/-- labels of what is there. -/
def cut (lab : Nat → Nat) (n : Nat) : Nat → Nat := fun k => if k < n then lab k else 0
theorem cut_lt {lab : Nat → Nat} {n k : Nat} (h : k < n) : cut lab n k = lab k := by simp [cut, h]
theorem cut_ne {lab : Nat → Nat} {n k : Nat} (h : cut lab n k ≠ 0) : lab k ≠ 0 ∧ k < n := by
  unfold cut at h
  split at h
  · exact ⟨h, by assumption⟩
  · exact absurd rfl h
theorem St.cut {A : OB} (h : St A) {lab : Nat → Nat} {i : Nat} {S : Nat → Prop} {w w' : World} (a : A (fun k => lab k = i) w) (f : Fr S w w') (hi : i ≠ 0) (hs : ∀ k, k < w.heap.size → lab k ≠ 0 → ¬ S k) : A (fun k => cut lab w.heap.size k = i) w' :=
  h a f fun k hk e => ⟨hs k hk (by omega), by show Den.cut _ _ _ = _; rw [cut_lt hk]; exact e⟩
/-- a block of cells. -/
def Bl (b : Nat) (T : TypeId) (cs : List Value) : OB := fun F w => F b ∧ Blk w b T cs
theorem Bl.st {b : Nat} {T : TypeId} {cs : List Value} : St (Bl b T cs) := fun ⟨h1, h2⟩ f hs => ⟨(hs b h2.lt h1).2, h2.fr f (hs b h2.lt h1).1⟩
theorem Own.st {E : TypeId} {t : Ty} {s : Sl} {l : List t.T} : St fun F w => Own F w E t s l := fun {F F' S w w'} h f hs => by
  rcases h.cases with ⟨rfl, rfl⟩ | ⟨g, c, cur, rfl, hg, h3, h4, h5, h6, h7⟩
  · exact Own.nil _ _ _ _
  · have hl := (Array.getElem?_eq_some_iff.1 h3).1
    exact Own.mk' (hs g hl hg).2 ((f.block g hl (hs g hl hg).1).trans h3) h4 h5 h6 h7
theorem SlT.st {t : Ty} {s : Sl} {l : List t.T} : St fun F w => SlT F w t s l := fun {F F' S w w'} h f hs => by
  refine ⟨h.len, h.cap, h.at_.imp id ?_⟩
  rintro ⟨b, o, h1, h2, h3, h4⟩
  exact ⟨b, o, h1, (hs b h3 h2).2, Nat.lt_of_lt_of_le h3 f.size, fun i x hx => (h4 i x hx).keep (f.block b h3 (hs b h3 h2).1)⟩
/-- a map. -/
def Mp {κ : Type} (P : Program) (k : TypeId) (ke : κ → Value) (b : Nat) (f : κ → Option Value) : OB := fun F w => F b ∧ MapB P k ke w b f
theorem Mp.st {κ : Type} {P : Program} {k : TypeId} {ke : κ → Value} {b : Nat} {f : κ → Option Value} : St (Mp P k ke b f) := fun ⟨h1, h2⟩ fr hs => ⟨(hs b h2.lt h1).2, h2.fr fr (hs b h2.lt h1).1⟩

theorem both2 {X : W R} (h : X Q w) : bothW X X Q w := ⟨h, h⟩

/-! ### frames -/
theorem Fr.ex {F : Nat → Prop} {a b c : World} (h : Fr F a b) (k : Fr (Ex F a) b c) : Fr F a c := h.trans k (fun _ h => h) fun x hx e => by
  rcases e with e | e
  · exact e
  · omega
theorem Fr.exS {F S : Nat → Prop} {a b c : World} (h : Fr F a b) (k : Fr S b c) (hs : ∀ x, S x → F x ∨ a.heap.size ≤ x) : Fr F a c := h.ex (k.mono fun x _ e => hs x e)
theorem Fr.sub {S T : Nat → Prop} {a b : World} (h : Fr S a b) (hs : ∀ x, S x → T x) : Fr T a b := h.mono fun x _ e => hs x e
theorem Fr.any {S : Nat → Prop} {a b : World} (h : Fr None a b) : Fr S a b := h.mono fun _ _ e => e.elim
theorem Fr.lab {lab : Nat → Nat} {j : Nat} {a b : World} (h : Fr (fun k => lab k = j) a b) (hj : j ≠ 0) : Fr (fun k => lab k ≠ 0) a b := h.mono fun k _ e => by omega

/-! ### make -/
theorem makeI {P : Program} {T E : TypeId} {t : Ty} {bytes : Nat} (H : SlTy P T E t bytes) {z : t.T} {zv : Value} (hz : (P.info? E).bind (·.zero) = some zv) (hzc : zv.cells.toList = t.cells z) {i : Int} {n : Nat} (hi : i = (n : Int)) (hb : n * bytes ≤ 140737488355328) (hm : n ≤ 9223372036854775807)
    {K : Sl → W R} (hk : ∀ w', Own (fun k => k = w.heap.size) w' E t ⟨some ⟨w.heap.size, 0, none⟩, n, n⟩ (List.replicate n z) → Fr None w w' → w'.heap.size = w.heap.size + 1 → K ⟨some ⟨w.heap.size, 0, none⟩, n, n⟩ Q w') :
    rawW P (Instr.makeSlice T (.int .i64 i) (.int .i64 i)) [.sc .sl] K Q w := by
  subst hi
  obtain ⟨i, z', h1, h2, h3, h4, h5⟩ := H.info
  rw [h1] at hz
  simp only [Option.bind_some, h2, Option.some.injEq] at hz
  subst hz
  have hbi : (i.bytes : Int) * (n : Int) ≤ 281474976710656 := by
    have : i.bytes * n ≤ 140737488355328 := by rw [h4, Nat.mul_comm]; exact hb
    have h : ((i.bytes * n : Nat) : Int) ≤ 140737488355328 := by omega
    rw [Int.natCast_mul] at h
    omega
  have hr := run_make (P := P) w T E i z' H.under h1 h2 .i64 .i64 n n (by omega) (Int.le_refl _) hbi (by omega)
  simp only [Int.toNat_natCast] at hr
  have hcells : (madeCells z'.cells (n * i.size)).toList = (List.replicate n z).flatMap t.cells := by
    apply List.ext_getElem?
    intro j
    have hpos := H.pos
    have hzs : z'.cells = ⟨t.cells z⟩ := by rw [← hzc]
    have hsz : (t.cells z).length = t.size := t.cells_len z
    by_cases hj : j < n * t.size
    · have hq : j / t.size < n := Nat.div_lt_of_lt_mul (by rw [Nat.mul_comm]; exact hj)
      have hml : j % t.size < (t.cells z).length := by rw [hsz]; exact Nat.mod_lt _ hpos
      have e1 := flat_at (l := List.replicate n z) (i := j / t.size) (x := z) (by simp [hq]) (j % t.size) _ (List.getElem?_eq_getElem hml)
      rw [Nat.mul_comm, Nat.div_add_mod] at e1
      rw [e1, hzs, h3]
      have hj' : j < (madeCells ⟨t.cells z⟩ (n * t.size)).size := by rw [size_madeCells]; exact hj
      rw [Array.getElem?_toList, Array.getElem?_eq_getElem hj']
      simp only [madeCells, Array.getElem_map, Array.getElem_range, List.size_toArray, hsz]
      congr 1
      rw [getElem!_pos (c := (⟨t.cells z⟩ : Array Value)) (i := j % t.size) (by simpa using hml)]
      simp
    · rw [List.getElem?_eq_none, List.getElem?_eq_none]
      · rw [flat_len]; simp; omega
      · rw [Array.length_toList, size_madeCells, h3]; omega
  refine ⟨⟨_, _, _⟩, _, hr, hk _ ?_ ((Fr.refl _ _).alloc _) (by simp)⟩
  have hl : (List.replicate n z).length = n := List.length_replicate
  have := Own.mk' (S := fun k => k = w.heap.size) (w := w.alloc (.cells (madeCells z'.cells (n * i.size)) E)) (E := E) (t := t) (l := List.replicate n z) (g := w.heap.size) (c := n) (cur := madeCells z'.cells (n * i.size)) rfl (heap_alloc_new w _) (by rw [hl]; exact Nat.le_refl _) (by rw [maxLen_eq]; exact hm) (by rw [size_madeCells, h3]) (by
    rw [hl, hcells, List.take_of_length_le]
    rw [flat_len, hl]; exact Nat.le_refl _)
  rw [hl] at this
  exact this

/-! ### append, to a slice that may take what is new -/
theorem appP {P : Program} {T E ty : TypeId} {t : Ty} {bytes : Nat} (H : SlTy P T E t bytes) {S : Nat → Prop} {o : Sl} {lo : List t.T} {x : t.T} {cs : List Value} (hc : cs = t.cells x) (ho : Own S w E t o lo) (hS : ∀ k, w.heap.size ≤ k → S k)
    (hb : (lo.length + 1) * bytes ≤ 140737488355328) (hm : lo.length + 1 ≤ 9223372036854775807) {K : Sl → W R}
    (hk : ∀ r w', Own S w' E t r (lo ++ [x]) → Fr (fun k => o.v.ownBlock = some k) w w' → K r Q w') : newW E cs (fun a => rawW P (Builtin.append_ #[T, T] ty #[.slice o.a o.n o.c, .slice (some a) 1 1]) [.sc .sl] K) Q w := by
  subst hc
  refine newI fun w2 B2 f2 s2 => ?_
  refine app1 (S' := S) H (ho.none f2) B2 rfl hb (by rw [maxLen_eq]; exact hm) (fun _ h => h) (hS _ (by omega)) fun r w3 o3 f3 s3 => ?_
  exact hk r w3 o3 (f2.any.then f3)

/-! ### ranges -/
/-- 'for i, x := range s'. -/
theorem rangeI {ok : Nat → Prop} {t : Ty} {sl : Sl} {l : List t.T} {σ : Type} {s0 : σ} {sz : Nat} {body : (σ → W R) → σ → t.T → W R} {done : σ → W R} (idx : σ → Int) (P : Nat → σ → World → Prop)
    (hsz : sz = t.size) (h0 : P 0 s0 w) (hi : ∀ j s w', P j s w' → idx s = j) (hS : ∀ j s w', P j s w' → SlT ok w' t sl l)
    (hs : ∀ j x s w' K, l[j]? = some x → P j s w' → idx s = j → (∀ s' w'', P (j + 1) s' w'' → K s' Q w'') → body K s x Q w') (hd : ∀ s w', P l.length s w' → done s Q w') :
    loopW (fun K s => cond (decide (idx s < (sl.n : Int))) (idxW sl.a sl.n sz (idx s) fun a => ld t a fun x => body K s x) (done s)) s0 Q w := by
  have hn : sl.n = l.length := (hS 0 s0 w h0).len
  rw [hn]
  refine forI (N := l.length) idx P h0 hi ?_ hd
  intro j s w' K hj hp e hK
  rw [← hn]
  refine (hS j s w' hp).get hsz e hj fun x hx => ?_
  exact hs j x s w' K hx hp e hK
/-- .. with a copy of x. -/
theorem rangeC {ok : Nat → Prop} {t : Ty} {sl : Sl} {l : List t.T} {σ : Type} {s0 : σ} {sz : Nat} {T : TypeId} {zs : List Value} {body : (σ → W R) → σ → t.T → Addr → W R} {done : σ → W R} (idx : σ → Int) (P : Nat → σ → World → Prop)
    (hsz : sz = t.size) (hz : zs.length = t.size) (hf : t.fine = true) (h0 : P 0 s0 w) (hi : ∀ j s w', P j s w' → idx s = j) (hS : ∀ j s w', P j s w' → SlT ok w' t sl l)
    (hs : ∀ j x s w' w2 K, l[j]? = some x → P j s w' → idx s = j → Blk w2 w'.heap.size T (t.cells x) → Fr None w' w2 → w2.heap.size = w'.heap.size + 1 → (∀ s' w'', P (j + 1) s' w'' → K s' Q w'') → body K s x ⟨w'.heap.size, 0, none⟩ Q w2)
    (hd : ∀ s w', P l.length s w' → done s Q w') :
    loopW (fun K s => cond (decide (idx s < (sl.n : Int))) (idxW sl.a sl.n sz (idx s) fun a => ld t a fun x => newW T zs fun e => stoL e (t.cells x) 0 (body K s x e)) (done s)) s0 Q w := by
  refine rangeI idx P hsz h0 hi hS ?_ hd
  intro j x s w' K hx hp e hK
  refine newI fun w1 B1 f1 s1 => stoBlk (T := T) (t.cells x) 0 B1 (by rw [t.cells_len, hz]; omega) (t.one x hf) fun w2 B2 f2 s2 => ?_
  rw [Nat.add_zero, putAt_all (by rw [t.cells_len, hz])] at B2
  exact hs j x s w' w2 K hx hp e B2 (f1.newer f2 fun k e => by omega) (by omega) hK

end Go.Proofs.YtchhhjlpnecjkaaGreat.Den
