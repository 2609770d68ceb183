/-
  Rules for the shallow forms: joins, loops, blocks of memory, frames, slices.
-/
import Derived.Test.YtchhhjlpnecjkaaGreatDenS
import Derived.Laws.OwnMore
import Derived.Laws.AppendOwn
namespace Go.Proofs.YtchhhjlpnecjkaaGreat.Den
open Go Go.RowKit
variable {R : Type} {Q : R → World → Prop} {w : World}

/-! ### rules -/
theorem joinK {σ : Type} {A : (σ → W R) → W R} {K : σ → W R} (h : A (fun s _ w' => K s Q w') Q w) : joinW A K Q w := ⟨fun s w' => K s Q w', fun _ _ h => h, h⟩
theorem joinI {σ : Type} {A : (σ → W R) → W R} {K : σ → W R} (J : σ → World → Prop) (h : A (fun s _ w' => J s w') Q w) (hk : ∀ s w', J s w' → K s Q w') : joinW A K Q w := ⟨J, hk, h⟩
theorem condI {b : Bool} {X Y : W R} (h1 : b = true → X Q w) (h2 : b = false → Y Q w) : (cond b X Y : W R) Q w := by
  cases b
  · exact h2 rfl
  · exact h1 rfl
theorem condD {p : Prop} [Decidable p] {X Y : W R} (h1 : p → X Q w) (h2 : ¬p → Y Q w) : (cond (decide p) X Y : W R) Q w := by
  by_cases h : p
  · simp only [h, decide_true, cond_true]; exact h1 h
  · simp only [h, decide_false, cond_false]; exact h2 h
theorem condT {b : Bool} {X Y : W R} (h : b = true) (hx : X Q w) : (cond b X Y : W R) Q w := by subst h; exact hx
theorem condF {b : Bool} {X Y : W R} (h : b = false) (hx : Y Q w) : (cond b X Y : W R) Q w := by subst h; exact hx
theorem condE {a b : Int} {X Y : W R} (h1 : a = b → X Q w) (h2 : a ≠ b → Y Q w) : (cond (a == b) X Y : W R) Q w :=
  condI (fun h => h1 (by simpa using h)) (fun h => h2 (by simpa using h))
theorem condN {a b : Int} {X Y : W R} (h1 : a ≠ b → X Q w) (h2 : a = b → Y Q w) : (cond (a != b) X Y : W R) Q w :=
  condI (fun h => h1 (by simpa using h)) (fun h => h2 (by simpa using h))
theorem loopI {σ : Type} {body : (σ → W R) → σ → W R} {s0 : σ} (I : σ → World → Prop) (μ : σ → World → Nat) (h0 : I s0 w) (hs : ∀ s w', I s w' → body (fun s' _ w'' => I s' w'' ∧ μ s' w'' < μ s w') s Q w') : loopW body s0 Q w := ⟨I, μ, h0, hs⟩
theorem ldI {t : Ty} {a : Addr} {K : t.T → W R} (x : t.T) (h : Rd w a t x) (hk : K x Q w) : ld t a K Q w := ⟨x, h, hk⟩
theorem callI {P : Program} {f : Nat} {args : List Value} {ts : List Ty} {K : Res ts → W R} {S : Res ts → World → Prop} (h : callW P f args ts (fun r _ w' => S r w') (fun (_ : Unit) _ => True) w) (hk : ∀ r w', S r w' → K r Q w') : callW P f args ts K Q w :=
  Calls.mono h (fun _ w' ⟨r, he, hs⟩ => ⟨r, he, hk r w' hs⟩)

/-! ### frames -/
/-- of what there was only the blocks of S may have changed. -/
structure Fr (S : Nat → Prop) (w w' : World) : Prop where
  os : w'.os = w.os
  tape : w'.tape = w.tape
  output : w'.output = w.output
  size : w.heap.size ≤ w'.heap.size
  block : ∀ k, k < w.heap.size → ¬ S k → w'.heap[k]? = w.heap[k]?
abbrev None : Nat → Prop := fun _ => False
theorem Fr.refl (S : Nat → Prop) (w : World) : Fr S w w := ⟨rfl, rfl, rfl, Nat.le_refl _, fun _ _ _ => rfl⟩
theorem Fr.trans {S T U : Nat → Prop} {a b c : World} (h : Fr S a b) (k : Fr T b c) (hs : ∀ x, S x → U x) (ht : ∀ x, x < a.heap.size → T x → U x) : Fr U a c :=
  ⟨k.os.trans h.os, k.tape.trans h.tape, k.output.trans h.output, Nat.le_trans h.size k.size,
    fun i hi hu => (k.block i (Nat.lt_of_lt_of_le hi h.size) (fun x => hu (ht i hi x))).trans (h.block i hi (fun x => hu (hs i x)))⟩
theorem Fr.mono {S T : Nat → Prop} {a b : World} (h : Fr S a b) (hs : ∀ x, x < a.heap.size → S x → T x) : Fr T a b := ⟨h.os, h.tape, h.output, h.size, fun k hk hn => h.block k hk (fun x => hn (hs k hk x))⟩
theorem Fr.then0 {S : Nat → Prop} {a b c : World} (h : Fr S a b) (k : Fr None b c) : Fr S a c := h.trans k (fun _ h => h) (fun _ _ h => h.elim)
theorem Fr.then {S : Nat → Prop} {a b c : World} (h : Fr S a b) (k : Fr S b c) : Fr S a c := h.trans k (fun _ h => h) (fun _ _ h => h)
/-- .. blocks that are new. -/
theorem Fr.thenNew {S T : Nat → Prop} {a b c : World} (h : Fr S a b) (k : Fr T b c) (ht : ∀ x, T x → a.heap.size ≤ x) : Fr S a c := h.trans k (fun _ h => h) (fun x hx h => absurd (ht x h) (by omega))
theorem Fr.alloc {S : Nat → Prop} {a b : World} (h : Fr S a b) (o : Obj) : Fr S a (b.alloc o) :=
  h.then0 ⟨rfl, rfl, rfl, by simp, fun k hk _ => heap_alloc_old b o hk⟩
theorem Fr.drew {S : Nat → Prop} {a b : World} (h : Fr S a b) : Fr S a b.drew := ⟨h.os, h.tape, h.output, h.size, h.block⟩
theorem Fr.setCell {S : Nat → Prop} {a b : World} (h : Fr S a b) {p : Addr} (hp : S p.block ∨ a.heap.size ≤ p.block) (v : Value) : Fr S a (b.setCell p v) :=
  h.trans (T := fun k => k = p.block) ⟨rfl, rfl, rfl, by simp, fun k _ hn => heap_setCell_other b p k v (fun e => hn e)⟩ (fun _ h => h) (fun x hx e => by
    subst e
    rcases hp with hp | hp
    · exact hp
    · omega)
theorem Fr.grown {S : Nat → Prop} {a b c : World} {row : Option Nat} (h : Fr S a b) (k : b.grownBy c row) (hr : ∀ x, row = some x → S x ∨ a.heap.size ≤ x) : Fr S a c :=
  h.trans (T := fun x => row = some x) ⟨k.os, k.tape, k.output, k.size, fun i hi hn => k.block i hi (fun e => hn e.symm)⟩ (fun _ h => h) (fun x hx e => by
    rcases hr x e with h | h
    · exact h
    · omega)
theorem Fr.below {a b : World} (h : Fr None a b) : Below a.heap.size a b := ⟨h.os, h.tape, h.output, h.size, fun k hk => h.block k hk (fun x => x)⟩

/-! ### blocks -/
def Blk (w : World) (b : Nat) (T : TypeId) (cs : List Value) : Prop := w.heap[b]? = some (.cells ⟨cs⟩ T (0, 0))
theorem Blk.lt {b : Nat} {T : TypeId} {cs : List Value} (h : Blk w b T cs) : b < w.heap.size := (Array.getElem?_eq_some_iff.1 h).1
theorem Blk.cell {b : Nat} {T : TypeId} {cs : List Value} (h : Blk w b T cs) (o : Nat) : w.cell? ⟨b, o, none⟩ = cs[o]? := by
  unfold Blk at h
  simp [World.cell?, h]
theorem Blk.frozen {b : Nat} {T : TypeId} {cs : List Value} (h : Blk w b T cs) (o : Nat) : w.frozen? ⟨b, o, none⟩ = false := by
  unfold Blk at h
  simp [World.frozen?, h]
theorem Blk.fr {S : Nat → Prop} {w' : World} {b : Nat} {T : TypeId} {cs : List Value} (h : Blk w b T cs) (f : Fr S w w') (hn : ¬ S b) : Blk w' b T cs := (f.block b h.lt hn).trans h
theorem Blk.new (w : World) (T : TypeId) (cs : List Value) : Blk (w.alloc (.cells ⟨cs⟩ T)) w.heap.size T cs := heap_alloc_new w _
theorem Blk.alloc {b : Nat} {T : TypeId} {cs : List Value} (h : Blk w b T cs) (o : Obj) : Blk (w.alloc o) b T cs := (heap_alloc_old w o h.lt).trans h
theorem Blk.drew {b : Nat} {T : TypeId} {cs : List Value} (h : Blk w b T cs) : Blk w.drew b T cs := h
theorem Blk.set {b : Nat} {T : TypeId} {cs : List Value} (h : Blk w b T cs) (o : Nat) (v : Value) : Blk (w.setCell ⟨b, o, none⟩ v) b T (cs.set o v) := by
  have := heap_setCell_same w b o ⟨cs⟩ T v h
  simpa [Blk] using this
theorem Blk.set_other {b : Nat} {T : TypeId} {cs : List Value} (h : Blk w b T cs) {p : Addr} (hn : b ≠ p.block) (v : Value) : Blk (w.setCell p v) b T cs := (heap_setCell_other w p b v hn).trans h

theorem add_lit (b o n : Nat) : Addr.add ⟨b, o, none⟩ n = ⟨b, o + n, none⟩ := by
  unfold Addr.add
  split
  · rename_i h; subst h; rfl
  · rfl

/-- a piece of a block. -/
theorem Blk.cells {b : Nat} {T : TypeId} {cs : List Value} (h : Blk w b T cs) (o : Nat) (vs : List Value) (hv : ∀ j u, vs[j]? = some u → cs[o + j]? = some u) : CellsAt w ⟨b, o, none⟩ vs := by
  intro j u hj
  rw [add_lit, h.cell]
  exact hv j u hj

def putAt (cs : List Value) (o : Nat) : List Value → List Value
  | [] => cs
  | v :: vs => putAt (cs.set o v) (o + 1) vs
theorem putAt_length : ∀ (vs cs : List Value) (o : Nat), (putAt cs o vs).length = cs.length
  | [], _, _ => rfl
  | v :: vs, cs, o => by simp [putAt, putAt_length vs]

theorem stoBlk {b : Nat} {T : TypeId} {K : W R} : ∀ (vs : List Value) (i : Nat) {cs : List Value} {o : Nat} {w : World}, Blk w b T cs → o + i + vs.length ≤ cs.length → (∀ v ∈ vs, v.oneCell' = true) →
    (∀ w', Blk w' b T (putAt cs (o + i) vs) → Fr (fun k => k = b) w w' → w'.heap.size = w.heap.size → K Q w') → stoL ⟨b, o, none⟩ vs i K Q w
  | [], i, cs, o, w, h, _, _, hk => hk w h (Fr.refl _ _) rfl
  | v :: vs, i, cs, o, w, h, hl, hv, hk => by
    simp only [List.length_cons] at hl
    refine ⟨hv v List.mem_cons_self, ⟨cs[o + i], ?_⟩, ?_, ?_⟩
    · rw [add_lit, h.cell]; simp
    · rw [add_lit, h.frozen]
    · rw [add_lit]
      refine stoBlk vs (i + 1) (h.set (o + i) v) (by simp; omega) (fun v hv' => hv v (List.mem_cons_of_mem _ hv')) ?_
      intro w' h1 h2 h3
      refine hk w' ?_ ?_ ?_
      · rw [show o + (i + 1) = o + i + 1 by omega] at h1; exact h1
      · exact (Fr.setCell (S := fun k => k = b) (Fr.refl _ _) (p := ⟨b, o + i, none⟩) (.inl rfl) v).then h2
      · rw [h3]; simp

/-! ### slices -/
def Sl.v (s : Sl) : Value := .slice s.a s.n s.c
def Ty.size : Ty → Nat
  | .sc _ => 1
  | .agg l => l.length
theorem Tup_len {l : List Sc} : ∀ (x : Tup Sc.T l), (Tup.e Sc.e l x).length = l.length := by
  induction l with
  | nil => intro x; rfl
  | cons t r ih =>
    intro x
    cases r with
    | nil => rfl
    | cons u r => simp only [Tup.e, List.length_cons]; rw [ih x.2]; rfl
def Ty.cells : (t : Ty) → t.T → List Value
  | .sc s, x => [s.e x]
  | .agg l, x => Tup.e Sc.e l x
theorem Ty.cells_len : ∀ (t : Ty) (x : t.T), (t.cells x).length = t.size
  | .sc _, _ => rfl
  | .agg _, x => Tup_len x

/-- a slice that reads as a list; all that it reads lies in blocks of ok. -/
structure SlT (ok : Nat → Prop) (w : World) (t : Ty) (s : Sl) (l : List t.T) : Prop where
  len : s.n = l.length
  cap : s.n ≤ s.c
  at_ : l = [] ∨ ∃ b o, s.a = some ⟨b, o, none⟩ ∧ ok b ∧ b < w.heap.size ∧ ∀ i x, l[i]? = some x → Rd w ⟨b, o + i * t.size, none⟩ t x

theorem Rd.keep {w' : World} {b o : Nat} (hb : w'.heap[b]? = w.heap[b]?) : ∀ {t : Ty} {x : t.T}, Rd w ⟨b, o, none⟩ t x → Rd w' ⟨b, o, none⟩ t x
  | .sc _, _, h => (World.cell?_of_block (w := w) (a := ⟨b, o, none⟩) hb).trans h
  | .agg _, _, h => fun j u hj => by
    have := h j u hj
    rw [add_lit] at this ⊢
    exact (World.cell?_of_block (w := w) (a := ⟨b, o + j, none⟩) hb).trans this

theorem SlT.fr {ok S : Nat → Prop} {w' : World} {t : Ty} {s : Sl} {l : List t.T} (h : SlT ok w t s l) (f : Fr S w w') (hn : ∀ k, ok k → ¬ S k) : SlT ok w' t s l := by
  refine ⟨h.len, h.cap, h.at_.imp id ?_⟩
  rintro ⟨b, o, h1, h2, h3, h4⟩
  exact ⟨b, o, h1, h2, Nat.lt_of_lt_of_le h3 f.size, fun i x hx => (h4 i x hx).keep (f.block b h3 (hn b h2))⟩
theorem SlT.fr0 {ok : Nat → Prop} {w' : World} {t : Ty} {s : Sl} {l : List t.T} (h : SlT ok w t s l) (f : Fr None w w') : SlT ok w' t s l := h.fr f (fun _ _ h => h)
theorem SlT.mono {ok ok' : Nat → Prop} {t : Ty} {s : Sl} {l : List t.T} (h : SlT ok w t s l) (hk : ∀ k, k < w.heap.size → ok k → ok' k) : SlT ok' w t s l := by
  refine ⟨h.len, h.cap, h.at_.imp id ?_⟩
  rintro ⟨b, o, h1, h2, h3, h4⟩
  exact ⟨b, o, h1, hk b h3 h2, h3, h4⟩
theorem SlT.nil {ok : Nat → Prop} (t : Ty) {a : Option Addr} {c : Nat} : SlT ok w t ⟨a, 0, c⟩ [] := ⟨rfl, Nat.zero_le _, .inl rfl⟩

/-- x[i]: its place, and what is read there. -/
theorem SlT.idx {ok : Nat → Prop} {t : Ty} {s : Sl} {l : List t.T} (h : SlT ok w t s l) {sz : Nat} (hsz : sz = t.size) {i : Int} (h0 : 0 ≤ i) (h1 : i < l.length) {K : Addr → W R}
    (hk : ∀ a x, l[i.toNat]? = some x → Rd w a t x → K a Q w) : idxW s.a s.n sz i K Q w := by
  subst hsz
  have hi : i.toNat < l.length := by omega
  rcases h.at_ with rfl | ⟨b, o, ha, _, _, hr⟩
  · simp at hi
  · refine ⟨⟨b, o, none⟩, ha, h0, by rw [h.len]; exact h1, ?_⟩
    rw [add_lit]
    exact hk _ _ (List.getElem?_eq_getElem hi) (hr _ _ (List.getElem?_eq_getElem hi))

end Go.Proofs.YtchhhjlpnecjkaaGreat.Den
