/-
  The program's store and the document's, side by side.
-/
import Derived.Test.YtkblnhnjagemlaaGreatSysR
import Derived.Test.YtkblnhnjagemlaaGreatArg
namespace Go.Proofs.YtkblnhnjagemlaaGreat
open Go Go.RowKit Go.Proofs.YtkblnhnjagemlaaGreat.Den
variable {R : Type} {Q : R → World → Prop} {w : World}

theorem StOk.ent_live3 {x : StM} (h : StOk x) {id : Int} (hl : x.s.live id = true) : (x.ent id).1.1 = id ∧ (x.ent id).2 = 0 ∧ (x.ent id).1.2.length ≤ 6 ∧ listE (x.ent id).1.2 = 0 := by
  have := h.at_live id
  rw [hl] at this
  obtain ⟨⟨m, i, e⟩, ha⟩ := Option.isSome_iff_exists.1 this
  obtain ⟨_, _, _, _, h3, hv, _⟩ := h.at_some ha
  rw [StM.ent_some ha]
  exact ⟨h3, rfl, hv.small, hv.list⟩

/-- a store of the program and one of the document, apart, both made since there were n0 blocks. -/
def PairAt (n0 b b2 : Nat) (x x2 : StM) (w : World) : Prop :=
  ∃ G H C : Nat → Prop, Store b x G w ∧ R11 C b2 x2 H w ∧ (∀ k, G k → n0 ≤ k ∧ k < w.heap.size) ∧ (∀ k, H k → n0 ≤ k ∧ k < w.heap.size) ∧ ∀ k, G k → ¬ H k
section
variable {n0 b b2 : Nat} {x x2 : StM}
theorem PairAt.fr0 (h : PairAt n0 b b2 x x2 w) {w' : World} (f : Fr None w w') : PairAt n0 b b2 x x2 w' := by
  obtain ⟨G, H, C, h1, h2, h3, h4, h5⟩ := h
  have := f.size
  exact ⟨G, H, C, Store.st.fr0 h1 f, R11.st.fr0 h2 f, fun k e => ⟨(h3 k e).1, by have := (h3 k e).2; omega⟩, fun k e => ⟨(h4 k e).1, by have := (h4 k e).2; omega⟩, h5⟩
theorem PairAt.ok (h : PairAt n0 b b2 x x2 w) : StOk x ∧ StOk x2 := by
  obtain ⟨G, H, C, h1, h2, _⟩ := h
  exact ⟨(Store.open_ h1).1, h2.1⟩
/-- the program's store becomes another one. -/
theorem PairAt.prog {G H C : Nat → Prop} {w' : World} {y : StM} {G' : Nat → Prop} (h2 : R11 C b2 x2 H w) (h3 : ∀ k, G k → n0 ≤ k ∧ k < w.heap.size) (h4 : ∀ k, H k → n0 ≤ k ∧ k < w.heap.size) (h5 : ∀ k, G k → ¬ H k) (hn : n0 ≤ w.heap.size)
    (hA : Store b y G' w') (hG : ∀ k, G' k → G k ∨ w.heap.size ≤ k) (f : Fr G w w') : PairAt n0 b b2 y x2 w' := by
  have := f.size
  refine ⟨fun k => G' k ∧ k < w'.heap.size, H, C, Store.st.mono hA fun k hk e => ⟨e, hk⟩, R11.st.fr h2 f fun k e e2 => h5 k e2 e, fun k e => ⟨?_, e.2⟩, fun k e => ⟨(h4 k e).1, by have := (h4 k e).2; omega⟩, fun k e e2 => ?_⟩
  · rcases hG k e.1 with e1 | e1
    · exact (h3 k e1).1
    · omega
  · rcases hG k e.1 with e1 | e1
    · exact h5 k e1 e2
    · have := (h4 k e2).2; omega
/-- .. the document's. -/
theorem PairAt.doc {G H : Nat → Prop} {w' : World} {y : StM} {H' C' S : Nat → Prop} (h1 : Store b x G w) (h3 : ∀ k, G k → n0 ≤ k ∧ k < w.heap.size) (h4 : ∀ k, H k → n0 ≤ k ∧ k < w.heap.size) (h5 : ∀ k, G k → ¬ H k) (hn : n0 ≤ w.heap.size)
    (hA : R11 C' b2 y H' w') (hH : ∀ k, H' k → H k ∨ w.heap.size ≤ k) (f : Fr S w w') (hS : ∀ k, S k → H k) : PairAt n0 b b2 x y w' := by
  have := f.size
  refine ⟨G, fun k => H' k ∧ k < w'.heap.size, C', Store.st.fr h1 f fun k e e2 => h5 k e (hS k e2), R11.st.mono hA fun k hk e => ⟨e, hk⟩, fun k e => ⟨(h3 k e).1, by have := (h3 k e).2; omega⟩, fun k e => ⟨?_, e.2⟩, fun k e e2 => ?_⟩
  · rcases hH k e.1 with e1 | e1
    · exact (h4 k e1).1
    · omega
  · rcases hH k e2.1 with e1 | e1
    · exact h5 k e e1
    · have := (h3 k e).2; omega
/-- both do the same: what they tell is one. -/
theorem PairAt.both (h : PairAt n0 b b2 x x w) (hn : n0 ≤ w.heap.size) {fP fR : Nat} {p : SysP}
    (hP : ∀ {F : Nat → Prop} {w : World} {K : Res [.sc .sl] → W R}, Store b x F w → (∀ r w', SysEnd (Store b) F F w p r w' → K r Q w') → callW Tryz.prog fP [.pointer (some ⟨b, 0, none⟩)] [.sc .sl] K Q w)
    (hR : ∀ {C F : Nat → Prop} {w : World} {K : Res [.sc .sl] → W R}, R11 C b2 x F w → (∀ r w', SysEnd (A11 C w.heap.size b2) F (fun k => F k ∧ ¬ C k) w p r w' → K r Q w') → callW Tryz.prog fR [.pointer (some ⟨b2, 0, none⟩)] [.sc .sl] K Q w)
    {K : Sl → Sl → W R} (hk : ∀ r r2 w', PairAt n0 b b2 p.1 p.1 w' → SlT (fun _ => True) w' idT r p.2 → SlT (fun _ => True) w' idT r2 p.2 → Fr (fun k => n0 ≤ k) w w' → K r r2 Q w') :
    callW Tryz.prog fP [.pointer (some ⟨b, 0, none⟩)] [.sc .sl] (fun r => callW Tryz.prog fR [.pointer (some ⟨b2, 0, none⟩)] [.sc .sl] (K r)) Q w := by
  obtain ⟨G, H, C, h1, h2, h3, h4, h5⟩ := h
  refine hP h1 fun r w1 hE => ?_
  obtain ⟨G', hA, hG, hlt, ho, hf⟩ := hE
  have hs1 := hf.size
  have h2' := R11.st.fr h2 hf fun k e e2 => h5 k e2 e
  have hGb : ∀ k, G' k → n0 ≤ k ∧ k < w1.heap.size := fun k e => ⟨by
    rcases hG k e with e1 | e1
    · exact (h3 k e1).1
    · omega, hlt k e⟩
  have hGH : ∀ k, G' k → ¬ H k := fun k e e2 => by
    rcases hG k e with e1 | e1
    · exact h5 k e1 e2
    · have := (h4 k e2).2; omega
  refine hR h2' fun r2 w2 hE => ?_
  obtain ⟨H', ⟨C', hag, hA2⟩, hH, hlt2, ho2, hf2⟩ := hE
  refine hk r r2 w2 (PairAt.doc hA hGb (fun k e => ⟨(h4 k e).1, by have := (h4 k e).2; omega⟩) hGH (by omega) hA2 hH hf2 fun k e => e.1) ((ho.sl.fr hf2 fun k e e2 => by have := (h4 k e2.1).2; omega).mono fun _ _ _ => trivial) (ho2.sl.mono fun _ _ _ => trivial) ((hf.sub fun k e => (h3 k e).1).then (hf2.sub fun k e => (h4 k e.1).1))
end

/-! ### what fills them -/
def fillM (k : Nat) (L : List (List Comp)) : StM := L.foldl (fun y l => (y.spawn l).2.2) (StM.new k 1)
theorem fillM_snoc (k : Nat) (L : List (List Comp)) (l : List Comp) : fillM k (L ++ [l]) = ((fillM k L).spawn l).2.2 := by simp [fillM]
theorem fillM_ok {k : Nat} (h1 : 1 ≤ k) (h2 : k ≤ 1024) : ∀ (L : List (List Comp)), StOk (fillM k L) := by
  intro L
  unfold fillM
  have : ∀ (L : List (List Comp)) (y : StM), StOk y → StOk (L.foldl (fun y l => (y.spawn l).2.2) y) := by
    intro L
    induction L with
    | nil => intro y h; exact h
    | cons a r ih => intro y h; exact ih _ (h.spawn a)
  exact this L _ (stok_new h1 h2 (by decide))

end Go.Proofs.YtkblnhnjagemlaaGreat
