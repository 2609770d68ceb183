/-
  Arguments that are lists of things with lists of their own (what they share).
-/
import Derived.Test.YtcahnbflfehonaaDeep
import Derived.Test.YtcahnbflfehonaaComp
import Derived.Test.YtcahnbflfehonaaOpen
namespace Go.Proofs.Ytcahnbflfehonaa
open Go Go.RowKit Go.ChangeShapes Go.WideShapes Go.ChangeAt Go.Proofs.Ytcahnbflfehonaa.Den
variable {R : Type} {Q : R → World → Prop} {w : World} {H : Type} {enc : TypeId × Value → H}

theorem Den.deep_of {α β : Type} {p : α → β → Prop} {l : List α} (h : ∀ a ∈ l, ∃ b, p a b) : ∃ k, All2 p l k := by
  induction l with
  | nil => exact ⟨[], All2.nil _⟩
  | cons a r ih =>
    obtain ⟨b, hb⟩ := h a List.mem_cons_self
    obtain ⟨k, hk⟩ := ih fun x hx => h x (List.mem_cons_of_mem _ hx)
    refine ⟨b :: k, by simp [hk.len], fun i x y h1 h2 => ?_⟩
    rcases i with _ | i
    · simp at h1 h2; subst h1; subst h2; exact hb
    · simp at h1 h2; exact hk.at_ i x y h1 h2
abbrev Old (W : World) : Nat → Prop := fun k => k < W.heap.size
/-- a list of components in a cell. -/
theorem comps_leaf {s : Sl} (h : LeafOk enc Try.prog w 41 (.slice s.a s.n s.c)) : ∃ l, SlT (Old w) w compT s l ∧ (∀ c ∈ l, CompOk c) ∧ s.c ≤ maxLen := by
  obtain ⟨s', l, e, h2, h3, h4⟩ := h.slice comps_arg
  have e' : s = s' := by
    have e : Value.slice s.a s.n s.c = Value.slice s'.a s'.n s'.c := e
    simp only [Value.slice.injEq] at e
    obtain ⟨e1, e2, e3⟩ := e
    cases s; cases s'; simp_all
  subst e'
  exact ⟨l, h2, fun c hc => comp_ok (h4 c hc), h3⟩

end Go.Proofs.Ytcahnbflfehonaa
