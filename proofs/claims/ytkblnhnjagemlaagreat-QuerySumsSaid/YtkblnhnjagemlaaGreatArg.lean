/-
  Arguments that are lists of things with lists of their own.
-/
import Derived.Test.YtkblnhnjagemlaaGreatOrd
namespace Go.Proofs.YtkblnhnjagemlaaGreat
open Go Go.RowKit Go.ChangeShapes Go.WideShapes Go.ChangeAt Go.Proofs.YtkblnhnjagemlaaGreat.Den
variable {R : Type} {Q : R → World → Prop} {w : World} {H : Type} {enc : TypeId × Value → H}

theorem Den.deep_of {α β : Type} {p : α → β → Prop} {l : List α} (h : ∀ a ∈ l, ∃ b, p a b) : ∃ k, All2 p l k := by
  induction l with
  | nil => exact ⟨[], All2.nil _⟩
  | cons a r ih =>
    obtain ⟨b, hb⟩ := h a List.mem_cons_self
    obtain ⟨k, hk⟩ := ih fun x hx => h x (List.mem_cons_of_mem _ hx)
    refine ⟨b :: k, by simp [hk.len], fun i x y h1 h2 => ?_⟩
    rcases i with _ | i
    · simp at h1 h2; subst h1; subst h2; exact hb
    · simp at h1 h2; exact hk.at_ i x y h1 h2
abbrev Old (W : World) : Nat → Prop := fun k => k < W.heap.size
/-- a list of components in a cell. -/
theorem comps_leaf {s : Sl} (h : LeafOk enc Tryz.prog w 32 (.slice s.a s.n s.c)) : ∃ l, SlT (Old w) w compT s l ∧ (∀ c ∈ l, CompOk c) ∧ s.c ≤ maxLen := by
  obtain ⟨s', l, e, h2, h3, h4⟩ := h.slice comps_arg
  have e' : s = s' := by
    have e : Value.slice s.a s.n s.c = Value.slice s'.a s'.n s'.c := e
    simp only [Value.slice.injEq] at e
    obtain ⟨e1, e2, e3⟩ := e
    cases s; cases s'; simp_all
  subst e'
  exact ⟨l, h2, fun c hc => comp_ok (h4 c hc), h3⟩

/-! ### orders -/
theorem order_arg : AggArg Tryz.prog 81 [.int .u8, .int .u32, .int .u8, .sl] [5, 31, 5, 32] := ⟨by kernel_rfl, by kernel_rfl, by kernel_rfl⟩
theorem orders_arg : SlArg Tryz.prog 76 81 ordT [5, 31, 5, 32] :=
  ⟨by kernel_rfl, by kernel_rfl, by decide, by kernel_rfl, ⟨[.int .u8, .int .u32, .int .u8, .sl], by kernel_rfl, .inl rfl⟩⟩
/-- an order that came in. -/
def OrdIn (W : World) (r : OrdRaw) (o : Ordr) : Prop := ordR (Old W) W r o ∧ OrdOk o ∧ r.2.2.2.c ≤ maxLen
theorem order_in {r : OrdRaw} (h : AllLeaf enc Tryz.prog w [5, 31, 5, 32] (ordT.cells r)) : ∃ o, OrdIn w r o := by
  obtain ⟨_, h⟩ := h
  obtain ⟨_, e, h0⟩ := (h 0 _ _ rfl rfl).int u8_und
  cases e
  obtain ⟨_, e, h1⟩ := (h 1 _ _ rfl rfl).int id_und
  cases e
  obtain ⟨_, e, h2⟩ := (h 2 _ _ rfl rfl).int u8_und
  cases e
  obtain ⟨l, h3, h4, h5⟩ := comps_leaf (s := r.2.2.2) (h 3 _ _ rfl rfl)
  exact ⟨(r.1, r.2.1, r.2.2.1, l), ⟨rfl, rfl, rfl, h3⟩, ⟨wf_u8 h0, wf_u32 h1, wf_u8 h2, h4⟩, h5⟩
theorem orders_in {raws : List OrdRaw} (h : ∀ r ∈ raws, AllLeaf enc Tryz.prog w [5, 31, 5, 32] (ordT.cells r)) : ∃ L, All2 (OrdIn w) raws L := deep_of fun r hr => order_in (h r hr)

end Go.Proofs.YtkblnhnjagemlaaGreat
