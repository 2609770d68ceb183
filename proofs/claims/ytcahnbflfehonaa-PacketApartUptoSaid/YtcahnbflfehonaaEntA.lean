/-
  Arguments that are lists of entities.
-/
import Derived.Test.YtcahnbflfehonaaArg0
import Derived.Test.YtcahnbflfehonaaRef10
namespace Go.Proofs.Ytcahnbflfehonaa
open Go Go.RowKit Go.ChangeShapes Go.WideShapes Go.ChangeAt Go.Proofs.Ytcahnbflfehonaa.Den
variable {R : Type} {Q : R → World → Prop} {w : World} {H : Type} {enc : TypeId × Value → H}

theorem u32_und : Try.prog.underlying 23 = some (.int .u32) := by kernel_rfl
theorem ents_arg : SlArg Try.prog 22 43 entT [40, 41] :=
  ⟨by kernel_rfl, by kernel_rfl, by decide, by kernel_rfl, ⟨[.int .u32, .sl], by kernel_rfl, .inl rfl⟩⟩
/-- an entity that came in. -/
structure EntIn (W : World) (r : Int × Sl) (e : Ent) : Prop where
  id : r.1 = e.1
  sl : SlT (Old W) W compT r.2 e.2
  ok : IdOk e.1
  comps : ∀ c ∈ e.2, CompOk c
  cap : r.2.c ≤ maxLen
theorem ents_in {raws : List (Int × Sl)} (h : ∀ r ∈ raws, AllLeaf enc Try.prog w [40, 41] (entT.cells r)) : ∃ L, All2 (EntIn w) raws L := deep_of fun r hr => by
  obtain ⟨_, h⟩ := h r hr
  obtain ⟨_, e, h0⟩ := (h 0 _ _ rfl rfl).int id_und
  cases e
  obtain ⟨l, h1, h2, h3⟩ := comps_leaf (s := r.2) (h 1 _ _ rfl rfl)
  exact ⟨(r.1, l), rfl, h1, wf_u32 h0, h2, h3⟩
theorem EntIn.ents {raws : List (Int × Sl)} {L : List Ent} (h : All2 (EntIn w) raws L) : EntsR (Old w) w raws L := ⟨h.len, fun i r e h1 h2 => ⟨(h.at_ i r e h1 h2).id, (h.at_ i r e h1 h2).sl⟩⟩

end Go.Proofs.Ytcahnbflfehonaa
