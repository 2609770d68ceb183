/-
  What the functions of the program's package table compute.
-/
import Derived.Test.YtcahnbflfehonaaTabM
import Derived.Test.YtcahnbflfehonaaObj
namespace Go.Proofs.Ytcahnbflfehonaa
open Go Go.RowKit Go.Proofs.Ytcahnbflfehonaa.Den
variable {R : Type} {Q : R → World → Prop} {w : World}

abbrev idT : Ty := .sc (.int .u32)
abbrev f3T : Ty := .agg [.int .i32, .int .i32, .int .i32]
abbrev f3C (x : F3) : List Value := [.int .i32 x.1, .int .i32 x.2.1, .int .i32 x.2.2]
theorem ids_ty : SlTy Try.prog 60 40 idT 4 := slTy (by kernel_rfl)
theorem u8s_ty : SlTy Try.prog 29 5 u8T 1 := slTy (by kernel_rfl)
theorem id_und : Try.prog.underlying 40 = some (.int .u32) := by kernel_rfl
theorem id_keyed : Go.Maps.Keyed Try.prog 40 := Go.Maps.int_keyed id_und
theorem int_zero : (Try.prog.info? 3).bind (·.zero) = some (.int .i64 0) := by kernel_rfl
def IdOk (i : Int) : Prop := 0 ≤ i ∧ i ≤ 4294967295
theorem id_key {i : Int} (h : IdOk i) : keyOf Try.prog 40 (.int .u32 i) = some (.int .u32 i) := Go.Maps.keyOf_int_mk id_und (by obtain ⟨h1, h2⟩ := h; simp [Lit.wf, IntKind.min, IntKind.max, IntKind.bits, IntKind.signed]; omega)

/-! ### a column -/
section
variable {b o : Nat} {T : TypeId} {cs : List Value} {s : Sl} {S : Nat → Prop}

end

/-! ### the table -/
abbrev tabC (m : Int) (kinds ids : Sl) (cols : Nat → Sl) (mp : Nat) : List Value :=
  [.int .u8 m, kinds.v, ids.v, (cols 0).v, (cols 1).v, (cols 2).v, (cols 3).v, (cols 4).v, (cols 5).v, .map (some mp)]
theorem lt6 {k : Nat} (h : k < 6) : k = 0 ∨ k = 1 ∨ k = 2 ∨ k = 3 ∨ k = 4 ∨ k = 5 := by omega
theorem tabC_col {m : Int} {kinds ids : Sl} {cols : Nat → Sl} {mp k : Nat} (hk : k < 6) : (tabC m kinds ids cols mp)[3 + k]? = some (cols k).v := by
  rcases lt6 hk with rfl | rfl | rfl | rfl | rfl | rfl <;> rfl
def updS (cols : Nat → Sl) (k : Nat) (s : Sl) : Nat → Sl := fun i => if i = k then s else cols i
theorem tabC_setcol {m : Int} {kinds ids : Sl} {cols : Nat → Sl} {mp k : Nat} (hk : k < 6) (s : Sl) : (tabC m kinds ids cols mp).set (3 + k) s.v = tabC m kinds ids (updS cols k s) mp := by
  rcases lt6 hk with rfl | rfl | rfl | rfl | rfl | rfl <;> rfl
def colM (m : Nat) (L : List Ent) (k : Nat) : List F3 := if Nat.testBit m k then L.map (fun e => fieldsOf e.2 (k : Int)) else []
theorem colM_len (m : Nat) (L : List Ent) (k : Nat) : (colM m L k).length ≤ L.length := by
  unfold colM
  split <;> simp

section
variable {lab : Nat → Nat} {b m : Nat} {L : List Ent}

end

/-! ### labels -/
theorem Den.Own.relab {lab : Nat → Nat} {E : TypeId} {t : Ty} {s : Sl} {l : List t.T} {j : Nat} (h : Own (fun x => lab x = j) w E t s l) (n' c : Nat) : Own (fun x => relab lab w.heap.size n' c x = j) w E t s l :=
  h.mono fun k hk e => by rw [relab_lt hk]; exact e

section
variable {lab : Nat → Nat} {b m : Nat} {kinds ids : Sl} {cols : Nat → Sl} {mp : Nat} {ks is : List Int} {cl : Nat → List F3} {rows : Int → Option Nat}

end

end Go.Proofs.Ytcahnbflfehonaa
