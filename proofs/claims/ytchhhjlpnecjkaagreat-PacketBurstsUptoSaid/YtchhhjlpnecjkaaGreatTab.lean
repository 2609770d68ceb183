/-
  What the functions of the program's package table compute.
-/
import Derived.Test.YtchhhjlpnecjkaaGreatTabM
import Derived.Test.YtchhhjlpnecjkaaGreatObj
namespace Go.Proofs.YtchhhjlpnecjkaaGreat
open Go Go.RowKit Go.Proofs.YtchhhjlpnecjkaaGreat.Den
variable {R : Type} {Q : R → World → Prop} {w : World}

abbrev idT : Ty := .sc (.int .u32)
abbrev f3T : Ty := .agg [.int .i32, .int .i32, .int .i32]
abbrev f3C (x : F3) : List Value := [.int .i32 x.1, .int .i32 x.2.1, .int .i32 x.2.2]
theorem ids_ty : SlTy Tryz.prog 77 54 idT 4 := slTy (by kernel_rfl)
theorem u8s_ty : SlTy Tryz.prog 22 5 u8T 1 := slTy (by kernel_rfl)
theorem id_und : Tryz.prog.underlying 54 = some (.int .u32) := by kernel_rfl
theorem id_keyed : Go.Maps.Keyed Tryz.prog 54 := Go.Maps.int_keyed id_und
theorem int_zero : (Tryz.prog.info? 3).bind (·.zero) = some (.int .i64 0) := by kernel_rfl
def IdOk (i : Int) : Prop := 0 ≤ i ∧ i ≤ 4294967295
theorem id_key {i : Int} (h : IdOk i) : keyOf Tryz.prog 54 (.int .u32 i) = some (.int .u32 i) := Go.Maps.keyOf_int_mk id_und (by obtain ⟨h1, h2⟩ := h; simp [Lit.wf, IntKind.min, IntKind.max, IntKind.bits, IntKind.signed]; omega)

/-! ### a column -/
section
variable {b o : Nat} {T : TypeId} {cs : List Value} {s : Sl} {S : Nat → Prop}

end

/-! ### the table -/
abbrev tabC (m : Int) (kinds ids : Sl) (cols : Nat → Sl) (mp : Nat) : List Value :=
  [.int .u8 m, kinds.v, ids.v, (cols 0).v, (cols 1).v, (cols 2).v, (cols 3).v, (cols 4).v, (cols 5).v, .map (some mp)]
theorem lt6 {k : Nat} (h : k < 6) : k = 0 ∨ k = 1 ∨ k = 2 ∨ k = 3 ∨ k = 4 ∨ k = 5 := by omega
theorem tabC_col {m : Int} {kinds ids : Sl} {cols : Nat → Sl} {mp k : Nat} (hk : k < 6) : (tabC m kinds ids cols mp)[3 + k]? = some (cols k).v := by
  rcases lt6 hk with rfl | rfl | rfl | rfl | rfl | rfl <;> rfl
def updS (cols : Nat → Sl) (k : Nat) (s : Sl) : Nat → Sl := fun i => if i = k then s else cols i
theorem tabC_setcol {m : Int} {kinds ids : Sl} {cols : Nat → Sl} {mp k : Nat} (hk : k < 6) (s : Sl) : (tabC m kinds ids cols mp).set (3 + k) s.v = tabC m kinds ids (updS cols k s) mp := by
  rcases lt6 hk with rfl | rfl | rfl | rfl | rfl | rfl <;> rfl
def colM (m : Nat) (L : List Ent) (k : Nat) : List F3 := if Nat.testBit m k then L.map (fun e => fieldsOf e.2 (k : Int)) else []
theorem colM_len (m : Nat) (L : List Ent) (k : Nat) : (colM m L k).length ≤ L.length := by
  unfold colM
  split <;> simp

section
variable {lab : Nat → Nat} {b m : Nat} {L : List Ent}

theorem spec_r7_Same {ok ok2 : Nat → Prop} {s s2 : Sl} {l l2 : List Int} (hS : SlT ok w idT s l) (hS2 : SlT ok2 w idT s2 l2) (hm : Small l) {K : Res [.sc .bool] → W R} (hk : ∀ w', Fr None w w' → K (decide (l = l2)) Q w') :
    callW Tryz.prog k_pinnaceref07_Same [.slice s.a s.n s.c, .slice s2.a s2.n s2.c] [.sc .bool] K Q w := by
  refine C_pinnaceref07_Same s s2 K Q w ?_
  unfold F_pinnaceref07_Same
  have h1 := hS.len
  have h2 := hS2.len
  refine condN (fun hne => ?_) fun heq => ?_
  · have e := hk w (Fr.refl _ _)
    rw [decide_eq_false (fun e => hne (by rw [h1, h2, e]))] at e
    exact e
  · refine forI (N := s.n) (fun s : Int => s) (fun j s w' => s = j ∧ Fr None w w' ∧ l.take j = l2.take j) ⟨rfl, Fr.refl _ _, rfl⟩ (fun j s w' h => h.1) ?_ ?_
    · rintro j i w1 K' hj ⟨rfl, f1, ht⟩ - hK
      refine (hS.fr0 f1.drew).get rfl rfl (by omega) fun x hx => ?_
      refine (hS2.fr0 f1.drew).get rfl rfl (by omega) fun y hy => ?_
      refine condN (fun hb => ?_) fun hb => ?_
      · have e := hk _ f1.drew
        rw [decide_eq_false (fun e => by subst e; rw [hx] at hy; cases hy; exact hb rfl)] at e
        exact e
      · subst hb
        exact hK _ _ ⟨wsucc hj (by omega), f1.drew, by rw [take_at hx, take_at hy, ht]⟩
    · rintro i w1 ⟨rfl, f1, ht⟩
      have e := hk _ f1
      rw [h1, List.take_length, List.take_of_length_le (by omega)] at ht
      rw [decide_eq_true ht] at e
      exact e

end

/-! ### labels -/
theorem Den.Own.relab {lab : Nat → Nat} {E : TypeId} {t : Ty} {s : Sl} {l : List t.T} {j : Nat} (h : Own (fun x => lab x = j) w E t s l) (n' c : Nat) : Own (fun x => relab lab w.heap.size n' c x = j) w E t s l :=
  h.mono fun k hk e => by rw [relab_lt hk]; exact e

section
variable {lab : Nat → Nat} {b m : Nat} {kinds ids : Sl} {cols : Nat → Sl} {mp : Nat} {ks is : List Int} {cl : Nat → List F3} {rows : Int → Option Nat}

end

end Go.Proofs.YtchhhjlpnecjkaaGreat
