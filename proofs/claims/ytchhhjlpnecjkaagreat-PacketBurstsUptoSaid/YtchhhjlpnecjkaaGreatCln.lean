/-
  slices.Clone of components.
-/
import Derived.Test.YtchhhjlpnecjkaaGreatSl2
import Derived.Test.YtchhhjlpnecjkaaGreatComp
namespace Go.Proofs.YtchhhjlpnecjkaaGreat
open Go Go.RowKit Go.Proofs.YtchhhjlpnecjkaaGreat.Den
variable {R : Type} {Q : R → World → Prop} {w : World}

theorem spec_Clone_Comp {ok : Nat → Prop} {s : Sl} {l : List Comp} (hS : SlT ok w compT s l) (hm : l.length * 16 ≤ 140737488355328) {K : Res [.sc .sl] → W R} (hk : ∀ r w', Own (Up w.heap.size) w' 92 compT r l → Fr None w w' → K r Q w') :
    callW Tryz.prog k_slices_Clone_Comp [.slice s.a s.n s.c] [.sc .sl] K Q w := by
  refine C_slices_Clone_Comp _ K Q w ?_
  unfold F_slices_Clone_Comp
  rcases hS.at_ with rfl | ⟨b, o, ha, _⟩
  · cases hsa : s.a with
    | none => exact condT rfl (hk _ w (Own.nil _ _ _ _) (Fr.refl _ _))
    | some a =>
      refine condF rfl ?_
      rw [← hsa]
      refine newI fun w1 B1 f1 s1 => ?_
      have own := Own.mk' (S := Up w.heap.size) (w := w1) (E := 92) (t := compT) (l := []) (g := w.heap.size) (c := 0) (cur := ⟨[]⟩) (Nat.le_refl _) B1 (Nat.le_refl _) (Nat.zero_le _) (by simp) (by simp)
      refine appI (s := ⟨some ⟨w.heap.size, 0, none⟩, 0, 0⟩) (s2 := s) (S' := Up w.heap.size) comps_ty own (hS.fr0 f1) (by simp) (by simp) (fun _ h => h) (by show _ ≤ _; omega) fun r w2 o2 f2 s2 => hk r w2 (by simpa using o2) (f1.newer f2 (fun x e => own.own x e))
  · rw [ha]
    refine condF rfl ?_
    rw [← ha]
    exact cloneI comps_ty hS hm (by omega) hk

end Go.Proofs.YtchhhjlpnecjkaaGreat
