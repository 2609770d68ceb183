/-
  SystemsBreed: its Go text answers true, whatever the input.
-/
import Derived.Test.YtkblnhnjagemlaaGreatL14
namespace Go.Proofs.YtkblnhnjagemlaaGreat
open Go Go.RowKit Go.ChangeShapes Go.WideShapes Go.ChangeAt Go.Proofs.YtkblnhnjagemlaaGreat.Den
variable {R : Type} {Q : R → World → Prop} {w : World}

theorem law_SystemsBreed {W : World} {n t : Int} (hn : 0 ≤ n ∧ n ≤ 255) {s : Sl} {raws : List Sl} {L : List (List Comp)} (hS : SlT (Old W) W slT s raws) (hL : All2 (ListIn W) raws L) (hcap : s.c ≤ maxLen) (ht : 0 ≤ t ∧ t ≤ 255) :
    Calls Tryz.prog 9 #[.int .u8 n, .slice s.a s.n s.c, .int .u8 t] W (fun e w' => e = .returned (.bool true) ∧ Fr None W w') := by
  refine calls_of (C_pinnacelaw14_SystemsBreed n s t _ _ W ?_)
  unfold F_pinnacelaw14_SystemsBreed
  refine spec_l14_awake fun w1 f1 => condF rfl ?_
  refine spec_l14_fill hn (SlT.later hS f1) (ListIn.later hL f1) hcap fun b b2 w2 hp f2 => ?_
  exact pairLoop (n0 := w1.heap.size) (W0 := w1) (g := breedM) (fun x ok => (breedM_ok ok).2) rfl (fun h hk => spec_systems_Breed h hk) (fun h hk => spec_r14_Breed h hk) hp f2 (N := t.toNat % 12) (by omega) (times12 ht.1) fun w3 f3 =>
    spec_systems_Breed0 fun w4 f4 => ⟨rfl, (f1.then0 f3).then0 f4⟩

/-! ### the row -/
set_option maxRecDepth 100000 in
theorem systemsBreed_lifted (os : Os) (started : os.Started) (H : Type) (enc : TypeId × Value → H) :
    ReturnsInHanded {} Tryz.checked os 9 .any (Rows.systemsBreedSpec.pre6 enc Tryz.prog Tryz.f9 Rows.systemsBreedRow.domain false) (Rows.systemsBreedSpec.post enc Tryz.prog Tryz.f9 false true false false) := by
  refine returnsInHanded_of_change (C := Tryz.checked) own_knob started (by kernel_rfl) Tryz.func9
    (ChangeSpec.witness6 (enc := enc) (C := Tryz.checked) false ⟨#[], #[.int .u8 0, .slice none 0 0, .int .u8 0], []⟩ 8 (by kernel_rfl) (by kernel_rfl) (by kernel_rfl) (by kernel_rfl)) ?_
  intro W base args ds gs before hval0 hW hcnd _
  have hval : ∀ (j : Nat) t v, Tryz.f9.params[j]? = some t → args[j]? = some v → Value.okWide Tryz.prog W .any base t v := hval0
  have hW' := hW
  obtain ⟨p, q, hA0, hV, rfl, hfz, hnd⟩ := hW
  have hA : DataW.TrodAll enc Tryz.prog W 0 (fun _ => true) true Tryz.f9.params.toList args.toList ds p := hA0
  rw [Tryz.params9] at hA hval
  obtain ⟨v0, v1, v2, d0, d1, d2, p0, p1, p2, rfl, rfl, rfl, h0, h1, h2⟩ := trodAll_three hA
  obtain ⟨a0, rfl, w0⟩ := arg_int u8_und (hval 0 _ v0 rfl rfl) h0
  obtain ⟨s1, l1, rfl, S1, c1, e1⟩ := arg_slice lists_arg (hval 1 _ v1 rfl rfl) h1
  obtain ⟨L1, O1⟩ := lists_in fun r hr => e1 r hr
  obtain ⟨a2, rfl, w2⟩ := arg_int u8_und (hval 2 _ v2 rfl rfl) h2
  refine (law_SystemsBreed (wf_u8 w0) S1 O1 c1 (wf_u8 w2)).mono fun e W' ⟨he, hf⟩ => ?_
  subst he
  exact ⟨_, rfl, law_post laid_out bool_und (by kernel_rfl) (by rw [Tryz.params9]; decide +kernel) rfl ⟨rfl, rfl, rfl⟩ hW' hf⟩

set_option maxHeartbeats 4000000 in
theorem systemsBreed_holds : Rows.SystemsBreedSaid :=
  OpenClaim.holds_of_wide 9 Tryz.f9 rfl rfl rfl rfl rfl rfl rfl ⟨rfl, rfl, rfl, rfl, rfl⟩ rfl rfl rfl rfl rfl (by kernel_rfl) Tryz.func9
    (by unfold joinedFacts; repeat' (with_reducible refine band ?_ ?_)
        all_goals first | with_reducible exact laid_out | with_reducible exact maps_rowed | with_reducible exact may_enter | (as_aux_lemma => kernel_rfl))
    (of_decide_eq_true (by kernel_rfl)) (by unfold Func.isWrapper; first | (rw [if_pos (by decide +kernel)]; kernel_rfl) | (rw [if_neg (by decide +kernel)]; exact ⟨rfl, rfl⟩))
    (fun os started H enc _ => systemsBreed_lifted os started H enc)

end Go.Proofs.YtkblnhnjagemlaaGreat
