/-
  SystemsChild: its Go text answers true, whatever the input.
-/
import Derived.Test.YtkblnhnjagemlaaGreatL14
namespace Go.Proofs.YtkblnhnjagemlaaGreat
open Go Go.RowKit Go.ChangeShapes Go.WideShapes Go.ChangeAt Go.Proofs.YtkblnhnjagemlaaGreat.Den
variable {R : Type} {Q : R → World → Prop} {w : World}

theorem law_SystemsChild {W : World} {shape : Int} (hs : 0 ≤ shape ∧ shape ≤ 255) {c : Comp} (hc : CompOk c) {b : Bool} :
    Calls Tryz.prog 5 #[.int .u8 shape, .agg ⟨compC c⟩, .bool b] W (fun e w' => e = .returned (.bool true) ∧ Fr None W w') := by
  refine calls_of (C_pinnacelaw14_SystemsChild shape c b _ _ W ?_)
  unfold F_pinnacelaw14_SystemsChild
  have e : IntKind.wrap .i32 (Int.tmod shape 16) = shape % 16 := by rw [Int.tmod_eq_emod_of_nonneg hs.1, w32 (by omega)]
  rw [e]
  refine newI fun w1 B1 f1 s1 => spec_l14_awake fun w2 f2 => condF rfl ?_
  have B2 := B1.fr f2 fun h => h
  rw [add_lit]
  refine setI (i := 0) B2 (Nat.zero_lt_succ _) rfl fun w3 B3 f3 s3 => ?_
  have F3 : Fr None W w3 := (f1.then0 f2).thenNew f3 (fun x e => by omega)
  refine aggI B3 (x := ((0, c.2) : Comp)) rfl ?_
  refine spec_r5_Check (c := (0, c.2)) (Int.le_refl 0) fun w4 f4 => ?_
  have B4 := B3.fr f4 fun h => h
  by_cases h : checkM (0, c.2) = 0
  · refine condF (by simp [h]) (aggI B4 (x := ((0, c.2) : Comp)) rfl ?_)
    refine spec_systems_Child (c := (5, 1, 0, shape % 16)) (a := (0, c.2)) (odd := b) (by show 0 ≤ shape % 16 ∧ shape % 16 ≤ 15; omega) fun r w5 O5 f5 => ?_
    have hl := child_ok (shape := shape % 16) (by omega) h b
    have hck : ∀ x ∈ childM (shape % 16) (0, c.2) b, CompOk x := fun x hx => checkM_ok ((listE_0.1 hl).1 x hx)
    refine joinI (fun (s : Bool) w' => s = true ∧ Fr None W w') ?_ ?_
    · refine aggI (B4.fr f5 fun h => h) (x := ((0, c.2) : Comp)) rfl ?_
      refine spec_r14_Child (shape := shape % 16) (a := (0, c.2)) (odd := b) (by omega) fun r2 w6 O6 f6 => ?_
      refine spec_r5_Same (O5.none f6).sl O6.sl (by simp [childM, Small]) fun w7 f7 => ?_
      refine condT (by simp) ?_
      refine spec_r5_List ((O5.none f6).none f7).sl (by simp [childM, Small]) hck fun w8 f8 => ?_
      exact ⟨by rw [hl]; rfl, ((((F3.then0 f4).then0 f5).then0 f6).then0 f7).then0 f8⟩
    · rintro s w' ⟨rfl, f⟩
      exact ⟨rfl, f⟩
  · exact condT (by simpa using h) ⟨rfl, F3.then0 f4⟩

/-! ### the row -/
set_option maxRecDepth 100000 in
theorem systemsChild_lifted (os : Os) (started : os.Started) (H : Type) (enc : TypeId × Value → H) :
    ReturnsInHanded {} Tryz.checked os 5 .any (Rows.systemsChildSpec.pre6 enc Tryz.prog Tryz.f5 Rows.systemsChildRow.domain false) (Rows.systemsChildSpec.post enc Tryz.prog Tryz.f5 false true false false) := by
  refine returnsInHanded_of_change (C := Tryz.checked) own_knob started (by kernel_rfl) Tryz.func5
    (ChangeSpec.witness6 (enc := enc) (C := Tryz.checked) false ⟨#[], #[.int .u8 0, .agg #[.int .u8 0, .int .i32 0, .int .i32 0, .int .i32 0], .bool false], []⟩ 8 (by kernel_rfl) (by kernel_rfl) (by kernel_rfl) (by kernel_rfl)) ?_
  intro W base args ds gs before hval0 hW hcnd _
  have hval : ∀ (j : Nat) t v, Tryz.f5.params[j]? = some t → args[j]? = some v → Value.okWide Tryz.prog W .any base t v := hval0
  have hW' := hW
  obtain ⟨p, q, hA0, hV, rfl, hfz, hnd⟩ := hW
  have hA : DataW.TrodAll enc Tryz.prog W 0 (fun _ => true) true Tryz.f5.params.toList args.toList ds p := hA0
  rw [Tryz.params5] at hA hval
  obtain ⟨v0, v1, v2, d0, d1, d2, p0, p1, p2, rfl, rfl, rfl, h0, h1, h2⟩ := trodAll_three hA
  obtain ⟨a0, rfl, w0⟩ := arg_int u8_und (hval 0 _ v0 rfl rfl) h0
  obtain ⟨x1, rfl, e1⟩ := arg_agg comp_arg (hval 1 _ v1 rfl rfl) h1
  obtain ⟨a2, rfl, _⟩ := open_bool bool_und (hval 2 _ v2 rfl rfl) h2
  refine (law_SystemsChild (wf_u8 w0) (comp_ok e1) (b := a2)).mono fun e W' ⟨he, hf⟩ => ?_
  subst he
  exact ⟨_, rfl, law_post laid_out bool_und (by kernel_rfl) (by rw [Tryz.params5]; decide +kernel) rfl ⟨rfl, rfl, rfl⟩ hW' hf⟩

set_option maxHeartbeats 4000000 in
theorem systemsChild_holds : Rows.SystemsChildSaid :=
  OpenClaim.holds_of_wide 5 Tryz.f5 rfl rfl rfl rfl rfl rfl rfl ⟨rfl, rfl, rfl, rfl, rfl⟩ rfl rfl rfl rfl rfl (by kernel_rfl) Tryz.func5
    (by unfold joinedFacts; repeat' (with_reducible refine band ?_ ?_)
        all_goals first | with_reducible exact laid_out | with_reducible exact maps_rowed | with_reducible exact may_enter | (as_aux_lemma => kernel_rfl))
    (of_decide_eq_true (by kernel_rfl)) (by unfold Func.isWrapper; first | (rw [if_pos (by decide +kernel)]; kernel_rfl) | (rw [if_neg (by decide +kernel)]; exact ⟨rfl, rfl⟩))
    (fun os started H enc _ => systemsChild_lifted os started H enc)

end Go.Proofs.YtkblnhnjagemlaaGreat
