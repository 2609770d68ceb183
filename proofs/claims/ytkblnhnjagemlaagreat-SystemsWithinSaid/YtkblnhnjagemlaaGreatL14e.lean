/-
  SystemsWithin: its Go text answers true, whatever the input.
-/
import Derived.Test.YtkblnhnjagemlaaGreatL14
namespace Go.Proofs.YtkblnhnjagemlaaGreat
open Go Go.RowKit Go.ChangeShapes Go.WideShapes Go.ChangeAt Go.Proofs.YtkblnhnjagemlaaGreat.Den
variable {R : Type} {Q : R → World → Prop} {w : World}

/-- a store of the call's own. -/
def OneAt (n0 b : Nat) (w : World) : Prop := ∃ x, ∃ G : Nat → Prop, Store b x G w ∧ ∀ k, G k → n0 ≤ k ∧ k < w.heap.size
theorem OneAt.fr0 {n0 b : Nat} {w' : World} (h : OneAt n0 b w) (f : Fr None w w') : OneAt n0 b w' := by
  obtain ⟨x, G, h1, h2⟩ := h
  have := f.size
  exact ⟨x, G, Store.st.fr0 h1 f, fun k e => ⟨(h2 k e).1, by have := (h2 k e).2; omega⟩⟩
theorem one_step {n0 b : Nat} {G : Nat → Prop} {p : SysP} {r : Sl} {w' : World} (h : ∀ k, G k → n0 ≤ k ∧ k < w.heap.size) (hn : n0 ≤ w.heap.size) (hE : SysEnd (Store b) G G w p r w') : OneAt n0 b w' ∧ Fr (fun k => n0 ≤ k) w w' := by
  obtain ⟨G', hA, hG, hlt, _, hf⟩ := hE
  refine ⟨⟨p.1, G', hA, fun k e => ⟨?_, hlt k e⟩⟩, hf.sub fun k e => (h k e).1⟩
  rcases hG k e with e1 | e1
  · exact (h k e1).1
  · omega

theorem law_SystemsWithin {W : World} {n : Int} (hn : 0 ≤ n ∧ n ≤ 255) {s : Sl} {raws : List Sl} {L : List (List Comp)} (hS : SlT (Old W) W slT s raws) (hL : All2 (ListIn W) raws L) (hcap : s.c ≤ maxLen)
    {s2 : Sl} {l : List Int} (hB : SlT (Old W) W u8T s2 l) (hb : ∀ c ∈ l, 0 ≤ c ∧ c ≤ 255) (hc2 : s2.c ≤ maxLen) :
    Calls Tryz.prog 8 #[.int .u8 n, .slice s.a s.n s.c, .slice s2.a s2.n s2.c] W (fun e w' => e = .returned (.bool true) ∧ Fr None W w') := by
  refine calls_of (C_pinnacelaw14_SystemsWithin n s s2 _ _ W ?_)
  unfold F_pinnacelaw14_SystemsWithin
  refine spec_l14_awake fun w1 f1 => condF rfl ?_
  refine spec_l14_fill hn (SlT.later hS f1) (ListIn.later hL f1) hcap fun b b2 w2 hp f2 => ?_
  have hlen := hB.len
  have hcp := hB.cap
  rw [maxLen_eq] at hc2
  have one : OneAt w1.heap.size b w2 := by
    obtain ⟨G, _, _, h1, _, h3, _⟩ := hp
    exact ⟨_, G, h1, h3⟩
  refine joinI (fun (_ : Unit) w' => Fr None W w') ?_ fun _ w' f => ⟨rfl, f⟩
  refine forI (N := s2.n) (fun s : Int => s) (fun j i w' => i = (j : Int) ∧ Fr None w1 w' ∧ OneAt w1.heap.size b w') ⟨rfl, f2, one⟩ (fun j s w' h => h.1) ?_ fun i w' ⟨_, f, _⟩ => f1.then0 f
  rintro j i w3 K' hj ⟨rfl, f3, o3⟩ - hK
  have hs3 := f3.size
  refine (hB.fr0 (f1.then0 f3)).get rfl rfl (by omega) fun y hy => ?_
  refine condD (fun _ => f1.then0 f3) fun _ => ?_
  refine joinI (fun (_ : Unit) w' => Fr None w1 w' ∧ OneAt w1.heap.size b w') ?_ fun _ w4 ⟨f4, o4⟩ => ?_
  · obtain ⟨x, G, hst, hG⟩ := o3
    have fin : ∀ {p : SysP} {r : Sl} {w' : World}, SysEnd (Store b) G G w3 p r w' → Fr None w1 w' ∧ OneAt w1.heap.size b w' := fun hE => by
      obtain ⟨o, f⟩ := one_step hG hs3 hE
      exact ⟨f3.newer f fun k e => e, o⟩
    refine condI (fun _ => spec_systems_Move hst fun r w' hE => fin hE) fun _ => ?_
    refine joinI (fun (_ : Unit) w' => Fr None w1 w' ∧ OneAt w1.heap.size b w') ?_ fun _ w4 h => h
    exact condI (fun _ => spec_systems_Age hst fun r w' hE => fin hE) fun _ => spec_systems_Breed hst fun r w' hE => fin hE
  · obtain ⟨x, G, hst, hG⟩ := o4
    have hok := (Store.open_ hst).1
    have hlist := hok.s.list_le
    refine spec_store_List hst fun rl w5 l5 f5 => ?_
    have hrn := l5.len
    refine forI (N := rl.n) (fun s : Int => s) (fun j i w' => i = (j : Int) ∧ Fr None w5 w') ⟨rfl, Fr.refl _ _⟩ (fun j s w' h => h.1) ?_ ?_
    · rintro i' i w6 K2 hj2 ⟨rfl, f6⟩ - hK2
      refine (l5.fr0 f6).get rfl rfl (by omega) fun id hid => ?_
      obtain ⟨hlive, hidok⟩ := hok.s.list_id (List.mem_of_getElem? hid)
      obtain ⟨e1, e2, e3, e4⟩ := hok.ent_live3 hlive
      refine spec_store_EntM (Store.st.fr0 hst (f5.then0 f6)) hidok fun sl w7 o7 f7 => ?_
      refine newI fun w8 B8 f8 s8 => stoAll B8 rfl rfl fun w9 B9 f9 s9 => ?_
      have f79 : Fr None w7 w9 := f8.newer f9 fun k e => by omega
      refine joinI (fun z w' => z = false ∧ Fr None w9 w') ?_ fun z w10 ⟨hz, f10⟩ => ?_
      · refine condF (by rw [e2]; rfl) (fldI B9 (i := 1) (x := sl) rfl ?_)
        refine spec_r5_List (o7.none f79).sl (by show _ ≤ 1048576; omega) (fun c hc => checkM_ok ((listE_0.1 e4).1 c hc)) fun w10 f10 => ?_
        exact ⟨by rw [e4]; rfl, f10⟩
      · subst hz
        exact condF rfl (hK2 _ _ ⟨wsucc hj2 (by omega), ((f6.then0 f7).then0 f79).then0 f10⟩)
    · rintro i w6 ⟨-, f6⟩
      have f46 := f5.then0 f6
      exact hK _ _ ⟨wsucc hj (by omega), f4.then0 f46, OneAt.fr0 ⟨x, G, hst, hG⟩ f46⟩

/-! ### the row -/
set_option maxRecDepth 100000 in
theorem systemsWithin_lifted (os : Os) (started : os.Started) (H : Type) (enc : TypeId × Value → H) :
    ReturnsInHanded {} Tryz.checked os 8 .any (Rows.systemsWithinSpec.pre6 enc Tryz.prog Tryz.f8 Rows.systemsWithinRow.domain false) (Rows.systemsWithinSpec.post enc Tryz.prog Tryz.f8 false true false false) := by
  refine returnsInHanded_of_change (C := Tryz.checked) own_knob started (by kernel_rfl) Tryz.func8
    (ChangeSpec.witness6 (enc := enc) (C := Tryz.checked) false ⟨#[], #[.int .u8 0, .slice none 0 0, .slice none 0 0], []⟩ 8 (by kernel_rfl) (by kernel_rfl) (by kernel_rfl) (by kernel_rfl)) ?_
  intro W base args ds gs before hval0 hW hcnd _
  have hval : ∀ (j : Nat) t v, Tryz.f8.params[j]? = some t → args[j]? = some v → Value.okWide Tryz.prog W .any base t v := hval0
  have hW' := hW
  obtain ⟨p, q, hA0, hV, rfl, hfz, hnd⟩ := hW
  have hA : DataW.TrodAll enc Tryz.prog W 0 (fun _ => true) true Tryz.f8.params.toList args.toList ds p := hA0
  rw [Tryz.params8] at hA hval
  obtain ⟨v0, v1, v2, d0, d1, d2, p0, p1, p2, rfl, rfl, rfl, h0, h1, h2⟩ := trodAll_three hA
  obtain ⟨a0, rfl, w0⟩ := arg_int u8_und (hval 0 _ v0 rfl rfl) h0
  obtain ⟨s1, l1, rfl, S1, c1, e1⟩ := arg_slice lists_arg (hval 1 _ v1 rfl rfl) h1
  obtain ⟨L1, O1⟩ := lists_in fun r hr => e1 r hr
  obtain ⟨s2, l2, rfl, S2, c2, e2⟩ := arg_slice bytes_arg (hval 2 _ v2 rfl rfl) h2
  refine (law_SystemsWithin (wf_u8 w0) S1 O1 c1 S2 (fun c hc => byte_ok (e2 c hc)) c2).mono fun e W' ⟨he, hf⟩ => ?_
  subst he
  exact ⟨_, rfl, law_post laid_out bool_und (by kernel_rfl) (by rw [Tryz.params8]; decide +kernel) rfl ⟨rfl, rfl, rfl⟩ hW' hf⟩

set_option maxHeartbeats 4000000 in
theorem systemsWithin_holds : Rows.SystemsWithinSaid :=
  OpenClaim.holds_of_wide 8 Tryz.f8 rfl rfl rfl rfl rfl rfl rfl ⟨rfl, rfl, rfl, rfl, rfl⟩ rfl rfl rfl rfl rfl (by kernel_rfl) Tryz.func8
    (by unfold joinedFacts; repeat' (with_reducible refine band ?_ ?_)
        all_goals first | with_reducible exact laid_out | with_reducible exact maps_rowed | with_reducible exact may_enter | (as_aux_lemma => kernel_rfl))
    (of_decide_eq_true (by kernel_rfl)) (by unfold Func.isWrapper; first | (rw [if_pos (by decide +kernel)]; kernel_rfl) | (rw [if_neg (by decide +kernel)]; exact ⟨rfl, rfl⟩))
    (fun os started H enc _ => systemsWithin_lifted os started H enc)

end Go.Proofs.YtkblnhnjagemlaaGreat
