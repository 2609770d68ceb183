/-
  The laws of package table: what their Go text answers.
-/
import Derived.Test.YtmlpeafpchpjeaaTabG
import Derived.Test.YtmlpeafpchpjeaaBase
namespace Go.Proofs.Ytmlpeafpchpjeaa
open Go Go.RowKit Go.ChangeShapes Go.WideShapes Go.ChangeAt Go.Proofs.Ytmlpeafpchpjeaa.Den
variable {R : Type} {Q : R → World → Prop} {w : World}

theorem spec_l10_awake {K : Res [.sc .bool] → W R} (hk : ∀ w', Fr None w w' → K true Q w') : callW Try.prog k_pinnacelaw10_awake [] [.sc .bool] K Q w := by
  refine C_pinnacelaw10_awake K Q w ?_
  unfold F_pinnacelaw10_awake
  refine spec_tab_New (by omega) (fun h => by omega) fun lab b w1 _ h1 hn1 f1 => ?_
  have add : ∀ {R' : Type} {Q' : R' → World → Prop} {K2 : Res [.sc (.int .i64)] → W R'} {lab : Nat → Nat} {w1 : World} {L : List Ent} {id : Int}, Tab lab w1 b 0 L → (∀ k, lab k ≠ 0 → w.heap.size ≤ k) → Fr None w w1 → IdOk id → addM 0 L id [] = 0 → L.length < 10 →
      (∀ lab' w2, Tab lab' w2 b 0 (L ++ [(id, [])]) → (∀ k, lab' k ≠ 0 → w.heap.size ≤ k) → Fr None w w2 → K2 0 Q' w2) → callW Try.prog k_table_Table_Add [.pointer (some ⟨b, 0, none⟩), .int .u32 id, .slice none 0 0] [.sc (.int .i64)] K2 Q' w1 := by
    intro R' Q' K2 lab w1 L id h1 hn1 f1 hid ha hL hK
    refine spec_tab_Add (s := ⟨none, 0, 0⟩) (l := []) (ok := fun _ => False) h1 hid (SlT.nil _) (fun _ h => h.elim) (by simp) (by simp) (by omega) fun lab' w2 h2 hn2 f2 => ?_
    rw [ha]
    rw [addT, if_pos ha] at h2
    refine hK lab' w2 h2 (fun k hk => ?_) (f1.newer f2 hn1)
    rcases hn2 k hk with h | h
    · exact hn1 k h
    · have := f1.size; omega
  refine joinI (fun z w' => z = false ∧ ∃ lab', Tab lab' w' b 0 [(7, []), (8, []), (9, [])] ∧ (∀ k, lab' k ≠ 0 → w.heap.size ≤ k) ∧ Fr None w w') ?_ ?_
  · refine condF rfl (condF rfl ?_)
    refine add h1 hn1 f1 ⟨by omega, by omega⟩ (by decide) (by decide) fun lab2 w2 h2 hn2 f2 => condF rfl ?_
    refine add h2 hn2 f2 ⟨by omega, by omega⟩ (by decide) (by decide) fun lab3 w3 h3 hn3 f3 => condF rfl ?_
    refine add h3 hn3 f3 ⟨by omega, by omega⟩ (by decide) (by decide) fun lab4 w4 h4 hn4 f4 => ?_
    exact ⟨rfl, lab4, h4, hn4, f4⟩
  · rintro z w2 ⟨rfl, lab2, h2, hn2, f2⟩
    refine condF rfl ?_
    refine spec_tab_Remove h2 ⟨by omega, by omega⟩ (fun hr => by cases hr) fun i e s w3 hr he h3 _ f3 => ?_
    have hi : i = 0 := by cases hr; rfl
    subst hi
    have f03 := f2.newer f3 hn2
    refine joinK (condT rfl ?_)
    refine spec_tab_IDs h3 fun r w4 o4 f4 => ?_
    refine newI fun w5 B5 f5 s5 => ?_
    have hS : SlT (fun _ => True) w5 idT ⟨some ⟨w4.heap.size, 0, none⟩, 2, 2⟩ [9, 8] := (Own.mk' (S := fun _ => True) (l := ([9, 8] : List Int)) (t := idT) trivial B5 (by decide) (by rw [maxLen_eq]; decide) rfl rfl).sl
    refine spec_r7_Same (o4.sl.fr0 f5) hS (by decide) fun w6 f6 => ?_
    exact hk w6 (((f03.then0 f4).then0 f5).then0 f6)

theorem law_TableMakes {W : World} {mask id : Int} {s : Sl} {l : List Comp} (hm : 0 ≤ mask ∧ mask ≤ 255) (hid : IdOk id) (hS : SlT (fun k => k < W.heap.size) W compT s l) (hl : ∀ c ∈ l, CompOk c) (hcap : s.c ≤ maxLen) :
    Calls Try.prog 3 #[.int .u8 mask, .int .u32 id, s.v] W (fun e w' => e = .returned (.bool true) ∧ Fr None W w') := by
  refine calls_of (C_pinnacelaw10_TableMakes mask id s _ _ W ?_)
  unfold F_pinnacelaw10_TableMakes
  refine spec_l10_awake fun w1 f1 => condF rfl ?_
  have hl1 := hS.fr0 f1
  refine spec_tab_New hm (fun h64 => ?_) fun lab b w2 h64 h2 hn2 f2 => ?_
  · refine condT rfl (joinK ?_)
    refine condT (decide_eq_true (by omega)) (condT rfl ?_)
    exact ⟨rfl, f1⟩
  · refine condF rfl ?_
    obtain ⟨m, rfl⟩ : ∃ m : Nat, mask = (m : Int) := ⟨mask.toNat, by omega⟩
    rw [Int.toNat_natCast] at h2
    have hlen := hS.len
    rw [maxLen_eq] at hcap
    have hcp := hS.cap
    refine (hS.fr0 (f1.then0 f2)).slc0 (n := min l.length 20) (by split <;> omega) (by omega) fun x hx => ?_
    have f02 := f1.then0 f2
    generalize hl20 : l.take (min l.length 20) = l20 at hx
    have hl2 : ∀ c ∈ l20, CompOk c := fun c hc => hl c (by subst hl20; exact List.mem_of_mem_take hc)
    have hsm : Small l20 := by subst hl20; simp [Small]; omega
    refine spec_r5_Twin hx hsm fun tw w3 o3 f3 => ?_
    have f03 := f02.then0 f3
    have h3 := h2.fr0 f3
    have own3 : SlT (fun k => w2.heap.size ≤ k) w3 compT tw l20 := o3.sl
    refine spec_tab_Add h3 hid own3 (fun k hk => by
      by_cases h : lab k = 0
      · exact h
      · have := h2.lt h; omega) hsm hl2 (by simp) fun lab4 w4 h4 hn4 f4 => ?_
    have hn4' : ∀ k, lab4 k ≠ 0 → W.heap.size ≤ k := fun k hk => by
      rcases hn4 k hk with h | h
      · have := hn2 k h; have := f1.size; omega
      · have := f03.size; omega
    have f04 : Fr None W w4 := f03.newer f4 fun k hk => by have := hn2 k hk; have := f1.size; omega
    have hx4 : SlT (fun k => k < W.heap.size) w4 compT x l20 := (hx.fr0 f3).fr f4 fun k hk h => by
      have := hn2 k h; have := f1.size; omega
    refine spec_r5_List hx4 hsm hl2 fun w5 f5 => ?_
    have h5 := h4.fr0 f5
    have f05 := f04.then0 f5
    refine condN (fun hne => ?_) fun he => ?_
    · have ha : addM m [] id l20 = listE l20 := by rw [addM, if_pos hne]
      rw [ha]
      rw [addT, ha, if_neg hne] at h5
      refine joinK (condT (by simp) ?_)
      refine spec_tab_Len h5 ?_
      exact ⟨rfl, f05⟩
    · refine spec_r5_Mask (hx4.fr0 f5) hsm fun w6 f6 => ?_
      have h6 := h5.fr0 f6
      have f06 := f05.then0 f6
      refine condN (fun hne => ?_) fun hmk => ?_
      · have ha : addM m [] id l20 = 4 := by rw [addM, if_neg (by simpa using he), if_pos (by omega)]
        rw [ha]
        rw [addT, ha, if_neg (by omega)] at h6
        refine joinK (condT rfl ?_)
        refine spec_tab_Len h6 ?_
        exact ⟨rfl, f06⟩
      · have hmk' : maskN l20 = m := by omega
        have ha : addM m [] id l20 = 0 := by rw [addM, if_neg (by simpa using he), if_neg (by omega)]; rfl
        rw [ha]
        rw [addT, ha, if_pos rfl] at h6
        refine joinK (condT rfl ?_)
        have hx6 := hx4.fr0 (f5.then0 f6)
        refine spec_r5_Twin hx6 hsm fun tw2 w7 o7 f7 => ?_
        have h7 := h6.fr0 f7
        have own7 : SlT (fun k => w6.heap.size ≤ k) w7 compT tw2 l20 := o7.sl
        refine spec_tab_Add h7 hid own7 (fun k hk => by
          by_cases h : lab4 k = 0
          · exact h
          · have := h6.lt h; omega) hsm hl2 (by simp) fun lab8 w8 h8 hn8 f8 => ?_
        have f08 : Fr None W w8 := (f06.then0 f7).newer f8 hn4'
        have ha2 : addM m ([] ++ [(id, l20)]) id l20 = 9 := by
          rw [addM, if_neg (by simpa using he), if_neg (by omega), if_pos]
          have : rowM ([] ++ [(id, l20)]) id = some 0 := by simp [rowM]
          rw [this]; rfl
        rw [ha2]
        rw [addT, ha2, if_neg (by omega)] at h8
        refine condT rfl ?_
        refine spec_tab_Len h8 ?_
        exact ⟨rfl, f08⟩

/-! ### the row -/
set_option maxRecDepth 100000 in
theorem tableMakes_lifted (os : Os) (started : os.Started) (H : Type) (enc : TypeId × Value → H) :
    ReturnsInHanded {} Try.checked os 3 .any (Rows.tableMakesSpec.pre6 enc Try.prog Try.f3 Rows.tableMakesRow.domain false) (Rows.tableMakesSpec.post enc Try.prog Try.f3 false true false false) := by
  refine returnsInHanded_of_change (C := Try.checked) own_knob started (by kernel_rfl) Try.func3
    (ChangeSpec.witness6 (enc := enc) (C := Try.checked) false ⟨#[], #[.int .u8 0, .int .u32 0, .slice none 0 0], []⟩ 8 (by kernel_rfl) (by kernel_rfl) (by kernel_rfl) (by kernel_rfl)) ?_
  intro W base args ds gs before hval0 hW hcnd _
  have hval : ∀ (j : Nat) t v, Try.f3.params[j]? = some t → args[j]? = some v → Value.okWide Try.prog W .any base t v := hval0
  have hW' := hW
  obtain ⟨p, q, hA0, hV, rfl, hfz, hnd⟩ := hW
  have hA : DataW.TrodAll enc Try.prog W 0 (fun _ => true) true Try.f3.params.toList args.toList ds p := hA0
  rw [Try.params3] at hA hval
  obtain ⟨v0, v1, v2, d0, d1, d2, p0, p1, p2, rfl, rfl, rfl, h0, h1, h2⟩ := trodAll_three hA
  obtain ⟨a, rfl, wa⟩ := arg_int u8_und (hval 0 _ v0 rfl rfl) h0
  obtain ⟨b, rfl, wb⟩ := arg_int id_und (hval 1 _ v1 rfl rfl) h1
  obtain ⟨s, l, rfl, hS, hc, hl⟩ := arg_slice comps_arg (hval 2 _ v2 rfl rfl) h2
  refine (law_TableMakes (wf_u8 wa) (wf_u32 wb) hS (fun c hc => comp_ok (hl c hc)) hc).mono fun e W' ⟨he, hf⟩ => ?_
  subst he
  exact ⟨_, rfl, law_post laid_out bool_und (by kernel_rfl) (by rw [Try.params3]; decide +kernel) rfl ⟨rfl, rfl, rfl⟩ hW' hf⟩

theorem tableMakes_holds : Rows.TableMakesSaid :=
  OpenClaim.holds_of_wide 3 Try.f3 rfl rfl rfl rfl rfl rfl rfl ⟨rfl, rfl, rfl, rfl, rfl⟩ rfl rfl rfl rfl rfl (by kernel_rfl) Try.func3 (by kernel_rfl)
    (of_decide_eq_true (by kernel_rfl)) (by unfold Func.isWrapper; first | (rw [if_pos (by decide +kernel)]; kernel_rfl) | (rw [if_neg (by decide +kernel)]; exact ⟨rfl, rfl⟩))
    (fun os started H enc _ => tableMakes_lifted os started H enc)

end Go.Proofs.Ytmlpeafpchpjeaa
