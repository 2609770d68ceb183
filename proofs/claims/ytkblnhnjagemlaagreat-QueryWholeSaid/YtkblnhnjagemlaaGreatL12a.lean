/-
  QueryWhole: its Go text answers true, whatever the input.
-/
import Derived.Test.YtkblnhnjagemlaaGreatL12
import Derived.Test.YtkblnhnjagemlaaGreatQryC
namespace Go.Proofs.YtkblnhnjagemlaaGreat
open Go Go.RowKit Go.ChangeShapes Go.WideShapes Go.ChangeAt Go.Proofs.YtkblnhnjagemlaaGreat.Den
variable {R : Type} {Q : R → World → Prop} {w : World}

/-! ### the plain law: every make by itself, all are found, each once -/
theorem filter_split {α : Type} {p q r : α → Bool} : ∀ {l : List α}, (∀ a ∈ l, (r a).toNat = (p a).toNat + (q a).toNat) → (l.filter r).length = (l.filter p).length + (l.filter q).length
  | [], _ => rfl
  | a :: l, h => by
    have h1 := h a List.mem_cons_self
    have h2 := filter_split (p := p) (q := q) (r := r) fun x hx => h x (List.mem_cons_of_mem a hx)
    simp only [List.filter_cons]
    cases hp : p a <;> cases hq : q a <;> cases hr : r a <;> rw [hp, hq, hr] at h1 <;> simp at h1 <;> simp <;> omega
/-- how many have a make below j. -/
def whN (x : StM) : Nat → Nat
  | 0 => 0
  | j + 1 => whN x j + (withL x (j : Int) (63 - (j : Int))).length
theorem fit_one : ∀ m j : Nat, m < 64 → j < 64 → fitB (m : Int) (j : Int) (63 - (j : Int)) = decide (m = j) := by
  have h : ((List.range 64).all fun m => (List.range 64).all fun j => fitB (m : Int) (j : Int) (63 - (j : Int)) == decide (m = j)) = true := by decide +kernel
  intro m j hm hj
  have := List.all_eq_true.1 (List.all_eq_true.1 h m (List.mem_range.2 hm)) j (List.mem_range.2 hj)
  simpa using this
theorem fit_all : ∀ m : Nat, m < 64 → fitB (m : Int) 0 0 = true := by
  have h : ((List.range 64).all fun m => fitB (m : Int) 0 0) = true := by decide +kernel
  intro m hm
  exact List.all_eq_true.1 h m (List.mem_range.2 hm)
def below (x : StM) (j : Nat) (id : Int) : Bool := match homeT x.tab id with
  | some m => decide (m < j)
  | none => false
theorem home_of {x : StM} (h : StOk x) {id : Int} (hl : x.s.live id = true) : ∃ m, m < 64 ∧ homeT x.tab id = some m ∧ maskN (x.ent id).1.2 = m := by
  obtain ⟨e, he, h2, h3⟩ := h.has_of hl
  obtain ⟨m, i, ha, hm, hv, hh, _⟩ := Has.at h he
  rw [h2] at hh ha
  refine ⟨m, hm, hh, ?_⟩
  unfold StM.ent
  rw [ha]
  exact hv.mask
theorem whN_below {x : StM} (h : StOk x) : ∀ j : Nat, j ≤ 64 → whN x j = (x.s.list.filter (below x j)).length
  | 0, _ => by
    have : x.s.list.filter (below x 0) = [] := by
      rw [List.filter_eq_nil_iff]
      intro a _
      unfold below
      split <;> simp
    rw [this]; rfl
  | j + 1, hj => by
    have h1 := whN_below h j (by omega)
    unfold whN
    rw [h1]
    unfold withL
    refine (filter_split fun id hid => ?_).symm
    obtain ⟨m, hm, hh, _⟩ := home_of h (h.s.mem_list.1 hid)
    unfold below fitE
    rw [hh]
    dsimp only
    rw [fit_one m j hm (by omega)]
    by_cases h1 : m < j
    · simp [h1, show m < j + 1 by omega, show ¬ m = j by omega]
    · by_cases h2 : m = j
      · simp [h2]
      · simp [h1, h2, show ¬ m < j + 1 by omega]
theorem whN_all {x : StM} (h : StOk x) : whN x 64 = x.s.list.length := by
  rw [whN_below h 64 (by omega), List.filter_eq_self.2]
  intro id hid
  obtain ⟨m, hm, hh, _⟩ := home_of h (h.s.mem_list.1 hid)
  unfold below
  rw [hh]
  simpa using hm
theorem withL_all {x : StM} (h : StOk x) : (withL x 0 0).length = x.s.list.length := by
  unfold withL
  rw [List.filter_eq_self.2]
  intro id hid
  obtain ⟨m, hm, hh, _⟩ := home_of h (h.s.mem_list.1 hid)
  unfold fitE
  rw [hh]
  exact fit_all m hm
theorem with_mask {x : StM} (h : StOk x) {j : Nat} (hj : j < 64) {id : Int} (hi : id ∈ withL x (j : Int) (63 - (j : Int))) : maskN (x.ent id).1.2 = j := by
  obtain ⟨m, hm, hh, he⟩ := home_of h (withL_live h hi)
  have h2 : fitE x (j : Int) (63 - (j : Int)) id = true := (List.mem_filter.1 hi).2
  unfold fitE at h2
  rw [hh] at h2
  dsimp only at h2
  rw [fit_one m j hm hj] at h2
  have := of_decide_eq_true h2
  rw [he, this]

theorem law_QueryWhole {W : World} {s : Sl} {raws : List MkRaw} {L : List (List Comp × Bool)} (hS : SlT (Old W) W mkT s raws) (hL : All2 (MkIn W) raws L) (hcap : s.c ≤ maxLen) :
    Calls Tryz.prog 3 #[.slice s.a s.n s.c] W (fun e w' => e = .returned (.bool true) ∧ Fr None W w') := by
  refine calls_of (C_pinnacelaw12_QueryWhole s _ _ W ?_)
  unfold F_pinnacelaw12_QueryWhole
  refine spec_l12_awake fun w1 f1 => condF rfl ?_
  refine spec_l12_fill (SlT.later hS f1) (MkIn.later hL f1) hcap fun b b2 w2 hp f2 => ?_
  generalize fill12 L = x at hp
  obtain ⟨G, H, C, h1, h2, _⟩ := hp
  have ok := (Store.open_ h1).1
  have hlist := ok.s.list_le
  have hwh : ∀ j, j ≤ 64 → whN x j ≤ 1024 := fun j hj => by
    rw [whN_below ok j hj]
    exact Nat.le_trans (List.length_filter_le _ _) hlist
  have f02 := f1.then0 f2
  refine forI (N := 64) (fun s : Int × Int => s.2) (fun j s w' => s = (((whN x j : Nat) : Int), (j : Int)) ∧ Fr None w2 w') ⟨rfl, Fr.refl _ _⟩ (fun j s w' h => by rw [h.1]) ?_ ?_
  · rintro j s3 w3 K' hj ⟨rfl, f3⟩ - hK
    have e63 : IntKind.wrap .u8 (63 - (j : Int)) = 63 - (j : Int) := wu8 (by omega)
    rw [e63]
    refine spec_query_With (Store.st.fr0 h1 f3) fun r w4 o4 f4 => ?_
    have hn := o4.len
    have hle := hwh (j + 1) (by omega)
    have hwj : whN x (j + 1) = whN x j + r.n := by rw [hn]; rfl
    refine forI (N := r.n) (fun s : Int × Int => s.2) (fun i s w' => s = (((whN x j + i : Nat) : Int), (i : Int)) ∧ Fr None w4 w') ⟨rfl, Fr.refl _ _⟩ (fun j s w' h => by rw [h.1]) ?_ ?_
    · rintro i s5 w5 K2 hi ⟨rfl, f5⟩ - hK2
      refine (o4.sl.fr0 f5).get rfl rfl (by omega) fun id hid => ?_
      have hmem := List.mem_of_getElem? hid
      obtain ⟨e1, e2, e3, _⟩ := ok.ent_live3 (withL_live ok hmem)
      have hmask := with_mask ok hj hmem
      refine spec_store_EntM (Store.st.fr0 h1 ((f3.then0 f4).then0 f5)) (withL_id ok hmem) fun sl w6 o6 f6 => ?_
      refine newI fun w7 B7 f7 s7 => stoAll B7 rfl rfl fun w8 B8 f8 s8 => ?_
      have f68 : Fr None w6 w8 := f7.newer f8 fun k e => by omega
      refine joinI (fun z w' => z = false ∧ Fr None w8 w') ?_ fun z w9 ⟨hz, f9⟩ => ?_
      · refine condF (by rw [e2]; rfl) (fldI B8 (i := 1) (x := sl) rfl ?_)
        refine spec_r5_Mask (o6.none f68).sl (by show _ ≤ 1048576; omega) fun w9 f9 => ?_
        exact ⟨by rw [hmask]; simp, f9⟩
      · subst hz
        refine condF rfl (hK2 _ _ ⟨?_, ((f5.then0 f6).then0 f68).then0 f9⟩)
        rw [wsucc hi (by omega), wsucc (N := 1048576) (by omega) (by omega)]
        rfl
    · rintro s5 w5 ⟨rfl, f5⟩
      refine hK _ _ ⟨?_, (f3.then0 f4).then0 f5⟩
      rw [wu8 (by omega), hwj]
      rfl
  · rintro s3 w3 ⟨rfl, f3⟩
    refine joinI (fun z w' => z = true ∧ Fr None w2 w') ?_ fun z w4 ⟨hz, f4⟩ => ⟨by rw [hz], f02.then0 f4⟩
    refine spec_r11_List (R11.st.fr0 h2 f3) fun re raws w4 o4 hE f4 => ?_
    have hel : (entsM x).length = x.s.list.length := by unfold entsM; rw [List.length_map]
    have hrn : re.n = x.s.list.length := by rw [o4.len, hE.len, hel]
    rw [whN_all ok]
    refine condT (by rw [hrn]; simp) (spec_query_Count (Store.st.fr0 h1 (f3.then0 f4)) fun w5 f5 => ⟨?_, (f3.then0 f4).then0 f5⟩)
    rw [withL_all ok]
    simp

/-! ### the row -/
set_option maxRecDepth 100000 in
theorem queryWhole_lifted (os : Os) (started : os.Started) (H : Type) (enc : TypeId × Value → H) :
    ReturnsInHanded {} Tryz.checked os 3 .any (Rows.queryWholeSpec.pre6 enc Tryz.prog Tryz.f3 Rows.queryWholeRow.domain false) (Rows.queryWholeSpec.post enc Tryz.prog Tryz.f3 false true false false) := by
  refine returnsInHanded_of_change (C := Tryz.checked) own_knob started (by kernel_rfl) Tryz.func3
    (ChangeSpec.witness6 (enc := enc) (C := Tryz.checked) false ⟨#[], #[.slice none 0 0], []⟩ 8 (by kernel_rfl) (by kernel_rfl) (by kernel_rfl) (by kernel_rfl)) ?_
  intro W base args ds gs before hval0 hW hcnd _
  have hval : ∀ (j : Nat) t v, Tryz.f3.params[j]? = some t → args[j]? = some v → Value.okWide Tryz.prog W .any base t v := hval0
  have hW' := hW
  obtain ⟨p, q, hA0, hV, rfl, hfz, hnd⟩ := hW
  have hA : DataW.TrodAll enc Tryz.prog W 0 (fun _ => true) true Tryz.f3.params.toList args.toList ds p := hA0
  rw [Tryz.params3] at hA hval
  obtain ⟨v0, d0, rfl, rfl, h0⟩ := trodAll_one hA
  obtain ⟨s0, l0, rfl, S0, c0, e0⟩ := arg_slice makes_arg (hval 0 _ v0 rfl rfl) h0
  obtain ⟨L0, O0⟩ := makes_in fun r hr => e0 r hr
  refine (law_QueryWhole S0 O0 c0).mono fun e W' ⟨he, hf⟩ => ?_
  subst he
  exact ⟨_, rfl, law_post laid_out bool_und (by kernel_rfl) (by rw [Tryz.params3]; decide +kernel) rfl ⟨rfl, rfl, rfl⟩ hW' hf⟩

set_option maxHeartbeats 4000000 in
theorem queryWhole_holds : Rows.QueryWholeSaid :=
  OpenClaim.holds_of_wide 3 Tryz.f3 rfl rfl rfl rfl rfl rfl rfl ⟨rfl, rfl, rfl, rfl, rfl⟩ rfl rfl rfl rfl rfl (by kernel_rfl) Tryz.func3
    (by unfold joinedFacts; repeat' (with_reducible refine band ?_ ?_)
        all_goals first | with_reducible exact laid_out | with_reducible exact maps_rowed | with_reducible exact may_enter | (as_aux_lemma => kernel_rfl))
    (of_decide_eq_true (by kernel_rfl)) (by unfold Func.isWrapper; first | (rw [if_pos (by decide +kernel)]; kernel_rfl) | (rw [if_neg (by decide +kernel)]; exact ⟨rfl, rfl⟩))
    (fun os started H enc _ => queryWhole_lifted os started H enc)

end Go.Proofs.YtkblnhnjagemlaaGreat
