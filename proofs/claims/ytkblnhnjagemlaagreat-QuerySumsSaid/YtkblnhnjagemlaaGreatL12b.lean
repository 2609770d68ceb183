/-
  QuerySums: its Go text answers true, whatever the input.
-/
import Derived.Test.YtkblnhnjagemlaaGreatL12
import Derived.Test.YtkblnhnjagemlaaGreatQryS
namespace Go.Proofs.YtkblnhnjagemlaaGreat
open Go Go.RowKit Go.ChangeShapes Go.WideShapes Go.ChangeAt Go.Proofs.YtkblnhnjagemlaaGreat.Den
variable {R : Type} {Q : R → World → Prop} {w : World} {H : Type} {enc : TypeId × Value → H}

theorem int_und : Tryz.prog.underlying 3 = some (.int .i64) := by kernel_rfl
section
variable {P : Program} {base : Nat} {spare : Nat → Bool} {held : Bool}
theorem trodAll_five {t t' t'' t3 t4 : TypeId} {args : Array Value} {ds : List (DataW H)} {ps : List MemPlace} (h : DataW.TrodAll enc P w base spare held [t, t', t'', t3, t4] args.toList ds ps) :
    ∃ v v' v'' v3 v4 d d' d'' d3 d4 p p' p'' p3 p4, args = #[v, v', v'', v3, v4] ∧ ds = [d, d', d'', d3, d4] ∧ ps = p ++ p' ++ p'' ++ p3 ++ p4 ∧ DataW.Trod enc P w base spare held t v d p ∧ DataW.Trod enc P w base spare held t' v' d' p' ∧ DataW.Trod enc P w base spare held t'' v'' d'' p'' ∧ DataW.Trod enc P w base spare held t3 v3 d3 p3 ∧ DataW.Trod enc P w base spare held t4 v4 d4 p4 := by
  obtain ⟨v, vs, d, ds', p, q, hargs, rfl, rfl, hd, hrest⟩ := trodAll_cons h
  obtain ⟨v', vs', d', ds'', p', q', rfl, rfl, rfl, hd', hrest'⟩ := trodAll_cons hrest
  obtain ⟨v'', vs'', d'', ds''', p'', q'', rfl, rfl, rfl, hd'', hrest''⟩ := trodAll_cons hrest'
  obtain ⟨v3, vs3, d3, ds3, p3, q3, rfl, rfl, rfl, hd3, hrest3⟩ := trodAll_cons hrest''
  obtain ⟨v4, vs4, d4, ds4, p4, q4, rfl, rfl, rfl, hd4, hrest4⟩ := trodAll_cons hrest3
  obtain ⟨rfl, rfl, rfl⟩ := trodAll_nil hrest4
  exact ⟨v, v', v'', v3, v4, d, d', d'', d3, d4, p, p', p'', p3, p4, by cases args; simp_all, rfl, by simp, hd, hd', hd'', hd3, hd4⟩
end

/-! ### the plain law: both find the same one -/
theorem live_big {s : SM} (h : SMOk s) {id : Int} (hl : s.live id = true) : id ≠ 0 := by
  obtain ⟨i, g, h2, _, h3, h4⟩ := live_ex.1 hl
  have := h.old i g h4 (h.unused i h3)
  rw [h2]
  unfold idOf
  omega
theorem near_same {x : StM} (h : StOk x) (px py : Int) : ∀ (l : List Int), (∀ id ∈ l, x.s.live id = true) → ∀ st : Int × Int,
    (l.map (entF x)).foldl (nearE px py) (st.1, st.2, st.1 != 0) = (((l.filter (fitE x 1 0)).foldl (nearS x px py) st).1, ((l.filter (fitE x 1 0)).foldl (nearS x px py) st).2, ((l.filter (fitE x 1 0)).foldl (nearS x px py) st).1 != 0)
  | [], _, st => rfl
  | a :: t, hl, st => by
    have hla := hl a List.mem_cons_self
    have ih := near_same h px py t fun id hid => hl id (List.mem_cons_of_mem a hid)
    have hf : fitE x 1 0 a = [(0 : Int)].all fun k => hasK (x.ent a).1 k := fit2 h (fits_k (k := 0) (by decide)) hla
    have hf : fitE x 1 0 a = hasK (entF x a) 0 := by rw [hf]; simp [entF]
    rw [List.map_cons, List.foldl_cons, List.filter_cons]
    by_cases hk : fitE x 1 0 a = true
    · rw [if_pos hk, List.foldl_cons, ← ih]
      congr 1
      have ha0 := live_big h.s hla
      obtain ⟨e, he, h2, h3⟩ := h.has_of hla
      have ee : entF x a = e := by unfold entF; rw [h3]
      rw [hf] at hk
      have hg := Has.get h he (k := 0) (by rw [← ee]; exact hk)
      rw [h2] at hg
      rw [nearE, if_pos hk, nearS, hg, ee]
      dsimp only
      by_cases h0 : st.1 = 0
      · rw [if_pos (.inl (by simp [h0])), if_pos (.inl h0), h2]
        simp [ha0]
      · by_cases hlt : farM (fieldsOf e.2 0) px py < st.2
        · rw [if_pos (.inr hlt), if_pos (.inr hlt), h2]
          simp [ha0]
        · rw [if_neg (by simp [h0, hlt]), if_neg (by simp [h0, hlt])]
    · rw [if_neg hk, ← ih, nearE, if_neg (by rw [← hf]; exact hk)]
theorem near_both {x : StM} (h : StOk x) (px py : Int) : (entsM x).foldl (nearE px py) (0, 0, false) = (((withL x 1 0).foldl (nearS x px py) (0, 0)).1, ((withL x 1 0).foldl (nearS x px py) (0, 0)).2, ((withL x 1 0).foldl (nearS x px py) (0, 0)).1 != 0) :=
  near_same h px py x.s.list (fun id hid => h.s.mem_list.1 hid) (0, 0)

theorem ents_facts {x : StM} (h : StOk x) : (∀ e ∈ entsM x, ∃ m, Valid m e.2) ∧ (∀ k, ∀ e ∈ entsM x, hasK e k = true → checkM (k, fieldsOf e.2 k) = 0) ∧ (entsM x).length ≤ 1024 := by
  have key : ∀ e ∈ entsM x, Has x e := fun e he => by
    obtain ⟨id, hid, rfl⟩ := List.mem_map.1 he
    obtain ⟨e, h1, h2, h3⟩ := h.has_of (h.s.mem_list.1 hid)
    rw [h3]
    exact h1
  refine ⟨fun e he => ?_, fun k e he hk => Has.field h (key e he) hk, ?_⟩
  · obtain ⟨m, _, _, _, hv, _⟩ := Has.at h (key e he)
    exact ⟨m, hv⟩
  · unfold entsM
    rw [List.length_map]
    exact h.s.list_le

theorem law_QuerySums {W : World} {s : Sl} {raws : List MkRaw} {L : List (List Comp × Bool)} (hS : SlT (Old W) W mkT s raws) (hL : All2 (MkIn W) raws L) (hcap : s.c ≤ maxLen) {k : Int} (hk : 0 ≤ k ∧ k ≤ 255) {i px py : Int} :
    Calls Tryz.prog 4 #[.slice s.a s.n s.c, .int .u8 k, .int .i64 i, .int .i32 px, .int .i32 py] W (fun e w' => e = .returned (.bool true) ∧ Fr None W w') := by
  refine calls_of (C_pinnacelaw12_QuerySums s k i px py _ _ W ?_)
  unfold F_pinnacelaw12_QuerySums
  refine spec_l12_awake fun w1 f1 => condF rfl ?_
  refine spec_l12_fill (SlT.later hS f1) (MkIn.later hL f1) hcap fun b b2 w2 hp f2 => ?_
  generalize fill12 L = x at hp
  obtain ⟨G, H, C, h1, h2, _⟩ := hp
  have ok := (Store.open_ h1).1
  obtain ⟨e1, e2, e3⟩ := ents_facts ok
  refine spec_query_Sum h1 hk fun w3 f3 => ?_
  refine spec_r11_List (R11.st.fr0 h2 f3) fun re raws2 w4 o4 hE4 f4 => ?_
  refine spec_r12_Sum o4 hE4 e1 e2 e3 hk.1 fun w5 f5 => ?_
  have f25 := (f3.then0 f4).then0 f5
  refine spec_query_Nearest (Store.st.fr0 h1 f25) fun w6 f6 => ?_
  refine spec_r11_List (R11.st.fr0 h2 (f25.then0 f6)) fun re2 raws3 w7 o7 hE7 f7 => ?_
  refine spec_r12_Nearest o7 hE7 e1 e3 fun w8 f8 => ?_
  rw [near_both ok]
  refine spec_query_Nearest0 fun w9 f9 => ?_
  have f09 := ((((((f1.then0 f2).then0 f25).then0 f6).then0 f7).then0 f8).then0 f9)
  refine joinI (fun z w' => z = true ∧ Fr None W w') ?_ fun z w' ⟨hz, f⟩ => ⟨by rw [hz], f⟩
  exact condT (by simp) (condT (by simp) (condT (by simp) (condT (by simp) ⟨rfl, f09⟩)))

/-! ### the row -/
set_option maxRecDepth 100000 in
theorem querySums_lifted (os : Os) (started : os.Started) (H : Type) (enc : TypeId × Value → H) :
    ReturnsInHanded {} Tryz.checked os 4 .any (Rows.querySumsSpec.pre6 enc Tryz.prog Tryz.f4 Rows.querySumsRow.domain false) (Rows.querySumsSpec.post enc Tryz.prog Tryz.f4 false true false false) := by
  refine returnsInHanded_of_change (C := Tryz.checked) own_knob started (by kernel_rfl) Tryz.func4
    (ChangeSpec.witness6 (enc := enc) (C := Tryz.checked) false ⟨#[], #[.slice none 0 0, .int .u8 0, .int .i64 0, .int .i32 0, .int .i32 0], []⟩ 8 (by kernel_rfl) (by kernel_rfl) (by kernel_rfl) (by kernel_rfl)) ?_
  intro W base args ds gs before hval0 hW hcnd _
  have hval : ∀ (j : Nat) t v, Tryz.f4.params[j]? = some t → args[j]? = some v → Value.okWide Tryz.prog W .any base t v := hval0
  have hW' := hW
  obtain ⟨p, q, hA0, hV, rfl, hfz, hnd⟩ := hW
  have hA : DataW.TrodAll enc Tryz.prog W 0 (fun _ => true) true Tryz.f4.params.toList args.toList ds p := hA0
  rw [Tryz.params4] at hA hval
  obtain ⟨v0, v1, v2, v3, v4, d0, d1, d2, d3, d4, p0, p1, p2, p3, p4, rfl, rfl, rfl, h0, h1, h2, h3, h4⟩ := trodAll_five hA
  obtain ⟨s0, l0, rfl, S0, c0, e0⟩ := arg_slice makes_arg (hval 0 _ v0 rfl rfl) h0
  obtain ⟨L0, O0⟩ := makes_in fun r hr => e0 r hr
  obtain ⟨a1, rfl, w1⟩ := arg_int u8_und (hval 1 _ v1 rfl rfl) h1
  obtain ⟨a2, rfl, _⟩ := arg_int int_und (hval 2 _ v2 rfl rfl) h2
  obtain ⟨a3, rfl, _⟩ := arg_int i32_und (hval 3 _ v3 rfl rfl) h3
  obtain ⟨a4, rfl, _⟩ := arg_int i32_und (hval 4 _ v4 rfl rfl) h4
  refine (law_QuerySums S0 O0 c0 (wf_u8 w1)   ).mono fun e W' ⟨he, hf⟩ => ?_
  subst he
  exact ⟨_, rfl, law_post laid_out bool_und (by kernel_rfl) (by rw [Tryz.params4]; decide +kernel) rfl ⟨rfl, rfl, rfl⟩ hW' hf⟩

set_option maxHeartbeats 4000000 in
theorem querySums_holds : Rows.QuerySumsSaid :=
  OpenClaim.holds_of_wide 4 Tryz.f4 rfl rfl rfl rfl rfl rfl rfl ⟨rfl, rfl, rfl, rfl, rfl⟩ rfl rfl rfl rfl rfl (by kernel_rfl) Tryz.func4
    (by unfold joinedFacts; repeat' (with_reducible refine band ?_ ?_)
        all_goals first | with_reducible exact laid_out | with_reducible exact maps_rowed | with_reducible exact may_enter | (as_aux_lemma => kernel_rfl))
    (of_decide_eq_true (by kernel_rfl)) (by unfold Func.isWrapper; first | (rw [if_pos (by decide +kernel)]; kernel_rfl) | (rw [if_neg (by decide +kernel)]; exact ⟨rfl, rfl⟩))
    (fun os started H enc _ => querySums_lifted os started H enc)

end Go.Proofs.YtkblnhnjagemlaaGreat
