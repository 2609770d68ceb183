/-
  TableSwaps: its Go text answers true, whatever the input.
-/
import Derived.Test.YtmlpeafpchpjeaaL10
namespace Go.Proofs.Ytmlpeafpchpjeaa
open Go Go.RowKit Go.ChangeShapes Go.WideShapes Go.ChangeAt Go.Proofs.Ytmlpeafpchpjeaa.Den
variable {R : Type} {Q : R → World → Prop} {w : World}

/-- what is a list of its own, beside a table. -/
abbrev Beside (base : Nat) (lab : Nat → Nat) : Nat → Prop := fun k => base ≤ k ∧ lab k = 0
theorem Den.Own.beside {base : Nat} {lab lab' : Nat → Nat} {w' : World} {E : TypeId} {t : Ty} {s : Sl} {l : List t.T} (h : Own (Beside base lab) w E t s l) (hn : ∀ k, lab' k ≠ 0 → lab k ≠ 0 ∨ w.heap.size ≤ k) (f : Fr (fun k => lab k ≠ 0) w w') :
    Own (Beside base lab') w' E t s l := by
  have h1 : Own (fun k => (base ≤ k ∧ lab k = 0) ∧ lab' k = 0) w E t s l := h.mono fun k hk hb => ⟨hb, by
    by_cases h0 : lab' k = 0
    · exact h0
    · rcases hn k h0 with h | h
      · exact absurd hb.2 h
      · omega⟩
  exact (h1.fr f fun k hk e => e hk.1.2).mono fun k _ hk => ⟨hk.1.1, hk.2⟩

def oneL (id : Int) : List Comp := [(2, id - 1, 0, 0)]
theorem oneL_check {id : Int} (h : 1 ≤ id ∧ id ≤ 40) : checkM (2, id - 1, 0, 0) = 0 := by
  have h1 : inR (2, id - 1, 0, 0) 0 = true := by simp [inR, fieldsM, fl]; omega
  have h2 : inR (2, id - 1, 0, 0) 1 = true := by simp [inR, fieldsM, fl]
  have h3 : inR (2, id - 1, 0, 0) 2 = true := by simp [inR, fieldsM, fl]
  have hc : cntM 2 = 1 := rfl
  have ho : over (2, id - 1, 0, 0) = false := not_over fun i hi hi3 => by
    have hi : 1 ≤ i := hi
    rcases i with _ | _ | _ | i
    · omega
    · rfl
    · rfl
    · omega
  have ha : (List.range 3).all (inR (2, id - 1, 0, 0)) = true := by
    simp only [List.all_eq_true, List.mem_range]
    intro i hi
    rcases i with _ | _ | _ | i
    · exact h1
    · exact h2
    · exact h3
    · omega
  unfold checkM
  rw [if_neg (by rw [hc]; omega), if_neg (by rw [ho]; simp), if_pos ha]
theorem oneL_list {id : Int} (h : 1 ≤ id ∧ id ≤ 40) : listE (oneL id) = 0 := by
  rw [listE_0]
  refine ⟨fun c hc => ?_, by simp [oneL, Rising]⟩
  simp [oneL] at hc
  subst hc
  exact oneL_check h
theorem oneL_mask (id : Int) : maskN (oneL id) = 4 := by
  show orK 0 (2, id - 1, 0, 0) = 4
  rw [orK, if_pos (show (0 : Int) ≤ 2 ∧ (2 : Int) < 6 by omega)]
  show 0 ||| 1 <<< (2 : Int).toNat = 4
  decide
theorem two_mem : (2 : Int) ∈ kindsOf 4 := by decide

structure Ones (L : List Ent) : Prop where
  one : ∀ e ∈ L, e.2 = oneL e.1 ∧ 1 ≤ e.1 ∧ e.1 ≤ 40

theorem law_TableSwaps {W : World} {n : Int} {s : Sl} {l : List Int} (hn : 0 ≤ n ∧ n ≤ 255) (hS : SlT (fun k => k < W.heap.size) W u8T s l) (hl : ∀ x ∈ l, 0 ≤ x ∧ x ≤ 255) (hc : s.c ≤ maxLen) :
    Calls Try.prog 4 #[.int .u8 n, s.v] W (fun e w' => e = .returned (.bool true) ∧ Fr None W w') := by
  have hcap : s.n ≤ 9223372036854775807 := by have := hS.cap; rw [maxLen_eq] at hc; omega
  refine calls_of (C_pinnacelaw10_TableSwaps n s _ _ W ?_)
  unfold F_pinnacelaw10_TableSwaps
  refine spec_l10_awake fun w1 f1 => condF rfl ?_
  refine spec_tab_New (m := 4) (by omega) (fun h64 => by omega) fun lab b w2 h64 h2 hn2 f2 => condF rfl ?_
  have f02 := f1.then0 f2
  have hN : IntKind.wrap .i64 (Int.tmod n 40) = ((n.toNat % 40 : Nat) : Int) := by
    have : Int.tmod n 40 = ((n.toNat % 40 : Nat) : Int) := by
      rw [Int.tmod_eq_emod_of_nonneg hn.1]
      omega
    rw [this, w64 (by omega)]
  rw [hN]
  have hlab0 : ∀ k, lab k ≠ 0 → W.heap.size ≤ k := fun k h => by have := hn2 k h; have := f1.size; omega
  refine forI (N := n.toNat % 40) (fun s : Sl × Int => s.2) (fun j st w' => ∃ (o : Sl) (lab : Nat → Nat) (L : List Ent), st = (o, (j : Int)) ∧ Tab lab w' b 4 L ∧ (∀ k, lab k ≠ 0 → W.heap.size ≤ k) ∧
      Own (Beside W.heap.size lab) w' 23 idT o (L.map (·.1)) ∧ Fr None W w' ∧ Ones L ∧ (∀ e ∈ L, e.1 ≤ (j : Int)) ∧ L.length = j)
    ⟨⟨none, 0, 0⟩, lab, [], rfl, h2, hlab0, Own.nil _ _ _ _, f02, ⟨by simp⟩, by simp, rfl⟩ (fun j s w' h => by obtain ⟨o, lab, L, h, _⟩ := h; rw [h]) ?_ ?_
  · rintro j st w3 K' hj ⟨o, lab, L, rfl, h3, hlab, ho, f3, hone, hmax, hLl⟩ - hK
    have hj40 : j < 40 := by omega
    have e1 : IntKind.wrap .i32 (j : Int) = (j : Int) := w32 (by omega)
    have e2 : IntKind.wrap .i64 ((j : Int) + 1) = ((j + 1 : Nat) : Int) := wsucc hj (by omega)
    have e3 : IntKind.wrap .u32 ((j + 1 : Nat) : Int) = ((j + 1 : Nat) : Int) := wu32 (by omega)
    simp only [e1, e2, e3]
    refine newI fun w4 B4 f4 s4 => ?_
    have hid : (1 : Int) ≤ ((j + 1 : Nat) : Int) ∧ ((j + 1 : Nat) : Int) ≤ 40 := by omega
    have hx : SlT (fun k => k = w3.heap.size) w4 compT ⟨some ⟨w3.heap.size, 0, none⟩, 1, 1⟩ (oneL ((j + 1 : Nat) : Int)) := by
      have : oneL ((j + 1 : Nat) : Int) = [((2 : Int), (j : Int), (0 : Int), (0 : Int))] := by
        unfold oneL
        rw [show ((j + 1 : Nat) : Int) - 1 = (j : Int) by omega]
      rw [this]
      exact (Own.mk' (S := fun k => k = w3.heap.size) (t := compT) (l := [((2 : Int), (j : Int), (0 : Int), (0 : Int))]) rfl B4 (Nat.le_refl _) (by rw [maxLen_eq]; simp) rfl rfl).sl
    have h4 := h3.fr0 f4
    refine spec_tab_Add h4 (id := ((j + 1 : Nat) : Int)) ⟨by omega, by omega⟩ hx (fun k hk => by
      subst hk
      by_cases h : lab w3.heap.size = 0
      · exact h
      · have := h3.lt h; omega) (by simp [oneL]) (fun c hc => by
      simp [oneL] at hc
      subst hc
      exact ⟨⟨by show (0 : Int) ≤ 2; omega, by show (2 : Int) ≤ 255; omega⟩, ⟨by show _ ≤ (j : Int); omega, by show (j : Int) ≤ _; omega⟩, ⟨by show _ ≤ (0 : Int); omega, by show (0 : Int) ≤ _; omega⟩, ⟨by show _ ≤ (0 : Int); omega, by show (0 : Int) ≤ _; omega⟩⟩) (by omega) fun lab5 w5 h5 hn5 f5 => ?_
    have hrow : rowM L ((j + 1 : Nat) : Int) = none := rowM_none.2 fun e he h => by have := hmax e he; omega
    have ha : addM 4 L ((j + 1 : Nat) : Int) (oneL ((j + 1 : Nat) : Int)) = 0 := by
      rw [addM, if_neg (by simpa using oneL_list hid), if_neg (by rw [oneL_mask]; omega), if_neg (by rw [hrow]; simp)]
    rw [ha]
    rw [addT, if_pos ha] at h5
    have hlab5 : ∀ k, lab5 k ≠ 0 → W.heap.size ≤ k := fun k hk => by
      rcases hn5 k hk with h | h
      · exact hlab k h
      · have := f3.size; have := f4.size; omega
    have ho5 := (ho.none f4).beside hn5 f5
    have f05 : Fr None W w5 := (f3.then0 f4).newer f5 hlab
    refine condF rfl ?_
    refine newI fun w6 B6 f6 s6 => ?_
    have h6 := h5.fr0 f6
    have hfresh : lab5 w6.heap.size = 0 := by
      by_cases h : lab5 w6.heap.size = 0
      · exact h
      · have := h6.lt h; omega
    refine app1 (S' := Beside W.heap.size lab5) ids_ty (ho5.none f6) B6 rfl (by rw [List.length_map]; omega) (by rw [maxLen_eq, List.length_map]; omega) (fun _ h => h) ⟨by have := f05.size; have := f6.size; omega, hfresh⟩ fun r w7 o7 f7 s7 => ?_
    have f7' : Fr (fun k => W.heap.size ≤ k ∧ lab5 k = 0) w6 w7 := f7.mono fun k _ e => ho5.own k e
    refine hK _ _ ⟨r, lab5, L ++ [(((j + 1 : Nat) : Int), oneL ((j + 1 : Nat) : Int))], rfl, h6.fr f7' (fun k h e => h e.2), hlab5, by rw [List.map_append]; exact o7, (f05.then0 f6).newer f7' (fun k h => h.1), ⟨fun e he => ?_⟩, fun e he => ?_, by simp [hLl]⟩
    · rcases List.mem_append.1 he with he | he
      · exact hone.one e he
      · simp only [List.mem_singleton] at he; subst he; exact ⟨rfl, hid⟩
    · rcases List.mem_append.1 he with he | he
      · have := hmax e he; omega
      · simp only [List.mem_singleton] at he; subst he; exact Int.le_refl _
  · rintro st w3 ⟨o, lab, L, rfl, h3, hlab, ho, f3, hone, -, -⟩
    refine joinI (fun _ w' => Fr None W w') ?_ fun _ w' f => ⟨rfl, f⟩
    refine forI (N := s.n) (fun s : Sl × Int => s.2) (fun j st w' => ∃ (o : Sl) (L : List Ent), st = (o, (j : Int)) ∧ Tab lab w' b 4 L ∧ Own (Beside W.heap.size lab) w' 23 idT o (L.map (·.1)) ∧ Fr None W w' ∧ Ones L)
      ⟨o, L, rfl, h3, ho, f3, hone⟩ (fun j s w' h => by obtain ⟨o, L, h, _⟩ := h; rw [h]) ?_ ?_
    · clear o L h3 ho f3 hone
      rintro j st w3 K' hj ⟨o, L, rfl, h3, ho, f3, hone⟩ - hK
      have hlen := hS.len
      refine (hS.fr0 f3).get rfl rfl (by omega) fun x hx => ?_
      have hxr := hl x (List.mem_of_getElem? hx)
      have hon : o.n = L.length := by rw [ho.len, List.length_map]
      have hsm := h3.ok.small
      refine condE (fun h0 => f3) fun h0 => ?_
      have hLp : 0 < L.length := by have : (o.n : Int) ≠ 0 := h0; omega
      refine chkI h0 ?_
      have hrow : Int.tmod (IntKind.wrap .i64 x) (o.n : Int) = ((x.toNat % L.length : Nat) : Int) := by
        rw [w64 (by omega), hon, Int.tmod_eq_emod_of_nonneg hxr.1]
        have : x = (x.toNat : Int) := (Int.toNat_of_nonneg hxr.1).symm
        rw [this]
        rfl
      simp only [hrow]
      have hrl : x.toNat % L.length < L.length := Nat.mod_lt _ hLp
      generalize x.toNat % L.length = i at hrl
      obtain ⟨e, he⟩ : ∃ e, L[i]? = some e := ⟨_, List.getElem?_eq_getElem hrl⟩
      have hee := hone.one e (List.mem_of_getElem? he)
      have hmi : (L.map (·.1))[i]? = some e.1 := by rw [List.getElem?_map, he]; rfl
      refine ho.sl.get rfl rfl (by rw [List.length_map]; exact hrl) fun y hy => ?_
      rw [hmi] at hy
      cases hy
      refine spec_tab_Remove h3 ⟨by omega, by omega⟩ (fun hr => by rw [rowM_at h3.ok.nodup he] at hr; cases hr) fun i' e' sl w4 hr he' h4 o4 f4 => ?_
      rw [rowM_at h3.ok.nodup he] at hr
      cases hr
      rw [he] at he'
      cases he'
      have ho4 := ho.beside (lab' := lab) (fun k h => .inl h) f4
      have f04 : Fr None W w4 := f3.newer f4 hlab
      have hsl : sl.n = 1 := by rw [o4.len, hee.1]; rfl
      have i32id : IntKind.wrap .i64 (e.1 - 1) = e.1 - 1 := w64 (by omega)
      refine joinI (fun z w' => z = false ∧ w' = w4.drew) ?_ ?_
      · refine condF rfl ?_
        refine condN (fun h => absurd (show (sl.n : Int) = 1 by omega) h) fun _ => ?_
        have o4d := o4.none (Fr.refl None w4).drew
        refine o4d.sl.idx rfl (by omega) (by rw [hee.1]; simp [oneL]) fun a c hc hrd => ?_
        have hce : c = (2, e.1 - 1, 0, 0) := by rw [hee.1] at hc; simpa [oneL] using hc.symm
        subst hce
        refine idxA (by omega) (by omega) ?_
        rw [addA]
        refine hrd.fld (y := e.1 - 1) rfl ?_
        have ho4d := ho4.none (Fr.refl None w4).drew
        refine ho4d.sl.get rfl rfl (by rw [List.length_map]; exact hrl) fun y hy => ?_
        rw [hmi] at hy
        cases hy
        refine ⟨?_, rfl⟩
        simp only [w64 (x := e.1) (by omega), i32id]
        simp
      · rintro z w5 ⟨rfl, rfl⟩
        refine condF rfl ?_
        have fd : Fr None w4 w4.drew := (Fr.refl _ _).drew
        have h5 := h4.fr0 fd
        have ho5 := ho4.none fd
        have hlast : IntKind.wrap .i64 ((o.n : Int) - 1) = ((L.length - 1 : Nat) : Int) := by rw [w64 (by omega)]; omega
        simp only [hlast]
        obtain ⟨z, hz⟩ : ∃ z, L[L.length - 1]? = some z := ⟨_, List.getElem?_eq_getElem (by omega)⟩
        have hmz : (L.map (·.1))[(L.map (·.1)).length - 1]? = some z.1 := by rw [List.length_map, List.getElem?_map, hz]; rfl
        refine ho5.sl.get (j := L.length - 1) rfl rfl (by rw [List.length_map]; omega) fun y hy => ?_
        rw [← List.length_map (f := fun e : Ent => e.1), hmz] at hy
        cases hy
        refine ho5.idx rfl (by omega) (by rw [List.length_map]; omega) fun g _ hg _ _ => ?_
        rw [Int.toNat_natCast]
        refine ho5.set rfl (by rw [List.length_map]; exact hrl) hg z.1 fun w6 o6 f6 s6 => ?_
        have f6' : Fr (Beside W.heap.size lab) w4.drew w6 := f6.mono fun k _ e => ho5.own k e
        have h6 := h5.fr f6' (fun k h e => h e.2)
        have f06 : Fr None W w6 := (f04.then0 fd).newer f6' fun k h => h.1
        have o7 := o6.take (n := L.length - 1) (by rw [List.length_set, List.length_map]; omega)
        have hdrop : (List.set (L.map (·.1)) i z.1).take (L.length - 1) = (dropI L i).map (·.1) := by
          rw [dropI_map, dropI_eq hmz, List.length_map]
        rw [hdrop] at o7
        refine chkI (by have := ho.cap; simp only [Option.getD_some, Option.getD_none]; omega) ?_
        have hsl2 : (⟨if o.c = (Option.getD (none : Option Int) 0).toNat then o.a else o.a.map (·.add ((Option.getD (none : Option Int) 0).toNat * 1)), (Option.getD (some ((L.length - 1 : Nat) : Int)) (o.n : Int)).toNat - (Option.getD (none : Option Int) 0).toNat, o.c - (Option.getD (none : Option Int) 0).toNat⟩ : Sl) = ⟨o.a, L.length - 1, o.c⟩ := by
          simp only [Option.getD_some, Option.getD_none]
          congr 1
          split
          · rfl
          · cases o.a with
            | none => rfl
            | some a => simp [Addr.add]
        rw [hsl2]
        refine spec_tab_IDs h6 fun r w8 o8 f8 => ?_
        have o78 := o7.none f8
        have hsm2 : Small ((dropI L i).map (·.1)) := by rw [Small, List.length_map, dropI_len]; omega
        refine spec_r7_Same o8.sl o78.sl hsm2 fun w9 f9 => ?_
        rw [decide_eq_true rfl]
        refine condF rfl ?_
        have f89 := f8.then0 f9
        have o9 := o7.none f89
        have h9 := h6.fr0 f89
        have hone' : Ones (dropI L i) := ⟨fun e he => hone.one e (dropI_mem he)⟩
        refine forI (N := L.length - 1) (fun s : Int => s) (fun j s w' => s = (j : Int) ∧ Fr None w9 w') ⟨rfl, Fr.refl _ _⟩ (fun j s w' h => h.1) ?_ ?_
        · rintro q st w10 K2 hq ⟨rfl, f10⟩ - hK2
          have o10 := o9.none f10
          have h10 := h9.fr0 f10
          obtain ⟨e2, he2⟩ : ∃ e2, (dropI L i)[q]? = some e2 := ⟨_, List.getElem?_eq_getElem (by rw [dropI_len]; exact hq)⟩
          have hee2 := hone'.one e2 (List.mem_of_getElem? he2)
          refine o10.sl.get rfl rfl (by rw [List.length_map, dropI_len]; exact hq) fun y hy => ?_
          have : y = e2.1 := by rw [List.getElem?_map, he2] at hy; exact (Option.some.inj hy).symm
          subst this
          refine spec_tab_Get h10 ⟨by omega, by omega⟩ fun w11 f11 => ?_
          have hget : getM 4 (dropI L i) e2.1 2 = ((2, e2.1 - 1, 0, 0), 0) := by
            unfold getM
            rw [rowM_at h10.ok.nodup he2]
            simp only [if_pos two_mem]
            rw [compM_at he2, hee2.1]
            rfl
          rw [hget]
          refine locI rfl rfl fun w12 B12 f12 s12 => ?_
          refine joinI (fun z w' => z = false ∧ w' = w12) ?_ ?_
          · refine condF rfl ?_
            rw [add_lit]
            refine idxB (by omega) (by omega) ?_
            refine fld0 B12 (x := e2.1 - 1) rfl ?_
            refine ⟨?_, rfl⟩
            simp only [w64 (x := e2.1) (by omega), w64 (x := e2.1 - 1) (by omega)]
            simp
          · rintro z w13 ⟨rfl, rfl⟩
            exact condF rfl (hK2 _ _ ⟨wsucc hq (by omega), (f10.then0 f11).then0 f12⟩)
        · rintro st w10 ⟨rfl, f10⟩
          exact hK _ _ ⟨⟨o.a, L.length - 1, o.c⟩, dropI L i, by rw [wsucc hj hcap], h9.fr0 f10, o9.none f10, (f06.then0 f89).then0 f10, hone'⟩
    · rintro st w4 ⟨o, L, rfl, h4, ho, f4, hone⟩
      exact f4

/-! ### the row -/
set_option maxRecDepth 100000 in
theorem tableSwaps_lifted (os : Os) (started : os.Started) (H : Type) (enc : TypeId × Value → H) :
    ReturnsInHanded {} Try.checked os 4 .any (Rows.tableSwapsSpec.pre6 enc Try.prog Try.f4 Rows.tableSwapsRow.domain false) (Rows.tableSwapsSpec.post enc Try.prog Try.f4 false true false false) := by
  refine returnsInHanded_of_change (C := Try.checked) own_knob started (by kernel_rfl) Try.func4
    (ChangeSpec.witness6 (enc := enc) (C := Try.checked) false ⟨#[], #[.int .u8 0, .slice none 0 0], []⟩ 8 (by kernel_rfl) (by kernel_rfl) (by kernel_rfl) (by kernel_rfl)) ?_
  intro W base args ds gs before hval0 hW hcnd _
  have hval : ∀ (j : Nat) t v, Try.f4.params[j]? = some t → args[j]? = some v → Value.okWide Try.prog W .any base t v := hval0
  have hW' := hW
  obtain ⟨p, q, hA0, hV, rfl, hfz, hnd⟩ := hW
  have hA : DataW.TrodAll enc Try.prog W 0 (fun _ => true) true Try.f4.params.toList args.toList ds p := hA0
  rw [Try.params4] at hA hval
  obtain ⟨v0, v1, d0, d1, p0, p1, rfl, rfl, rfl, h0, h1⟩ := trodAll_two hA
  obtain ⟨a0, rfl, w0⟩ := arg_int u8_und (hval 0 _ v0 rfl rfl) h0
  obtain ⟨s1, l1, rfl, S1, c1, e1⟩ := arg_slice bytes_arg (hval 1 _ v1 rfl rfl) h1
  refine (law_TableSwaps (wf_u8 w0) S1 (fun c hc => byte_ok (e1 c hc)) c1).mono fun e W' ⟨he, hf⟩ => ?_
  subst he
  exact ⟨_, rfl, law_post laid_out bool_und (by kernel_rfl) (by rw [Try.params4]; decide +kernel) rfl ⟨rfl, rfl, rfl⟩ hW' hf⟩

theorem tableSwaps_holds : Rows.TableSwapsSaid :=
  OpenClaim.holds_of_wide 4 Try.f4 rfl rfl rfl rfl rfl rfl rfl ⟨rfl, rfl, rfl, rfl, rfl⟩ rfl rfl rfl rfl rfl (by kernel_rfl) Try.func4 (by kernel_rfl)
    (of_decide_eq_true (by kernel_rfl)) (by unfold Func.isWrapper; first | (rw [if_pos (by decide +kernel)]; kernel_rfl) | (rw [if_neg (by decide +kernel)]; exact ⟨rfl, rfl⟩))
    (fun os started H enc _ => tableSwaps_lifted os started H enc)

end Go.Proofs.Ytmlpeafpchpjeaa
