/-
  TableSets: its Go text answers true, whatever the input.
-/
import Derived.Test.YtmlpeafpchpjeaaL10
namespace Go.Proofs.Ytmlpeafpchpjeaa
open Go Go.RowKit Go.ChangeShapes Go.WideShapes Go.ChangeAt Go.Proofs.Ytmlpeafpchpjeaa.Den
variable {R : Type} {Q : R → World → Prop} {w : World}

def twoL (i : Nat) : List Comp := [(2, (i : Int), 0, 0), (4, 0, 0, 0)]
def tabL (j : Nat) : List Ent := (List.range j).map fun i => (((i + 1 : Nat) : Int), twoL i)
theorem tabL_len (j : Nat) : (tabL j).length = j := by simp [tabL]
theorem tabL_succ (j : Nat) : tabL (j + 1) = tabL j ++ [(((j + 1 : Nat) : Int), twoL j)] := by simp [tabL, List.range_succ]
theorem tabL_at {j i : Nat} (h : i < j) : (tabL j)[i]? = some (((i + 1 : Nat) : Int), twoL i) := by simp [tabL, h]
theorem tabL_mem {j : Nat} {e : Ent} (h : e ∈ tabL j) : 1 ≤ e.1 ∧ e.1 ≤ (j : Int) := by
  simp only [tabL, List.mem_map, List.mem_range] at h
  obtain ⟨i, hi, rfl⟩ := h
  simp only []
  omega
theorem kinds20 : kindsOf 20 = [2, 4] := by decide
theorem two_check {i : Nat} (h : i < 20) : checkM (2, (i : Int), 0, 0) = 0 := by
  have hc : cntM 2 = 1 := rfl
  have ho : over (2, (i : Int), 0, 0) = false := not_over fun q hi hi3 => by
    have hi : 1 ≤ q := hi
    rcases q with _ | _ | _ | q
    · omega
    · rfl
    · rfl
    · omega
  have ha : (List.range 3).all (inR (2, (i : Int), 0, 0)) = true := by
    simp only [List.all_eq_true, List.mem_range]
    intro q hq
    rcases q with _ | _ | _ | q
    · simp [inR, fieldsM, fl]; omega
    · simp [inR, fieldsM, fl]
    · simp [inR, fieldsM, fl]
    · omega
  unfold checkM
  rw [if_neg (by rw [hc]; omega), if_neg (by rw [ho]; simp), if_pos ha]
theorem two_list {i : Nat} (h : i < 20) : listE (twoL i) = 0 := by
  rw [listE_0]
  refine ⟨fun c hc => ?_, by simp [twoL, Rising]⟩
  simp only [twoL, List.mem_cons, List.not_mem_nil, or_false] at hc
  rcases hc with rfl | rfl
  · exact two_check h
  · decide
theorem two_mask (i : Nat) : maskN (twoL i) = 20 := by
  show orK (orK 0 (2, (i : Int), 0, 0)) (4, 0, 0, 0) = 20
  rw [orK, if_pos (show (0 : Int) ≤ 4 ∧ (4 : Int) < 6 by omega), orK, if_pos (show (0 : Int) ≤ 2 ∧ (2 : Int) < 6 by omega)]
  show (0 ||| 1 <<< (2 : Int).toNat) ||| 1 <<< (4 : Int).toNat = 20
  decide
theorem two_ok {i : Nat} (h : i < 20) : ∀ c ∈ twoL i, CompOk c := by
  intro c hc
  simp only [twoL, List.mem_cons, List.not_mem_nil, or_false] at hc
  have z : i32 0 := ⟨by omega, by omega⟩
  rcases hc with rfl | rfl
  · exact ⟨⟨by show (0 : Int) ≤ 2; omega, by show (2 : Int) ≤ 255; omega⟩, ⟨by show _ ≤ (i : Int); omega, by show (i : Int) ≤ _; omega⟩, z, z⟩
  · exact ⟨⟨by show (0 : Int) ≤ 4; omega, by show (4 : Int) ≤ 255; omega⟩, z, z, z⟩
theorem two_sl {b i : Nat} (B : Blk w b 40 [.int .u8 2, .int .i32 (i : Int), .int .i32 0, .int .i32 0, .int .u8 4, .int .i32 0, .int .i32 0, .int .i32 0]) : SlT (fun k => k = b) w compT ⟨some ⟨b, 0, none⟩, 2, 2⟩ (twoL i) :=
  (Own.mk' (S := fun k => k = b) (t := compT) (l := twoL i) rfl B (Nat.le_refl _) (by rw [maxLen_eq]; simp [twoL]) rfl rfl).sl

theorem law_TableSets {W : World} {n at_ : Int} {c : Comp} (hn : 0 ≤ n ∧ n ≤ 255) (ha : 0 ≤ at_ ∧ at_ ≤ 255) (hc : CompOk c) :
    Calls Try.prog 5 #[.int .u8 n, .int .u8 at_, .agg ⟨compC c⟩] W (fun e w' => e = .returned (.bool true) ∧ Fr None W w') := by
  refine calls_of (C_pinnacelaw10_TableSets n at_ c _ _ W ?_)
  unfold F_pinnacelaw10_TableSets
  have hK : IntKind.wrap .i64 (1 + (IntKind.wrap .i64 (Int.tmod n 20))) = ((1 + n.toNat % 20 : Nat) : Int) := by
    have : Int.tmod n 20 = ((n.toNat % 20 : Nat) : Int) := by rw [Int.tmod_eq_emod_of_nonneg hn.1]; omega
    rw [this, w64 (x := ((n.toNat % 20 : Nat) : Int)) (by omega), w64 (by omega)]
    omega
  simp only [hK]
  have hk20 : 1 + n.toNat % 20 ≤ 20 := by omega
  have hk0 : 1 ≤ 1 + n.toNat % 20 := by omega
  generalize 1 + n.toNat % 20 = k at hk20 hk0
  have hI : IntKind.wrap .u32 (IntKind.wrap .i64 ((Int.tmod (IntKind.wrap .i64 at_) (k : Int)) + 1)) = ((at_.toNat % k + 1 : Nat) : Int) := by
    have h1 : IntKind.wrap .i64 at_ = ((at_.toNat : Nat) : Int) := by rw [w64 (by omega)]; omega
    have h2 : Int.tmod ((at_.toNat : Nat) : Int) (k : Int) = ((at_.toNat % k : Nat) : Int) := rfl
    have h3 : at_.toNat % k < k := Nat.mod_lt _ (by omega)
    rw [h1, h2, w64 (by omega), wu32 (by omega)]
    rfl
  simp only [hI]
  have hr : at_.toNat % k < k := Nat.mod_lt _ (by omega)
  generalize at_.toNat % k = r at hr
  refine newI fun w0 B0 f0 s0 => ?_
  refine spec_l10_awake fun w1 f1 => condF rfl ?_
  refine spec_tab_New (m := 20) (by omega) (fun h64 => by omega) fun lab b w2 h64 h2 hn2 f2 => condF rfl ?_
  have f02 := (f0.then0 f1).then0 f2
  have hlab0 : ∀ q, lab q ≠ 0 → w0.heap.size ≤ q := fun q h => by have := hn2 q h; have := f1.size; omega
  have f0w2 := f1.then0 f2
  refine forI (N := k) (fun s : Int => s) (fun j st w' => st = (j : Int) ∧ ∃ (lab : Nat → Nat), Tab lab w' b 20 (tabL j) ∧ (∀ q, lab q ≠ 0 → w0.heap.size ≤ q) ∧ Fr None w0 w')
    ⟨rfl, lab, h2, hlab0, f0w2⟩ (fun j s w' h => h.1) ?_ ?_
  · rintro j st w3 K' hj ⟨rfl, lab, h3, hlab, f3⟩ - hK2
    have e1 : IntKind.wrap .i32 (j : Int) = (j : Int) := w32 (by omega)
    have e2 : IntKind.wrap .i64 ((j : Int) + 1) = ((j + 1 : Nat) : Int) := wsucc hj (by omega)
    have e3 : IntKind.wrap .u32 ((j + 1 : Nat) : Int) = ((j + 1 : Nat) : Int) := wu32 (by omega)
    simp only [e1, e2, e3]
    refine newI fun w4 B4 f4 s4 => ?_
    refine spec_tab_Add (h3.fr0 f4) (id := ((j + 1 : Nat) : Int)) ⟨by omega, by omega⟩ (two_sl B4) (fun q hq => by
      subst hq
      by_cases h : lab w3.heap.size = 0
      · exact h
      · have := h3.lt h; omega) (by simp [twoL]) (two_ok (by omega)) (by rw [tabL_len]; omega) fun lab5 w5 h5 hn5 f5 => ?_
    have hrow : rowM (tabL j) ((j + 1 : Nat) : Int) = none := rowM_none.2 fun e he h => by have := tabL_mem he; omega
    have hadd : addM 20 (tabL j) ((j + 1 : Nat) : Int) (twoL j) = 0 := by
      rw [addM, if_neg (by simpa using two_list (i := j) (by omega)), if_neg (by rw [two_mask]; omega), if_neg (by rw [hrow]; simp)]
    rw [hadd]
    rw [addT, if_pos hadd, ← tabL_succ] at h5
    refine condF rfl (hK2 _ _ ⟨rfl, lab5, h5, fun q hq => ?_, (f3.then0 f4).newer f5 hlab⟩)
    rcases hn5 q hq with h | h
    · exact hlab q h
    · have := f3.size; have := f4.size; omega
  · rintro st w3 ⟨rfl, lab, h3, hlab, f3⟩
    refine chkI (by omega) ?_
    refine aggI (B0.fr f3 (fun h => h)) (x := c) rfl ?_
    refine spec_tab_Set h3 (id := ((r + 1 : Nat) : Int)) ⟨by omega, by omega⟩ fun w4 h4 f4 => ?_
    have f04 : Fr None w0 w4 := f3.newer f4 hlab
    have hrow : rowM (tabL k) ((r + 1 : Nat) : Int) = some r := rowM_at (e := (((r + 1 : Nat) : Int), twoL r)) h3.ok.nodup (tabL_at hr)
    have hf : setM 20 (tabL k) ((r + 1 : Nat) : Int) c = if checkM c ≠ 0 then checkM c else if c.1 ∈ kindsOf 20 then 0 else 10 := by rw [setM, hrow]
    have hL : ∀ j, j < k → (setT 20 (tabL k) ((r + 1 : Nat) : Int) c)[j]? = some (((j + 1 : Nat) : Int), if j = r ∧ setM 20 (tabL k) ((r + 1 : Nat) : Int) c = 0 then withM (twoL j) c else twoL j) := by
      intro j hj
      unfold setT
      by_cases h0 : setM 20 (tabL k) ((r + 1 : Nat) : Int) c = 0
      · rw [if_pos h0, hrow]
        show (setL (tabL k) r c)[j]? = _
        rw [setL_eq (tabL_at hr), List.getElem?_set]
        by_cases hjr : r = j
        · subst hjr
          rw [if_pos rfl, if_pos (by rw [tabL_len]; exact hr), if_pos ⟨rfl, h0⟩]
        · rw [if_neg hjr, if_neg (fun h => hjr h.1.symm), tabL_at hj]
      · rw [if_neg h0, if_neg (fun h => h0 h.2), tabL_at hj]
    have hLl : (setT 20 (tabL k) ((r + 1 : Nat) : Int) c).length = k := by
      unfold setT
      split
      · rw [setL_len, tabL_len]
      · exact tabL_len k
    generalize hfz : setM 20 (tabL k) ((r + 1 : Nat) : Int) c = f at hf hL
    generalize setT 20 (tabL k) ((r + 1 : Nat) : Int) c = L at h4 hL hLl
    refine forI (N := k) (fun s : Int => s) (fun j st w' => st = (j : Int) ∧ Fr None w4 w') ⟨rfl, Fr.refl _ _⟩ (fun j s w' h => h.1) ?_ ?_
    · rintro j st w5 K' hj ⟨rfl, f5⟩ - hK2
      have e1 : IntKind.wrap .i32 (j : Int) = (j : Int) := w32 (by omega)
      have e2 : IntKind.wrap .i64 ((j : Int) + 1) = ((j + 1 : Nat) : Int) := wsucc hj (by omega)
      have e3 : IntKind.wrap .u32 ((j + 1 : Nat) : Int) = ((j + 1 : Nat) : Int) := wu32 (by omega)
      simp only [e1, e2, e3]
      refine spec_tab_At (h4.fr0 f5) (fun h => by omega) fun j' e sl w6 hj' he o6 f6 => ?_
      have : j' = j := by omega
      subst this
      rw [hL j' hj] at he
      cases he
      refine locI rfl rfl fun w7 B7 f7 s7 => ?_
      refine newI fun w8 B8 f8 s8 => ?_
      have B78 := B7.fr f8 (fun h => h)
      have f58 := (f6.then0 f7).then0 f8
      have B08 := ((B0.fr f04 (fun h => h)).fr f5 (fun h => h)).fr f58 (fun h => h)
      refine joinI (fun z w' => z = decide (j' = r ∧ f = 0) ∧ w' = w8) ?_ ?_
      · refine fldI B78 (x := ((j' + 1 : Nat) : Int)) rfl ?_
        refine condE (fun h => ⟨?_, rfl⟩) fun h => ⟨?_, rfl⟩
        · have : j' = r := by omega
          simp [this]
          rfl
        · have : ¬ j' = r := fun h2 => h (by rw [h2])
          simp [this]
      · rintro z w9 ⟨rfl, rfl⟩
        refine joinI (fun sl2 w' => ∃ ok, SlT ok w' compT sl2 (if j' = r ∧ f = 0 then withM (twoL j') c else twoL j') ∧ Fr None w9 w') ?_ ?_
        · refine condD (fun h => ?_) fun h => ?_
          · refine aggI B08 (x := c) rfl ?_
            refine spec_r5_With (s := ⟨some ⟨w7.heap.size, 0, none⟩, 2, 2⟩) (two_sl B8) (by simp [twoL]) fun r2 w10 o10 f10 => ?_
            rw [if_pos h]
            exact ⟨_, o10.sl, f10⟩
          · rw [if_neg h]
            exact ⟨_, two_sl B8, Fr.refl _ _⟩
        · rintro sl2 w10 ⟨ok, hs2, f10⟩
          have B10 := B78.fr f10 (fun h => h)
          refine joinI (fun z w' => z = false ∧ Fr None w10 w') ?_ ?_
          · refine condF rfl ?_
            refine fldI B10 (x := ((j' + 1 : Nat) : Int)) rfl ?_
            refine condN (fun h => absurd rfl h) fun _ => ?_
            refine fldI B10 (x := sl) rfl ?_
            have hs1 := (o6.none ((f7.then0 f8).then0 f10)).sl
            refine spec_r5_Same hs1 hs2 ?_ fun w11 f11 => ?_
            · have := hs1.len
              have h2 := ((h4.ok.valid _ (List.mem_of_getElem? (hL j' hj)))).small
              exact Nat.le_trans h2 (by omega)
            · exact ⟨by simp, f11⟩
          · rintro z w11 ⟨rfl, f11⟩
            exact condF rfl (hK2 _ _ ⟨rfl, ((f5.then0 f58).then0 f10).then0 f11⟩)
    · rintro st w5 ⟨rfl, f5⟩
      have B5 := (B0.fr f04 (fun h => h)).fr f5 (fun h => h)
      have f05 := (f0.then0 f04).then0 f5
      refine joinI (fun z w' => z = true ∧ Fr None W w') ?_ fun z w' ⟨hz, hf⟩ => ⟨hz, hf⟩
      refine aggI B5 (x := c) rfl ?_
      refine spec_r5_Check (c := c) hc.1.1 fun w6 f6 => ?_
      have B6 := B5.fr f6 (fun h => h)
      have f06 := f05.then0 f6
      rw [kinds20] at hf
      refine condE (fun h0 => ?_) fun h0 => ?_
      · rw [if_neg (by simpa using h0)] at hf
        refine fldI B6 (x := c.1) rfl ?_
        refine condE (fun h2 => ?_) fun h2 => ?_
        · rw [if_pos (by simp [h2])] at hf
          exact ⟨by rw [hf]; rfl, f06⟩
        · refine fldI B6 (x := c.1) rfl ?_
          refine ⟨?_, f06⟩
          by_cases h4 : c.1 = 4
          · rw [if_pos (by simp [h4])] at hf
            rw [hf, h4]; rfl
          · rw [if_neg (by simp [h2, h4])] at hf
            have : (c.1 == 4) = false := by simpa using h4
            rw [hf, this]; rfl
      · rw [if_pos h0] at hf
        refine ⟨?_, f06⟩
        have : (f == 0) = false := by rw [hf]; simpa using h0
        rw [this]; rfl

/-! ### the row -/
set_option maxRecDepth 100000 in
theorem tableSets_lifted (os : Os) (started : os.Started) (H : Type) (enc : TypeId × Value → H) :
    ReturnsInHanded {} Try.checked os 5 .any (Rows.tableSetsSpec.pre6 enc Try.prog Try.f5 Rows.tableSetsRow.domain false) (Rows.tableSetsSpec.post enc Try.prog Try.f5 false true false false) := by
  refine returnsInHanded_of_change (C := Try.checked) own_knob started (by kernel_rfl) Try.func5
    (ChangeSpec.witness6 (enc := enc) (C := Try.checked) false ⟨#[], #[.int .u8 0, .int .u8 0, .agg #[.int .u8 0, .int .i32 0, .int .i32 0, .int .i32 0]], []⟩ 8 (by kernel_rfl) (by kernel_rfl) (by kernel_rfl) (by kernel_rfl)) ?_
  intro W base args ds gs before hval0 hW hcnd _
  have hval : ∀ (j : Nat) t v, Try.f5.params[j]? = some t → args[j]? = some v → Value.okWide Try.prog W .any base t v := hval0
  have hW' := hW
  obtain ⟨p, q, hA0, hV, rfl, hfz, hnd⟩ := hW
  have hA : DataW.TrodAll enc Try.prog W 0 (fun _ => true) true Try.f5.params.toList args.toList ds p := hA0
  rw [Try.params5] at hA hval
  obtain ⟨v0, v1, v2, d0, d1, d2, p0, p1, p2, rfl, rfl, rfl, h0, h1, h2⟩ := trodAll_three hA
  obtain ⟨a0, rfl, w0⟩ := arg_int u8_und (hval 0 _ v0 rfl rfl) h0
  obtain ⟨a1, rfl, w1⟩ := arg_int u8_und (hval 1 _ v1 rfl rfl) h1
  obtain ⟨x2, rfl, e2⟩ := arg_agg comp_arg (hval 2 _ v2 rfl rfl) h2
  refine (law_TableSets (wf_u8 w0) (wf_u8 w1) (comp_ok e2)).mono fun e W' ⟨he, hf⟩ => ?_
  subst he
  exact ⟨_, rfl, law_post laid_out bool_und (by kernel_rfl) (by rw [Try.params5]; decide +kernel) rfl ⟨rfl, rfl, rfl⟩ hW' hf⟩

theorem tableSets_holds : Rows.TableSetsSaid :=
  OpenClaim.holds_of_wide 5 Try.f5 rfl rfl rfl rfl rfl rfl rfl ⟨rfl, rfl, rfl, rfl, rfl⟩ rfl rfl rfl rfl rfl (by kernel_rfl) Try.func5 (by kernel_rfl)
    (of_decide_eq_true (by kernel_rfl)) (by unfold Func.isWrapper; first | (rw [if_pos (by decide +kernel)]; kernel_rfl) | (rw [if_neg (by decide +kernel)]; exact ⟨rfl, rfl⟩))
    (fun os started H enc _ => tableSets_lifted os started H enc)

end Go.Proofs.Ytmlpeafpchpjeaa
