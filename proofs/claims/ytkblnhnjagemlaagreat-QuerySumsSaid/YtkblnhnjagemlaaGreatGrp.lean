/-
  Store.Groups: the keys of the map of tables, sorted, and who stands in each.
-/
import Derived.Test.YtkblnhnjagemlaaGreatSeq
import Derived.Test.YtkblnhnjagemlaaGreatSort6
import Derived.Test.YtkblnhnjagemlaaGreatFX
import Derived.Test.YtkblnhnjagemlaaGreatDeep
namespace Go.Proofs.YtkblnhnjagemlaaGreat
open Go Go.RowKit Go.Proofs.YtkblnhnjagemlaaGreat.Den
variable {R : Type} {Q : R → World → Prop} {w : World}

abbrev Rk : Value → Option (DataW Unit × List MemPlace) := fun _ => some (.lit (.bool true), [])
theorem Den.MapB.keysD {b : Nat} {f : Int → Option Value} (h : MapB Tryz.prog 5 (Value.int .u8) w b f) (hf : ∀ i v, f i = some v → 0 ≤ i ∧ i < 64) :
    ∃ D0 : DataW Unit, w.ownsMap Tryz.prog 5 Rk b 64 D0 ∧ (∀ x, Go.Maps.has D0 (.int .u8 x) = true ↔ (f x).isSome = true) ∧ Go.Maps.size D0 ≤ 64 := by
  obtain ⟨es, clock, hb, hst, hks, hki, hpw, hff⟩ := h
  have hlen : es.toList.length ≤ 64 := by
    have h1 : (es.toList.map (·.key)).length ≤ ((List.range 64).map fun (n : Nat) => Value.int .u8 (n : Int)).length := List.Nodup.length_le_of_subset hst.2.2 fun k hk => by
      obtain ⟨x, hx, rfl⟩ := List.mem_map.1 hk
      obtain ⟨i, hi⟩ := hki x hx
      obtain ⟨h0, h1⟩ := hf i x.val ((hff i _).2 ⟨x, hx, hi, rfl⟩)
      exact List.mem_map.2 ⟨i.toNat, by simp; omega, by rw [hi]; congr 1; omega⟩
    simpa using h1
  have hrd : ∀ x ∈ es.toList, ∃ i : Int, x.key = .int .u8 i ∧ Go.WideElems.rg Tryz.prog 5 Rk x = (.int .u8 i, .lit (.bool true)) := fun x hx => by
    obtain ⟨l, hl⟩ := hks x hx
    obtain ⟨i, hi, rfl, _⟩ := Seq.Maps.keyOf_u8 u8_und hl
    refine ⟨i, hi, Go.WideElems.rg_of ?_⟩
    simp [Go.WideElems.rd, hl, Rk]
  refine ⟨.map ((es.toList.map (Go.WideElems.rg Tryz.prog 5 Rk)).foldr DataW.insert []), ⟨es, clock, hb, ⟨?_, hst, fun x hx => ?_⟩, ?_, rfl⟩, fun x => ?_, ?_⟩
  · rw [maxLen_eq]; simp at hlen; omega
  · obtain ⟨l, hl⟩ := hks x hx
    exact ⟨_, by simp [Go.WideElems.rd, hl, Rk]; rfl⟩
  · simpa using hlen
  · rw [Go.Maps.has_eq, List.any_eq_true]
    constructor
    · rintro ⟨p, hp, hs⟩
      obtain ⟨e, he, rfl⟩ := List.mem_map.1 (mem_sorted.1 hp)
      obtain ⟨i, hi, hr⟩ := hrd e he
      rw [hr] at hs
      have : i = x := by simpa [Lit.sameKey] using hs
      subst this
      rw [(hff i e.val).2 ⟨e, he, hi, rfl⟩]; rfl
    · intro hs
      obtain ⟨v, hv⟩ := Option.isSome_iff_exists.1 hs
      obtain ⟨e, he, hk, _⟩ := (hff x v).1 hv
      obtain ⟨i, hi, hr⟩ := hrd e he
      have : i = x := by rw [hk] at hi; cases hi; rfl
      subst this
      exact ⟨_, mem_sorted.2 (List.mem_map.2 ⟨e, he, rfl⟩), by rw [hr]; simp [Lit.sameKey]⟩
  · rw [Go.Maps.size_eq, (Go.WideShapes.sorted_perm _).length_eq, List.length_map]; exact hlen

theorem flat_one (l : List Int) : l.flatMap bT.cells = l.map Seq.encB := by
  induction l with
  | nil => rfl
  | cons x r ih => rw [List.flatMap_cons, ih]; rfl

/-- the keys of a map, in whatever order. -/
theorem spec_AppendKeys {b B : Nat} {f : Int → Option Value} (h : MapB Tryz.prog 5 (Value.int .u8) w b f) (hf : ∀ i v, f i = some v → 0 ≤ i ∧ i < 64) {T : TypeId} (hB : Blk w B T [.map (some b)]) {K : Res [.sc .sl] → W R}
    (hk : ∀ s l w', Own (Up w.heap.size) w' 5 bT s l → l.Nodup → (∀ x, x ∈ l ↔ (f x).isSome = true) → l.length ≤ 64 → Fr None w w' → K s Q w') :
    callW Tryz.prog k_slices_AppendSeq_byte [.slice none 0 0, .func (.func k_maps_Keys_Table_c1) #[] #[.pointer (some ⟨B, 0, none⟩)]] [.sc .sl] K Q w := by
  obtain ⟨D0, hown, hhas, hsz⟩ := h.keysD hf
  have hcell : w.cell? ⟨B, 0, none⟩ = some (.map (some b)) := hB.rd (s := .map) (i := 0) (x := some b) rfl
  have hseq := Seq.bk_keys_gives (R := Rk) Fence.wide (3 - 1) trivial rfl (by decide) B b 64 D0 w hB.lt hcell hown
  have := Seq.bk_appendSeq_in Fence.wide 3 trivial rfl (by decide) k_maps_Keys_Table_c1 #[.pointer (some ⟨B, 0, none⟩)] trivial (enters_of Tryz.func209 (by kernel_rfl) rfl)
    (Seq.KeysB D0) (Go.Maps.size D0) (by rw [maxLen_eq]; omega) (by omega) w hseq
  refine (callsIn_wide.1 this).mono fun e w' ⟨v, ss, he, hK, hrow, _, hbl⟩ => ?_
  have hfr : Fr None w w' := ⟨hbl.os, hbl.tape, hbl.output, hbl.size, fun k hk _ => hbl.block k hk⟩
  have hlen : ss.length ≤ 64 := by
    have h1 : ss.length ≤ ((List.range 64).map fun (n : Nat) => (n : Int)).length := List.Nodup.length_le_of_subset hK.1 fun k hk => by
      obtain ⟨v, hv⟩ := Option.isSome_iff_exists.1 ((hhas k).1 ((hK.2 k).1 hk))
      obtain ⟨h0, h1⟩ := hf k v hv
      exact List.mem_map.2 ⟨k.toNat, by simp; omega, by omega⟩
    simpa using h1
  obtain ⟨s, rfl, hs⟩ : ∃ s : Sl, v = s.v ∧ Own (Up w.heap.size) w' 5 bT s ss := by
    rcases hrow.2 with ⟨rfl, h0⟩ | ⟨g, cap, cur, rfl, hg, h3, h4, h5, h6, h7⟩
    · have : ss = [] := List.eq_nil_of_length_eq_zero h0
      subst this
      exact ⟨⟨none, 0, 0⟩, rfl, Own.nil _ _ _ _⟩
    · exact ⟨⟨some ⟨g, 0, none⟩, ss.length, cap⟩, rfl, Own.mk' hg h3 h4 h5 h6 (by rw [flat_one]; exact h7)⟩
  exact ⟨s, he, hk s ss w' hs hK.1 (fun x => (hK.2 x).trans (hhas x)) hlen hfr⟩

/-- .. sorted. -/
theorem spec_SortedKeys {b : Nat} {f : Int → Option Value} (h : MapB Tryz.prog 5 (Value.int .u8) w b f) (hf : ∀ i v, f i = some v → 0 ≤ i ∧ i < 64) {K : Res [.sc .sl] → W R}
    (hk : ∀ s l w', Own (Up w.heap.size) w' 5 bT s l → l.Nodup → (∀ x, x ∈ l ↔ (f x).isSome = true) → l.length ≤ 64 → l.Pairwise (· ≤ ·) → Fr None w w' → K s Q w') :
    callW Tryz.prog k_maps_Keys_Table [.map (some b)] [.sc .raw] (fun v => callW Tryz.prog k_slices_Sorted_byte [v] [.sc .sl] K) Q w := by
  refine C_maps_Keys_Table _ _ _ _ ?_
  unfold F_maps_Keys_Table
  refine newI fun w1 B1 f1 s1 => ?_
  refine C_slices_Sorted_byte _ _ _ _ ?_
  unfold F_slices_Sorted_byte
  refine C_slices_Collect_byte _ _ _ _ ?_
  unfold F_slices_Collect_byte
  refine spec_AppendKeys (h.fr f1 fun h => h) hf B1 fun s l w2 o2 hn hm hl f2 => ?_
  have hs1 := f1.size
  refine spec_Sort o2 (by omega) fun l' w3 o3 hp hpw f3 => ?_
  refine hk s l' w3 (o3.up hs1) (hp.nodup_iff.2 hn) (fun x => (hp.mem_iff).trans (hm x)) (by rw [hp.length_eq]; exact hl) hpw ?_
  exact (f1.then0 f2).newer f3 fun k e => by have : w1.heap.size ≤ k := o2.own k e; omega

/-! ### the groups -/
abbrev grpT : Ty := .agg [.int .u8, .sl]
theorem grps_ty : SlTy Tryz.prog 230 233 grpT 32 := slTy (by kernel_rfl)
def grpO : Rel (Int × Sl) (Int × List Int) := fun F w r g => r.1 = g.1 ∧ Own F w 31 idT r.2 g.2
theorem grpO_st : grpO.st := fun _ _ => fun ⟨h1, h2⟩ f hs => ⟨h1, Own.st h2 f hs⟩
def grpL (T : Nat → List Ent) (l : List Int) : List (Int × List Int) := (l.filter fun m => decide (T m.toNat ≠ [])).map fun m => (m, (T m.toNat).map (·.1))
def groupsM (T : Nat → List Ent) : List (Int × List Int) := grpL T ((List.range 64).map fun (n : Nat) => (n : Int))
theorem grpL_snoc (T : Nat → List Ent) (l : List Int) (m : Int) : grpL T (l ++ [m]) = if T m.toNat ≠ [] then grpL T l ++ [(m, (T m.toNat).map (·.1))] else grpL T l := by
  unfold grpL
  rw [List.filter_append]
  by_cases h : T m.toNat ≠ []
  · rw [if_pos h, List.filter_cons_of_pos (by simpa using h)]; simp
  · rw [if_neg h, List.filter_cons_of_neg (by simpa using h)]; simp
theorem grpL_len (T : Nat → List Ent) (l : List Int) : (grpL T l).length ≤ l.length := by
  unfold grpL; rw [List.length_map]; exact List.length_filter_le _ _
theorem grpL_all {T : Nat → List Ent} {l : List Int} (hn : l.Nodup) (hs : l.Pairwise (· ≤ ·)) (hm : ∀ x : Int, (0 ≤ x ∧ x < 64 ∧ T x.toNat ≠ []) → x ∈ l) (hb : ∀ x ∈ l, 0 ≤ x ∧ x < 64) : grpL T l = groupsM T := by
  unfold groupsM grpL
  congr 1
  refine List.Perm.eq_of_pairwise (le := fun a b => a ≤ b) (fun a b _ _ h1 h2 => Int.le_antisymm h1 h2) (hs.filter _) (List.Pairwise.filter _ ?_) ?_
  · rw [List.pairwise_map]
    exact (List.pairwise_lt_range).imp fun h => by omega
  · refine (List.perm_ext_iff_of_nodup (List.Pairwise.filter _ hn) (List.Pairwise.filter _ ?_)).2 fun x => ?_
    · rw [List.pairwise_map]
      exact (List.pairwise_lt_range).imp fun h => by omega
    · rw [List.mem_filter, List.mem_filter]
      constructor
      · rintro ⟨h1, h2⟩
        obtain ⟨h3, h4⟩ := hb x h1
        exact ⟨List.mem_map.2 ⟨x.toNat, by simp; omega, by omega⟩, h2⟩
      · rintro ⟨h1, h2⟩
        obtain ⟨n, hn, rfl⟩ := List.mem_map.1 h1
        simp at hn
        exact ⟨hm _ ⟨by omega, by omega, by simpa using h2⟩, h2⟩

theorem spec_store_Groups {F : Nat → Prop} {b : Nat} {x : StM} (h : Store b x F w) {K : Res [.sc .sl] → W R}
    (hk : ∀ r raws lab w', DO grpO (t := grpT) 233 (Up w.heap.size) w' r raws (groupsM x.tab) lab → Fr None w w' → K r Q w') :
    callW Tryz.prog k_store_Store_Groups [.pointer (some ⟨b, 0, none⟩)] [.sc .sl] K Q w := by
  obtain ⟨ok, lab, sb, tb, hb, tp, D, hF, hR⟩ := h
  refine C_store_Store_Groups _ K Q w ?_
  unfold F_store_Store_Groups
  refine condF rfl (ptrI (fldI hR.blk.2 (x := some tb) rfl ?_))
  have htf : ∀ i v, tabsF tp D i = some v → 0 ≤ i ∧ i < 64 := fun i v hv => by
    unfold tabsF at hv
    split at hv
    · rename_i h; exact ⟨h.1, h.2.1⟩
    · cases hv
  have hti : ∀ i, (tabsF tp D i).isSome = true ↔ 0 ≤ i ∧ i < 64 ∧ D i.toNat = true := fun i => by
    unfold tabsF
    split
    · rename_i h; simpa using h
    · rename_i h; simpa using h
  refine spec_SortedKeys hR.tabs.2 htf fun s l w1 o1 hn hm hl hs f1 => ?_
  have hs1 := f1.size
  refine rangeI (t := bT) (ok := Up w.heap.size) (l := l) (fun s : Sl × Int => s.2) (fun j st w' => st.2 = (j : Int) ∧ Fr None w1 w' ∧ ∃ raws lab', DO grpO (t := grpT) 233 (Up w1.heap.size) w' st.1 raws (grpL x.tab (l.take j)) lab') rfl ⟨rfl, Fr.refl _ _, [], _, DO.nil _ _⟩ (fun j st w' h => h.1) (fun j st w' hp => o1.sl.fr0 hp.2.1) ?_ ?_
  · rintro j y ⟨out, _⟩ w2 K' hy ⟨rfl, f2, raws, lab', hD⟩ - hK
    have hjl := (List.getElem?_eq_some_iff.1 hy).1
    have hs2 := f2.size
    have R2 := hR.fr0 (f1.then0 f2)
    obtain ⟨h0, h64, hDm⟩ := (hti y).1 ((hm y).1 (List.mem_of_getElem? hy))
    obtain ⟨m, rfl⟩ : ∃ m : Nat, y = (m : Int) := ⟨y.toNat, (Int.toNat_of_nonneg h0).symm⟩
    rw [Int.toNat_natCast] at hDm
    have hm64 : m < 64 := by omega
    refine ptrI (fldI R2.blk.2 (x := some tb) rfl (R2.lookTab hm64 ?_))
    rw [if_pos hDm]
    obtain ⟨lt, hlt, htab⟩ := R2.tab m hm64 hDm
    have hsn := grpL_snoc x.tab (l.take j) (m : Int)
    rw [Int.toNat_natCast, ← take_at hy] at hsn
    have hgl := grpL_len x.tab (l.take j)
    rw [List.length_take] at hgl
    refine spec_tab_Len htab ?_
    refine joinI (fun (z : Sl) w' => Fr None w1 w' ∧ ∃ raws lab', DO grpO (t := grpT) 233 (Up w1.heap.size) w' z raws (grpL x.tab (l.take (j + 1))) lab') ?_ ?_
    · refine condD (fun hp => ?_) fun hp => ?_
      · have hp : ((x.tab m).length : Int) > 0 := hp
        have hne : x.tab m ≠ [] := fun e => by rw [e] at hp; simp at hp
        rw [if_pos hne] at hsn
        rw [hsn]
        refine spec_tab_IDs htab fun r w3 o3 f3 => ?_
        refine hD.app (a := ((m : Int), r)) (b := ((m : Int), (x.tab m).map (·.1))) grps_ty grpO_st f3 (fun k e => Nat.le_trans hs2 e) ⟨rfl, o3⟩ rfl (by omega) (by omega) fun r' lab2 w4 hD4 f4 => ?_
        exact ⟨(f2.then0 f3).newer f4 fun k e => (hD.own.own k e).1, _, lab2, hD4⟩
      · have hp : ¬ ((x.tab m).length : Int) > 0 := hp
        have he : x.tab m = [] := List.eq_nil_of_length_eq_zero (by omega)
        rw [if_neg (fun h => h he)] at hsn
        rw [hsn]
        exact ⟨f2, raws, lab', hD⟩
    · rintro z w3 ⟨f3, raws', lab2, hD3⟩
      exact hK _ _ ⟨wsucc hjl (by omega), f3, raws', lab2, hD3⟩
  · rintro ⟨out, _⟩ w2 ⟨-, f2, raws, lab', hD⟩
    rw [List.take_length] at hD
    have e : grpL x.tab l = groupsM x.tab := grpL_all hn hs (fun y ⟨h1, h2, h3⟩ => (hm y).2 ((hti y).2 ⟨h1, h2, by
      cases hDy : D y.toNat with
      | true => rfl
      | false => exact absurd (hR.no y.toNat (by omega) hDy) h3⟩)) fun y hy => by
        have := (hti y).1 ((hm y).1 hy)
        exact ⟨this.1, this.2.1⟩
    rw [e] at hD
    exact hk out raws lab' w2 (hD.fr grpO_st (Fr.refl None w2) fun k _ e => ⟨fun h => h, Nat.le_trans hs1 e⟩) (f1.then0 f2)
theorem spec_store_Groups0 {K : Res [.sc .sl] → W R} (hk : K ⟨none, 0, 0⟩ Q w) : callW Tryz.prog k_store_Store_Groups [.pointer none] [.sc .sl] K Q w := C_store_Store_Groups _ K Q w hk

end Go.Proofs.YtkblnhnjagemlaaGreat
