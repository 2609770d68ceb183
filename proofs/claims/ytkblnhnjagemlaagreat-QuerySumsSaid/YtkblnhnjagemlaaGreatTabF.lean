/-
  What the exported functions of the program's package table compute.
-/
import Derived.Test.YtkblnhnjagemlaaGreatTab
namespace Go.Proofs.YtkblnhnjagemlaaGreat
open Go Go.RowKit Go.Proofs.YtkblnhnjagemlaaGreat.Den
variable {R : Type} {Q : R → World → Prop} {w : World}

theorem kinds_step {m j : Nat} : ((List.range (j + 1)).filter (Nat.testBit m)).map (fun (k : Nat) => (k : Int)) = ((List.range j).filter (Nat.testBit m)).map (fun (k : Nat) => (k : Int)) ++ (if Nat.testBit m j then [(j : Int)] else []) := by
  rw [List.range_succ, List.filter_append, List.map_append]
  congr 1
  by_cases h : Nat.testBit m j <;> simp [h]

theorem spec_tab_New {m : Int} (hm : 0 ≤ m ∧ m ≤ 255) {K : Res [.sc .ptr, .sc (.int .i64)] → W R} (h1 : 64 ≤ m → K (none, 1) Q w)
    (h2 : ∀ lab b w', m < 64 → Tab lab w' b m.toNat [] → (∀ k, lab k ≠ 0 → w.heap.size ≤ k) → Fr None w w' → K (some ⟨b, 0, none⟩, 0) Q w') :
    callW Tryz.prog k_table_New [.int .u8 m] [.sc .ptr, .sc (.int .i64)] K Q w := by
  refine C_table_New _ K Q w ?_
  unfold F_table_New
  refine condD (fun h => h1 h) fun h => ?_
  obtain ⟨n, rfl⟩ : ∃ n : Nat, m = (n : Int) := ⟨m.toNat, by omega⟩
  rw [Int.toNat_natCast] at h2
  refine mapNewI ?_
  have mb0 : MapB Tryz.prog 31 (Value.int .u32) (w.alloc (.map #[] 0)) w.heap.size (fun _ => none) := MapB.made w
  have fa : Fr None w (w.alloc (.map #[] 0)) := (Fr.refl _ _).alloc _
  have sa : (w.alloc (.map #[] 0)).heap.size = w.heap.size + 1 := by simp
  generalize w.alloc (.map #[] 0) = wa at mb0 fa sa
  refine newI fun w1 B1 f1 s1 => ?_
  rw [sa] at B1 ⊢
  have f01 := fa.then0 f1
  have mb1 := mb0.fr f1 (fun h => h)
  refine forI (N := 6) (fun s : Int => s) (fun j s w' => s = (j : Int) ∧ ∃ kn : Sl, Blk w' (w.heap.size + 1) 243 (tabC (n : Int) kn ⟨none, 0, 0⟩ (fun _ => ⟨none, 0, 0⟩) w.heap.size) ∧
      Own (Up w1.heap.size) w' 5 u8T kn (((List.range j).filter (Nat.testBit n)).map fun (k : Nat) => (k : Int)) ∧ Fr (Up (w.heap.size + 1)) w1 w')
    ⟨rfl, ⟨none, 0, 0⟩, B1, Own.nil _ _ _ _, Fr.refl _ _⟩ (fun j s w' h => h.1) ?_ ?_
  · rintro j s w2 K' hj ⟨rfl, kn, B2, o2, f2⟩ - hK
    have hsz := f2.size
    refine chkI (by omega) ?_
    have hb := bits_and ⟨n, by omega⟩ ⟨j, hj⟩
    simp only [] at hb
    rw [hb]
    have hlen : (((List.range j).filter (Nat.testBit n)).map fun (k : Nat) => (k : Int)).length ≤ 6 := by
      rw [List.length_map]
      exact Nat.le_trans (List.length_filter_le _ _) (by simp; omega)
    have hst := kinds_step (m := n) (j := j)
    refine joinK ?_
    refine condI (fun hb => ?_) fun hb => ?_
    · refine fldI B2 (x := kn) rfl ?_
      refine appF u8s_ty (x := (j : Int)) rfl o2 hsz (by omega) (by omega) fun r w3 o3 f3 _ => ?_
      rw [add_lit]
      refine setI (i := 0 + 1) (B2.frUp (o2.upFr f3) (by omega)) (by simp) rfl fun w4 B4 f4 s4 => ?_
      rw [if_pos hb] at hst
      refine hK _ _ ⟨by rw [wu8 (by omega)]; rfl, r, B4, ?_, ?_⟩
      · rw [hst]
        exact o3.fr f4 fun k hk e => by have : w1.heap.size ≤ k := hk; omega
      · exact (f2.then ((o2.upFr f3).upLe (by omega))).trans f4 (fun _ h => h) (fun x _ e => by show _ ≤ _; omega)
    · rw [if_neg (by simp [hb]), List.append_nil] at hst
      exact hK _ _ ⟨by rw [wu8 (by omega)]; rfl, kn, B2, by rw [hst]; exact o2, f2⟩
  · rintro s w2 ⟨rfl, kn, B2, o2, f2⟩
    have hsz := f2.size
    refine h2 (fun k => if k = w.heap.size then 2 else if k = w.heap.size + 1 then 1 else if w1.heap.size ≤ k ∧ k < w2.heap.size then 3 else 0) (w.heap.size + 1) w2 (by omega)
      ⟨TabOk.nil (by omega), kn, ⟨none, 0, 0⟩, fun _ => ⟨none, 0, 0⟩, w.heap.size, ⟨B2, by simp, by simp, ?_, Own.nil _ _ _ _, ?_, ?_, ?_⟩⟩ ?_ (f01.thenUp f2 (by omega))
    · refine o2.mono fun k hk h => ?_
      have h : w1.heap.size ≤ k := h
      show (if _ then _ else _) = 3
      rw [if_neg (by omega), if_neg (by omega), if_pos ⟨h, hk⟩]
    · intro k _
      have : colM n [] k = [] := by unfold colM; split <;> rfl
      rw [this]
      exact Own.nil _ _ _ _
    · exact (mb1.fr f2 fun h => by have : w.heap.size + 1 ≤ w.heap.size := h; omega).congr fun i => rfl
    · intro k hk
      by_cases h1 : k = w.heap.size
      · omega
      · by_cases h2 : k = w.heap.size + 1
        · omega
        · simp only [if_neg h1, if_neg h2] at hk
          split at hk
          · rename_i h3; exact h3.2
          · exact absurd rfl hk
    · intro k hk
      by_cases h1 : k = w.heap.size
      · omega
      · by_cases h2 : k = w.heap.size + 1
        · omega
        · simp only [if_neg h1, if_neg h2] at hk
          split at hk
          · rename_i h3; omega
          · exact absurd rfl hk

section
variable {lab : Nat → Nat} {b m : Nat} {L : List Ent}

theorem spec_Contains {ok : Nat → Prop} {s : Sl} {l : List Int} (hS : SlT ok w u8T s l) (hm : Small l) {k : Int} {K : Res [.sc .bool] → W R} (hk : K (decide (k ∈ l)) Q w) :
    callW Tryz.prog k_slices_Contains_byte [.slice s.a s.n s.c, .int .u8 k] [.sc .bool] K Q w := by
  refine C_slices_Contains_byte _ _ K Q w ?_
  unfold F_slices_Contains_byte
  refine C_slices_Index_byte _ _ _ _ w ?_
  unfold F_slices_Index_byte
  have hlen := hS.len
  refine forI (N := s.n) (fun s : Int => s) (fun j i w' => i = j ∧ w' = w ∧ ∀ q y, q < j → l[q]? = some y → y ≠ k) ⟨rfl, rfl, by omega⟩ (fun j s w' h => h.1) ?_ ?_
  · rintro j i w1 K' hj ⟨rfl, rfl, hno⟩ - hK
    refine hS.get rfl rfl (by omega) fun x hx => ?_
    refine condE (fun h => ?_) fun h => ?_
    · have : decide (k ∈ l) = true := decide_eq_true (by subst h; exact List.mem_of_getElem? hx)
      rw [this] at hk
      show K (decide ((j : Int) ≥ 0)) Q w1
      rw [decide_eq_true (by omega)]
      exact hk
    · refine hK _ _ ⟨wsucc hj (by omega), rfl, fun q y hq hy => ?_⟩
      rcases Nat.lt_succ_iff_lt_or_eq.1 hq with h1 | h1
      · exact hno q y h1 hy
      · subst h1; rw [hx] at hy; cases hy; exact fun e => h e.symm
  · rintro i w1 ⟨rfl, rfl, hno⟩
    have : decide (k ∈ l) = false := decide_eq_false fun hm => by
      obtain ⟨q, hq⟩ := List.mem_iff_getElem?.1 hm
      exact hno q k (by rw [hlen]; exact (List.getElem?_eq_some_iff.1 hq).1) hq rfl
    rw [this] at hk
    exact hk

theorem kindsOf_len (m : Nat) : (kindsOf m).length ≤ 6 := by
  rw [kindsOf, List.length_map]
  exact List.length_filter_le _ (List.range 6)

theorem spec_tab_At (h : Tab lab w b m L) {i : Int} {K : Res [.agg [.int .u32, .sl], .sc .bool] → W R} (h0 : (i < 0 ∨ (L.length : Int) ≤ i) → ∀ w', Fr None w w' → K ((0, ⟨none, 0, 0⟩), false) Q w')
    (hk : ∀ (j : Nat) e s w', i = (j : Int) → L[j]? = some e → Own (Up w.heap.size) w' 53 compT s e.2 → Fr None w w' → K ((e.1, s), true) Q w') :
    callW Tryz.prog k_table_Table_At [.pointer (some ⟨b, 0, none⟩), .int .i64 i] [.agg [.int .u32, .sl], .sc .bool] K Q w := by
  refine C_table_Table_At _ _ K Q w ?_
  unfold F_table_Table_At
  refine newI fun w1 B1 f1 s1 => ?_
  have hsm := h.ok.small
  have h1 := h.fr0 f1
  refine joinI (fun z w' => z = decide (i < 0 ∨ (L.length : Int) ≤ i) ∧ w' = w1) ?_ ?_
  · refine condD (fun h => ⟨by simp [h], rfl⟩) fun hi => ?_
    refine spec_tab_Len h1 ⟨?_, rfl⟩
    by_cases hl : (L.length : Int) ≤ i
    · simp [hi, hl]
    · simp [hi, hl]
  · rintro z w2 ⟨rfl, rfl⟩
    refine condD (fun ho => ?_) fun hin => ?_
    · refine stoAll B1 rfl rfl fun w3 B3 f3 s3 => ?_
      refine aggI B3 (x := (0, ⟨none, 0, 0⟩)) rfl ?_
      exact h0 ho w3 (f1.newer f3 fun x e => by omega)
    · obtain ⟨j, rfl⟩ : ∃ j : Nat, i = (j : Int) := ⟨i.toNat, by omega⟩
      have hj : j < L.length := by omega
      obtain ⟨e, he⟩ : ∃ e, L[j]? = some e := ⟨_, List.getElem?_eq_getElem hj⟩
      have hv := h.ok.valid e (List.mem_of_getElem? he)
      obtain ⟨kinds, ids, cols, mp, r⟩ := h1.rep
      refine ptrI ?_
      rw [add_lit, add_lit]
      refine fld0 r.blk (x := ids) rfl ?_
      refine r.ids.sl.get rfl rfl (by rw [List.length_map]; exact hj) fun x hx => ?_
      have hx1 : x = e.1 := by rw [List.getElem?_map, he] at hx; exact (Option.some.inj hx).symm
      subst hx1
      refine newI fun w3 B3 f3 s3 => ?_
      refine stoAll B3 rfl rfl fun w4 B4 f4 s4 => ?_
      have f14 : Fr None w2 w4 := f3.newer f4 fun x e => by omega
      have r4 := r.fr f14 (fun _ _ h => h)
      have h4 := h1.fr0 f14
      refine ptrI ?_
      refine fldI r4.blk (x := kinds) rfl ?_
      have hkl := kindsOf_len m
      have hnk := r4.kinds.len
      refine forI (N := kinds.n) (fun s : Int => s) (fun q s w' => s = (q : Int) ∧ ∃ o : Sl, Blk w' w2.heap.size 34 [.int .u32 e.1, o.v] ∧
          Own (Up w4.heap.size) w' 53 compT o (((kindsOf m).take q).map fun k => (k, fieldsOf e.2 k)) ∧ Fr (Up w2.heap.size) w4 w')
        ⟨rfl, ⟨none, 0, 0⟩, B4, Own.nil _ _ _ _, Fr.refl _ _⟩ (fun j s w' h => h.1) ?_ ?_
      · rintro q s w5 K' hq ⟨rfl, o, B5, o5, f5⟩ - hK
        have h5 := h4.fr f5 fun k hk hu => by have := h1.lt hk; have hu : w2.heap.size ≤ k := hu; omega
        have r5 := r4.fr f5 fun k hk hu => by have := h1.lt hk; have hu : w2.heap.size ≤ k := hu; omega
        have hsz := f5.size
        refine r5.kinds.sl.get rfl rfl (by omega) fun x hx => ?_
        obtain ⟨k, hk6, hkb, rfl⟩ := kindsOf_mem.1 (List.mem_of_getElem? hx)
        have f5d : Fr None w5 w5.drew := (Fr.refl _ _).drew
        refine fldI B5.drew (x := o) rfl ?_
        refine spec_tab_comp (h5.fr0 f5d) he hk6 hkb fun w6 f6 => ?_
        have f56 := f5d.then0 f6
        have B6 := B5.fr f56 (fun h => h)
        refine ⟨?_, ?_⟩
        · rw [add_lit]
          exact B6.cell 1
        have o6 := o5.none f56
        have hsz6 := f56.size
        refine appF comps_ty (x := ((k : Int), fieldsOf e.2 (k : Int))) rfl o6 (by omega) (by rw [List.length_map, List.length_take]; omega) (by rw [List.length_map, List.length_take]; omega) fun r7 w7 o7 f7 _ => ?_
        rw [add_lit]
        refine setI (i := 0 + 1) (B6.frUp (o6.upFr f7) (by omega)) (by simp) rfl fun w8 B8 f8 s8 => ?_
        refine hK _ _ ⟨wsucc hq (by omega), r7, B8, ?_, ?_⟩
        · have := o7.fr f8 fun k hk e => by have : w4.heap.size ≤ k := hk; omega
          rw [take_at hx, List.map_append]
          exact this
        · exact (f5.then (f56.up.then ((o6.upFr f7).upLe (by omega)))).trans f8 (fun _ h => h) (fun x _ e => by show _ ≤ _; omega)
      · rintro s w5 ⟨rfl, o, B5, o5, f5⟩
        refine aggI B5 (x := (e.1, o)) rfl ?_
        rw [hnk, List.take_length, ← hv.eq] at o5
        have hsz := f5.size
        have B15 := (B1.fr f14 (fun h => h)).frUp f5 (by omega)
        refine stoAll B15 rfl rfl fun w6 B6 f6 s6 => ?_
        refine aggI B6 (x := (e.1, o)) rfl ?_
        refine hk j e o w6 rfl he ((o5.fr f6 fun k hk e => by have : w4.heap.size ≤ k := hk; omega).up (by omega)) (((f1.then0 f14).thenUp f5 (by omega)).newer f6 fun x e => by omega)

end

section
variable {lab : Nat → Nat} {b m : Nat} {L : List Ent}

def findT (m : Nat) (L : List Ent) (id k : Int) : Int × Int := match rowM L id with
  | none => (0, 7)
  | some i => if k ∈ kindsOf m then ((i : Int), 0) else (0, 10)
theorem spec_tab_find (h : Tab lab w b m L) {id k : Int} (hid : IdOk id) {K : Res [.sc (.int .i64), .sc (.int .i64)] → W R} (hk : K (findT m L id k) Q w) :
    callW Tryz.prog k_table_Table_find [.pointer (some ⟨b, 0, none⟩), .int .u32 id, .int .u8 k] [.sc (.int .i64), .sc (.int .i64)] K Q w := by
  refine C_table_Table_find _ _ _ K Q w ?_
  unfold F_table_Table_find
  refine spec_tab_Row h hid ?_
  refine condF rfl ?_
  unfold findT at hk
  cases hr : rowM L id with
  | none => rw [hr] at hk; exact hk
  | some i =>
    rw [hr] at hk
    refine condF rfl ?_
    obtain ⟨kinds, ids, cols, mp, r⟩ := h.rep
    refine ptrI ?_
    refine fldI r.blk (x := kinds) rfl ?_
    refine spec_Contains r.kinds.sl (by have := kindsOf_len m; omega) ?_
    by_cases hm : k ∈ kindsOf m
    · simp only [if_pos hm] at hk
      rw [decide_eq_true hm]
      exact hk
    · simp only [if_neg hm] at hk
      rw [decide_eq_false hm]
      exact hk
theorem spec_tab_find0 {id k : Int} {K : Res [.sc (.int .i64), .sc (.int .i64)] → W R} (hk : K (0, 10) Q w) :
    callW Tryz.prog k_table_Table_find [.pointer none, .int .u32 id, .int .u8 k] [.sc (.int .i64), .sc (.int .i64)] K Q w := by
  refine C_table_Table_find _ _ _ K Q w ?_
  unfold F_table_Table_find
  refine spec_tab_Row0 ?_
  exact hk

theorem compM_at {L : List Ent} {i : Nat} {e : Ent} (h : L[i]? = some e) (k : Int) : compM L i k = (k, fieldsOf e.2 k) := by simp [compM, h]

theorem spec_tab_Get (h : Tab lab w b m L) {id k : Int} (hid : IdOk id) {K : Res [.agg [.int .u8, .int .i32, .int .i32, .int .i32], .sc (.int .i64)] → W R} (hk : ∀ w', Fr None w w' → K (getM m L id k) Q w') :
    callW Tryz.prog k_table_Table_Get [.pointer (some ⟨b, 0, none⟩), .int .u32 id, .int .u8 k] [.agg [.int .u8, .int .i32, .int .i32, .int .i32], .sc (.int .i64)] K Q w := by
  refine C_table_Table_Get _ _ _ K Q w ?_
  unfold F_table_Table_Get
  refine newI fun w1 B1 f1 s1 => ?_
  have h1 := h.fr0 f1
  refine spec_tab_find h1 hid ?_
  have no : ∀ {z : Int}, z ≠ 0 → getM m L id k = ((0, 0, 0, 0), z) → findT m L id k = (0, z) → (cond (z != 0)
    (stoL ⟨w.heap.size, 0, none⟩ [.int .u8 0, .int .i32 0, .int .i32 0, .int .i32 0] 0 <|
    ld (.agg [.int .u8, .int .i32, .int .i32, .int .i32]) ⟨w.heap.size, 0, none⟩ fun (x_3 : (Int × Int × Int × Int)) =>
    retW (x_3, z)) (fun _ _ => False) : W ((Int × Int × Int × Int) × Int)) (fun r w => K r Q w) w1 := by
    intro z hz hg _
    refine condT (by simpa using hz) ?_
    refine stoAll B1 rfl rfl fun w2 B2 f2 s2 => ?_
    refine aggI B2 (x := (0, 0, 0, 0)) rfl ?_
    have e := hk w2 (f1.newer f2 fun x e => by omega)
    rw [hg] at e
    exact e
  unfold findT getM at *
  cases hr : rowM L id with
  | none =>
    simp only [hr] at no ⊢
    exact no (z := 7) (by omega) rfl rfl
  | some i =>
    simp only [hr] at no hk ⊢
    by_cases hm : k ∈ kindsOf m
    · simp only [if_pos hm] at hk ⊢
      refine condF rfl ?_
      obtain ⟨q, hq6, hqb, rfl⟩ := kindsOf_mem.1 hm
      obtain ⟨_, e, he, _⟩ := rowM_some hr
      refine spec_tab_comp h1 he hq6 hqb fun w2 f2 => ?_
      refine stoAll (B1.fr f2 fun h => h) rfl rfl fun w3 B3 f3 s3 => ?_
      refine aggI B3 (x := ((q : Int), fieldsOf e.2 (q : Int))) rfl ?_
      have e2 := hk w3 ((f1.then0 f2).newer f3 fun x e => by omega)
      rw [compM_at he] at e2
      exact e2
    · simp only [if_neg hm] at no ⊢
      exact no (z := 10) (by omega) rfl rfl
theorem spec_tab_Get0 {id k : Int} {K : Res [.agg [.int .u8, .int .i32, .int .i32, .int .i32], .sc (.int .i64)] → W R} (hk : ∀ w', Fr None w w' → K ((0, 0, 0, 0), 10) Q w') :
    callW Tryz.prog k_table_Table_Get [.pointer none, .int .u32 id, .int .u8 k] [.agg [.int .u8, .int .i32, .int .i32, .int .i32], .sc (.int .i64)] K Q w := by
  refine C_table_Table_Get _ _ _ K Q w ?_
  unfold F_table_Table_Get
  refine newI fun w1 B1 f1 s1 => ?_
  refine spec_tab_find0 ?_
  refine condT rfl ?_
  refine stoAll B1 rfl rfl fun w2 B2 f2 s2 => ?_
  refine aggI B2 (x := (0, 0, 0, 0)) rfl ?_
  exact hk w2 (f1.newer f2 fun x e => by omega)

theorem TabR.upd {kinds ids : Sl} {cols : Nat → Sl} {mp : Nat} {ks is : List Int} {cl : Nat → List F3} {rows : Int → Option Nat} (r : TabR lab w b m kinds ids cols mp ks is cl rows) {k : Nat} {l : List F3} {w' : World}
    (o : Own (fun x => lab x = 5 + k) w' 283 f3T (cols k) l) (f : Fr (fun x => lab x = 5 + k) w w') : TabR lab w' b m kinds ids cols mp ks is (fun q => if q = k then l else cl q) rows := by
  have ne : ∀ j, j < 5 ∨ j ≠ 5 + k → ∀ q, lab q = j → ¬ (lab q = 5 + k) := fun j h q e h => by omega
  refine ⟨r.blk.fr f (ne 1 (by omega) b r.lb), r.lb, r.lm, r.kinds.fr f (ne 3 (by omega)), r.ids.fr f (ne 4 (by omega)), fun q hq => ?_, r.map.fr f (ne 2 (by omega) mp r.lm), fun q h => Nat.lt_of_lt_of_le (r.lt q h) f.size⟩
  show Own (fun x => lab x = 5 + q) w' 283 f3T (cols q) (if q = k then l else cl q)
  by_cases h : q = k
  · subst h; rw [if_pos rfl]; exact o
  · rw [if_neg h]; exact (r.cols q hq).fr f (ne _ (by omega))

theorem colM_set {m : Nat} {L : List Ent} (h : TabOk m L) {i : Nat} {e : Ent} {c : Comp} (hi : L[i]? = some e) (hc : checkM c = 0) {k : Nat} (hk6 : k < 6) (hck : c.1 = (k : Int)) (hb : Nat.testBit m k = true) {q : Nat} (hq : q < 6) :
    colM m (setL L i c) q = if q = k then (colM m L k).set i c.2 else colM m L q := by
  have hv := h.valid e (List.mem_of_getElem? hi)
  have hkm : c.1 ∈ kindsOf m := kindsOf_mem.2 ⟨k, hk6, hb, hck⟩
  have hf := (withM_valid h.mask hv hc hkm).2
  rw [setL_eq hi]
  by_cases hqk : q = k
  · subst hqk
    rw [if_pos rfl, colM, colM, if_pos hb, if_pos hb, List.map_set]
    congr 1
    rw [hf _ (by rw [← hck]; exact hkm), if_pos hck.symm]
  · rw [if_neg hqk]
    unfold colM
    split
    · rename_i hbq
      rw [List.map_set]
      have : fieldsOf (withM e.2 c) (q : Int) = fieldsOf e.2 (q : Int) := by
        rw [hf _ (kindsOf_mem.2 ⟨q, hq, hbq, rfl⟩), if_neg (by omega)]
      rw [this]
      apply List.ext_getElem?
      intro p
      rw [List.getElem?_set]
      by_cases hp : i = p
      · subst hp
        have h1 := (List.getElem?_eq_some_iff.1 hi).1
        simp [h1]
        rw [(List.getElem?_eq_some_iff.1 hi).2]
      · rw [if_neg hp]
    · rfl

def setT (m : Nat) (L : List Ent) (id : Int) (c : Comp) : List Ent := if setM m L id c = 0 then setL L ((rowM L id).getD 0) c else L
theorem spec_tab_Set (h : Tab lab w b m L) {id : Int} {c : Comp} (hid : IdOk id) {K : Res [.sc (.int .i64)] → W R}
    (hk : ∀ w', Tab lab w' b m (setT m L id c) → Fr (fun k => lab k ≠ 0) w w' → K (setM m L id c) Q w') :
    callW Tryz.prog k_table_Table_Set [.pointer (some ⟨b, 0, none⟩), .int .u32 id, .agg ⟨compC c⟩] [.sc (.int .i64)] K Q w := by
  refine C_table_Table_Set _ _ _ K Q w ?_
  unfold F_table_Table_Set
  refine newI fun w1 B1 f1 s1 => ?_
  refine condF rfl ?_
  refine aggI B1 (x := c) rfl ?_
  refine spec_schema_Check (c := c) fun w2 f2 => ?_
  have B2 := B1.fr f2 fun h => h
  have f12 := f1.then0 f2
  have fin : ∀ {z : Int} {w' : World}, Fr None w w' → z ≠ 0 → setM m L id c = z → K z Q w' := by
    intro z w' f hz hs
    have e := hk w' (by rw [setT, hs, if_neg hz]; exact h.fr0 f) (f.mono fun _ _ h => h.elim)
    rw [hs] at e
    exact e
  refine condN (fun hc => ?_) fun hc => ?_
  · exact fin f12 hc (by rw [setM, if_pos hc])
  · refine fldI B2 (x := c.1) rfl ?_
    have h2 := h.fr0 f12
    refine spec_tab_find h2 hid ?_
    unfold findT
    refine joinK ?_
    cases hr : rowM L id with
    | none =>
      have hs : setM m L id c = 7 := by rw [setM, if_neg (by simpa using hc), hr]
      exact condF rfl (fin (z := 7) f12 (by omega) hs)
    | some i =>
      have hs : setM m L id c = if c.1 ∈ kindsOf m then 0 else 10 := by rw [setM, if_neg (by simpa using hc), hr]
      by_cases hm : c.1 ∈ kindsOf m
      · rw [if_pos hm] at hs
        simp only [if_pos hm]
        refine condT rfl ?_
        have fd : Fr None w2 w2.drew := (Fr.refl _ _).drew
        refine fldI B2.drew (x := c.1) rfl ?_
        obtain ⟨k, hk6, hkb, hck⟩ := kindsOf_mem.1 hm
        obtain ⟨_, e, he, _⟩ := rowM_some hr
        have h2d := h2.fr0 fd
        obtain ⟨kinds, ids, cols, mp, r⟩ := h2d.rep
        refine ptrI ?_
        rw [hck, add_lit]
        refine idxB (by omega) (by omega) ?_
        rw [add_lit]
        refine fld0 r.blk (x := cols k) (by rw [show 0 + 3 + (k : Int).toNat * 1 + 0 = 3 + k by simp]; exact tabC_col hk6) ?_
        rw [add_lit]
        refine aggI' B2.drew (x := c.2) (fun j u hj => by rw [show 0 + 1 + j = j + 1 by omega]; exact hj) ?_
        have hcl : i < (colM m L k).length := by rw [colM, if_pos hkb, List.length_map]; exact (List.getElem?_eq_some_iff.1 he).1
        refine (r.cols k hk6).idx rfl (by omega) (by omega) fun g x hg _ _ => ?_
        rw [Int.toNat_natCast]
        refine (r.cols k hk6).set rfl hcl hg c.2 fun w3 o3 f3 s3 => ?_
        have f3' : Fr (fun x => lab x = 5 + k) w2.drew w3 := f3.mono fun x _ e => (r.cols k hk6).own x e
        have r3 := r.upd o3 f3'
        have hL : setT m L id c = setL L i c := by rw [setT, hs, if_pos rfl, hr]; rfl
        have e2 := hk w3 (by
          rw [hL]
          refine ⟨h.ok.set he (by simpa using hc) hm, kinds, ids, cols, mp, ?_⟩
          rw [setL_ids he, rowM_congr (setL_ids he)]
          refine ⟨r3.blk, r3.lb, r3.lm, r3.kinds, r3.ids, fun q hq => ?_, r3.map, r3.lt⟩
          rw [colM_set h.ok he (by simpa using hc) hk6 hck hkb hq]
          exact r3.cols q hq) ((f12.then0 fd).trans f3' (fun _ h => h.elim) (fun x _ e => by omega))
        rw [hs] at e2
        exact e2
      · rw [if_neg hm] at hs
        simp only [if_neg hm]
        exact condF rfl (fin (z := 10) f12 (by omega) hs)
theorem spec_tab_Set0 {id : Int} {c : Comp} {K : Res [.sc (.int .i64)] → W R} (hk : ∀ w', Fr None w w' → K 10 Q w') :
    callW Tryz.prog k_table_Table_Set [.pointer none, .int .u32 id, .agg ⟨compC c⟩] [.sc (.int .i64)] K Q w := by
  refine C_table_Table_Set _ _ _ K Q w ?_
  unfold F_table_Table_Set
  refine newI fun w1 B1 f1 s1 => ?_
  exact condT rfl (hk w1 f1)

end

end Go.Proofs.YtkblnhnjagemlaaGreat
