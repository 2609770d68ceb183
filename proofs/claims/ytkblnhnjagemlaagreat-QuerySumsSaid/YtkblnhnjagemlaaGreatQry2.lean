/-
  query: who is the nearest, pages; and the document's sums and who is the nearest there.
-/
import Derived.Test.YtkblnhnjagemlaaGreatSysR
namespace Go.Proofs.YtkblnhnjagemlaaGreat
open Go Go.RowKit Go.Proofs.YtkblnhnjagemlaaGreat.Den
variable {R : Type} {Q : R → World → Prop} {w : World}

/-! ### how far -/
def dI (a b : Int) : Int := IntKind.wrap .i64 (IntKind.wrap .i64 a - IntKind.wrap .i64 b)
def sqU (d : Int) : Int := IntKind.wrap .u64 (IntKind.wrap .i64 (d * d))
def farM (f : F3) (x y : Int) : Int := IntKind.wrap .u64 (sqU (dI f.1 x) + sqU (dI f.2.1 y))
theorem spec_query_far {c : Comp} {x y : Int} {K : Res [.sc (.int .u64)] → W R} (hk : ∀ w', Fr None w w' → K (farM c.2 x y) Q w') :
    callW Tryz.prog k_query_far [.agg ⟨compC c⟩, .int .i32 x, .int .i32 y] [.sc (.int .u64)] K Q w := by
  refine C_query_far c _ _ K Q w ?_
  unfold F_query_far
  refine newI fun w1 B1 f1 s1 => ?_
  have fd : Fr None w1 w1.drew := (Fr.refl _ _).drew
  have B2 := B1.fr fd fun h => h
  refine fIdx (j := 0) rfl (by decide) (fld0 B2 (x := c.2.1) rfl ?_)
  refine fIdx (j := 1) rfl (by decide) (fld0 B2 (x := c.2.2.1) rfl ?_)
  exact hk _ (f1.then0 fd)

/-! ### who is the nearest -/
def nearS (x : StM) (px py : Int) (st : Int × Int) (id : Int) : Int × Int := if st.1 = 0 ∨ farM (x.get id 0).1.2 px py < st.2 then (id, farM (x.get id 0).1.2 px py) else st
def nearE (px py : Int) (st : Int × Int × Bool) (e : Ent) : Int × Int × Bool :=
  if hasK e 0 = true then (if st.2.2 = false ∨ farM (fieldsOf e.2 0) px py < st.2.1 then (e.1, farM (fieldsOf e.2 0) px py, true) else st) else st
theorem fold_take {α β : Type} {f : β → α → β} {b : β} {l : List α} {j : Nat} {a : α} (h : l[j]? = some a) : (l.take (j + 1)).foldl f b = f ((l.take j).foldl f b) a := by
  rw [take_at h, List.foldl_append]
  rfl
theorem spec_query_Nearest {F : Nat → Prop} {b : Nat} {x : StM} (h : Store b x F w) {px py : Int} {K : Res [.sc (.int .u32), .sc .bool] → W R}
    (hk : ∀ w', Fr None w w' → K (((withL x 1 0).foldl (nearS x px py) (0, 0)).1, ((withL x 1 0).foldl (nearS x px py) (0, 0)).1 != 0) Q w') :
    callW Tryz.prog k_query_Nearest [.pointer (some ⟨b, 0, none⟩), .int .i32 px, .int .i32 py] [.sc (.int .u32), .sc .bool] K Q w := by
  have ok := (Store.open_ h).1
  refine C_query_Nearest _ _ _ K Q w ?_
  unfold F_query_Nearest
  refine spec_query_With h fun r w1 o1 f1 => ?_
  have hlen := withL_len ok 1 0
  have hn := o1.len
  refine forI (N := r.n) (fun s : Int × Int × Int => s.2.2) (fun j s w' => s = ((((withL x 1 0).take j).foldl (nearS x px py) (0, 0)).1, (((withL x 1 0).take j).foldl (nearS x px py) (0, 0)).2, (j : Int)) ∧ Fr None w1 w') ⟨rfl, Fr.refl _ _⟩ (fun j s w' h => by rw [h.1]) ?_ ?_
  · rintro j s w2 K' hj ⟨rfl, f2⟩ - hK
    refine (o1.sl.fr0 f2).get rfl rfl (by omega) fun id hid => ?_
    have hidok := withL_id ok (List.mem_of_getElem? hid)
    refine spec_store_Get (Store.st.fr0 h (f1.then0 f2)) hidok fun w3 f3 => ?_
    refine newI fun w4 B4 f4 s4 => stoAll B4 rfl rfl fun w5 B5 f5 s5 => ?_
    refine aggI B5 (x := (x.get id 0).1) rfl (spec_query_far fun w6 f6 => ?_)
    have f26 : Fr None w2 w6 := (f3.then0 (f4.newer f5 fun k e => by omega)).then0 f6
    have e := fold_take (f := nearS x px py) (b := (0, 0)) hid
    generalize ((withL x 1 0).take j).foldl (nearS x px py) (0, 0) = st at e ⊢
    refine joinI (fun z w' => z = decide (st.1 = 0 ∨ farM (x.get id 0).1.2 px py < st.2) ∧ w' = w6) ?_ ?_
    · refine condI (fun h0 => ⟨?_, rfl⟩) fun h0 => ⟨?_, rfl⟩
      · have h0 : st.1 = 0 := by simpa using h0
        simp [h0]
      · have h0 : ¬ st.1 = 0 := by simpa using h0
        simp [h0]
    · rintro z w' ⟨rfl, rfl⟩
      refine joinI (fun (z : Int × Int) w'' => z = nearS x px py st id ∧ w'' = w') ?_ ?_
      · exact condD (fun h1 => ⟨by rw [nearS, if_pos h1], rfl⟩) fun h1 => ⟨by rw [nearS, if_neg h1], rfl⟩
      · rintro z w'' ⟨rfl, rfl⟩
        exact hK _ _ ⟨by rw [e, wsucc hj (by omega)], f2.then0 f26⟩
  · rintro s w2 ⟨rfl, f2⟩
    rw [List.take_of_length_le (by omega)]
    exact hk w2 (f1.then0 f2)
theorem spec_query_Nearest0 {px py : Int} {K : Res [.sc (.int .u32), .sc .bool] → W R} (hk : ∀ w', Fr None w w' → K (0, false) Q w') :
    callW Tryz.prog k_query_Nearest [.pointer none, .int .i32 px, .int .i32 py] [.sc (.int .u32), .sc .bool] K Q w := by
  refine C_query_Nearest _ _ _ K Q w ?_
  unfold F_query_Nearest
  refine spec_query_With0 fun r w1 o1 f1 => ?_
  have hn : r.n = 0 := o1.len
  refine loopI (fun s w' => s = ((0 : Int), (0 : Int), (0 : Int)) ∧ w' = w1) (fun _ _ => 0) ⟨rfl, rfl⟩ ?_
  rintro s w' ⟨rfl, rfl⟩
  exact condF (by rw [hn]; rfl) (hk w' f1)

/-! ### the document's -/
theorem spec_r12_Nearest {S ok : Nat → Prop} {r : Sl} {raws : List (Int × Sl)} {L : List Ent} (o : Den.Own S w 34 entT r raws) (hE : EntsR ok w raws L) (hL : ∀ e ∈ L, ∃ m, Valid m e.2) (hlen : L.length ≤ 1024) {px py : Int}
    {K : Res [.sc (.int .u32), .sc .bool] → W R} (hk : ∀ w', Fr None w w' → K ((L.foldl (nearE px py) (0, 0, false)).1, (L.foldl (nearE px py) (0, 0, false)).2.2) Q w') :
    callW Tryz.prog k_pinnaceref12_Nearest [.slice r.a r.n r.c, .int .i32 px, .int .i32 py] [.sc (.int .u32), .sc .bool] K Q w := by
  refine C_pinnaceref12_Nearest r _ _ K Q w ?_
  unfold F_pinnaceref12_Nearest
  have hn := o.len
  have hel := hE.len
  refine forI (N := r.n) (fun s : Int × Int × Bool × Int => s.2.2.2) (fun j s w' => s = (((L.take j).foldl (nearE px py) (0, 0, false)).1, ((L.take j).foldl (nearE px py) (0, 0, false)).2.1, ((L.take j).foldl (nearE px py) (0, 0, false)).2.2, (j : Int)) ∧ Fr None w w') ⟨rfl, Fr.refl _ _⟩ (fun j s w' h => by rw [h.1]) ?_ ?_
  · rintro j s w2 K' hj ⟨rfl, f2⟩ - hK
    obtain ⟨e, he⟩ : ∃ e, L[j]? = some e := ⟨_, List.getElem?_eq_getElem (by omega)⟩
    obtain ⟨r1, hr1, ha1, ha2⟩ := hE.get he
    obtain ⟨m, hv⟩ := hL e (List.mem_of_getElem? he)
    have hsm : Small e.2 := by have := hv.small; show _ ≤ 1048576; omega
    have ef := fold_take (f := nearE px py) (b := (0, 0, false)) he
    generalize (L.take j).foldl (nearE px py) (0, 0, false) = st at ef ⊢
    refine joinI (fun (z : Int × Int × Bool) w' => z = nearE px py st e ∧ Fr None w w') ?_ ?_
    · refine (o.sl.fr0 f2).get rfl rfl (by omega) fun y hy => ?_
      rw [hr1] at hy
      cases hy
      refine newI fun w3 B3 f3 s3 => stoAll B3 rfl rfl fun w4 B4 f4 s4 => ?_
      have f24 : Fr None w2 w4 := f3.newer f4 fun k e => by omega
      have cs4 := (ha2.fr0 f2).fr0 f24
      refine fldI B4 (i := 1) (x := r1.2) rfl (spec_r5_Find cs4 hsm fun w5 f5 => ?_)
      have f05 := (f2.then0 f24).then0 f5
      rcases findM_valid hv 0 with ⟨hneg, hno⟩ | ⟨q0, hq0, hl0, hin0⟩
      · refine condT (decide_eq_true hneg) ⟨?_, f05⟩
        unfold nearE
        rw [hasK_mask hv, if_neg (by simp [hno])]
      · refine condF (decide_eq_false (by rw [hq0]; omega)) ?_
        have fd : Fr None w5 w5.drew := (Fr.refl _ _).drew
        have B6 := (B4.fr f5 fun h => h).fr fd fun h => h
        have cs6 := (cs4.fr0 f5).fr0 fd
        rw [hq0]
        refine fldI B6 (i := 1) (x := r1.2) rfl (cs6.readK rfl rfl hl0 fun ad had => rIdx (had _ cs6) (j := 0) rfl (by decide) ?_)
        refine fldI B6 (i := 1) (x := r1.2) rfl (cs6.readK rfl rfl hl0 fun ad had => rIdx (had _ cs6) (j := 1) rfl (by decide) ?_)
        have f06 := f05.then0 fd
        have hk0 : hasK e 0 = true := by rw [hasK_mask hv]; exact decide_eq_true hin0
        refine joinI (fun z w' => z = decide (st.2.2 = false ∨ farM (fieldsOf e.2 0) px py < st.2.1) ∧ w' = w5.drew) ?_ ?_
        · refine condI (fun h0 => ⟨?_, rfl⟩) fun h0 => ⟨?_, rfl⟩
          · have h0 : st.2.2 = false := by simpa using h0
            simp [h0]
          · have h0 : st.2.2 = true := by simpa using h0
            have ez : (decide (st.2.2 = false ∨ farM (fieldsOf e.2 0) px py < st.2.1)) = decide (farM (fieldsOf e.2 0) px py < st.2.1) := by simp [h0]
            rw [ez]
            rfl
        · rintro z w' ⟨rfl, rfl⟩
          refine joinI (fun (z : Int × Int × Bool) w' => z = nearE px py st e ∧ Fr None w w') ?_ ?_
          · refine condD (fun h1 => ?_) fun h1 => ⟨by rw [nearE, if_pos hk0, if_neg h1], f06⟩
            refine fldI B6 (i := 0) (x := r1.1) rfl ⟨?_, f06⟩
            rw [nearE, if_pos hk0, if_pos h1, ha1]
            rfl
          · rintro z w' ⟨rfl, f⟩
            exact ⟨rfl, f⟩
    · rintro z w' ⟨rfl, f⟩
      exact hK _ _ ⟨by rw [ef, wsucc hj (by omega)], f⟩
  · rintro s w2 ⟨rfl, f2⟩
    rw [List.take_of_length_le (by omega)]
    exact hk w2 f2

/-! ### sums -/
def sumI : List Int → Int
  | [] => 0
  | a :: r => a + sumI r
theorem sumI_append : ∀ (l k : List Int), sumI (l ++ k) = sumI l + sumI k
  | [], k => by simp [sumI]
  | a :: r, k => by simp only [List.cons_append, sumI, sumI_append r k]; omega
theorem sumI_perm {l k : List Int} (h : l.Perm k) : sumI l = sumI k := by
  induction h with
  | nil => rfl
  | cons a _ ih => simp only [sumI, ih]
  | swap a b l => simp only [sumI]; omega
  | trans _ _ h1 h2 => exact h1.trans h2
theorem sumI_le : ∀ {l : List Int}, (∀ a ∈ l, -2147483648 ≤ a ∧ a ≤ 2147483647) → -2147483648 * (l.length : Int) ≤ sumI l ∧ sumI l ≤ 2147483647 * (l.length : Int)
  | [], _ => by simp [sumI]
  | a :: r, h => by
    have h1 := h a List.mem_cons_self
    have h2 := sumI_le fun x hx => h x (List.mem_cons_of_mem a hx)
    simp only [sumI, List.length_cons]
    omega
/-- a sum of few numbers stays within its kind. -/
theorem sumI_64 {l : List Int} (h : ∀ a ∈ l, -2147483648 ≤ a ∧ a ≤ 2147483647) (hl : l.length ≤ 1024) : -9223372036854775808 ≤ sumI l ∧ sumI l ≤ 9223372036854775807 := by
  have := sumI_le h
  omega
def nthF (f : F3) (i : Int) : Int := fl (0, f) i.toNat
theorem fl_kind (k : Int) (f : F3) : ∀ j, fl (k, f) j = fl (0, f) j
  | 0 => rfl
  | 1 => rfl
  | _ + 2 => rfl
theorem nthF_in {k : Int} {f : F3} (h : checkM (k, f) = 0) (i : Int) : -2147483648 ≤ nthF f i ∧ nthF f i ≤ 2147483647 := by
  obtain ⟨_, h1, h2, h3⟩ := checkM_ok h
  unfold nthF
  generalize i.toNat = j
  match j with
  | 0 => exact h1
  | 1 => exact h2
  | _ + 2 => exact h3
def termE (k i : Int) (e : Ent) : Int := if hasK e k = true then nthF (fieldsOf e.2 k) i else 0
theorem rangeM_in {k i : Int} (h : (rangeM k i).2.2 = 0) : 0 ≤ i ∧ i.toNat < 3 ∧ 0 ≤ k ∧ k ≤ 5 := by
  unfold rangeM at h
  split at h
  · rename_i h0
    refine ⟨h0, ?_⟩
    split at h
    · rename_i p hp
      have hlt := (List.getElem?_eq_some_iff.1 hp).1
      unfold fieldsM at hlt
      repeat' split at hlt
      all_goals first
        | (refine ⟨by simp only [List.length_cons, List.length_nil] at hlt; omega, by omega, by omega⟩)
        | simp at hlt
    · cases h
  · cases h
theorem spec_r12_Sum {S ok : Nat → Prop} {r : Sl} {raws : List (Int × Sl)} {L : List Ent} (o : Den.Own S w 34 entT r raws) (hE : EntsR ok w raws L) (hL : ∀ e ∈ L, ∃ m, Valid m e.2) (hT : ∀ k, ∀ e ∈ L, hasK e k = true → checkM (k, fieldsOf e.2 k) = 0) (hlen : L.length ≤ 1024) {k i : Int} (hk0 : 0 ≤ k)
    {K : Res [.sc (.int .i64), .sc (.int .i64)] → W R} (hk : ∀ w', Fr None w w' → K (if (rangeM k i).2.2 = 0 then sumI (L.map (termE k i)) else 0, (rangeM k i).2.2) Q w') :
    callW Tryz.prog k_pinnaceref12_Sum [.slice r.a r.n r.c, .int .u8 k, .int .i64 i] [.sc (.int .i64), .sc (.int .i64)] K Q w := by
  refine C_pinnaceref12_Sum r _ _ K Q w ?_
  unfold F_pinnaceref12_Sum
  refine spec_r5_Range hk0 fun w1 f1 => ?_
  by_cases hr : ¬ (rangeM k i).2.2 = 0
  · refine condT (by simpa using hr) ?_
    rw [if_neg hr] at hk
    exact hk w1 f1
  have hr : (rangeM k i).2.2 = 0 := by simpa using hr
  refine condF (by simp [hr]) ?_
  rw [if_pos hr, hr] at hk
  obtain ⟨hi0, hi3, _, _⟩ := rangeM_in hr
  have hn := o.len
  have hel := hE.len
  have hterm : ∀ e ∈ L, -2147483648 ≤ termE k i e ∧ termE k i e ≤ 2147483647 := fun e he => by
    unfold termE
    split
    · rename_i h
      exact nthF_in (hT k e he h) i
    · omega
  refine forI (N := r.n) (fun s : Int × Int => s.2) (fun j s w' => s = (sumI ((L.take j).map (termE k i)), (j : Int)) ∧ Fr None w w') ⟨rfl, f1⟩ (fun j s w' h => by rw [h.1]) ?_ ?_
  · rintro j s w2 K' hj ⟨rfl, f2⟩ - hK
    obtain ⟨e, he⟩ : ∃ e, L[j]? = some e := ⟨_, List.getElem?_eq_getElem (by omega)⟩
    obtain ⟨r1, hr1, _, ha2⟩ := hE.get he
    obtain ⟨m, hv⟩ := hL e (List.mem_of_getElem? he)
    have hsm : Small e.2 := by have := hv.small; show _ ≤ 1048576; omega
    have hs1 : sumI ((L.take (j + 1)).map (termE k i)) = sumI ((L.take j).map (termE k i)) + termE k i e := by
      rw [take_at he, List.map_append, sumI_append]
      simp [sumI]
    have h64 := sumI_64 (l := (L.take (j + 1)).map (termE k i)) (fun a ha => by
      obtain ⟨y, hy, rfl⟩ := List.mem_map.1 ha
      exact hterm y (List.mem_of_mem_take hy)) (by simp; omega)
    rw [hs1] at h64
    refine (o.sl.fr0 f2).get rfl rfl (by omega) fun y hy => ?_
    rw [hr1] at hy
    cases hy
    refine newI fun w3 B3 f3 s3 => stoAll B3 rfl rfl fun w4 B4 f4 s4 => ?_
    have f24 : Fr None w2 w4 := f3.newer f4 fun k e => by omega
    have cs4 := (ha2.fr0 f2).fr0 f24
    refine fldI B4 (i := 1) (x := r1.2) rfl (spec_r5_Find cs4 hsm fun w5 f5 => ?_)
    have f05 := (f2.then0 f24).then0 f5
    refine joinI (fun z w' => z = sumI ((L.take (j + 1)).map (termE k i)) ∧ Fr None w w') ?_ ?_
    · rcases findM_valid hv k with ⟨hneg, hno⟩ | ⟨q0, hq0, hl0, hin0⟩
      · refine condF (decide_eq_false (by omega)) ⟨?_, f05⟩
        rw [hs1, termE, hasK_mask hv, if_neg (by simp [hno])]
        omega
      · refine condT (decide_eq_true (by rw [hq0]; omega)) ?_
        have B6 := B4.fr f5 fun h => h
        have cs6 := cs4.fr0 f5
        rw [hq0]
        refine fldI B6 (i := 1) (x := r1.2) rfl (cs6.readK rfl rfl hl0 fun ad had => rIdx (had _ cs6) (j := i.toNat) (by omega) hi3 ⟨?_, f05⟩)
        have hk1 : hasK e k = true := by rw [hasK_mask hv]; exact decide_eq_true hin0
        have ht := hterm e (List.mem_of_getElem? he)
        have et : fl (k, fieldsOf e.2 k) i.toNat = termE k i e := by rw [termE, if_pos hk1, nthF, fl_kind]
        rw [et, hs1, w64 (x := termE k i e) (by omega), w64 (by omega)]
    · rintro z w' ⟨rfl, f⟩
      exact hK _ _ ⟨by rw [wsucc hj (by omega)], f⟩
  · rintro s w2 ⟨rfl, f2⟩
    rw [List.take_of_length_le (by omega)]
    exact hk w2 f2

/-! ### pages -/
theorem spec_Page_c1 {id fr : Int} (hid : IdOk id) {bf : Nat} {T : TypeId} (B : Blk w bf T [.int .i64 fr]) {K : Res [.sc .bool] → W R} (hk : ∀ w', Fr None w w' → K (decide (slotOf id ≥ fr)) Q w') :
    callW Tryz.prog k_query_Page_c1 [.int .u32 id, .pointer (some ⟨bf, 0, none⟩)] [.sc .bool] K Q w := by
  refine C_query_Page_c1 _ _ K Q w ?_
  unfold F_query_Page_c1
  have fd : Fr None w w.drew := (Fr.refl _ _).drew
  have B2 := B.fr fd fun h => h
  refine ptrI (fld0 B2 (i := 0) (x := fr) rfl (spec_slots_Slot hid ⟨?_, hk _ fd⟩))
  have hr : Rd w.drew ⟨bf, 0, none⟩ (.sc (.int .i64)) fr := B2.cell 0
  unfold loadP
  rw [show tyOf Tryz.prog 3 = some (.sc (.int .i64)) from by kernel_rfl]
  exact hr
def idxM (l : List Int) (fr : Int) : Int := match l.findIdx? (fun id => decide (slotOf id ≥ fr)) with
  | some i => i
  | none => -1
theorem spec_IndexFunc_Page {ok : Nat → Prop} {s : Sl} {l : List Int} (hS : SlT ok w idT s l) (hm : Small l) (hid : ∀ x ∈ l, IdOk x) {fr : Int} {bf : Nat} {T : TypeId} (B : Blk w bf T [.int .i64 fr]) {K : Res [.sc (.int .i64)] → W R} (hk : ∀ w', Fr None w w' → K (idxM l fr) Q w') :
    callW Tryz.prog k_slices_IndexFunc_ID [.slice s.a s.n s.c, .func (.func 127) #[] #[.pointer (some ⟨bf, 0, none⟩)]] [.sc (.int .i64)] K Q w := by
  refine C_slices_IndexFunc_ID__query_Page_c1 s _ K Q w ?_
  unfold F_slices_IndexFunc_ID__query_Page_c1
  have hlen := hS.len
  refine forI (N := s.n) (fun s : Int => s) (fun j i w' => i = j ∧ Fr None w w' ∧ ∀ q y, q < j → l[q]? = some y → ¬ slotOf y ≥ fr) ⟨rfl, Fr.refl _ _, by omega⟩ (fun j s w' h => h.1) ?_ ?_
  · rintro j i w1 K' hj ⟨rfl, f1, hno⟩ - hK
    refine (hS.fr0 f1).get rfl rfl (by omega) fun x hx => ?_
    refine spec_Page_c1 (hid x (List.mem_of_getElem? hx)) (B.fr f1 fun h => h) fun w2 f2 => ?_
    refine condD (fun h => ?_) fun h => ?_
    · have : l.findIdx? (fun id => decide (slotOf id ≥ fr)) = some j := by
        rw [List.findIdx?_eq_some_iff_getElem]
        obtain ⟨hl, he⟩ := List.getElem?_eq_some_iff.1 hx
        refine ⟨hl, by rw [he]; simpa using h, fun q hq => ?_⟩
        have := hno q _ hq (List.getElem?_eq_getElem (by omega))
        simpa using this
      have e := hk w2 (f1.then0 f2)
      rw [idxM, this] at e
      exact e
    · refine hK _ _ ⟨wsucc hj (by omega), f1.then0 f2, fun q y hq hy => ?_⟩
      rcases Nat.lt_succ_iff_lt_or_eq.1 hq with h1 | h1
      · exact hno q y h1 hy
      · subst h1; rw [hx] at hy; cases hy; exact h
  · rintro i w1 ⟨rfl, f1, hno⟩
    have : l.findIdx? (fun id => decide (slotOf id ≥ fr)) = none := by
      rw [List.findIdx?_eq_none_iff]
      intro x hx
      obtain ⟨q, hq⟩ := List.mem_iff_getElem?.1 hx
      have := hno q x (by rw [hlen]; exact (List.getElem?_eq_some_iff.1 hq).1) hq
      simpa using this
    have e := hk w1 f1
    rw [idxM, this] at e
    exact e
/-- n of them from the slot fr on. -/
def pageM (x : StM) (all non fr n : Int) : List Int := match (withL x all non).findIdx? (fun id => decide (slotOf id ≥ fr)) with
  | some i => if n < 1 then [] else ((withL x all non).drop i).take n.toNat
  | none => []
theorem spec_query_Page {F : Nat → Prop} {b : Nat} {x : StM} (h : Store b x F w) {all non fr n : Int} {K : Res [.sc .sl] → W R} (hk : ∀ r w', SlT (fun _ => True) w' idT r (pageM x all non fr n) → Fr None w w' → K r Q w') :
    callW Tryz.prog k_query_Page [.pointer (some ⟨b, 0, none⟩), .int .u8 all, .int .u8 non, .int .i64 fr, .int .i64 n] [.sc .sl] K Q w := by
  have ok := (Store.open_ h).1
  refine C_query_Page _ _ _ _ _ K Q w ?_
  unfold F_query_Page
  refine newI fun w1 B1 f1 s1 => spec_query_With (Store.st.fr0 h f1) fun r w2 o2 f2 => ?_
  have hlen := withL_len ok all non
  have hn := o2.len
  refine spec_IndexFunc_Page o2.sl (by show _ ≤ 1048576; omega) (fun y hy => withL_id ok hy) (B1.fr f2 fun h => h) fun w3 f3 => ?_
  have f03 := (f1.then0 f2).then0 f3
  have hnil : SlT (fun _ => True) w3 idT ⟨none, 0, 0⟩ [] := (Den.Own.nil (fun _ => True) w3 31 idT).sl
  unfold idxM
  unfold pageM at hk
  split
  · rename_i i hi
    rw [hi] at hk
    have hil : i < (withL x all non).length := by
      rw [List.findIdx?_eq_some_iff_getElem] at hi
      exact hi.1
    refine joinI (fun z w' => z = decide (n < 1) ∧ w' = w3) (condF (decide_eq_false (by omega)) ⟨rfl, rfl⟩) ?_
    rintro z w' ⟨rfl, rfl⟩
    refine condD (fun hlt => ?_) fun hge => ?_
    · dsimp only at hk
      rw [if_pos hlt] at hk
      exact hk _ _ hnil f03
    · dsimp only at hk
      rw [if_neg hge] at hk
      refine ((o2.none f3).sl.mono (ok' := fun _ => True) fun _ _ _ => trivial).from rfl rfl (by omega) fun r2 S2 _ => ?_
      have e1 : IntKind.wrap .i64 ((r.n : Int) - (i : Int)) = (((withL x all non).length - i : Nat) : Int) := by rw [w64 (by omega)]; omega
      rw [e1]
      refine S2.cutI (n := min n.toNat ((withL x all non).length - i)) (by split <;> omega) (by rw [List.length_drop]; omega) fun r3 _ h3 => ?_
      have S3 := h3 _ _ S2
      have et : ((withL x all non).drop i).take (min n.toNat ((withL x all non).length - i)) = ((withL x all non).drop i).take n.toNat := by
        rcases Nat.le_total n.toNat ((withL x all non).length - i) with h | h
        · rw [Nat.min_eq_left h]
        · rw [Nat.min_eq_right h, List.take_of_length_le (by rw [List.length_drop]; omega), List.take_of_length_le (by rw [List.length_drop]; omega)]
      rw [et] at S3
      exact spec_Clip_ID S3 fun r4 S4 => hk _ _ S4 f03
  · rename_i hi
    rw [hi] at hk
    refine joinI (fun z w' => z = true ∧ w' = w3) (condT (decide_eq_true (by decide)) ⟨rfl, rfl⟩) ?_
    rintro z w' ⟨rfl, rfl⟩
    exact condT rfl (hk _ _ hnil f03)

end Go.Proofs.YtkblnhnjagemlaaGreat
