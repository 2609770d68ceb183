/-
  What Add and Remove of the program's package table compute.
-/
import Derived.Test.YtkblnhnjagemlaaGreatTabF
namespace Go.Proofs.YtkblnhnjagemlaaGreat
open Go Go.RowKit Go.Proofs.YtkblnhnjagemlaaGreat.Den
variable {R : Type} {Q : R → World → Prop} {w : World}

section
variable {lab : Nat → Nat} {b m : Nat} {L : List Ent}

def addT (m : Nat) (L : List Ent) (id : Int) (l : List Comp) : List Ent := if addM m L id l = 0 then L ++ [(id, l)] else L
def colJ (m : Nat) (L : List Ent) (l : List Comp) (j : Nat) (k : Nat) : List F3 := if (k : Int) ∈ (l.take j).map (·.1) then colM m L k ++ [fieldsOf l (k : Int)] else colM m L k

theorem colJ_step {m : Nat} {L : List Ent} {l : List Comp} (hr : Rising (l.map (·.1))) {j k : Nat} {x : Comp} (hx : l[j]? = some x) (hk : x.1 = (k : Int)) (q : Nat) :
    colJ m L l (j + 1) q = if q = k then colJ m L l j k ++ [x.2] else colJ m L l j q := by
  have hm : ∀ q : Nat, (q : Int) ∈ (l.take (j + 1)).map (·.1) ↔ (q : Int) ∈ (l.take j).map (·.1) ∨ q = k := by
    intro q
    rw [take_at hx, List.map_append, List.mem_append, List.map_cons, List.map_nil, List.mem_singleton, hk]
    exact or_congr Iff.rfl ⟨fun h => by omega, fun h => by omega⟩
  by_cases hq : q = k
  · subst hq
    have hno : (q : Int) ∉ (l.take j).map (·.1) := by
      intro h
      rw [List.map_take] at h
      obtain ⟨p, hp⟩ := List.mem_iff_getElem?.1 h
      rw [List.getElem?_take] at hp
      split at hp
      · rename_i hpj
        rw [Rising, List.pairwise_iff_getElem] at hr
        have hxj : (l.map (·.1))[j]? = some x.1 := by rw [List.getElem?_map, hx]; rfl
        obtain ⟨h1, h2⟩ := List.getElem?_eq_some_iff.1 hp
        obtain ⟨h3, h4⟩ := List.getElem?_eq_some_iff.1 hxj
        have := hr p j h1 h3 hpj
        rw [h2, h4, hk] at this
        omega
      · cases hp
    rw [if_pos rfl, colJ, if_pos ((hm q).2 (.inr rfl)), colJ, if_neg hno, ← hk, fieldsOf_mem hr (List.mem_of_getElem? hx)]
  · rw [if_neg hq, colJ, colJ]
    by_cases h : (q : Int) ∈ (l.take j).map (·.1)
    · rw [if_pos ((hm q).2 (.inl h)), if_pos h]
    · rw [if_neg (fun h2 => ((hm q).1 h2).elim h hq), if_neg h]
theorem colJ_end {m : Nat} {L : List Ent} {l : List Comp} (hv : Valid m l) {id : Int} {q : Nat} (hq : q < 6) : colJ m L l l.length q = colM m (L ++ [(id, l)]) q := by
  rw [colJ, List.take_length, hv.kinds]
  unfold colM
  by_cases hb : Nat.testBit m q
  · rw [if_pos (kindsOf_mem.2 ⟨q, hq, hb, rfl⟩), if_pos hb, if_pos hb, List.map_append]
    rfl
  · rw [if_neg (fun h => by obtain ⟨k, _, hk, e⟩ := kindsOf_mem.1 h; have : q = k := by omega
                            subst this; exact hb hk), if_neg hb, if_neg hb]

theorem rowM_add {L : List Ent} {id : Int} {l : List Comp} (h : rowM L id = none) (j : Int) : rowM (L ++ [(id, l)]) j = if j = id then some L.length else rowM L j := by
  unfold rowM at *
  rw [List.findIdx?_append]
  by_cases hj : j = id
  · subst hj
    rw [if_pos rfl, h]
    simp
  · rw [if_neg hj]
    have : List.findIdx? (fun e : Ent => e.1 == j) [(id, l)] = none := by simp; exact fun e => hj e.symm
    rw [this]
    cases List.findIdx? (fun e : Ent => e.1 == j) L <;> rfl

theorem spec_tab_Add (h : Tab lab w b m L) {id : Int} (hid : IdOk id) {ok : Nat → Prop} {s : Sl} {l : List Comp} (hS : SlT ok w compT s l) (hd : ∀ k, ok k → lab k = 0) (hm : Small l) (hl : ∀ c ∈ l, CompOk c) (hroom : L.length < 1048576) {K : Res [.sc (.int .i64)] → W R}
    (hk : ∀ lab' w', Tab lab' w' b m (addT m L id l) → (∀ k, lab' k ≠ 0 → lab k ≠ 0 ∨ w.heap.size ≤ k) → Fr (fun k => lab k ≠ 0) w w' → K (addM m L id l) Q w') :
    callW Tryz.prog k_table_Table_Add [.pointer (some ⟨b, 0, none⟩), .int .u32 id, .slice s.a s.n s.c] [.sc (.int .i64)] K Q w := by
  refine C_table_Table_Add _ _ _ K Q w ?_
  unfold F_table_Table_Add
  refine condF rfl ?_
  have fin : ∀ {z : Int} {w' : World}, Fr None w w' → z ≠ 0 → addM m L id l = z → K z Q w' := by
    intro z w' f hz hs
    have e := hk lab w' (by rw [addT, hs, if_neg hz]; exact h.fr0 f) (fun k e => .inl e) (f.mono fun _ _ h => h.elim)
    rw [hs] at e
    exact e
  refine spec_schema_List hS hm fun w1 f1 => ?_
  refine condN (fun hc => fin f1 hc (by rw [addM, if_pos hc])) fun hc => ?_
  have fd : Fr None w w1.drew := f1.drew
  have hd1 := h.fr0 fd
  obtain ⟨kinds, ids, cols, mp, r⟩ := hd1.rep
  refine ptrI ?_
  refine fldI r.blk (x := (m : Int)) rfl ?_
  refine spec_schema_Mask (hS.fr0 fd) hm hl fun w2 f2 => ?_
  have f02 := fd.then0 f2
  have h2 := h.fr0 f02
  refine ⟨by rw [add_lit]; exact (r.blk.fr f2 (fun h => h)).cell 0, ?_⟩
  refine condN (fun hmask => fin (z := 4) f02 (by omega) (by rw [addM, if_neg (by simpa using hc), if_pos (by omega)])) fun hmask => ?_
  have hmask' : maskN l = m := by omega
  refine spec_tab_Row h2 hid ?_
  refine condI (fun hrow => fin (z := 9) f02 (by omega) (by rw [addM, if_neg (by simpa using hc), if_neg (by omega), if_pos hrow])) fun hrow => ?_
  have hrow' : rowM L id = none := by simpa using hrow
  have hadd : addM m L id l = 0 := by rw [addM, if_neg (by simpa using hc), if_neg (by omega), if_neg (by simp [hrow'])]
  have hv : Valid m l := ⟨hc, hmask'⟩
  have f03 : Fr None w w2.drew := f02.drew
  have h3 := h.fr0 f03
  clear r h2 hd1 kinds ids cols mp
  obtain ⟨kinds, ids, cols, mp, r⟩ := h3.rep
  refine ptrI ?_
  refine fldI r.blk (x := some mp) rfl ?_
  refine ptrI ?_
  rw [add_lit, add_lit]
  refine fld0 r.blk (x := ids) rfl ?_
  have hidn : ids.n = L.length := by rw [r.ids.len, List.length_map]
  rw [hidn]
  refine r.mapPut hid L.length fun w4 r4 f4 s4 => ?_
  refine ptrI ?_
  rw [add_lit]
  refine r4.colID_add (by simpa using h.ok.small) fun lab5 ids5 w5 r5 hn5 f5 => ?_
  have f45 : Fr (fun k => lab k ≠ 0) w w5 := (f03.trans f4 (U := fun k => lab k ≠ 0) (fun _ h => h.elim) (fun _ _ h => h)).then f5
  have hsz4 : w.heap.size ≤ w4.heap.size := by have := f03.size; omega
  have hcn : ∀ k, colM m L k = colJ m L l 0 k := fun k => by simp [colJ]
  have hlen := hS.len
  refine forI (N := s.n) (fun s : Int => s) (fun j i w' => i = (j : Int) ∧ ∃ lab' cols', TabR lab' w' b m kinds ids5 cols' mp (kindsOf m) (L.map (·.1) ++ [id]) (colJ m L l j) (fun i => if i = id then some L.length else rowM L i) ∧
      (∀ k, lab' k ≠ 0 → lab k ≠ 0 ∨ w.heap.size ≤ k) ∧ Fr (fun k => lab k ≠ 0) w w')
    ⟨rfl, lab5, cols, by rw [show colJ m L l 0 = colM m L from funext fun k => (hcn k).symm]; exact r5, fun k e => (hn5 k e).imp (fun h => h) (fun h => by omega), f45⟩ (fun j s w' h => h.1) ?_ ?_
  · rintro j i w6 K' hj ⟨rfl, lab6, cols6, r6, hn6, f6⟩ - hK
    refine (hS.fr f6 (fun k hk e => e (hd k hk))).get rfl rfl (by omega) fun x hx => ?_
    have hxl := List.mem_of_getElem? hx
    have hxk := checkM_kind ((listE_0.1 hc).1 x hxl)
    obtain ⟨k, hkk⟩ : ∃ k : Nat, x.1 = (k : Int) := ⟨x.1.toNat, (Int.toNat_of_nonneg hxk.1).symm⟩
    have hk6 : k < 6 := by have h2 := hxk.2; rw [hkk] at h2; omega
    refine locI rfl rfl fun w7 B7 f7 s7 => ?_
    refine fldI B7.drew (x := x.1) rfl ?_
    refine ptrI ?_
    rw [hkk, add_lit]
    refine idxB (by omega) (by omega) ?_
    rw [add_lit]
    refine aggI' B7.drew (x := x.2) (fun q u hq => by rw [show 0 + 1 + q = q + 1 by omega]; exact hq) ?_
    rw [show 0 + 3 + (k : Int).toNat * 1 = 3 + k by simp]
    have fd7 : Fr None w6 w7.drew := f7.drew
    have r7 := r6.fr fd7 (fun _ _ h => h)
    have hsm : Small (colJ m L l j k) := by
      have := colM_len m L k
      have hst := h.ok.small
      unfold colJ Small
      split <;> simp <;> omega
    refine r7.colF_add (x := x.2) hk6 hsm fun lab8 cols8 w8 r8 hn8 f8 => ?_
    refine hK _ _ ⟨wsucc hj (by omega), lab8, cols8, ?_, fun q hq => ?_, ?_⟩
    · rw [show colJ m L l (j + 1) = fun q => if q = k then colJ m L l j k ++ [x.2] else colJ m L l j q from funext fun q => colJ_step (listE_0.1 hc).2 hx hkk q]
      exact r8
    · rcases hn8 q hq with h | h
      · exact hn6 q h
      · have := f6.size; have := fd7.size; exact .inr (by omega)
    · refine (f6.trans fd7 (U := fun k => lab k ≠ 0) (fun _ h => h) (fun _ _ h => h.elim)).trans f8 (fun _ h => h) fun q hq hl => ?_
      rcases hn6 q hl with h | h
      · exact h
      · omega
  · rintro i w6 ⟨rfl, lab6, cols6, r6, hn6, f6⟩
    have e := hk lab6 w6 (by
      rw [addT, hadd, if_pos rfl]
      refine ⟨h.ok.add hid hadd hroom, kinds, ids5, cols6, mp, ?_⟩
      rw [List.map_append, show rowM (L ++ [(id, l)]) = fun i => if i = id then some L.length else rowM L i from funext fun j => rowM_add hrow' j]
      refine ⟨r6.blk, r6.lb, r6.lm, r6.kinds, r6.ids, fun q hq => ?_, r6.map, r6.lt⟩
      rw [← colJ_end hv hq, ← hlen]
      exact r6.cols q hq) hn6 f6
    rw [hadd] at e
    exact e
theorem spec_tab_Add0 {id : Int} {s : Sl} {K : Res [.sc (.int .i64)] → W R} (hk : K 10 Q w) :
    callW Tryz.prog k_table_Table_Add [.pointer none, .int .u32 id, .slice s.a s.n s.c] [.sc (.int .i64)] K Q w := by
  refine C_table_Table_Add _ _ _ K Q w ?_
  exact hk

def colD (m : Nat) (L : List Ent) (i j : Nat) (k : Nat) : List F3 := if (k : Int) ∈ (kindsOf m).take j then dropI (colM m L k) i else colM m L k
theorem colD_step {m : Nat} {L : List Ent} {i j k : Nat} (hx : (kindsOf m)[j]? = some (k : Int)) (q : Nat) : colD m L i (j + 1) q = if q = k then dropI (colD m L i j k) i else colD m L i j q := by
  have hm : ∀ q : Nat, (q : Int) ∈ (kindsOf m).take (j + 1) ↔ (q : Int) ∈ (kindsOf m).take j ∨ q = k := by
    intro q
    rw [take_at hx, List.mem_append, List.mem_singleton]
    exact or_congr Iff.rfl ⟨fun h => by omega, fun h => by omega⟩
  by_cases hq : q = k
  · subst hq
    have hno : (q : Int) ∉ (kindsOf m).take j := by
      intro h
      obtain ⟨p, hp⟩ := List.mem_iff_getElem?.1 h
      rw [List.getElem?_take] at hp
      split at hp
      · rename_i hpj
        have hr := kindsOf_rising m
        rw [Rising, List.pairwise_iff_getElem] at hr
        obtain ⟨h1, h2⟩ := List.getElem?_eq_some_iff.1 hp
        obtain ⟨h3, h4⟩ := List.getElem?_eq_some_iff.1 hx
        have := hr p j h1 h3 hpj
        rw [h2, h4] at this
        omega
      · cases hp
    rw [if_pos rfl, colD, if_pos ((hm q).2 (.inr rfl)), colD, if_neg hno]
  · rw [if_neg hq, colD, colD]
    by_cases h : (q : Int) ∈ (kindsOf m).take j
    · rw [if_pos ((hm q).2 (.inl h)), if_pos h]
    · rw [if_neg (fun h2 => ((hm q).1 h2).elim h hq), if_neg h]
theorem colD_end {m : Nat} {L : List Ent} {i q : Nat} (hq : q < 6) : colD m L i (kindsOf m).length q = colM m (dropI L i) q := by
  rw [colD, List.take_length]
  unfold colM
  by_cases hb : Nat.testBit m q
  · rw [if_pos (kindsOf_mem.2 ⟨q, hq, hb, rfl⟩), if_pos hb, if_pos hb, dropI_map]
  · rw [if_neg (fun h => by obtain ⟨k, _, hk, e⟩ := kindsOf_mem.1 h; have : q = k := by omega
                            subst this; exact hb hk), if_neg hb, if_neg hb]

theorem spec_tab_Remove (h : Tab lab w b m L) {id : Int} (hid : IdOk id) {K : Res [.sc .sl, .sc (.int .i64)] → W R}
    (h0 : rowM L id = none → K (⟨none, 0, 0⟩, 7) Q w)
    (hk : ∀ (i : Nat) e (s : Sl) w', rowM L id = some i → L[i]? = some e → Tab lab w' b m (dropI L i) → Own (fun k => w.heap.size ≤ k ∧ lab k = 0) w' 53 compT s e.2 → Fr (fun k => lab k ≠ 0) w w' → K (s, 0) Q w') :
    callW Tryz.prog k_table_Table_Remove [.pointer (some ⟨b, 0, none⟩), .int .u32 id] [.sc .sl, .sc (.int .i64)] K Q w := by
  refine C_table_Table_Remove _ _ K Q w ?_
  unfold F_table_Table_Remove
  refine spec_tab_Row h hid ?_
  refine condF rfl ?_
  cases hr : rowM L id with
  | none => exact condT rfl (h0 hr)
  | some i =>
    refine condF rfl ?_
    obtain ⟨hil, e, he, heid⟩ := rowM_some hr
    have hsm := h.ok.small
    show callW _ _ [.pointer (some ⟨b, 0, none⟩), .int .i64 (i : Int)] _ _ _ _
    refine spec_tab_At h (fun ho => by omega) fun j e' s1 w1 hj he' o1 f1 => ?_
    have : j = i := by omega
    subst this
    rw [he] at he'
    cases he'
    refine newI fun w2 B2 f2 s2 => ?_
    refine stoAll B2 rfl rfl fun w3 B3 f3 s3 => ?_
    have f13 : Fr None w1 w3 := f2.newer f3 fun x e => by omega
    have f03 := f1.then0 f13
    have h3 := h.fr0 f03
    have o3 := o1.none f13
    have hlt : ∀ k, lab k ≠ 0 → k < w.heap.size := fun k hk => h.lt hk
    obtain ⟨kinds, ids, cols, mp, r⟩ := h3.rep
    refine ptrI ?_
    rw [add_lit]
    refine r.colID_take (i := j) (x := e.1) (by simpa using hsm) (by rw [List.getElem?_map, he]; rfl) fun ids4 w4 r4 f4 => ?_
    have f04 : Fr (fun k => lab k ≠ 0) w w4 := f03.trans f4 (fun _ h => h.elim) (fun _ _ h => h)
    refine ptrI ?_
    refine fldI r4.blk (x := kinds) rfl ?_
    have hnk := r4.kinds.len
    have hkl := kindsOf_len m
    refine forI (N := kinds.n) (fun s : Int => s) (fun q s w' => s = (q : Int) ∧ ∃ cols', TabR lab w' b m kinds ids4 cols' mp (kindsOf m) (dropI (L.map (·.1)) j) (colD m L j q) (rowM L) ∧ Fr (fun k => lab k ≠ 0) w w' ∧ Fr (fun k => lab k ≠ 0) w3 w')
      ⟨rfl, cols, by rw [show colD m L j 0 = colM m L from funext fun k => by simp [colD]]; exact r4, f04, f4⟩ (fun j s w' h => h.1) ?_ ?_
    · rintro q s w5 K' hq ⟨rfl, cols5, r5, f5, f35⟩ - hK
      refine r5.kinds.sl.get rfl rfl (by omega) fun x hx => ?_
      obtain ⟨k, hk6, hkb, rfl⟩ := kindsOf_mem.1 (List.mem_of_getElem? hx)
      refine ptrI ?_
      rw [add_lit]
      refine idxB (by omega) (by omega) ?_
      rw [show 0 + 3 + (k : Int).toNat * 1 = 3 + k by simp]
      have hcl : (colD m L j q k).length = L.length := by
        have hno : (k : Int) ∉ (kindsOf m).take q := by
          intro h
          obtain ⟨p, hp⟩ := List.mem_iff_getElem?.1 h
          rw [List.getElem?_take] at hp
          split at hp
          · rename_i hpj
            have hr := kindsOf_rising m
            rw [Rising, List.pairwise_iff_getElem] at hr
            obtain ⟨h1, h2⟩ := List.getElem?_eq_some_iff.1 hp
            obtain ⟨h3, h4⟩ := List.getElem?_eq_some_iff.1 hx
            have := hr p q h1 h3 hpj
            rw [h2, h4] at this
            omega
          · cases hp
        rw [colD, if_neg hno, colM, if_pos hkb, List.length_map]
      refine r5.colF_take hk6 (by rw [Small, hcl]; exact hsm) (i := j) (by omega) fun x cols6 w6 r6 f6 => ?_
      refine hK _ _ ⟨wsucc hq (by omega), cols6, ?_, f5.then f6, f35.then f6⟩
      rw [show colD m L j (q + 1) = fun p => if p = k then dropI (colD m L j q k) j else colD m L j q p from funext fun p => colD_step hx p]
      exact r6
    · rintro s w5 ⟨rfl, cols5, r5, f5, f35⟩
      refine ptrI ?_
      rw [add_lit, add_lit]
      refine fld0 r5.blk (x := ids4) rfl ?_
      have hidn : ids4.n = L.length - 1 := by rw [r5.ids.len, dropI_len, List.length_map]
      obtain ⟨z, hz⟩ : ∃ z, L[L.length - 1]? = some z := ⟨_, List.getElem?_eq_getElem (by omega)⟩
      have hzi : IdOk z.1 := h.ok.ids z (List.mem_of_getElem? hz)
      refine joinI (fun _ w' => ∃ rows, TabR lab w' b m kinds ids4 cols5 mp (kindsOf m) (dropI (L.map (·.1)) j) (colD m L j kinds.n) rows ∧ (∀ q, q ≠ e.1 → rows q = if q = z.1 then some j else rowM L q) ∧ Fr (fun k => lab k ≠ 0) w w' ∧ Fr (fun k => lab k ≠ 0) w3 w') ?_ ?_
      · rw [hidn]
        refine condD (fun hlt2 => ?_) fun hge => ?_
        · have hlt2 : (j : Int) < ((L.length - 1 : Nat) : Int) := hlt2
          have fd : Fr None w5 w5.drew := (Fr.refl _ _).drew
          have r5d := r5.fr fd (fun _ _ h => h)
          refine ptrI ?_
          refine fldI r5d.blk (x := some mp) rfl ?_
          refine ptrI ?_
          rw [add_lit, add_lit]
          refine fld0 r5d.blk (x := ids4) rfl ?_
          have hzl : (dropI (L.map (·.1)) j)[j]? = some z.1 := by
            rw [dropI_get (z := z.1) (by rw [List.length_map, List.getElem?_map, hz]; rfl), List.length_map, if_pos (by omega), if_pos rfl]
          refine r5d.ids.sl.get rfl rfl (List.getElem?_eq_some_iff.1 hzl).1 fun x hx => ?_
          rw [hzl] at hx
          cases hx
          refine r5d.mapPut hzi j fun w6 r6 f6 s6 => ?_
          have fd6 : Fr (fun k => lab k ≠ 0) w5 w6 := fd.trans f6 (fun _ h => h.elim) (fun _ _ h => h)
          exact ⟨_, r6, fun q hq => rfl, f5.then fd6, f35.then fd6⟩
        · refine ⟨_, r5, fun q hq => ?_, f5, f35⟩
          have hge : ¬ (j : Int) < ((L.length - 1 : Nat) : Int) := hge
          have : j = L.length - 1 := by omega
          rw [← this, he] at hz
          cases hz
          rw [if_neg hq]
      · rintro _ w6 ⟨rows, r6, hrows, f6, f36⟩
        refine ptrI ?_
        refine fldI r6.blk (x := some mp) rfl ?_
        refine r6.mapDel hid fun w7 r7 f7 s7 => ?_
        have f37 := f36.then f7
        have f07 := f6.then f7
        have hnew : ∀ k, w.heap.size ≤ k → ¬ (lab k ≠ 0) := fun k hk e => by have := hlt k e; omega
        have hw2 : w.heap.size ≤ w2.heap.size := by have := f1.size; omega
        refine fldI (B3.fr f37 (hnew _ (by have := f1.size; omega))) (x := s1) rfl ?_
        refine hk j e s1 w7 hr he ⟨h.ok.drop hil, kinds, ids4, cols5, mp, ?_⟩ ((o3.fr f37 fun k hk => hnew k hk).mono fun k _ hk => ⟨hk, by
          have := hnew k hk; omega⟩) f07
        rw [dropI_map, show rowM (dropI L j) = fun q => if q = id then none else rows q from funext fun q => by
          rw [rowM_drop h.ok.nodup he hz q, heid]
          by_cases hq : q = id
          · rw [if_pos hq, if_pos hq]
          · rw [if_neg hq, if_neg hq, hrows q (by rw [heid]; exact hq)]]
        refine ⟨r7.blk, r7.lb, r7.lm, r7.kinds, r7.ids, fun q hq => ?_, r7.map, r7.lt⟩
        rw [← colD_end hq, ← hnk]
        exact r7.cols q hq
theorem spec_tab_Remove0 {id : Int} {K : Res [.sc .sl, .sc (.int .i64)] → W R} (hk : K (⟨none, 0, 0⟩, 10) Q w) :
    callW Tryz.prog k_table_Table_Remove [.pointer none, .int .u32 id] [.sc .sl, .sc (.int .i64)] K Q w := by
  refine C_table_Table_Remove _ _ K Q w ?_
  unfold F_table_Table_Remove
  refine spec_tab_Row0 ?_
  exact hk
theorem spec_tab_At0 {i : Int} {K : Res [.agg [.int .u32, .sl], .sc .bool] → W R} (hk : ∀ w', Fr None w w' → K ((0, ⟨none, 0, 0⟩), false) Q w') :
    callW Tryz.prog k_table_Table_At [.pointer none, .int .i64 i] [.agg [.int .u32, .sl], .sc .bool] K Q w := by
  refine C_table_Table_At _ _ K Q w ?_
  unfold F_table_Table_At
  refine newI fun w1 B1 f1 s1 => ?_
  refine joinI (fun z w' => z = true ∧ w' = w1) ?_ ?_
  · refine condD (fun h => ⟨rfl, rfl⟩) fun hi => ?_
    exact spec_tab_Len0 ⟨decide_eq_true (by omega), rfl⟩
  · rintro z w2 ⟨rfl, rfl⟩
    refine condT rfl ?_
    refine stoAll B1 rfl rfl fun w3 B3 f3 s3 => ?_
    refine aggI B3 (x := (0, ⟨none, 0, 0⟩)) rfl ?_
    exact hk w3 (f1.newer f3 fun x e => by omega)

end

end Go.Proofs.YtkblnhnjagemlaaGreat
