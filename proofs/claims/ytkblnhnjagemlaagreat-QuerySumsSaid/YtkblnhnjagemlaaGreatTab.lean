/-
  What the functions of the program's package table compute.
-/
import Derived.Test.YtkblnhnjagemlaaGreatTabM
import Derived.Test.YtkblnhnjagemlaaGreatObj
namespace Go.Proofs.YtkblnhnjagemlaaGreat
open Go Go.RowKit Go.Proofs.YtkblnhnjagemlaaGreat.Den
variable {R : Type} {Q : R → World → Prop} {w : World}

abbrev idT : Ty := .sc (.int .u32)
abbrev f3T : Ty := .agg [.int .i32, .int .i32, .int .i32]
abbrev f3C (x : F3) : List Value := [.int .i32 x.1, .int .i32 x.2.1, .int .i32 x.2.2]
theorem ids_ty : SlTy Tryz.prog 28 31 idT 4 := slTy (by kernel_rfl)
theorem u8s_ty : SlTy Tryz.prog 67 5 u8T 1 := slTy (by kernel_rfl)
theorem f3s_ty : SlTy Tryz.prog 237 283 f3T 12 := slTy (by kernel_rfl)
theorem id_und : Tryz.prog.underlying 31 = some (.int .u32) := by kernel_rfl
theorem id_keyed : Go.Maps.Keyed Tryz.prog 31 := Go.Maps.int_keyed id_und
theorem rows_und : Tryz.prog.underlying 241 = some (.map 31 3) := by kernel_rfl
theorem int_zero : (Tryz.prog.info? 3).bind (·.zero) = some (.int .i64 0) := by kernel_rfl
def IdOk (i : Int) : Prop := 0 ≤ i ∧ i ≤ 4294967295
theorem id_key {i : Int} (h : IdOk i) : keyOf Tryz.prog 31 (.int .u32 i) = some (.int .u32 i) := Go.Maps.keyOf_int_mk id_und (by obtain ⟨h1, h2⟩ := h; simp [Lit.wf, IntKind.min, IntKind.max, IntKind.bits, IntKind.signed]; omega)

/-! ### a column -/
section
variable {b o : Nat} {T : TypeId} {cs : List Value} {s : Sl} {S : Nat → Prop}

theorem spec_colID_add {l : List Int} {x : Int} (B : Blk w b T cs) (hc : cs[o]? = some s.v) (ho : Own S w 31 idT s l) (hb : ¬ S b) (hm : Small l) {K : Res [] → W R}
    (hk : ∀ s' w', Blk w' b T (cs.set o s'.v) → Own (fun k => S k ∨ w.heap.size ≤ k) w' 31 idT s' (l ++ [x]) → Fr (fun k => k = b ∨ S k) w w' → K () Q w') :
    callW Tryz.prog k_table_column_ID_add [.pointer (some ⟨b, o, none⟩), .int .u32 x] [] K Q w := by
  refine C_table_column_ID_add _ _ K Q w ?_
  unfold F_table_column_ID_add
  have hol : o < cs.length := (List.getElem?_eq_some_iff.1 hc).1
  refine ptrI ?_
  rw [add_lit, Nat.add_zero]
  refine fld0 B (x := s) hc ?_
  refine newI fun w1 B1 f1 s1 => ?_
  refine app1 (S' := fun k => S k ∨ w.heap.size ≤ k) ids_ty (ho.none f1) B1 rfl (by omega) (by rw [maxLen_eq]; omega) (fun _ h => .inl h) (.inr (by omega)) fun r w2 o2 f2 s2 => ?_
  have f2' : Fr S w1 w2 := f2.mono fun k _ e => ho.own k e
  have B2 := (B.fr f1 (fun h => h)).fr f2' hb
  refine ptrI ?_
  refine setI B2 hol rfl fun w3 B3 f3 s3 => ?_
  refine hk r w3 B3 (o2.fr f3 fun k hS e => ?_) ?_
  · rcases hS with hS | hS
    · rw [e] at hS; exact hb hS
    · have := B.lt; omega
  · exact (f1.trans f2' (U := fun k => k = b ∨ S k) (fun _ h => h.elim) (fun _ _ h => .inr h)).trans f3 (fun _ h => h) (fun _ _ h => .inl h)

theorem spec_colF_add {l : List F3} {x : F3} (B : Blk w b T cs) (hc : cs[o]? = some s.v) (ho : Own S w 283 f3T s l) (hb : ¬ S b) (hm : Small l) {K : Res [] → W R}
    (hk : ∀ s' w', Blk w' b T (cs.set o s'.v) → Own (fun k => S k ∨ w.heap.size ≤ k) w' 283 f3T s' (l ++ [x]) → Fr (fun k => k = b ∨ S k) w w' → K () Q w') :
    callW Tryz.prog k_table_column_fields_add [.pointer (some ⟨b, o, none⟩), .agg ⟨f3C x⟩] [] K Q w := by
  refine C_table_column_fields_add _ _ K Q w ?_
  unfold F_table_column_fields_add
  have hol : o < cs.length := (List.getElem?_eq_some_iff.1 hc).1
  refine newI fun w0 B0 f0 s0 => ?_
  have f0 := f0.drew
  refine ptrI ?_
  rw [add_lit, Nat.add_zero]
  refine fld0 (B.fr f0 (fun h => h)) (x := s) hc ?_
  refine aggI B0.drew (x := x) rfl ?_
  refine newI fun w1 B1 f1 s1 => ?_
  have s1 : w1.heap.size = w0.heap.size + 1 := s1
  have f01 := f0.then0 f1
  refine app1 (x := x) (S' := fun k => S k ∨ w.heap.size ≤ k) f3s_ty (ho.none f01) B1 rfl (by omega) (by rw [maxLen_eq]; omega) (fun _ h => .inl h) (.inr (by omega)) fun r w2 o2 f2 s2 => ?_
  have f2' : Fr S w1 w2 := f2.mono fun k _ e => ho.own k e
  have B2 := (B.fr f01 (fun h => h)).fr f2' hb
  refine ptrI ?_
  refine setI B2 hol rfl fun w3 B3 f3 s3 => ?_
  refine hk r w3 B3 (o2.fr f3 fun k hS e => ?_) ?_
  · rcases hS with hS | hS
    · rw [e] at hS; exact hb hS
    · have := B.lt; omega
  · exact (f01.trans f2' (U := fun k => k = b ∨ S k) (fun _ h => h.elim) (fun _ _ h => .inr h)).trans f3 (fun _ h => h) (fun _ _ h => .inl h)

theorem spec_colID_take {l : List Int} {x : Int} {i : Nat} (B : Blk w b T cs) (hc : cs[o]? = some s.v) (ho : Own S w 31 idT s l) (hb : ¬ S b) (hm : Small l) (hx : l[i]? = some x) {K : Res [.sc (.int .u32)] → W R}
    (hk : ∀ s' w', Blk w' b T (cs.set o s'.v) → Own S w' 31 idT s' (dropI l i) → Fr (fun k => k = b ∨ S k) w w' → K x Q w') :
    callW Tryz.prog k_table_column_ID_take [.pointer (some ⟨b, o, none⟩), .int .i64 (i : Int)] [.sc (.int .u32)] K Q w := by
  refine C_table_column_ID_take _ _ K Q w ?_
  unfold F_table_column_ID_take
  have hol : o < cs.length := (List.getElem?_eq_some_iff.1 hc).1
  obtain ⟨hil, hxe⟩ := List.getElem?_eq_some_iff.1 hx
  have hlen := ho.len
  refine ptrI ?_
  rw [add_lit, Nat.add_zero]
  refine fld0 B (x := s) hc ?_
  refine ho.sl.get rfl rfl hil fun x' hx' => ?_
  rw [hx] at hx'
  cases hx'
  refine ptrI ?_
  refine fld0 B (x := s) hc ?_
  refine ptrI ?_
  refine fld0 B.drew (x := s) hc ?_
  refine ptrI ?_
  refine fld0 B.drew (x := s) hc ?_
  rw [w64 (by omega)]
  have hod : Own S w.drew 31 idT s l := ho.none (Fr.refl None w).drew
  have hlast : (s.n : Int) - 1 = ((l.length - 1 : Nat) : Int) := by omega
  rw [hlast]
  refine hod.sl.get rfl rfl (by omega) fun z hz => ?_
  refine hod.idx rfl (by omega) (by omega) fun g _ hg _ _ => ?_
  rw [Int.toNat_natCast]
  refine hod.set rfl hil hg z fun w2 o2 f2 s2 => ?_
  have f2' : Fr S w w2 := ((Fr.refl None w).drew.trans f2 (U := S) (fun _ h => h.elim) fun k _ e => ho.own k e)
  have B2 := B.fr f2' hb
  refine ptrI ?_
  refine fld0 B2 (x := s) hc ?_
  refine chkI (by have := ho.cap; simp only [Option.getD_some, Option.getD_none]; omega) ?_
  simp only [Option.getD_some, Option.getD_none]
  refine ptrI ?_
  refine setI B2 hol rfl fun w3 B3 f3 s3 => ?_
  have o3 := (o2.fr f3 (fun k hS e => hb (by rw [e] at hS; exact hS))).take (n := l.length - 1) (by simp)
  rw [← dropI_eq hz] at o3
  have e : (if s.c = Int.toNat 0 then s.a else s.a.map (·.add ((Int.toNat 0) * 1))) = s.a := by
    split
    · rfl
    · cases s.a with
      | none => rfl
      | some a => simp [Addr.add]
  rw [e] at B3
  refine hk ⟨s.a, l.length - 1, s.c⟩ w3 B3 o3 ?_
  exact (f2'.trans f3 (U := fun k => k = b ∨ S k) (fun _ h => .inr h) (fun _ _ h => .inl h))

theorem spec_colF_take {l : List F3} {x : F3} {i : Nat} (B : Blk w b T cs) (hc : cs[o]? = some s.v) (ho : Own S w 283 f3T s l) (hb : ¬ S b) (hm : Small l) (hx : l[i]? = some x) {K : Res [.agg [.int .i32, .int .i32, .int .i32]] → W R}
    (hk : ∀ s' w', Blk w' b T (cs.set o s'.v) → Own S w' 283 f3T s' (dropI l i) → Fr (fun k => k = b ∨ S k) w w' → K x Q w') :
    callW Tryz.prog k_table_column_fields_take [.pointer (some ⟨b, o, none⟩), .int .i64 (i : Int)] [.agg [.int .i32, .int .i32, .int .i32]] K Q w := by
  refine C_table_column_fields_take _ _ K Q w ?_
  unfold F_table_column_fields_take
  have hol : o < cs.length := (List.getElem?_eq_some_iff.1 hc).1
  obtain ⟨hil, hxe⟩ := List.getElem?_eq_some_iff.1 hx
  have hlen := ho.len
  refine newI fun wa Ba fa sa => ?_
  refine ptrI ?_
  rw [add_lit, Nat.add_zero]
  refine fld0 (B.fr fa (fun h => h)) (x := s) hc ?_
  refine (ho.sl.fr0 fa).get rfl rfl hil fun x' hx' => ?_
  rw [hx] at hx'
  cases hx'
  refine locI rfl rfl fun wb Bb fb sb => ?_
  have fab := fa.then0 fb
  have B1 := B.fr fab (fun h => h)
  have ho1 := ho.none fab
  refine ptrI ?_
  refine fld0 B1 (x := s) hc ?_
  refine ptrI ?_
  refine fld0 B1.drew (x := s) hc ?_
  refine ptrI ?_
  refine fld0 B1.drew (x := s) hc ?_
  rw [w64 (by omega)]
  have hod : Own S wb.drew 283 f3T s l := ho1.none (Fr.refl None wb).drew
  have hlast : (s.n : Int) - 1 = ((l.length - 1 : Nat) : Int) := by omega
  rw [hlast]
  refine hod.sl.get rfl rfl (by omega) fun z hz => ?_
  refine hod.idx rfl (by omega) (by omega) fun g _ hg _ _ => ?_
  rw [Int.toNat_natCast]
  refine hod.set rfl hil hg z fun w2 o2 f2 s2 => ?_
  have f2' : Fr S wb w2 := ((Fr.refl None wb).drew.trans f2 (U := S) (fun _ h => h.elim) fun k _ e => ho.own k e)
  have B2 := B1.fr f2' hb
  have hblt := B.lt
  refine ptrI ?_
  refine fld0 B2 (x := s) hc ?_
  refine chkI (by have := ho.cap; simp only [Option.getD_some, Option.getD_none]; omega) ?_
  simp only [Option.getD_some, Option.getD_none]
  refine ptrI ?_
  refine setI B2 hol rfl fun w3 B3 f3 s3 => ?_
  have o3 := (o2.fr f3 (fun k hS e => hb (by rw [e] at hS; exact hS))).take (n := l.length - 1) (by simp)
  rw [← dropI_eq hz] at o3
  have e : (if s.c = Int.toNat 0 then s.a else s.a.map (·.add ((Int.toNat 0) * 3))) = s.a := by
    split
    · rfl
    · cases s.a with
      | none => rfl
      | some a => simp [Addr.add]
  rw [e] at B3
  have own2 : ∀ k, s.v.ownBlock = some k → k < w.heap.size := fun k e => ho.lt e
  have fb3 : Fr (fun k => k = b ∨ s.v.ownBlock = some k) wb w3 := ((Fr.refl None wb).drew.trans f2 (U := fun k => k = b ∨ s.v.ownBlock = some k) (fun _ h => h.elim) (fun k _ e => .inr e)).trans f3 (fun _ h => h) (fun _ _ h => .inl h)
  have Bb3 := Bb.fr fb3 (fun h => by rcases h with h | h; omega; have := own2 _ h; omega)
  have Ba3 := (Ba.fr fb (fun h => h)).fr fb3 (fun h => by rcases h with h | h; omega; have := own2 _ h; omega)
  refine aggI Bb3 (x := x) rfl ?_
  refine stoAll Ba3 rfl rfl fun w4 B4 f4 s4 => ?_
  refine aggI B4 (x := x) rfl ?_
  have f04 : Fr (fun k => k = b ∨ S k) w w3 := (fab.trans f2' (U := fun k => k = b ∨ S k) (fun _ h => h.elim) (fun _ _ h => .inr h)).trans f3 (fun _ h => h) (fun _ _ h => .inl h)
  have o4 : Own (fun k => S k ∧ k < w.heap.size) w3 283 f3T ⟨s.a, l.length - 1, s.c⟩ (dropI l i) := ⟨o3.row, fun k e => by
    rw [Sl.own] at e
    have e' : s.v.ownBlock = some k := by rw [Sl.own]; exact e
    exact ⟨ho.own k e', ho.lt e'⟩⟩
  refine hk ⟨s.a, l.length - 1, s.c⟩ w4 (B3.fr f4 (fun e => by omega)) ((o4.fr f4 (fun k hk e => by omega)).mono fun k _ h => h.1) (f04.thenNew f4 fun x e => by omega)

end

/-! ### the table -/
abbrev tabC (m : Int) (kinds ids : Sl) (cols : Nat → Sl) (mp : Nat) : List Value :=
  [.int .u8 m, kinds.v, ids.v, (cols 0).v, (cols 1).v, (cols 2).v, (cols 3).v, (cols 4).v, (cols 5).v, .map (some mp)]
theorem lt6 {k : Nat} (h : k < 6) : k = 0 ∨ k = 1 ∨ k = 2 ∨ k = 3 ∨ k = 4 ∨ k = 5 := by omega
theorem tabC_col {m : Int} {kinds ids : Sl} {cols : Nat → Sl} {mp k : Nat} (hk : k < 6) : (tabC m kinds ids cols mp)[3 + k]? = some (cols k).v := by
  rcases lt6 hk with rfl | rfl | rfl | rfl | rfl | rfl <;> rfl
def updS (cols : Nat → Sl) (k : Nat) (s : Sl) : Nat → Sl := fun i => if i = k then s else cols i
theorem tabC_setcol {m : Int} {kinds ids : Sl} {cols : Nat → Sl} {mp k : Nat} (hk : k < 6) (s : Sl) : (tabC m kinds ids cols mp).set (3 + k) s.v = tabC m kinds ids (updS cols k s) mp := by
  rcases lt6 hk with rfl | rfl | rfl | rfl | rfl | rfl <;> rfl
def colM (m : Nat) (L : List Ent) (k : Nat) : List F3 := if Nat.testBit m k then L.map (fun e => fieldsOf e.2 (k : Int)) else []
theorem colM_len (m : Nat) (L : List Ent) (k : Nat) : (colM m L k).length ≤ L.length := by
  unfold colM
  split <;> simp

/-- how a table lies in memory; lab: which block is whose (0: not of this table). -/
structure TabR (lab : Nat → Nat) (w : World) (b m : Nat) (kinds ids : Sl) (cols : Nat → Sl) (mp : Nat) (ks : List Int) (is : List Int) (cl : Nat → List F3) (rows : Int → Option Nat) : Prop where
  blk : Blk w b 243 (tabC (m : Int) kinds ids cols mp)
  lb : lab b = 1
  lm : lab mp = 2
  kinds : Own (fun k => lab k = 3) w 5 u8T kinds ks
  ids : Own (fun k => lab k = 4) w 31 idT ids is
  cols : ∀ k, k < 6 → Own (fun x => lab x = 5 + k) w 283 f3T (cols k) (cl k)
  map : MapB Tryz.prog 31 (Value.int .u32) w mp fun i => (rows i).map fun r => .int .i64 (r : Int)
  lt : ∀ k, lab k ≠ 0 → k < w.heap.size

theorem TabR.fr {lab : Nat → Nat} {b m : Nat} {kinds ids : Sl} {cols : Nat → Sl} {mp : Nat} {ks is : List Int} {cl : Nat → List F3} {rows : Int → Option Nat} (h : TabR lab w b m kinds ids cols mp ks is cl rows)
    {S : Nat → Prop} {w' : World} (f : Fr S w w') (hn : ∀ k, lab k ≠ 0 → ¬ S k) : TabR lab w' b m kinds ids cols mp ks is cl rows :=
  ⟨h.blk.fr f (hn b (by rw [h.lb]; omega)), h.lb, h.lm, h.kinds.fr f (fun k e => hn k (by omega)), h.ids.fr f (fun k e => hn k (by omega)), fun k hk => (h.cols k hk).fr f (fun x e => hn x (by omega)),
    h.map.fr f (hn mp (by rw [h.lm]; omega)), fun k e => Nat.lt_of_lt_of_le (h.lt k e) f.size⟩

structure Tab (lab : Nat → Nat) (w : World) (b m : Nat) (L : List Ent) : Prop where
  ok : TabOk m L
  rep : ∃ kinds ids cols mp, TabR lab w b m kinds ids cols mp (kindsOf m) (L.map (·.1)) (colM m L) (rowM L)

theorem Tab.fr {lab : Nat → Nat} {b m : Nat} {L : List Ent} (h : Tab lab w b m L) {S : Nat → Prop} {w' : World} (f : Fr S w w') (hn : ∀ k, lab k ≠ 0 → ¬ S k) : Tab lab w' b m L := by
  obtain ⟨kinds, ids, cols, mp, r⟩ := h.rep
  exact ⟨h.ok, kinds, ids, cols, mp, r.fr f hn⟩
theorem Tab.fr0 {lab : Nat → Nat} {b m : Nat} {L : List Ent} (h : Tab lab w b m L) {w' : World} (f : Fr None w w') : Tab lab w' b m L := h.fr f fun _ _ h => h
theorem Tab.lt {lab : Nat → Nat} {b m : Nat} {L : List Ent} (h : Tab lab w b m L) {k : Nat} (e : lab k ≠ 0) : k < w.heap.size := by
  obtain ⟨kinds, ids, cols, mp, r⟩ := h.rep
  exact r.lt k e

section
variable {lab : Nat → Nat} {b m : Nat} {L : List Ent}

theorem spec_tab_Row (h : Tab lab w b m L) {id : Int} (hid : IdOk id) {K : Res [.sc (.int .i64), .sc .bool] → W R} (hk : K ((((rowM L id).getD 0 : Nat) : Int), (rowM L id).isSome) Q w) :
    callW Tryz.prog k_table_Table_Row [.pointer (some ⟨b, 0, none⟩), .int .u32 id] [.sc (.int .i64), .sc .bool] K Q w := by
  obtain ⟨kinds, ids, cols, mp, r⟩ := h.rep
  refine C_table_Table_Row _ _ K Q w ?_
  unfold F_table_Table_Row
  refine condF rfl (ptrI ?_)
  refine fldI r.blk (x := some mp) rfl ?_
  refine ⟨((((rowM L id).getD 0 : Nat) : Int), (rowM L id).isSome), ?_, hk⟩
  rw [r.map.look id_keyed rows_und int_zero (id_key hid) true]
  cases rowM L id <;> rfl
theorem spec_tab_Row0 {id : Int} {K : Res [.sc (.int .i64), .sc .bool] → W R} (hk : K (0, false) Q w) : callW Tryz.prog k_table_Table_Row [.pointer none, .int .u32 id] [.sc (.int .i64), .sc .bool] K Q w := by
  refine C_table_Table_Row _ _ K Q w ?_
  exact hk

theorem spec_tab_Len (h : Tab lab w b m L) {K : Res [.sc (.int .i64)] → W R} (hk : K ((L.length : Nat) : Int) Q w) : callW Tryz.prog k_table_Table_Len [.pointer (some ⟨b, 0, none⟩)] [.sc (.int .i64)] K Q w := by
  obtain ⟨kinds, ids, cols, mp, r⟩ := h.rep
  refine C_table_Table_Len _ K Q w ?_
  unfold F_table_Table_Len
  refine condF rfl (ptrI ?_)
  rw [add_lit, add_lit]
  refine fld0 r.blk (x := ids) rfl ?_
  have := r.ids.len
  rw [List.length_map] at this
  rw [this]
  exact hk
theorem spec_tab_Len0 {K : Res [.sc (.int .i64)] → W R} (hk : K 0 Q w) : callW Tryz.prog k_table_Table_Len [.pointer none] [.sc (.int .i64)] K Q w := C_table_Table_Len _ K Q w hk
theorem spec_tab_Mask (h : Tab lab w b m L) {K : Res [.sc (.int .u8)] → W R} (hk : K ((m : Nat) : Int) Q w) : callW Tryz.prog k_table_Table_Mask [.pointer (some ⟨b, 0, none⟩)] [.sc (.int .u8)] K Q w := by
  obtain ⟨kinds, ids, cols, mp, r⟩ := h.rep
  refine C_table_Table_Mask _ K Q w ?_
  exact fldI r.blk (x := (m : Int)) rfl hk
theorem spec_tab_Mask0 {K : Res [.sc (.int .u8)] → W R} (hk : K 0 Q w) : callW Tryz.prog k_table_Table_Mask [.pointer none] [.sc (.int .u8)] K Q w := C_table_Table_Mask _ K Q w hk

theorem spec_Clone_ID {S : Nat → Prop} {s : Sl} {l : List Int} (ho : Own S w 31 idT s l) (hm : Small l) {K : Res [.sc .sl] → W R} (hk : ∀ r w', Own (Up w.heap.size) w' 31 idT r l → Fr None w w' → K r Q w') :
    callW Tryz.prog k_slices_Clone_ID [.slice s.a s.n s.c] [.sc .sl] K Q w := by
  refine C_slices_Clone_ID _ K Q w ?_
  unfold F_slices_Clone_ID
  rcases ho.cases with ⟨rfl, rfl⟩ | ⟨g, c, cur, rfl, _⟩
  · exact hk _ w (Own.nil _ _ _ _) (Fr.refl _ _)
  · refine condF rfl ?_
    refine newI fun w1 B1 f1 s1 => ?_
    have own := Own.mk' (S := Up w.heap.size) (w := w1) (E := 31) (t := idT) (l := []) (g := w.heap.size) (c := 0) (cur := ⟨[]⟩) (Nat.le_refl _) B1 (Nat.le_refl _) (Nat.zero_le _) rfl rfl
    refine appI (s := ⟨some ⟨w.heap.size, 0, none⟩, 0, 0⟩) (s2 := ⟨_, _, _⟩) (S' := Up w.heap.size) ids_ty own (ho.sl.fr0 f1) (by simp; omega) (by rw [maxLen_eq]; simp; omega) (fun _ h => h) (by show _ ≤ _; omega) fun r w2 o2 f2 s2 => ?_
    rw [List.nil_append] at o2
    exact hk r w2 o2 (f1.newer f2 (fun x e => own.own x e))

theorem spec_tab_IDs (h : Tab lab w b m L) {K : Res [.sc .sl] → W R} (hk : ∀ r w', Own (Up w.heap.size) w' 31 idT r (L.map (·.1)) → Fr None w w' → K r Q w') :
    callW Tryz.prog k_table_Table_IDs [.pointer (some ⟨b, 0, none⟩)] [.sc .sl] K Q w := by
  obtain ⟨kinds, ids, cols, mp, r⟩ := h.rep
  refine C_table_Table_IDs _ K Q w ?_
  unfold F_table_Table_IDs
  refine condF rfl (ptrI ?_)
  rw [add_lit, add_lit]
  refine fld0 r.blk (x := ids) rfl ?_
  refine spec_Clone_ID r.ids (by simpa using h.ok.small) fun r w1 o1 f1 => ?_
  exact hk r w1 o1 f1
theorem spec_tab_IDs0 {K : Res [.sc .sl] → W R} (hk : K ⟨none, 0, 0⟩ Q w) : callW Tryz.prog k_table_Table_IDs [.pointer none] [.sc .sl] K Q w := C_table_Table_IDs _ K Q w hk

theorem spec_r7_Same {ok ok2 : Nat → Prop} {s s2 : Sl} {l l2 : List Int} (hS : SlT ok w idT s l) (hS2 : SlT ok2 w idT s2 l2) (hm : Small l) {K : Res [.sc .bool] → W R} (hk : ∀ w', Fr None w w' → K (decide (l = l2)) Q w') :
    callW Tryz.prog k_pinnaceref07_Same [.slice s.a s.n s.c, .slice s2.a s2.n s2.c] [.sc .bool] K Q w := by
  refine C_pinnaceref07_Same s s2 K Q w ?_
  unfold F_pinnaceref07_Same
  have h1 := hS.len
  have h2 := hS2.len
  refine condN (fun hne => ?_) fun heq => ?_
  · have e := hk w (Fr.refl _ _)
    rw [decide_eq_false (fun e => hne (by rw [h1, h2, e]))] at e
    exact e
  · refine forI (N := s.n) (fun s : Int => s) (fun j s w' => s = j ∧ Fr None w w' ∧ l.take j = l2.take j) ⟨rfl, Fr.refl _ _, rfl⟩ (fun j s w' h => h.1) ?_ ?_
    · rintro j i w1 K' hj ⟨rfl, f1, ht⟩ - hK
      refine (hS.fr0 f1.drew).get rfl rfl (by omega) fun x hx => ?_
      refine (hS2.fr0 f1.drew).get rfl rfl (by omega) fun y hy => ?_
      refine condN (fun hb => ?_) fun hb => ?_
      · have e := hk _ f1.drew
        rw [decide_eq_false (fun e => by subst e; rw [hx] at hy; cases hy; exact hb rfl)] at e
        exact e
      · subst hb
        exact hK _ _ ⟨wsucc hj (by omega), f1.drew, by rw [take_at hx, take_at hy, ht]⟩
    · rintro i w1 ⟨rfl, f1, ht⟩
      have e := hk _ f1
      rw [h1, List.take_length, List.take_of_length_le (by omega)] at ht
      rw [decide_eq_true ht] at e
      exact e

/-- a component of a row. -/
theorem spec_tab_comp (h : Tab lab w b m L) {i k : Nat} {e : Ent} (hi : L[i]? = some e) (hk6 : k < 6) (hb : Nat.testBit m k = true) {K : Res [.agg [.int .u8, .int .i32, .int .i32, .int .i32]] → W R} (hk : ∀ w', Fr None w w' → K ((k : Int), fieldsOf e.2 (k : Int)) Q w') :
    callW Tryz.prog k_table_Table_comp [.pointer (some ⟨b, 0, none⟩), .int .i64 (i : Int), .int .u8 (k : Int)] [.agg [.int .u8, .int .i32, .int .i32, .int .i32]] K Q w := by
  obtain ⟨kinds, ids, cols, mp, r⟩ := h.rep
  refine C_table_Table_comp _ _ _ K Q w ?_
  unfold F_table_Table_comp
  refine newI fun w1 B1 f1 s1 => ?_
  refine ptrI ?_
  rw [add_lit]
  refine idxB (by omega) (by omega) ?_
  rw [add_lit]
  have hc : (tabC (m : Int) kinds ids cols mp)[0 + 3 + (k : Int).toNat * 1 + 0]? = some (cols k).v := by
    rw [show 0 + 3 + (k : Int).toNat * 1 + 0 = 3 + k by simp]
    exact tabC_col hk6
  refine fld0 (r.blk.fr f1 (fun h => h)) (x := cols k) hc ?_
  have hcol := (r.cols k hk6).none f1
  have hx : (colM m L k)[i]? = some (fieldsOf e.2 (k : Int)) := by rw [colM, if_pos hb, List.getElem?_map, hi]; rfl
  refine hcol.sl.get rfl rfl (List.getElem?_eq_some_iff.1 hx).1 fun x hx' => ?_
  rw [hx] at hx'
  cases hx'
  refine stoAll B1 rfl rfl fun w2 B2 f2 s2 => ?_
  exact aggI B2 (x := ((k : Int), fieldsOf e.2 (k : Int))) rfl (hk _ (f1.newer f2 fun x e => by omega))

end

/-! ### labels -/
theorem Den.Own.relab {lab : Nat → Nat} {E : TypeId} {t : Ty} {s : Sl} {l : List t.T} {j : Nat} (h : Own (fun x => lab x = j) w E t s l) (n' c : Nat) : Own (fun x => relab lab w.heap.size n' c x = j) w E t s l :=
  h.mono fun k hk e => by rw [relab_lt hk]; exact e

section
variable {lab : Nat → Nat} {b m : Nat} {kinds ids : Sl} {cols : Nat → Sl} {mp : Nat} {ks is : List Int} {cl : Nat → List F3} {rows : Int → Option Nat}

theorem TabR.colF_add (r : TabR lab w b m kinds ids cols mp ks is cl rows) {k : Nat} (hk6 : k < 6) (hm : Small (cl k)) {x : F3} {K : Res [] → W R}
    (hk : ∀ lab' cols' w', TabR lab' w' b m kinds ids cols' mp ks is (fun q => if q = k then cl k ++ [x] else cl q) rows → (∀ k, lab' k ≠ 0 → lab k ≠ 0 ∨ w.heap.size ≤ k) → Fr (fun k => lab k ≠ 0) w w' → K () Q w') :
    callW Tryz.prog k_table_column_fields_add [.pointer (some ⟨b, 3 + k, none⟩), .agg ⟨f3C x⟩] [] K Q w := by
  have hbl := r.blk.lt
  refine spec_colF_add r.blk (tabC_col hk6) (r.cols k hk6) (by rw [r.lb]; omega) hm fun s' w1 B1 o1 f1 => ?_
  rw [tabC_setcol hk6] at B1
  have f1' : Fr (fun k => lab k ≠ 0) w w1 := f1.mono fun x _ h => by
    rcases h with rfl | h
    · rw [r.lb]; omega
    · omega
  refine hk (relab lab w.heap.size w1.heap.size (5 + k)) (updS cols k s') w1 ⟨B1, by rw [relab_lt hbl, r.lb], by rw [relab_lt r.map.lt, r.lm], ?_, ?_, ?_, ?_, ?_⟩ (fun q h => ?_) f1'
  · exact (r.kinds.relab _ _).fr f1 fun q e h => by
      rcases h with rfl | h
      · rw [relab_lt hbl, r.lb] at e; omega
      · have := r.lt q (by omega); rw [relab_lt this] at e; omega
  · exact (r.ids.relab _ _).fr f1 fun q e h => by
      rcases h with rfl | h
      · rw [relab_lt hbl, r.lb] at e; omega
      · have := r.lt q (by omega); rw [relab_lt this] at e; omega
  · intro q hq
    by_cases hqk : q = k
    · subst hqk
      simp only [updS, if_true]
      refine o1.mono fun y hy h => ?_
      rcases h with h | h
      · rw [relab_lt (r.lt y (by omega))]; exact h
      · exact relab_new h hy
    · simp only [updS, if_neg hqk]
      exact ((r.cols q hq).relab _ _).fr f1 fun y e h => by
        rcases h with rfl | h
        · rw [relab_lt hbl, r.lb] at e; omega
        · have := r.lt y (by omega); rw [relab_lt this] at e; omega
  · exact r.map.fr f1 (by rw [r.lm]; rintro (h | h); (have h1 := r.lb; have h2 := r.lm; rw [h] at h2; omega); omega)
  · intro q h
    rcases relab_ne h with ⟨_, h⟩ | ⟨_, h⟩
    · exact Nat.lt_of_lt_of_le h f1.size
    · exact h
  · rcases relab_ne h with ⟨h, _⟩ | ⟨h, _⟩
    · exact .inl h
    · exact .inr h

theorem TabR.colID_add (r : TabR lab w b m kinds ids cols mp ks is cl rows) (hm : Small is) {x : Int} {K : Res [] → W R}
    (hk : ∀ lab' ids' w', TabR lab' w' b m kinds ids' cols mp ks (is ++ [x]) cl rows → (∀ k, lab' k ≠ 0 → lab k ≠ 0 ∨ w.heap.size ≤ k) → Fr (fun k => lab k ≠ 0) w w' → K () Q w') :
    callW Tryz.prog k_table_column_ID_add [.pointer (some ⟨b, 2, none⟩), .int .u32 x] [] K Q w := by
  have hbl := r.blk.lt
  refine spec_colID_add r.blk (o := 2) (s := ids) rfl r.ids (by rw [r.lb]; omega) hm fun s' w1 B1 o1 f1 => ?_
  have f1' : Fr (fun k => lab k ≠ 0) w w1 := f1.mono fun x _ h => by
    rcases h with rfl | h
    · rw [r.lb]; omega
    · omega
  refine hk (relab lab w.heap.size w1.heap.size 4) s' w1 ⟨B1, by rw [relab_lt hbl, r.lb], by rw [relab_lt r.map.lt, r.lm], ?_, ?_, ?_, ?_, ?_⟩ (fun q h => ?_) f1'
  · exact (r.kinds.relab _ _).fr f1 fun q e h => by
      rcases h with rfl | h
      · rw [relab_lt hbl, r.lb] at e; omega
      · have := r.lt q (by omega); rw [relab_lt this] at e; omega
  · refine o1.mono fun y hy h => ?_
    rcases h with h | h
    · rw [relab_lt (r.lt y (by omega))]; exact h
    · exact relab_new h hy
  · intro q hq
    exact ((r.cols q hq).relab _ _).fr f1 fun y e h => by
      rcases h with rfl | h
      · rw [relab_lt hbl, r.lb] at e; omega
      · have := r.lt y (by omega); rw [relab_lt this] at e; omega
  · exact r.map.fr f1 (by rw [r.lm]; rintro (h | h); (have h1 := r.lb; have h2 := r.lm; rw [h] at h2; omega); omega)
  · intro q h
    rcases relab_ne h with ⟨_, h⟩ | ⟨_, h⟩
    · exact Nat.lt_of_lt_of_le h f1.size
    · exact h
  · rcases relab_ne h with ⟨h, _⟩ | ⟨h, _⟩
    · exact .inl h
    · exact .inr h

theorem TabR.colF_take (r : TabR lab w b m kinds ids cols mp ks is cl rows) {k : Nat} (hk6 : k < 6) (hm : Small (cl k)) {i : Nat} (hi : i < (cl k).length) {K : Res [.agg [.int .i32, .int .i32, .int .i32]] → W R}
    (hk : ∀ x cols' w', TabR lab w' b m kinds ids cols' mp ks is (fun q => if q = k then dropI (cl k) i else cl q) rows → Fr (fun k => lab k ≠ 0) w w' → K x Q w') :
    callW Tryz.prog k_table_column_fields_take [.pointer (some ⟨b, 3 + k, none⟩), .int .i64 (i : Int)] [.agg [.int .i32, .int .i32, .int .i32]] K Q w := by
  refine spec_colF_take r.blk (tabC_col hk6) (r.cols k hk6) (by rw [r.lb]; omega) hm (List.getElem?_eq_getElem hi) fun s' w1 B1 o1 f1 => ?_
  rw [tabC_setcol hk6] at B1
  have f1' : Fr (fun k => lab k ≠ 0) w w1 := f1.mono fun x _ h => by
    rcases h with rfl | h
    · rw [r.lb]; omega
    · omega
  have ne : ∀ j, j ≠ 1 → j ≠ 5 + k → ∀ q, lab q = j → ¬ (q = b ∨ lab q = 5 + k) := fun j h1 h2 q e h => by
    rcases h with rfl | h
    · rw [r.lb] at e; omega
    · omega
  refine hk _ (updS cols k s') w1 ⟨B1, r.lb, r.lm, r.kinds.fr f1 (ne 3 (by omega) (by omega)), r.ids.fr f1 (ne 4 (by omega) (by omega)), ?_, r.map.fr f1 (ne 2 (by omega) (by omega) mp r.lm), fun q h => Nat.lt_of_lt_of_le (r.lt q h) f1.size⟩ f1'
  intro q hq
  by_cases hqk : q = k
  · subst hqk
    simp only [updS, if_true]
    exact o1
  · simp only [updS, if_neg hqk]
    exact (r.cols q hq).fr f1 (ne _ (by omega) (by omega))

theorem TabR.colID_take (r : TabR lab w b m kinds ids cols mp ks is cl rows) (hm : Small is) {i : Nat} {x : Int} (hi : is[i]? = some x) {K : Res [.sc (.int .u32)] → W R}
    (hk : ∀ ids' w', TabR lab w' b m kinds ids' cols mp ks (dropI is i) cl rows → Fr (fun k => lab k ≠ 0) w w' → K x Q w') :
    callW Tryz.prog k_table_column_ID_take [.pointer (some ⟨b, 2, none⟩), .int .i64 (i : Int)] [.sc (.int .u32)] K Q w := by
  refine spec_colID_take r.blk (o := 2) (s := ids) rfl r.ids (by rw [r.lb]; omega) hm hi fun s' w1 B1 o1 f1 => ?_
  have f1' : Fr (fun k => lab k ≠ 0) w w1 := f1.mono fun x _ h => by
    rcases h with rfl | h
    · rw [r.lb]; omega
    · omega
  have ne : ∀ j, j ≠ 1 → j ≠ 4 → ∀ q, lab q = j → ¬ (q = b ∨ lab q = 4) := fun j h1 h2 q e h => by
    rcases h with rfl | h
    · rw [r.lb] at e; omega
    · omega
  exact hk s' w1 ⟨B1, r.lb, r.lm, r.kinds.fr f1 (ne 3 (by omega) (by omega)), o1, fun q hq => (r.cols q hq).fr f1 (ne _ (by omega) (by omega)), r.map.fr f1 (ne 2 (by omega) (by omega) mp r.lm), fun q h => Nat.lt_of_lt_of_le (r.lt q h) f1.size⟩ f1'

theorem TabR.mapPut (r : TabR lab w b m kinds ids cols mp ks is cl rows) {id : Int} (hid : IdOk id) (n : Nat) {K : W R}
    (hk : ∀ w', TabR lab w' b m kinds ids cols mp ks is cl (fun j => if j = id then some n else rows j) → Fr (fun k => lab k ≠ 0) w w' → w'.heap.size = w.heap.size → K Q w') :
    rawU Tryz.prog (Instr.mapUpdate 241 (.map (some mp)) (.int .u32 id) (.int .i64 (n : Int))) K Q w := by
  obtain ⟨w1, h1, h2, h3, h4⟩ := r.map.put id_keyed (fun i j h => by cases h; rfl) rows_und (id_key hid) (.int .i64 (n : Int))
  have ne : ∀ j, j ≠ 2 → ∀ q, lab q = j → ¬ (q = mp) := fun j h1 q e h => by subst h; rw [r.lm] at e; omega
  refine ⟨w1, h1, hk w1 ⟨r.blk.fr h3 (ne 1 (by omega) b r.lb), r.lb, r.lm, r.kinds.fr h3 (ne 3 (by omega)), r.ids.fr h3 (ne 4 (by omega)), fun q hq => (r.cols q hq).fr h3 (ne _ (by omega)), ?_, fun q h => by rw [h4]; exact r.lt q h⟩ (h3.mono fun k _ e => by subst e; rw [r.lm]; omega) h4⟩
  exact h2.congr fun i => by by_cases h : i = id <;> simp [h]

theorem TabR.mapDel (r : TabR lab w b m kinds ids cols mp ks is cl rows) {id : Int} (hid : IdOk id) {ty : TypeId} {K : Res [] → W R}
    (hk : ∀ w', TabR lab w' b m kinds ids cols mp ks is cl (fun j => if j = id then none else rows j) → Fr (fun k => lab k ≠ 0) w w' → w'.heap.size = w.heap.size → K () Q w') :
    rawW Tryz.prog (Builtin.delete_ #[241, 31] ty #[.map (some mp), .int .u32 id]) [] K Q w := by
  obtain ⟨w1, h1, h2, h3, h4⟩ := r.map.del id_keyed (fun i j h => by cases h; rfl) rows_und (ty := ty) (id_key hid)
  have ne : ∀ j, j ≠ 2 → ∀ q, lab q = j → ¬ (q = mp) := fun j h1 q e h => by subst h; rw [r.lm] at e; omega
  refine ⟨(), w1, h1, hk w1 ⟨r.blk.fr h3 (ne 1 (by omega) b r.lb), r.lb, r.lm, r.kinds.fr h3 (ne 3 (by omega)), r.ids.fr h3 (ne 4 (by omega)), fun q hq => (r.cols q hq).fr h3 (ne _ (by omega)), ?_, fun q h => by rw [h4]; exact r.lt q h⟩ (h3.mono fun k _ e => by subst e; rw [r.lm]; omega) h4⟩
  exact h2.congr fun i => by by_cases h : i = id <;> simp [h]

end

end Go.Proofs.YtkblnhnjagemlaaGreat
