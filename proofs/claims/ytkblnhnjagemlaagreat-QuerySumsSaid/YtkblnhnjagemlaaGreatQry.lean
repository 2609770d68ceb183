/-
  query: which entities of a store fit.
-/
import Derived.Test.YtkblnhnjagemlaaGreatSeqI
import Derived.Test.YtkblnhnjagemlaaGreatQryM
import Derived.Test.YtkblnhnjagemlaaGreatFQ
import Derived.RangeFuncNested
import Derived.RangeFuncCalls
import Derived.RangeFuncLeaves
import Derived.Shelf.SlSortCmp.NoneTotal
namespace Go.Proofs.YtkblnhnjagemlaaGreat
open Go Go.Proofs Go.RowKit Go.Proofs.YtkblnhnjagemlaaGreat.Den Go.Proofs.YtkblnhnjagemlaaGreat.Seq
variable {R : Type} {Q : R → World → Prop} {w : World}
attribute [local go_sem] Oper.semAt_some

theorem grpIds_snoc (T : Nat → List Ent) (all non : Int) {l : List (Int × List Int)} {j : Nat} {g : Int × List Int} (hg : l[j]? = some g) : grpIds T all non (l.take (j + 1)) = grpIds T all non (l.take j) ++ (if fitB g.1 all non then g.2 else []) := by
  unfold grpIds
  rw [take_at hg, List.flatMap_append]
  simp
theorem grpIds_split (T : Nat → List Ent) (all non : Int) {l : List (Int × List Int)} {j : Nat} {g : Int × List Int} (hg : l[j]? = some g) : ∃ tl, grpIds T all non l = grpIds T all non (l.take j) ++ (if fitB g.1 all non then g.2 else []) ++ tl := by
  refine ⟨grpIds T all non (l.drop (j + 1)), ?_⟩
  rw [← grpIds_snoc T all non hg]
  conv => lhs; rw [← List.take_append_drop (j + 1) l]
  unfold grpIds
  rw [List.flatMap_append]
theorem lt_of_cell {W : World} {k o : Nat} {v : Value} (h : W.cell? ⟨k, o, none⟩ = some v) : k < W.heap.size := by
  unfold World.cell? at h
  rcases Nat.lt_or_ge k W.heap.size with hl | hg
  · exact hl
  · rw [Array.getElem?_eq_none hg] at h
    cases h
theorem groups_call {F : Nat → Prop} {b : Nat} {x : StM} {W : World} (h : Store b x F W) : Calls Tryz.prog 141 #[.pointer (some ⟨b, 0, none⟩)] W fun e w' => ∃ r raws lab, e = .returned (.slice r.a r.n r.c) ∧ DO grpO (t := grpT) 233 (Up W.heap.size) w' r raws (groupsM x.tab) lab ∧ Fr None W w' := by
  have := spec_store_Groups (R := Unit) (Q := fun _ _ => True) (w := W) h (K := fun r _ w' => ∃ raws lab, DO grpO (t := grpT) 233 (Up W.heap.size) w' r raws (groupsM x.tab) lab ∧ Fr None W w') fun r raws lab w' hD f => ⟨raws, lab, hD, f⟩
  exact Calls.mono this fun e w' ⟨r, he, raws, lab, hD, f⟩ => ⟨r, raws, lab, he, hD, f⟩

set_option maxRecDepth 100000 in
set_option maxHeartbeats 4000000 in
theorem groups1_in {F' : Nat → Prop} {b : Nat} {x : StM} (n : Nat) (hn : 1 ≤ n) (l Bs Ba Bn : Nat) (all non : Int) (J : (Nat → Prop) → List Int → World → Prop) (Z0 : Nat → Prop) (hz : Z0 Ba ∧ Z0 Bn)
    (hJ : ∀ Z s A B, J Z s A → Fr None A B → J (Zx Z A B) s B)
    (hY : ∀ Z pre y W1, J Z pre W1 → (pre ++ [y]) <+: grpIds x.tab all non (groupsM x.tab) → YieldAt Fence.wide (n - 1) Tryz.prog l #[encID y] W1 fun e W' => e = .returned (.bool true) ∧ J Z (pre ++ [y]) W' ∧ W1.heap.size ≤ W'.heap.size ∧ ∀ k, Z k → W'.heap[k]? = W1.heap[k]?)
    (W : World) (hs : W.cell? ⟨Bs, 0, none⟩ = some (.pointer (some ⟨b, 0, none⟩))) (ha : W.cell? ⟨Ba, 0, none⟩ = some (.int .u8 all)) (hb : W.cell? ⟨Bn, 0, none⟩ = some (.int .u8 non)) (hst : Store b x F' W) (h0 : J Z0 [] W) :
    CallsIn Fence.wide n Tryz.prog 140 #[.func (.yield l) #[] #[], .pointer (some ⟨Bs, 0, none⟩), .pointer (some ⟨Ba, 0, none⟩), .pointer (some ⟨Bn, 0, none⟩)] W fun e W' => (∃ v, e = .returned v) ∧ ∃ Z, J Z (grpIds x.tab all non (groupsM x.tab)) W' := by
  refine callsIn_of_wp Tryz.func140 rfl trivial ?_ rfl
  simp only [Tryz.ntmps140, List.size_toArray, List.length_cons, List.length_nil, Nat.reduceAdd, Nat.reduceSub, Array.replicate_succ, Array.replicate_zero, List.push_toArray, List.append_toArray, List.nil_append, List.cons_append]
  gi_wp2_with (refine ⟨trivial, ?_⟩; gi_at_call 141; refine (callsIn_wide.2 (groups_call hst)).mono ?_; rintro e W2 ⟨r, raws, lab, rfl, hD, f2⟩)
  have hs2 := f2.size
  obtain ⟨ra, rn, rc⟩ := r
  have hGl := hD.len
  obtain rfl : rn = (groupsM x.tab).length := hD.own.len.trans hD.len
  have h64 : (groupsM x.tab).length ≤ 64 := by
    have := grpL_len x.tab ((List.range 64).map fun (n : Nat) => (n : Int))
    rw [List.length_map, List.length_range] at this
    exact this
  have cellAt : ∀ {A : World} {k : Nat} (o : Nat), A.heap[k]? = W2.heap[k]? → A.cell? ⟨k, o, none⟩ = W2.cell? ⟨k, o, none⟩ := fun o e => World.cell?_of_block (a := ⟨_, o, none⟩) e
  have ha2 : W2.cell? ⟨Ba, 0, none⟩ = some (.int .u8 all) := (World.cell?_of_block (a := ⟨Ba, 0, none⟩) (f2.block Ba (lt_of_cell ha) fun h => h)).trans ha
  have hb2 : W2.cell? ⟨Bn, 0, none⟩ = some (.int .u8 non) := (World.cell?_of_block (a := ⟨Bn, 0, none⟩) (f2.block Bn (lt_of_cell hb) fun h => h)).trans hb
  have hla := lt_of_cell ha
  have hxl : (grpIds x.tab all non (groupsM x.tab)).length ≤ 1024 := by
    have ok := (Store.open_ hst).1
    rw [(grpIds_perm ok all non).length_eq]
    exact withL_len ok all non
  have hlb := lt_of_cell hb
  obtain ⟨P0, hP0⟩ : ∃ P0 : Nat → Prop, P0 = fun k => k = Ba ∨ k = Bn ∨ (W.heap.size ≤ k ∧ k < W2.heap.size) := ⟨_, rfl⟩
  have hPa : P0 Ba := by rw [hP0]; exact .inl rfl
  have hPb : P0 Bn := by rw [hP0]; exact .inr (.inl rfl)
  have hP2 : ∀ k, P0 k → k < W2.heap.size := fun k e => by rw [hP0] at e; rcases e with rfl | rfl | e <;> omega
  gi_loopw [12] (fun i wr => ∃ (j : Nat) (Z : Nat → Prop), j ≤ (groupsM x.tab).length ∧ i = .int .i64 j ∧ J Z (grpIds x.tab all non ((groupsM x.tab).take j)) wr ∧ (∀ k, P0 k → Z k) ∧ (∀ k, P0 k → wr.heap[k]? = W2.heap[k]?) ∧ W2.heap.size ≤ wr.heap.size)
    (fun i _ => (groupsM x.tab).length - (intOf i).toNat)
  case atStart =>
    exact ⟨0, _, Nat.zero_le _, rfl, hJ Z0 [] W W2 h0 f2, fun k e => by
      rw [hP0] at e
      rcases e with rfl | rfl | e
      · exact .inl hz.1
      · exact .inl hz.2
      · exact .inr e, fun k _ => rfl, Nat.le_refl _⟩
  case round =>
    obtain ⟨j, Z, hj, rfl, hJs, hPZ, hkp, hsz⟩ := hrel
    have hka := (cellAt 0 (hkp Ba hPa)).trans ha2
    have hkb := (cellAt 0 (hkp Bn hPb)).trans hb2
    by_cases hlt : j < (groupsM x.tab).length
    · obtain ⟨g, hg⟩ : ∃ g, (groupsM x.tab)[j]? = some g := ⟨_, List.getElem?_eq_getElem hlt⟩
      obtain ⟨r0, hr0⟩ : ∃ r0, raws[j]? = some r0 := ⟨_, List.getElem?_eq_getElem (by omega)⟩
      obtain ⟨a1, a2⟩ := hD.at_ j r0 g hr0 hg
      have a1 : r0.1 = g.1 := a1
      obtain ⟨gb, rfl, hgb, hgr⟩ : ∃ gb, ra = some ⟨gb, 0, none⟩ ∧ P0 gb ∧ Rd W2 ⟨gb, j * 2, none⟩ grpT r0 := by
        rcases hD.own.cases with ⟨e, h2⟩ | ⟨gb, c, cur, e, hS, h3, _⟩
        · rw [h2] at hr0; simp at hr0
        · have ea : ra = some ⟨gb, 0, none⟩ := congrArg Sl.a e
          refine ⟨gb, ea, ?_, hD.own.read ea hr0⟩
          rw [hP0]
          exact .inr (.inr ⟨hS.1, (Array.getElem?_eq_some_iff.1 h3).1⟩)
      have hc0 : wr.cell? ⟨gb, j * 2, none⟩ = some (.int .u8 g.1) := (cellAt _ (hkp gb hgb)).trans (by rw [← a1]; exact (Rd.cells.1 hgr) 0 _ rfl)
      have hc1 : wr.cell? ⟨gb, j * 2 + 1, none⟩ = some (.slice r0.2.a r0.2.n r0.2.c) := (cellAt _ (hkp gb hgb)).trans (by have := (Rd.cells.1 hgr) 1 _ rfl; rw [add_lit] at this; exact this)
      have hka1 : (wr.alloc (Obj.cells #[.int .u8 g.1, .slice r0.2.a r0.2.n r0.2.c] 233)).cell? ⟨Ba, 0, none⟩ = some (.int .u8 all) := (World.cell?_of_block (a := ⟨Ba, 0, none⟩) (heap_alloc_old wr _ (by show Ba < _; omega))).trans hka
      have hkb1 : (wr.alloc (Obj.cells #[.int .u8 g.1, .slice r0.2.a r0.2.n r0.2.c] 233)).cell? ⟨Bn, 0, none⟩ = some (.int .u8 non) := (World.cell?_of_block (a := ⟨Bn, 0, none⟩) (heap_alloc_old wr _ (by show Bn < _; omega))).trans hkb
      have hsn := grpIds_snoc x.tab all non hg
      obtain ⟨tl, htl⟩ := grpIds_split x.tab all non hg
      obtain ⟨m0, ⟨ia, im, ic⟩⟩ := r0
      obtain rfl : im = g.2.length := a2.len
      simp only at a2 hc0 hc1 hka1 hkb1
      have fa : Fr None wr (wr.alloc (Obj.cells #[.int .u8 g.1, .slice ia g.2.length ic] 233)) := (Fr.refl _ _).alloc _
      have nofit : fitB g.1 all non = false → (∃ (j' : Nat) (Z : Nat → Prop), j' ≤ (groupsM x.tab).length ∧ Value.int .i64 ((j : Int) + 1) = .int .i64 j' ∧ J Z (grpIds x.tab all non ((groupsM x.tab).take j')) (wr.alloc (Obj.cells #[.int .u8 g.1, .slice ia g.2.length ic] 233)) ∧ (∀ k, P0 k → Z k) ∧
          (∀ k, P0 k → (wr.alloc (Obj.cells #[.int .u8 g.1, .slice ia g.2.length ic] 233)).heap[k]? = W2.heap[k]?) ∧ W2.heap.size ≤ (wr.alloc (Obj.cells #[.int .u8 g.1, .slice ia g.2.length ic] 233)).heap.size) ∧
          (groupsM x.tab).length - (intOf (Value.int .i64 ((j : Int) + 1))).toNat < (groupsM x.tab).length - (intOf (Value.int .i64 (j : Int))).toNat := fun hf => by
        rw [if_neg (by rw [hf]; decide), List.append_nil] at hsn
        refine ⟨⟨j + 1, Zx Z wr _, hlt, by simp, by rw [hsn]; exact hJ Z _ wr _ hJs fa, fun k e => .inl (hPZ k e), fun k e => (fa.block k (by have := hP2 k e; omega) fun h => h).trans (hkp k e), by have := fa.size; omega⟩, by simp only [intOf]; omega⟩
      gi_wp2
      all_goals first
        | (refine nofit ?_
           unfold fitB
           first
             | (have h1 : ¬ bAnd .u8 g.1 all = all := by assumption
                rw [beq_eq_false_iff_ne.2 h1, Bool.false_and])
             | (have h1 : (bAnd .u8 g.1 non != 0) = true := by assumption
                have h2 : (bAnd .u8 g.1 non == 0) = false := by simpa using h1
                rw [h2, Bool.and_false]))
        | skip
      -- the group fits
      have hfit : fitB g.1 all non = true := by
        unfold fitB
        rw [Bool.and_eq_true]
        exact ⟨by simpa using (show bAnd .u8 g.1 all = all by assumption), by simpa using (show (bAnd .u8 g.1 non != 0) = false by assumption)⟩
      rw [if_pos hfit] at hsn htl
      have hgl : g.2.length ≤ 1024 := by rw [htl] at hxl; simp only [List.length_append] at hxl; omega
      obtain ⟨wa, hwa⟩ : ∃ wa, wr.alloc (Obj.cells #[.int .u8 g.1, .slice ia g.2.length ic] 233) = wa := ⟨_, rfl⟩
      rw [hwa] at fa ⊢
      have hsa := fa.size
      gi_loopw [32] (fun i wq => ∃ (q : Nat) (Z : Nat → Prop), q ≤ g.2.length ∧ i = .int .i64 q ∧ J Z (grpIds x.tab all non ((groupsM x.tab).take j) ++ g.2.take q) wq ∧ (∀ k, P0 k → Z k) ∧ (∀ k, P0 k → wq.heap[k]? = W2.heap[k]?) ∧ W2.heap.size ≤ wq.heap.size)
        (fun i _ => g.2.length - (intOf i).toNat)
      case atStart =>
        exact ⟨0, Zx Z wr wa, Nat.zero_le _, rfl, by rw [List.take_zero, List.append_nil]; exact hJ Z _ wr wa hJs fa, fun k e => .inl (hPZ k e), fun k e => (fa.block k (by have := hP2 k e; omega) fun h => h).trans (hkp k e), by omega⟩
      case round =>
        obtain ⟨q, Z2, hq, rfl, hJ2, hPZ2, hkp2, hsz2⟩ := hrel
        by_cases hql : q < g.2.length
        · obtain ⟨y, hy0⟩ : ∃ y, g.2[q]? = some y := ⟨_, List.getElem?_eq_getElem hql⟩
          obtain ⟨ib, rfl, hib, hir⟩ : ∃ ib, ia = some ⟨ib, 0, none⟩ ∧ P0 ib ∧ Rd W2 ⟨ib, q * 1, none⟩ idT y := by
            rcases a2.cases with ⟨e, h2⟩ | ⟨ib, c, cur, e, hS, h3, _⟩
            · rw [h2] at hy0; simp at hy0
            · have ea : ia = some ⟨ib, 0, none⟩ := congrArg Sl.a e
              refine ⟨ib, ea, ?_, a2.read ea hy0⟩
              rw [hP0]
              exact .inr (.inr ⟨hS.1, (Array.getElem?_eq_some_iff.1 h3).1⟩)
          have hcy : wr.cell? ⟨ib, q, none⟩ = some (.int .u32 y) := (cellAt _ (hkp2 ib hib)).trans (by rw [Nat.mul_one] at hir; exact hir)
          obtain ⟨fn, tmps, assign, body, hy, hR⟩ := hY Z2 _ y wr hJ2 (by
            rw [htl, List.append_assoc, List.append_assoc, ← take_at hy0]
            exact List.prefix_append_right_inj _ |>.2 ((List.take_prefix _ _).trans (List.prefix_append _ _)))
          simp only [Seq.encID] at hy
          have hq2 : (q : Int) + 1 ≤ 2000 := by omega
          gi_wp2
          refine hR.mono ?_
          rintro e W3 ⟨rfl, hJ3, hs3, hk3⟩
          gi_wp2
          go_roundw
          case rel => exact ⟨q + 1, Z2, hql, by simp, by rw [take_at hy0, ← List.append_assoc]; exact hJ3, hPZ2, fun k e => (hk3 k (hPZ2 k e)).trans (hkp2 k e), by omega⟩
          case measure => simp [intOf]; omega
        · obtain rfl : q = g.2.length := by omega
          gi_wp2
          go_roundw
          case rel =>
            exact ⟨j + 1, Z2, hlt, by simp, by rw [hsn]; rw [List.take_length] at hJ2; exact hJ2, hPZ2, hkp2, hsz2⟩
          case measure => simp [intOf]; omega
    · obtain rfl : j = (groupsM x.tab).length := by omega
      gi_wp2
      go_end0
      exact ⟨⟨_, rfl⟩, Z, by rw [List.take_length] at hJs; exact hJs⟩

/-! ### the iterator of a store -/
theorem below_store {w W : World} (h : Below w.heap.size w W) : Fr None w W := ⟨h.os, h.tape, h.output, h.size, fun k hk _ => h.block k hk⟩
theorem groups_gives {F : Nat → Prop} {b : Nat} {x : StM} (h : Store b x F w) {Bs Ba Bn : Nat} {all non : Int} (hs : w.cell? ⟨Bs, 0, none⟩ = some (.pointer (some ⟨b, 0, none⟩))) (ha : w.cell? ⟨Ba, 0, none⟩ = some (.int .u8 all)) (hb : w.cell? ⟨Bn, 0, none⟩ = some (.int .u8 non)) (n : Nat) (hn : 1 ≤ n) :
    GivesZ Fence.wide n Tryz.prog 140 #[.pointer (some ⟨Bs, 0, none⟩), .pointer (some ⟨Ba, 0, none⟩), .pointer (some ⟨Bn, 0, none⟩)] encID (grpIds x.tab all non (groupsM x.tab)) (fun k => k = Ba ∨ k = Bn) w := fun l J W hW hJ hY h0 => by
  have cl : ∀ {k : Nat} {v : Value}, w.cell? ⟨k, 0, none⟩ = some v → W.cell? ⟨k, 0, none⟩ = some v := fun h => (hW.cell (p := ⟨_, 0, none⟩) (lt_of_cell h)).trans h
  exact groups1_in n hn l Bs Ba Bn all non J _ ⟨.inl rfl, .inr rfl⟩ hJ hY W (cl hs) (cl ha) (cl hb) (Store.st.fr0 h (below_store hW)) h0
set_option maxRecDepth 100000 in
set_option maxHeartbeats 1000000 in
theorem groups1_nil (n : Nat) (hn : 1 ≤ n) (l Bs Ba Bn : Nat) (J : (Nat → Prop) → List Int → World → Prop) (Z0 : Nat → Prop) (W : World) (hs : W.cell? ⟨Bs, 0, none⟩ = some (.pointer none)) (h0 : J Z0 [] W) :
    CallsIn Fence.wide n Tryz.prog 140 #[.func (.yield l) #[] #[], .pointer (some ⟨Bs, 0, none⟩), .pointer (some ⟨Ba, 0, none⟩), .pointer (some ⟨Bn, 0, none⟩)] W fun e W' => (∃ v, e = .returned v) ∧ ∃ Z, J Z [] W' := by
  refine callsIn_of_wp Tryz.func140 rfl trivial ?_ rfl
  simp only [Tryz.ntmps140, List.size_toArray, List.length_cons, List.length_nil, Nat.reduceAdd, Nat.reduceSub, Array.replicate_succ, Array.replicate_zero, List.push_toArray, List.append_toArray, List.nil_append, List.cons_append]
  have hg : Calls Tryz.prog 141 #[.pointer none] W fun e w' => e = .returned (.slice none 0 0) ∧ w' = W := by
    have := spec_store_Groups0 (R := Unit) (Q := fun _ _ => True) (w := W) (K := fun r _ w' => r = ⟨none, 0, 0⟩ ∧ w' = W) ⟨rfl, rfl⟩
    exact Calls.mono this fun e w' ⟨r, he, h1, h2⟩ => ⟨by rw [he, h1]; rfl, h2⟩
  gi_wp2_with (refine ⟨trivial, ?_⟩; gi_at_call 141; refine (callsIn_wide.2 hg).mono ?_; rintro e W2 ⟨rfl, rfl⟩)
  gi_loopw [12] (fun i wr => i = .int .i64 0 ∧ J Z0 [] wr) (fun _ _ => 0)
  case atStart => exact ⟨rfl, h0⟩
  case round =>
    obtain ⟨rfl, hJs⟩ := hrel
    gi_wp2
    go_end0
    exact ⟨⟨_, rfl⟩, Z0, hJs⟩

/-! ### sorted by slots -/
def sortIDs_ren : Go.Shelf.Ren where
  f := fun x => match x with
    | 6 => 139
    | 15 => 182
    | 14 => 181
    | 28 => 205
    | 29 => 206
    | 20 => 197
    | 21 => 198
    | 22 => 199
    | 23 => 200
    | 24 => 201
    | 25 => 202
    | 26 => 203
    | 27 => 204
    | 46 => 222
    | 47 => 223
    | 48 => 224
    | 49 => 225
    | 50 => 226
    | 57 => 241
    | n => n
  t := fun x => match x with
    | 22 => 28
    | 24 => 31
    | 25 => 137
    | 3 => 3
    | 39 => 289
    | 0 => 0
    | 53 => 30
    | 55 => 162
    | 4 => 4
    | 46 => 309
    | 45 => 308
    | 50 => 141
    | 5 => 5
    | 9 => 9
    | 66 => 325
    | 70 => 329
    | 76 => 340
    | 77 => 341
    | n => n
  g := fun n => n
theorem sortIDs : SlLaysF.n6 Tryz.prog sortIDs_ren where
  mixed := by kernel_rfl
  f6 := ⟨Tryz.f139.name, by kernel_rfl, Tryz.func139.trans (congrArg some (by kernel_rfl))⟩
  f14 := ⟨Tryz.f181.name, by kernel_rfl, Tryz.func181.trans (congrArg some (by kernel_rfl))⟩
  f15 := Tryz.func182.trans (congrArg some (by kernel_rfl))
  f20 := ⟨Tryz.f197.name, by kernel_rfl, Tryz.func197.trans (congrArg some (by kernel_rfl))⟩
  f21 := ⟨Tryz.f198.name, by kernel_rfl, Tryz.func198.trans (congrArg some (by kernel_rfl))⟩
  f22 := ⟨Tryz.f199.name, by kernel_rfl, Tryz.func199.trans (congrArg some (by kernel_rfl))⟩
  f23 := ⟨Tryz.f200.name, by kernel_rfl, Tryz.func200.trans (congrArg some (by kernel_rfl))⟩
  f24 := ⟨Tryz.f201.name, by kernel_rfl, Tryz.func201.trans (congrArg some (by kernel_rfl))⟩
  f25 := ⟨Tryz.f202.name, by kernel_rfl, Tryz.func202.trans (congrArg some (by kernel_rfl))⟩
  f26 := ⟨Tryz.f203.name, by kernel_rfl, Tryz.func203.trans (congrArg some (by kernel_rfl))⟩
  f27 := ⟨Tryz.f204.name, by kernel_rfl, Tryz.func204.trans (congrArg some (by kernel_rfl))⟩
  f28 := Tryz.func205.trans (congrArg some (by kernel_rfl))
  f29 := Tryz.func206.trans (congrArg some (by kernel_rfl))
  f46 := ⟨Tryz.f222.name, by kernel_rfl, Tryz.func222.trans (congrArg some (by kernel_rfl))⟩
  f47 := Tryz.func223.trans (congrArg some (by kernel_rfl))
  f48 := Tryz.func224.trans (congrArg some (by kernel_rfl))
  f49 := ⟨Tryz.f225.name, by kernel_rfl, Tryz.func225.trans (congrArg some (by kernel_rfl))⟩
  f50 := ⟨Tryz.f226.name, by kernel_rfl, Tryz.func226.trans (congrArg some (by kernel_rfl))⟩
  f57 := ⟨Tryz.f241.name, by kernel_rfl, Tryz.func241.trans (congrArg some (by kernel_rfl))⟩
  t0 := Tryz.underlying0
  a0 := Tryz.isAgg0
  z0 := Tryz.sizeOf0
  v0 := Tryz.zeroValue0
  t3 := Tryz.underlying3
  a3 := Tryz.isAgg3
  z3 := Tryz.sizeOf3
  v3 := Tryz.zeroValue3
  t4 := Tryz.underlying4
  a4 := Tryz.isAgg4
  z4 := Tryz.sizeOf4
  v4 := Tryz.zeroValue4
  t5 := Tryz.underlying5
  a5 := Tryz.isAgg5
  z5 := Tryz.sizeOf5
  v5 := Tryz.zeroValue5
  t9 := Tryz.underlying9
  a9 := Tryz.isAgg9
  z9 := Tryz.sizeOf9
  v9 := Tryz.zeroValue9
  t22 := Tryz.underlying28
  a22 := Tryz.isAgg28
  z22 := Tryz.sizeOf28
  v22 := Tryz.zeroValue28
  a24 := Tryz.isAgg31
  z24 := Tryz.sizeOf31
  t25 := Tryz.underlying137
  a25 := Tryz.isAgg137
  z25 := Tryz.sizeOf137
  v25 := Tryz.zeroValue137
  t39 := Tryz.underlying289
  a39 := Tryz.isAgg289
  z39 := Tryz.sizeOf289
  v39 := Tryz.zeroValue289
  t45 := Tryz.underlying308
  a45 := Tryz.isAgg308
  z45 := Tryz.sizeOf308
  v45 := Tryz.zeroValue308
  t46 := Tryz.underlying309
  a46 := Tryz.isAgg309
  z46 := Tryz.sizeOf309
  v46 := Tryz.zeroValue309
  t50 := Tryz.underlying141
  a50 := Tryz.isAgg141
  z50 := Tryz.sizeOf141
  v50 := Tryz.zeroValue141
  t53 := Tryz.underlying30
  a53 := Tryz.isAgg30
  z53 := Tryz.sizeOf30
  v53 := Tryz.zeroValue30
  t55 := Tryz.underlying162
  a55 := Tryz.isAgg162
  z55 := Tryz.sizeOf162
  v55 := Tryz.zeroValue162
  t66 := Tryz.underlying325
  a66 := Tryz.isAgg325
  z66 := Tryz.sizeOf325
  v66 := Tryz.zeroValue325
  t70 := Tryz.underlying329
  a70 := Tryz.isAgg329
  z70 := Tryz.sizeOf329
  v70 := Tryz.zeroValue329
  t76 := Tryz.underlying340
  a76 := Tryz.isAgg340
  z76 := Tryz.sizeOf340
  v76 := Tryz.zeroValue340
  t77 := Tryz.underlying341
  a77 := Tryz.isAgg341
  z77 := Tryz.sizeOf341
  v77 := Tryz.zeroValue341

/-! behind a sort -/
section
variable {α : Type} [Inhabited α] (enc : α → Value)
theorem heap_sortedE {w : World} {g n : Nat} {os : Array Obj} {cur : Array Value} {e : TypeId} {fr : Nat × Nat} (d : Array α) (hb : w.heap[g]? = some (.cells cur e fr)) :
    (Sort.grow (Sort.putRow enc (Sort.ahead w n) g 0 d) os).heap[g]? = some (.cells (Sort.putCells enc 0 d cur) e fr) := by
  have hg : g < w.heap.size := (Array.getElem?_eq_some_iff.1 hb).1
  rw [Sort.heap_grow_old _ _ (by simpa using hg)]
  simp [Sort.putRow, Sort.mapBlock, Sort.ahead, Array.getElem?_modify, hb, Sort.onCells]
theorem fr_sortedE {w : World} {g n : Nat} {os : Array Obj} (d : Array α) : Fr (fun k => k = g) w (Sort.grow (Sort.putRow enc (Sort.ahead w n) g 0 d) os) := by
  refine ⟨rfl, rfl, rfl, by simp, fun k hk hne => ?_⟩
  rw [Sort.heap_grow_old _ _ (by simpa using hk)]
  have : g ≠ k := fun e => hne e.symm
  simp [Sort.putRow, Sort.mapBlock, Sort.ahead, Array.getElem?_modify, this]
theorem take_putCellsE (cur : Array Value) (ts : List α) (h : ts.length ≤ cur.size) : (Sort.putCells enc 0 ts.toArray cur).toList.take ts.length = ts.map enc := by
  apply List.ext_getElem?
  intro j
  by_cases hj : j < ts.length
  · rw [List.getElem?_take_of_lt hj, Array.getElem?_toList]
    simp [Sort.putCells, hj, show j < cur.size by omega]
  · rw [List.getElem?_take_eq_none (by omega), List.getElem?_eq_none (by simp; omega)]
theorem holds_rowE {w : World} {g : Nat} {cur : Array Value} {e : TypeId} {ss : List α} (hb : w.heap[g]? = some (.cells cur e (0, 0))) (ht : cur.toList.take ss.length = ss.map enc) : Sort.Holds enc w g 0 ss.toArray := by
  intro j hj
  have hj' : j < ss.length := by simpa using hj
  refine ⟨?_, by simp [World.frozen?, hb]⟩
  have h1 : (cur.toList.take ss.length)[j]? = (ss.map enc)[j]? := by rw [ht]
  rw [List.getElem?_take_of_lt hj'] at h1
  simp only [World.cell?, hb, Nat.zero_add]
  simp only [Option.isSome_none, Bool.false_eq_true, if_false]
  rw [← Array.getElem?_toList, h1]
  simp [hj']
end

def keyS (x : Int) : Int := IntKind.wrap .i64 (Int.tmod x 1024)
def cmpI (x y : Int) : Int := if x < y then -1 else if x > y then 1 else 0
theorem spec_Compare_int {x y : Int} {K : Res [.sc (.int .i64)] → W R} (hk : K (cmpI x y) Q w) : callW Tryz.prog k_cmp_Compare_int [.int .i64 x, .int .i64 y] [.sc (.int .i64)] K Q w := by
  refine C_cmp_Compare_int _ _ K Q w ?_
  unfold F_cmp_Compare_int
  refine C_cmp_isNaN_int _ _ _ _ ?_
  unfold F_cmp_isNaN_int
  refine C_cmp_isNaN_int _ _ _ _ ?_
  unfold F_cmp_isNaN_int
  unfold cmpI at hk
  refine condF (by simp) (condF (by simp) (condD (fun h => ?_) fun h => condD (fun h2 => ?_) fun h2 => ?_))
  · rw [if_pos h] at hk; exact hk
  · rw [if_neg h, if_pos h2] at hk; exact hk
  · rw [if_neg h, if_neg h2] at hk; exact hk
theorem with_cmp (x y : Int) (W : World) : Calls Tryz.prog 76 #[.int .u32 x, .int .u32 y] W fun e w' => e = .returned (.int .i64 (cmpI (keyS x) (keyS y))) ∧ w' = W := by
  have h : callW Tryz.prog k_query_With_c1 [.int .u32 x, .int .u32 y] [.sc (.int .i64)] (fun r (_ : Unit → World → Prop) w' => r = cmpI (keyS x) (keyS y) ∧ w' = W) (fun _ _ => True) W := by
    refine C_query_With_c1 _ _ _ _ W (C_slots_Slot _ _ _ W ?_)
    exact C_slots_Slot _ _ _ W (spec_Compare_int ⟨rfl, rfl⟩)
  exact Calls.mono h fun e w' ⟨r, he, h1, h2⟩ => ⟨by rw [he, h1]; rfl, h2⟩
theorem cmpI_lt {x y : Int} : cmpI x y < 0 ↔ x < y := by
  unfold cmpI
  split
  · simp; assumption
  · split
    · simp; omega
    · simp; omega
theorem swoS : Sort.SWO (ltOf fun x y => cmpI (keyS x) (keyS y)) := by
  refine ⟨fun x => ?_, fun x y z h1 h2 => ?_, fun x y z h1 h2 => ?_⟩ <;> simp only [ltOf, decide_eq_true_eq, decide_eq_false_iff_not, cmpI_lt] at * <;> omega
theorem flat_id (l : List Int) : l.flatMap idT.cells = l.map encID := by
  induction l with
  | nil => rfl
  | cons x r ih => rw [List.flatMap_cons, ih]; rfl
theorem spec_SortIDs {S : Nat → Prop} {s : Sl} {l : List Int} (h : Den.Own S w 31 idT s l) (hm : l.length ≤ 1048576) (hid : ∀ x ∈ l, IdOk x) {K : Res [] → W R}
    (hk : ∀ l' w', Den.Own S w' 31 idT s l' → l'.Perm l → (l'.Pairwise fun a b => slotOf a ≤ slotOf b) → Fr (fun k => s.v.ownBlock = some k) w w' → K () Q w') :
    callW Tryz.prog k_slices_SortFunc_ID [.slice s.a s.n s.c, .func (.func 76) #[] #[]] [] K Q w := by
  rcases h.cases with ⟨rfl, rfl⟩ | ⟨g, c, cur, rfl, hS, h3, h4, h5, h6, h7⟩
  · refine Calls.mono (AnyF.slices_SortFunc_none (P := Tryz.prog) (ρ := sortIDs_ren) { sortIDs with } none 0 _ w) ?_
    rintro e w' ⟨he, hw⟩
    exact ⟨(), he, by rw [hw]; exact hk [] w (Den.Own.nil _ _ _ _) (List.Perm.refl _) List.Pairwise.nil (Fr.refl _ _)⟩
  · rw [flat_id, show idT.size = 1 from rfl, Nat.mul_one] at h7
    rw [show idT.size = 1 from rfl] at h6
    have hH := holds_rowE encID h3 h7
    have hblk := (Array.getElem?_eq_some_iff.1 h3).1
    have key := Any.slices_SortFunc (P := Tryz.prog) (ρ := sortIDs_ren) sortIDs encID (fun x => rfl) (fun x y => cmpI (keyS x) (keyS y)) swoS 76 #[] g 0 c l.toArray w
      (enters_of Tryz.func76 (by kernel_rfl) rfl) (fun m os dk _ x y => (with_cmp x y _).mono fun e w' ⟨h1, h2⟩ => ⟨h1, 0, #[], by rw [h2, Sort.grow_empty]; rfl⟩) hH hblk (by simp; omega)
    have ez : l.toArray.size = l.length := by simp
    rw [ez] at key
    refine Calls.mono key ?_
    rintro e w' ⟨rfl, d', n, os, hp, hs, rfl⟩
    have hz : d'.size = l.length := by rw [hp.1]; simp
    have hperm : d'.toList.Perm l := by
      have := hp.2.2
      have e2 : d'.extract 0 l.length = d' := by rw [← hz]; simp
      rw [e2] at this
      simpa using this
    have hl' := hperm.length_eq
    refine ⟨(), rfl, hk d'.toList _ ?_ hperm ?_ ?_⟩
    · have := Den.Own.mk' (S := S) (w := Sort.grow (Sort.putRow encID (Sort.ahead w n) g 0 d') os) (E := 31) (t := idT) (l := d'.toList) (g := g) (c := c) (cur := Sort.putCells encID 0 d' cur) hS (heap_sortedE encID d' h3) (by omega) h5 (by rw [show idT.size = 1 from rfl]; simp [Sort.putCells, h6])
        (by rw [flat_id, show idT.size = 1 from rfl, Nat.mul_one]; have := take_putCellsE encID cur d'.toList (by omega); simpa using this)
      rw [hl'] at this
      exact this
    · rw [List.pairwise_iff_getElem]
      intro i j hi hj hij
      have hlt := hs i j (Nat.zero_le _) hij (by simp at hj; omega)
      simp only [Array.length_toList] at hi hj
      rw [getElem!_pos d' j hj, getElem!_pos d' i hi] at hlt
      simp only [ltOf, decide_eq_false_iff_not, cmpI_lt] at hlt
      have key : ∀ x, x ∈ l → keyS x = slotOf x := fun x hx => by
        obtain ⟨h1, h2⟩ := hid x hx
        unfold keyS slotOf
        rw [Int.tmod_eq_emod_of_nonneg h1, w64 (by omega)]
      rw [key _ (hperm.mem_iff.1 (by simp)), key _ (hperm.mem_iff.1 (by simp))] at hlt
      simp only [Array.getElem_toList]
      omega
    · exact (fr_sortedE encID d').sub fun k e => by simp [Sl.v, Value.ownBlock, e]

theorem callsIn_callW {P : Program} {f : Nat} {args : List Value} {ts : List Ty} {K : Res ts → W R} {n : Nat} (h : CallsIn Fence.wide n P f ⟨args⟩ w fun e w' => ∃ r, e = .returned (resE ts r) ∧ K r Q w') : callW P f args ts K Q w := callsIn_wide.1 h

/-- **query.With** -/
theorem spec_query_With {F : Nat → Prop} {b : Nat} {x : StM} (h : Store b x F w) {all non : Int} {K : Res [.sc .sl] → W R} (hk : ∀ r w', Den.Own (Up w.heap.size) w' 31 idT r (withL x all non) → Fr None w w' → K r Q w') :
    callW Tryz.prog k_query_With [.pointer (some ⟨b, 0, none⟩), .int .u8 all, .int .u8 non] [.sc .sl] K Q w := by
  have ok := (Store.open_ h).1
  refine C_query_With _ _ _ K Q w (C_query_groups _ _ _ _ _ w ?_)
  unfold F_query_groups
  refine newI fun w1 B1 f1 s1 => newI fun w2 B2 f2 s2 => newI fun w3 B3 f3 s3 => ?_
  refine C_slices_SortedFunc_ID__query_With_c1 _ _ _ _ ?_
  unfold F_slices_SortedFunc_ID__query_With_c1
  refine C_slices_Collect_ID _ _ _ _ ?_
  unfold F_slices_Collect_ID
  have f03 : Fr None w w3 := (f1.then0 f2).then0 f3
  have hs3 := f03.size
  have c1 : w3.cell? ⟨w.heap.size, 0, none⟩ = some (.pointer (some ⟨b, 0, none⟩)) := ((B1.fr f2 fun h => h).fr f3 fun h => h).rd (s := .ptr) (i := 0) (x := some ⟨b, 0, none⟩) rfl
  have c2 : w3.cell? ⟨w1.heap.size, 0, none⟩ = some (.int .u8 all) := (B2.fr f3 fun h => h).rd (s := .int .u8) (i := 0) (x := all) rfl
  have c3 : w3.cell? ⟨w2.heap.size, 0, none⟩ = some (.int .u8 non) := B3.rd (s := .int .u8) (i := 0) (x := non) rfl
  have hp := grpIds_perm ok all non
  have hlen := withL_len ok all non
  have hap := qi_appendSeq Fence.wide 3 trivial rfl (by decide) 140 _ trivial (enters_of Tryz.func140 (by kernel_rfl) rfl) (grpIds x.tab all non (groupsM x.tab)) (by rw [hp.length_eq]; omega) _ w3
    (fun k e => by rcases e with rfl | rfl <;> omega) (groups_gives (Store.st.fr0 h f03) c1 c2 c3 2 (by decide))
  refine callsIn_callW (n := 3) (hap.mono fun e w4 ⟨v, he, o4, f4⟩ => ⟨v, he, ?_⟩)
  refine spec_SortIDs o4 (by rw [hp.length_eq]; omega) (fun y hy => withL_id ok (hp.mem_iff.1 hy)) fun l' w5 o5 hp5 hs5 f5 => ?_
  have e := withL_sorted ok (hp5.trans hp) hs5
  subst e
  exact hk v w5 (o5.up hs3) ((f03.then0 f4).newer f5 fun k e => by have : w3.heap.size ≤ k := o4.own k e; omega)
theorem spec_query_With0 {all non : Int} {K : Res [.sc .sl] → W R} (hk : ∀ r w', Den.Own (Up w.heap.size) w' 31 idT r [] → Fr None w w' → K r Q w') : callW Tryz.prog k_query_With [.pointer none, .int .u8 all, .int .u8 non] [.sc .sl] K Q w := by
  refine C_query_With _ _ _ K Q w (C_query_groups _ _ _ _ _ w ?_)
  unfold F_query_groups
  refine newI fun w1 B1 f1 s1 => newI fun w2 B2 f2 s2 => newI fun w3 B3 f3 s3 => ?_
  refine C_slices_SortedFunc_ID__query_With_c1 _ _ _ _ ?_
  unfold F_slices_SortedFunc_ID__query_With_c1
  refine C_slices_Collect_ID _ _ _ _ ?_
  unfold F_slices_Collect_ID
  have f03 : Fr None w w3 := (f1.then0 f2).then0 f3
  have c1 : w3.cell? ⟨w.heap.size, 0, none⟩ = some (.pointer none) := ((B1.fr f2 fun h => h).fr f3 fun h => h).rd (s := .ptr) (i := 0) (x := none) rfl
  have hg : GivesZ Fence.wide 2 Tryz.prog 140 #[.pointer (some ⟨w.heap.size, 0, none⟩), .pointer (some ⟨w1.heap.size, 0, none⟩), .pointer (some ⟨w2.heap.size, 0, none⟩)] encID [] (fun _ => False) w3 := fun l J W hW hJ hY h0 =>
    groups1_nil 2 (by decide) l _ _ _ J _ W ((hW.cell (p := ⟨_, 0, none⟩) (lt_of_cell c1)).trans c1) h0
  have hap := qi_appendSeq Fence.wide 3 trivial rfl (by decide) 140 _ trivial (enters_of Tryz.func140 (by kernel_rfl) rfl) [] (by decide) _ w3 (fun k e => e.elim) hg
  refine callsIn_callW (n := 3) (hap.mono fun e w4 ⟨v, he, o4, f4⟩ => ⟨v, he, ?_⟩)
  refine spec_SortIDs o4 (by decide) (fun y hy => by cases hy) fun l' w5 o5 hp5 hs5 f5 => ?_
  have e : l' = [] := hp5.eq_nil
  subst e
  exact hk v w5 (o5.up f03.size) ((f03.then0 f4).newer f5 fun k e => by have : w3.heap.size ≤ k := o4.own k e; have := f03.size; omega)

end Go.Proofs.YtkblnhnjagemlaaGreat
