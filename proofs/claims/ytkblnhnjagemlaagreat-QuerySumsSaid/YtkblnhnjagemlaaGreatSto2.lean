/-
  What the functions of the program's package store compute (second part).
-/
import Derived.Test.YtkblnhnjagemlaaGreatSto
namespace Go.Proofs.YtkblnhnjagemlaaGreat
open Go Go.RowKit Go.Proofs.YtkblnhnjagemlaaGreat.Den
variable {R : Type} {Q : R → World → Prop} {w : World}

/-! ### plain: a component more, or less -/
theorem idxF_split {α : Type} {p : α → Bool} : ∀ {l : List α} {n : Nat}, (idxF p l = (n : Int) ∨ (idxF p l < 0 ∧ n = l.length)) → l.takeWhile (fun x => !p x) = l.take n ∧ l.dropWhile (fun x => !p x) = l.drop n ∧ n ≤ l.length
  | [], n, h => by
    rcases h with h | ⟨_, rfl⟩
    · simp [idxF] at h
    · simp
  | x :: r, n, h => by
    cases hx : p x with
    | true =>
      have e : idxF p (x :: r) = 0 := by simp [idxF, List.findIdx?_cons, hx]
      rw [e] at h
      have : n = 0 := by omega
      subst this
      simp [hx]
    | false =>
      have e : idxF p (x :: r) = (match idxF p r with
        | .ofNat k => ((k : Int) + 1)
        | .negSucc _ => -1) := by
        unfold idxF
        rw [List.findIdx?_cons, hx]
        cases List.findIdx? p r <;> rfl
      obtain ⟨m, hm⟩ : ∃ m, n = m + 1 ∧ (idxF p r = (m : Int) ∨ (idxF p r < 0 ∧ m = r.length)) := by
        rw [e] at h
        rcases idxF_cases p r with ⟨h1, _⟩ | ⟨k, h1⟩
        · rw [h1] at h
          refine ⟨r.length, ?_, .inr ⟨by omega, rfl⟩⟩
          rcases h with h | ⟨_, h⟩
          · exact absurd h (by show ¬ ((-1 : Int) = _); omega)
          · simpa using h
        · rw [h1] at h
          refine ⟨k, ?_, .inl h1⟩
          rcases h with h | ⟨h, _⟩
          · have : ((k : Int) + 1) = (n : Int) := h
            omega
          · have : ((k : Int) + 1) < 0 := h
            omega
      obtain ⟨rfl, hm⟩ := hm
      have ih := idxF_split hm
      simp only [List.takeWhile_cons, List.dropWhile_cons, hx, Bool.not_false, if_true, List.take_succ_cons, List.drop_succ_cons, List.length_cons]
      exact ⟨by rw [ih.1], ih.2.1, by omega⟩

theorem insC_mem {l : List Comp} {c x : Comp} : x ∈ insC l c ↔ x ∈ l ∨ x = c := by
  unfold insC
  have := List.takeWhile_append_dropWhile (p := fun x : Comp => !decide (x.1 > c.1)) (l := l)
  rw [List.mem_append, List.mem_cons]
  conv => rhs; rw [← this, List.mem_append]
  constructor
  · rintro (h | h | h)
    · exact .inl (.inl h)
    · exact .inr h
    · exact .inl (.inr h)
  · rintro ((h | h) | h)
    · exact .inl h
    · exact .inr (.inr h)
    · exact .inr (.inl h)
theorem insC_rising : ∀ {l : List Comp} {c : Comp}, Rising (l.map (·.1)) → (∀ x ∈ l, x.1 ≠ c.1) → Rising ((insC l c).map (·.1))
  | [], c, _, _ => by simp [insC, Rising]
  | x :: r, c, hr, hne => by
    rw [List.map_cons, Rising, List.pairwise_cons] at hr
    by_cases h : x.1 > c.1
    · have e : insC (x :: r) c = c :: x :: r := by simp [insC, h]
      rw [e]
      simp only [List.map_cons, Rising, List.pairwise_cons]
      refine ⟨fun y hy => ?_, hr.1, hr.2⟩
      rcases List.mem_cons.1 hy with rfl | hy
      · exact h
      · have := hr.1 y hy; omega
    · have e : insC (x :: r) c = x :: insC r c := by simp [insC, h]
      rw [e]
      simp only [List.map_cons, Rising, List.pairwise_cons]
      refine ⟨fun y hy => ?_, insC_rising hr.2 fun y hy => hne y (List.mem_cons_of_mem _ hy)⟩
      obtain ⟨z, hz, rfl⟩ := List.mem_map.1 hy
      rcases insC_mem.1 hz with hz | rfl
      · exact hr.1 _ (List.mem_map_of_mem hz)
      · have := hne x List.mem_cons_self; omega
theorem Valid.ins {m : Nat} {l : List Comp} {c : Comp} (h : Valid m l) (hc : checkM c = 0) (hk : c.1 ∉ kindsOf m) : listE (insC l c) = 0 := by
  rw [listE_0]
  refine ⟨fun x hx => ?_, insC_rising h.rising fun x hx e => hk ?_⟩
  · rcases insC_mem.1 hx with hx | rfl
    · exact (listE_0.1 h.list).1 x hx
    · exact hc
  · rw [← h.kinds, ← e]; exact List.mem_map_of_mem hx
theorem Valid.filter {m : Nat} {l : List Comp} (h : Valid m l) (p : Comp → Bool) : listE (l.filter p) = 0 := by
  rw [listE_0]
  refine ⟨fun x hx => (listE_0.1 h.list).1 x (List.mem_filter.1 hx).1, ?_⟩
  have := h.rising
  unfold Rising at this ⊢
  rw [List.pairwise_map] at this ⊢
  exact this.sublist List.filter_sublist
theorem kinds_bit {m : Nat} {k : Int} (h : 0 ≤ k) : k ∈ kindsOf m ↔ k < 6 ∧ Nat.testBit m k.toNat = true := by
  rw [kindsOf_mem]
  constructor
  · rintro ⟨q, h1, h2, rfl⟩; exact ⟨by omega, by simpa using h2⟩
  · rintro ⟨h1, h2⟩; exact ⟨k.toNat, by omega, h2, by omega⟩

/-! ### what store asks of slices -/
section
variable {bc : Nat} {Tc : TypeId} {n : Nat} {r : Sl} {l : List Comp}

theorem spec_add_pred {x c : Comp} (B : Blk w bc Tc (compC c)) {K : Res [.sc .bool] → W R} (hk : ∀ w', Fr None w w' → K (decide (x.1 > c.1)) Q w') : callW Tryz.prog k_store_Store_Add_c1_c1 [.agg ⟨compC x⟩, .pointer (some ⟨bc, 0, none⟩)] [.sc .bool] K Q w := by
  refine C_store_Store_Add_c1_c1 x _ K Q w ?_
  unfold F_store_Store_Add_c1_c1
  refine newI fun w1 B1 f1 s1 => fldI B1 (x := x.1) rfl (ptrI (fldI (B.fr f1 fun h => h) (x := c.1) rfl ?_))
  exact hk w1 f1
theorem spec_rem_pred {x : Comp} {k : Int} (B : Blk w bc Tc [.int .u8 k]) {K : Res [.sc .bool] → W R} (hk : ∀ w', Fr None w w' → K (x.1 == k) Q w') : callW Tryz.prog k_store_Store_Remove_c1_c1 [.agg ⟨compC x⟩, .pointer (some ⟨bc, 0, none⟩)] [.sc .bool] K Q w := by
  refine C_store_Store_Remove_c1_c1 x _ K Q w ?_
  unfold F_store_Store_Remove_c1_c1
  refine newI fun w1 B1 f1 s1 => fldI B1 (x := x.1) rfl (ptrI (fld0 (B.fr f1 fun h => h) (x := k) rfl ?_))
  exact hk w1 f1

/-- slices.Insert of one component. -/
theorem spec_Insert {S : Nat → Prop} (ho : Own S w 53 compT r l) {vb : Nat} {Tv : TypeId} {x : Comp} (Bv : Blk w vb Tv (compC x)) (hvb : ¬ S vb) {i : Nat} (hi : i ≤ l.length) (hsm : l.length ≤ 1000) {K : Res [.sc .sl] → W R}
    (hk : ∀ r' w', Own (Ex S w) w' 53 compT r' (l.take i ++ x :: l.drop i) → Fr S w w' → K r' Q w') :
    callW Tryz.prog k_slices_Insert_Comp [.slice r.a r.n r.c, .int .i64 (i : Int), .slice (some ⟨vb, 0, none⟩) 1 1] [.sc .sl] K Q w := by
  refine C_slices_Insert_Comp r _ ⟨some ⟨vb, 0, none⟩, 1, 1⟩ K Q w ?_
  unfold F_slices_Insert_Comp
  have hlen := ho.len
  have hcap := ho.cap
  refine ho.sl.from rfl rfl hi fun r1 hr1 _ => condF rfl ?_
  refine condE (fun he => ?_) fun hne => ?_
  · have : i = l.length := by omega
    subst this
    have e : l.take l.length ++ x :: l.drop l.length = l ++ [x] := by simp
    rw [e] at hk
    refine app1 (x := x) (S' := Ex S w) comps_ty ho Bv rfl (by omega) (by rw [maxLen_eq]; omega) (fun _ h => .inl h) (.inr (Nat.le_refl _)) fun r' w' o' f' _ => hk r' w' o' (f'.mono fun k _ e => ho.own k e)
  have hil : i < l.length := by omega
  obtain ⟨ti, z, hti, htz, hts, htb, hzs⟩ := comps_ty.info
  have ht4 : ti.size = 4 := hts
  have lenD : ((l.drop i).flatMap compT.cells).length = (l.length - i) * 4 := by have := flat_len (t := compT) (l.drop i); rw [List.length_drop] at this; exact this
  have lenA : ((l.take i).flatMap compT.cells).length = i * 4 := by have := flat_len (t := compT) (l.take i); rw [List.length_take, Nat.min_eq_left hi] at this; exact this
  have flatD : (l.drop i).flatMap compT.cells = (l.flatMap compT.cells).drop (i * 4) := by
    have h2 : l.flatMap compT.cells = (l.take i).flatMap compT.cells ++ (l.drop i).flatMap compT.cells := by rw [← List.flatMap_append, List.take_append_drop]
    rw [h2, ← lenA, List.drop_left]
  have oneX : ∀ v ∈ compC x, v.oneCell' = true := compT.one x rfl
  have oneD : ∀ v ∈ (l.drop i).flatMap compT.cells, v.oneCell' = true := fun u hu => by
    obtain ⟨y, _, hy⟩ := List.mem_flatMap.1 hu
    exact compT.one y rfl u hy
  have cellsX : ∀ {w' : World}, Blk w' vb Tv (compC x) → CellsAt w' ⟨vb, 0, none⟩ (compC x) := fun B => B.cells 0 _ fun j u h => by rw [Nat.zero_add]; exact h
  have flatI : (l.take i ++ x :: l.drop i).flatMap compT.cells = (l.take i).flatMap compT.cells ++ compC x ++ (l.drop i).flatMap compT.cells := by
    rw [List.flatMap_append, List.flatMap_cons, List.append_assoc]; rfl
  have lenI : (l.take i ++ x :: l.drop i).length = l.length + 1 := by simp; omega
  rcases ho.cases with ⟨rfl, rfl⟩ | ⟨g, c, cur, rfl, hS, h3, h4, h5, h6, h7⟩
  · simp at hil
  have hvg : vb ≠ g := fun e => hvb (e ▸ hS)
  have hclen : cur.toList.length = c * 4 := by rw [Array.length_toList, h6]; rfl
  have B : Blk w g 53 cur.toList := h3
  have hl4 : (l.drop i).length * 4 + i * 4 ≤ c * 4 := by simp; omega
  have cellsD : CellsAt w ⟨g, i * 4, none⟩ ((l.drop i).flatMap compT.cells) := B.cells _ _ fun j u hj => by
    rw [flatD, List.getElem?_drop, ← h7, List.getElem?_take] at hj
    split at hj
    · exact hj
    · cases hj
  have w1 : IntKind.wrap .i64 (((l.length : Nat) : Int) + ((1 : Nat) : Int)) = ((l.length + 1 : Nat) : Int) := w64 (by omega)
  have w2 : IntKind.wrap .i64 (((i : Nat) : Int) + ((1 : Nat) : Int)) = ((i + 1 : Nat) : Int) := w64 (by omega)
  simp only [w1, w2]
  refine condD (fun hgt => ?_) fun hle => ?_
  · -- a new row
    have hcn : c = l.length := by have : ((l.length + 1 : Nat) : Int) > (c : Int) := hgt; omega
    subst hcn
    refine chkI (by simp only [Option.getD_some, Option.getD_none]; omega) ?_
    simp only [Option.getD_some, Option.getD_none, Int.toNat_natCast]
    have e0 : (if l.length = Int.toNat 0 then some (⟨g, 0, none⟩ : Addr) else (some (⟨g, 0, none⟩ : Addr)).map (·.add (Int.toNat 0 * 4))) = some ⟨g, 0, none⟩ := by
      have h0 : ¬ l.length = Int.toNat 0 := fun h => by have : l.length = 0 := h; omega
      rw [if_neg h0, Option.map_some, add_lit, Nat.zero_add]
      rfl
    rw [e0]
    have w3 : IntKind.wrap .i64 (((l.length + 1 : Nat) : Int) - (i : Int)) = ((l.length + 1 - i : Nat) : Int) := by rw [w64 (by omega)]; omega
    rw [w3]
    have hA : ((l.take i).flatMap compT.cells) = cur.toList.take (i * 4) := by
      rw [flat_take, ← h7, List.take_take, Nat.min_eq_left (show i * compT.size ≤ l.length * compT.size from Nat.mul_le_mul_right _ hi)]
      rfl
    have hr := run_append_zeros_grow (P := Tryz.prog) (ty := 32) w 3 ti z .i64 .i64 comps_ty.under (by kernel_rfl) hti htz ⟨g, 0, none⟩ i l.length ((l.take i).flatMap compT.cells) (by rw [lenA, ht4]) (fun j v hj => by
        rw [add_lit, Nat.zero_add, B.cell]
        rw [hA, List.getElem?_take] at hj
        split at hj
        · exact hj
        · cases hj) (l.length + 1 - i) (by rw [ht4]; omega) (by omega) (by omega) (by
        rw [htb]
        exact growslice_fits (by omega) (by omega)) (by rw [htb]; omega)
    have hge := grownCap_ge w (i + (l.length + 1 - i)) l.length 53
    have hmx := grownCap_le_maxLen w (i + (l.length + 1 - i)) l.length 53 (by rw [maxLen_eq]; omega)
    generalize grownCap w (i + (l.length + 1 - i)) l.length 53 = G at hr hge hmx
    have hn : i + (l.length + 1 - i) = l.length + 1 := by omega
    rw [hn] at hr hge
    refine ⟨⟨some ⟨w.heap.size, 0, none⟩, l.length + 1, G⟩, _, hr, ?_⟩
    have f1 := (Fr.refl None w).drew.alloc (.cells (((l.take i).flatMap compT.cells).toArray ++ Builtin.zeroCells z.cells (l.length + 1 - i) ++ Builtin.zeroCells z.cells (G - (l.length + 1))) 53)
    have B1 : Blk (w.drew.alloc (.cells (((l.take i).flatMap compT.cells).toArray ++ Builtin.zeroCells z.cells (l.length + 1 - i) ++ Builtin.zeroCells z.cells (G - (l.length + 1))) 53)) w.heap.size 53
        (((l.take i).flatMap compT.cells) ++ (Builtin.zeroCells z.cells (l.length + 1 - i)).toList ++ (Builtin.zeroCells z.cells (G - (l.length + 1))).toList) := by
      have := heap_alloc_new w.drew (.cells (((l.take i).flatMap compT.cells).toArray ++ Builtin.zeroCells z.cells (l.length + 1 - i) ++ Builtin.zeroCells z.cells (G - (l.length + 1))) 53)
      unfold Blk
      rw [show (⟨((l.take i).flatMap compT.cells) ++ (Builtin.zeroCells z.cells (l.length + 1 - i)).toList ++ (Builtin.zeroCells z.cells (G - (l.length + 1))).toList⟩ : Array Value) = ((l.take i).flatMap compT.cells).toArray ++ Builtin.zeroCells z.cells (l.length + 1 - i) ++ Builtin.zeroCells z.cells (G - (l.length + 1)) from Array.ext' (by simp)]
      exact this
    have hs1 : (w.drew.alloc (.cells (((l.take i).flatMap compT.cells).toArray ++ Builtin.zeroCells z.cells (l.length + 1 - i) ++ Builtin.zeroCells z.cells (G - (l.length + 1))) 53)).heap.size = w.heap.size + 1 := by simp
    have hzl : z.cells.size = 4 := hzs
    have hl1 : (((l.take i).flatMap compT.cells) ++ (Builtin.zeroCells z.cells (l.length + 1 - i)).toList ++ (Builtin.zeroCells z.cells (G - (l.length + 1))).toList).length = G * 4 := by
      simp only [List.length_append, Array.length_toList, size_zeroCells, lenA, hzl]
      omega
    have hA1 : (((l.take i).flatMap compT.cells) ++ (Builtin.zeroCells z.cells (l.length + 1 - i)).toList ++ (Builtin.zeroCells z.cells (G - (l.length + 1))).toList).take (i * 4) = (l.take i).flatMap compT.cells := by
      rw [List.append_assoc, ← lenA, List.take_left]
    generalize (((l.take i).flatMap compT.cells) ++ (Builtin.zeroCells z.cells (l.length + 1 - i)).toList ++ (Builtin.zeroCells z.cells (G - (l.length + 1))).toList) = cs1 at B1 hl1 hA1
    generalize w.drew.alloc (.cells (((l.take i).flatMap compT.cells).toArray ++ Builtin.zeroCells z.cells (l.length + 1 - i) ++ Builtin.zeroCells z.cells (G - (l.length + 1))) 53) = wa at f1 B1 hs1
    have hgl := B.lt
    have hvl := Bv.lt
    refine chkI (by simp only [Option.getD_some, Option.getD_none]; omega) ?_
    simp only [Option.getD_some, Option.getD_none, Int.toNat_natCast]
    rw [if_neg (by omega), Option.map_some, add_lit, Nat.zero_add]
    refine copyI (vs := compC x) (n := 1) comps_ty.under hti B1 (by show 1 = min 1 (l.length + 1 - i); omega) (by rw [ht4]; rfl) (cellsX (Bv.fr f1 fun h => h)) (by rw [hl1]; show i * 4 + 4 ≤ _; omega) oneX fun wb B2 f2 s2 => ?_
    refine chkI (by simp only [Option.getD_some, Option.getD_none]; omega) ?_
    simp only [Option.getD_some, Option.getD_none, Int.toNat_natCast]
    rw [if_neg (by omega), Option.map_some, add_lit, Nat.zero_add]
    refine chkI (by simp only [Option.getD_some, Option.getD_none]; omega) ?_
    simp only [Option.getD_some, Option.getD_none, Int.toNat_natCast]
    rw [if_neg (by omega), Option.map_some, add_lit, Nat.zero_add]
    have f12 := f1.newer f2 fun k e => by omega
    have cD : CellsAt wb.drew ⟨g, i * 4, none⟩ ((l.drop i).flatMap compT.cells) := by
      have B' := (B.fr f12 fun h => h).drew
      exact B'.cells _ _ fun j u hj => by
        rw [flatD, List.getElem?_drop, ← h7, List.getElem?_take] at hj
        split at hj
        · exact hj
        · cases hj
    refine copyI (vs := (l.drop i).flatMap compT.cells) (n := l.length - i) comps_ty.under hti B2.drew (by show _ = min _ _; omega) (by rw [lenD, ht4]) cD (by rw [putAt_length, hl1, lenD]; omega) oneD fun wc B3 f3 s3 => ?_
    have hfin := ins_cells (z := 4) (A := (l.take i).flatMap compT.cells) (X := compC x) (D := (l.drop i).flatMap compT.cells) (cs := cs1) (i := i) (d := l.length - i) hA1 lenA rfl lenD (by rw [hl1]; omega)
    rw [show i + 1 + (l.length - i) = l.length + 1 by omega] at hfin
    have o3 := Own.mk' (S := Ex S w) (w := wc) (E := 53) (t := compT) (l := l.take i ++ x :: l.drop i) (g := w.heap.size) (c := G) (cur := ⟨putAt (putAt cs1 (i * 4) (compC x)) ((i + 1) * 4) ((l.drop i).flatMap compT.cells)⟩) (.inr (Nat.le_refl _)) B3 (by rw [lenI]; omega) hmx (by simp [putAt_length, hl1]; rfl) (by rw [lenI, flatI]; exact hfin)
    rw [lenI] at o3
    refine hk _ wc o3 ?_
    exact ((f12.drew.newer f3 fun k e => by omega : Fr None w wc)).any
  · -- in place
    have hroom : l.length + 1 ≤ c := by have : ¬ ((l.length + 1 : Nat) : Int) > (c : Int) := hle; omega
    have e0 : ∀ (K : Sl → W Sl) (Q : Sl → World → Prop), K ⟨some ⟨g, 0, none⟩, l.length + 1, c⟩ Q w → slcW (some (⟨g, 0, none⟩ : Addr)) l.length c 4 none (some ((l.length + 1 : Nat) : Int)) K Q w := fun K Q hK => by
      refine chkI (by simp only [Option.getD_some, Option.getD_none]; omega) ?_
      simp only [Option.getD_some, Option.getD_none, Int.toNat_natCast]
      have h0 : ¬ c = Int.toNat 0 := fun h => by have : c = 0 := h; omega
      rw [if_neg h0, Option.map_some, add_lit, Nat.zero_add]
      exact hK
    refine e0 _ _ ?_
    have from_ : ∀ (j : Nat) (K : Sl → W Sl) (Q : Sl → World → Prop) (w : World), j ≤ l.length → K ⟨some ⟨g, j * 4, none⟩, l.length + 1 - j, c - j⟩ Q w → slcW (some (⟨g, 0, none⟩ : Addr)) (l.length + 1) c 4 (some (j : Int)) none K Q w := fun j K Q w hj hK => by
      refine chkI (by simp only [Option.getD_some, Option.getD_none]; omega) ?_
      simp only [Option.getD_some, Option.getD_none, Int.toNat_natCast]
      rw [if_neg (by omega), Option.map_some, add_lit, Nat.zero_add]
      exact hK
    refine from_ (i + 1) _ _ _ (by omega) ?_
    refine ⟨false, w, ?_, condT rfl ?_⟩
    · rw [run_callFunc_extern (fn := Tryz.f251) Tryz.func251 (by kernel_rfl) (by kernel_rfl) (by kernel_rfl) (e := Extern.SlicesOverlaps.overlaps #[32, 32] #[4]) (by kernel_rfl)]
      have hsz : ∀ w, (Go.sizeOf 53).run Tryz.prog w = .ok 4 w := fun w => by simp [Go.sizeOf, typeInfo, hti, ht4]
      have hsh : ∀ {b : Nat} {T : TypeId} {cs : List Value}, Blk w b T cs → w.shape? b = some (T, cs.length) := fun B => by unfold Blk at B; simp [World.shape?, B]
      rw [Lib.run_overlaps_apart w 32 4 53 comps_ty.under 4 hsz ⟨vb, 0, none⟩ ⟨g, (i + 1) * 4, none⟩ 1 1 _ _ hvg Tv 53 4 cur.toList.length (hsh Bv) (hsh B) (by rw [hclen]; omega) (Bv.frozen 0) (Bv.frozen 4)]
      rfl
    have fd := (Fr.refl None w).drew
    refine from_ (i + 1) _ _ _ (by omega) (from_ i _ _ _ (by omega) ?_)
    refine copyI (vs := (l.drop i).flatMap compT.cells) (n := l.length - i) comps_ty.under hti B.drew (by show l.length - i = min (l.length + 1 - i) (l.length + 1 - (i + 1)); omega) (by rw [lenD, ht4]) cellsD (by rw [hclen, lenD]; omega) oneD fun wb B2 f2 s2 => ?_
    refine from_ i _ _ _ (by omega) ?_
    have f02 : Fr (fun k => k = g) w wb := fd.any.then f2
    refine copyI (vs := compC x) (n := 1) comps_ty.under hti B2 (by show 1 = min 1 (l.length + 1 - i); omega) (by rw [ht4]; rfl) (cellsX (Bv.fr f02 fun e => hvg e)) (by rw [putAt_length, hclen]; show i * 4 + 4 ≤ _; omega) oneX fun wc B3 f3 s3 => ?_
    have hA : cur.toList.take (i * 4) = (l.take i).flatMap compT.cells := by
      rw [flat_take, ← h7, List.take_take, Nat.min_eq_left (show i * compT.size ≤ l.length * compT.size from Nat.mul_le_mul_right _ hi)]
      rfl
    have hfin := ins_cells' (z := 4) (A := (l.take i).flatMap compT.cells) (X := compC x) (D := (l.drop i).flatMap compT.cells) (cs := cur.toList) (i := i) (d := l.length - i) hA lenA rfl lenD (by rw [hclen]; omega)
    rw [show i + 1 + (l.length - i) = l.length + 1 by omega] at hfin
    have o3 := Own.mk' (S := Ex S w) (w := wc) (E := 53) (t := compT) (l := l.take i ++ x :: l.drop i) (g := g) (c := c) (cur := ⟨putAt (putAt cur.toList ((i + 1) * 4) ((l.drop i).flatMap compT.cells)) (i * 4) (compC x)⟩) (.inl hS) B3 (by rw [lenI]; exact hroom) h5 (by simp [putAt_length, h6]) (by rw [lenI, flatI]; exact hfin)
    rw [lenI] at o3
    exact hk _ wc o3 ((f02.then f3).mono fun k _ e => by rw [e]; exact hS)

/-- a component more. -/
theorem spec_Add_c1 (ho : Own (Up n) w 53 compT r l) {c : Comp} (B : Blk w bc Tc (compC c)) (_hb : bc < n) (hn : n ≤ w.heap.size) (hsm : l.length ≤ 1000) {K : Res [.sc .sl] → W R} (hk : ∀ r' w', Own (Up n) w' 53 compT r' (insC l c) → Fr (Up n) w w' → K r' Q w') :
    callW Tryz.prog k_store_Store_Add_c1 [.slice r.a r.n r.c, .pointer (some ⟨bc, 0, none⟩)] [.sc .sl] K Q w := by
  refine C_store_Store_Add_c1 r _ K Q w ?_
  unfold F_store_Store_Add_c1
  refine C_slices_IndexFunc_Comp__store_Store_Add_c1_c1 r _ _ _ w ?_
  unfold F_slices_IndexFunc_Comp__store_Store_Add_c1_c1
  refine idxFuncI (t := compT) (sz := 4) (callp := fun x K => callW Tryz.prog k_store_Store_Add_c1_c1 [.agg ⟨compC x⟩, .pointer (some ⟨bc, 0, none⟩)] [.sc .bool] K) (fun x : Comp => decide (x.1 > c.1)) ho.sl rfl (by omega) (fun x _ X w' f hX => spec_add_pred (B.fr f fun h => h) hX) fun w1 f1 => ?_
  have hlen := ho.len
  refine joinI (fun i w' => w' = w1 ∧ ∃ q : Nat, i = (q : Int) ∧ (idxF (fun x : Comp => decide (x.1 > c.1)) l = (q : Int) ∨ (idxF (fun x : Comp => decide (x.1 > c.1)) l < 0 ∧ q = l.length))) ?_ ?_
  · refine condD (fun h => ⟨rfl, l.length, by omega, .inr ⟨h, rfl⟩⟩) fun h => ⟨rfl, (idxF (fun x : Comp => decide (x.1 > c.1)) l).toNat, by omega, .inl (by omega)⟩
  · rintro i w2 ⟨rfl, q, rfl, hq⟩
    obtain ⟨h1, h2, h3⟩ := idxF_split hq
    have B2 := B.fr f1 fun h => h
    refine ptrI (aggI B2 (x := c) rfl (newI fun w3 B3 f3 s3 => ?_))
    have o3 : Own (fun k => n ≤ k ∧ k < w2.heap.size) w3 53 compT r l := by
      have o1 := (ho.none f1)
      have : Own (fun k => n ≤ k ∧ k < w2.heap.size) w2 53 compT r l := o1.mono fun k hk h => ⟨h, hk⟩
      exact this.none f3
    refine spec_Insert o3 B3 (by omega) h3 hsm fun r' w4 o4 f4 => ?_
    have hs1 := f1.size
    have hs3 := f3.size
    refine hk r' w4 ?_ ?_
    · have : insC l c = l.take q ++ c :: l.drop q := by unfold insC; rw [h1, h2]
      rw [this]
      exact o4.mono fun k _ h => by rcases h with h | h; exact h.1; (show n ≤ k; omega)
    · exact (f1.then0 f3).any.then (f4.mono fun k _ h => h.1)

/-- a component less. -/
theorem spec_Remove_c1 (ho : Own (Up n) w 53 compT r l) {k : Int} (B : Blk w bc Tc [.int .u8 k]) (hb : bc < n) (hn : n ≤ w.heap.size) (hsm : l.length ≤ 1000) {K : Res [.sc .sl] → W R} (hk : ∀ r' w', Own (Up n) w' 53 compT r' (l.filter fun x => !(x.1 == k)) → Fr (Up n) w w' → K r' Q w') :
    callW Tryz.prog k_store_Store_Remove_c1 [.slice r.a r.n r.c, .pointer (some ⟨bc, 0, none⟩)] [.sc .sl] K Q w := by
  refine C_store_Store_Remove_c1 r _ K Q w ?_
  unfold F_store_Store_Remove_c1
  refine C_slices_DeleteFunc_Comp__store_Store_Remove_c1_c1 r _ _ _ w ?_
  unfold F_slices_DeleteFunc_Comp__store_Store_Remove_c1_c1
  refine C_slices_IndexFunc_Comp__store_Store_Remove_c1_c1 r _ _ _ w ?_
  unfold F_slices_IndexFunc_Comp__store_Store_Remove_c1_c1
  refine idxFuncI (t := compT) (sz := 4) (callp := fun x K => callW Tryz.prog k_store_Store_Remove_c1_c1 [.agg ⟨compC x⟩, .pointer (some ⟨bc, 0, none⟩)] [.sc .bool] K) (fun x : Comp => x.1 == k) ho.sl rfl (by omega) (fun x _ X w' f hX => spec_rem_pred (B.fr f fun h => h) hX) fun w1 f1 => ?_
  rcases idxF_cases (fun x : Comp => x.1 == k) l with ⟨h1, hno⟩ | ⟨i, h1⟩
  · rw [h1]
    refine condT rfl ?_
    have e : l.filter (fun x => !(x.1 == k)) = l := List.filter_eq_self.2 fun x hx => by rw [hno x hx]; rfl
    rw [e] at hk
    exact hk r w1 (ho.none f1) f1.any
  · rw [h1]
    refine condF (by rw [beq_eq_false_iff_ne]; omega) ?_
    have B1 := B.fr f1 fun h => h
    have hs1 := f1.size
    refine delFuncI (t := compT) (sz := 4) (callp := fun x K => callW Tryz.prog k_store_Store_Remove_c1_c1 [.agg ⟨compC x⟩, .pointer (some ⟨bc, 0, none⟩)] [.sc .bool] K) (z := (0, 0, 0, 0)) (zv := .agg #[.int .u8 0, .int .i32 0, .int .i32 0, .int .i32 0]) (fun x : Comp => x.1 == k) comps_ty (by kernel_rfl) rfl rfl (ho.none f1) rfl (by omega) h1 (fun x _ X w' f hX => spec_rem_pred (B1.fr f fun h => ?_) hX) fun q w2 o2 f2 => ?_
    · rcases h with h | h
      · have : n ≤ bc := h; omega
      · have : w1.heap.size ≤ bc := h; omega
    · exact hk _ w2 o2 (f1.any.then f2)
end

end Go.Proofs.YtkblnhnjagemlaaGreat
