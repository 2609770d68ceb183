/-
  StoreMoves: its Go text answers true, whatever the input.
-/
import Derived.Test.YtecmpmnaeciapaaL11
import Derived.Test.YtecmpmnaeciapaaRef10
namespace Go.Proofs.Ytecmpmnaeciapaa
open Go Go.RowKit Go.ChangeShapes Go.WideShapes Go.ChangeAt Go.Proofs.Ytecmpmnaeciapaa.Den
variable {R : Type} {Q : R → World → Prop} {w : World}

theorem StOk.at_of {x : StM} (h : StOk x) {m i : Nat} {e : Ent} (hm : m < 64) (he : (x.tab m)[i]? = some e) : x.at e.1 = some (m, i, e) := by
  have hr := rowM_at (h.tab m hm).nodup he
  have hh := h.home_at hm (show inT x.tab m e.1 from by unfold inT; rw [hr]; rfl)
  unfold StM.at
  rw [hh]
  simp only [hr, he]
theorem full_ids {k n : Nat} (h : n ≤ k) : ∀ {j : Nat}, j ≤ k → (FullS k n).ids j = (List.range (min j n)).map fun (i : Nat) => idOf i 1
  | 0, _ => by simp [SM.ids]
  | j + 1, hj => by
    rw [SM.ids, full_ids h (by omega)]
    by_cases hjn : j < n
    · have e1 : (FullS k n).used[j]? = some true := by simp [FullS, List.getElem?_append, hjn]
      have e2 : (FullS k n).gen[j]? = some 1 := by simp [FullS, List.getElem?_append, hjn]
      rw [e1, e2, Nat.min_eq_left (by omega), Nat.min_eq_left (by omega), List.range_succ, List.map_append]
      rfl
    · have e1 : (FullS k n).used[j]? = some false := by
        simp only [FullS]
        rw [List.getElem?_append_right (by simp; omega), List.getElem?_replicate, if_pos (by simp; omega)]
      rw [e1, Nat.min_eq_right (by omega), Nat.min_eq_right (by omega)]
      simp
theorem full_list {k n : Nat} (h : n ≤ k) : (FullS k n).list = (List.range n).map fun (i : Nat) => idOf i 1 := by
  rw [SM.list, FullS.n h, full_ids h (Nat.le_refl _), Nat.min_eq_right h]
theorem groups_one {T : Nat → List Ent} {m : Nat} (hm : m < 64) (hT : T m ≠ []) (ho : ∀ k, k ≠ m → T k = []) : groupsM T = [((m : Int), (T m).map (·.1))] := by
  have := grpL_all (T := T) (l := [(m : Int)]) (by simp) (by simp) (fun x ⟨h1, h2, h3⟩ => by
    have : x.toNat = m := Classical.byContradiction fun hne => h3 (ho _ hne)
    simp; omega) (fun x hx => by simp at hx; omega)
  rw [← this]
  simp [grpL, hT]
theorem filter_ins {l : List Comp} {c : Comp} (h : ∀ x ∈ l, x.1 ≠ c.1) : (insC l c).filter (fun x => !(x.1 == c.1)) = l := by
  have h2 : ∀ (k : List Comp), (∀ x ∈ k, x.1 ≠ c.1) → k.filter (fun x => !(x.1 == c.1)) = k := fun k hk => List.filter_eq_self.2 fun x hx => by simp [hk x hx]
  unfold insC
  rw [List.filter_append, List.filter_cons_of_neg (by simp)]
  rw [h2 _ fun x hx => h x ((List.takeWhile_sublist _).subset hx), h2 _ fun x hx => h x ((List.dropWhile_sublist _).subset hx)]
  exact List.takeWhile_append_dropWhile

/-- what is added and taken away again. -/
theorem moves {n : Nat} (hn : 1 ≤ n) {l : List Comp} (hl : listE l = 0) {c : Comp} (hc : checkM c = 0) (hno : c.1 ∉ kindsOf (maskN l)) (hok : StOk ⟨FullS 20 n, manyT l n⟩) :
    ∃ y z : StM, (⟨FullS 20 n, manyT l n⟩ : StM).add (idOf 0 1) c = (0, y) ∧ y.remove (idOf 0 1) c.1 = (0, z) ∧ z.s = FullS 20 n ∧ z.ent (idOf 0 1) = ((idOf 0 1, l), 0) ∧ ∃ ids : List Int, groupsM z.tab = [(((maskN l : Nat) : Int), ids ++ [idOf 0 1])] ∧ ids.length + 1 = n := by
  generalize hx : (⟨FullS 20 n, manyT l n⟩ : StM) = x at hok ⊢
  have hv : Valid (maskN l) l := ⟨hl, rfl⟩
  have hm := maskN_lt l
  have hxt : x.tab (maskN l) = (List.range n).map fun (i : Nat) => (idOf i 1, l) := by subst hx; simp [manyT]
  have hxo : ∀ k, k ≠ maskN l → x.tab k = [] := fun k hk => by subst hx; simp [manyT, hk]
  have h0 : (x.tab (maskN l))[0]? = some (idOf 0 1, l) := by rw [hxt, List.getElem?_map, List.getElem?_range (by omega)]; rfl
  have hat := hok.at_of hm h0
  have hat : x.at (idOf 0 1) = some (maskN l, 0, (idOf 0 1, l)) := hat
  have hadd : x.add (idOf 0 1) c = (0, x.turn (idOf 0 1) (maskN l) 0 (insC l c)) := by
    unfold StM.add
    rw [if_neg (fun h => h hc), hat]
    simp only [if_neg hno]
  have hvi : listE (insC l c) = 0 := hv.ins hc hno
  have hv2 : Valid (maskN (insC l c)) (insC l c) := ⟨hvi, rfl⟩
  have hm2 := maskN_lt (insC l c)
  have hk2 : c.1 ∈ kindsOf (maskN (insC l c)) := by
    rw [← hv2.kinds]
    exact List.mem_map.2 ⟨c, by simp [insC], rfl⟩
  have hne : maskN (insC l c) ≠ maskN l := fun e => hno (by rw [← e]; exact hk2)
  have hyok : StOk (x.turn (idOf 0 1) (maskN l) 0 (insC l c)) := hok.turn hm h0 hvi
  generalize hy : x.turn (idOf 0 1) (maskN l) 0 (insC l c) = y at hadd hyok
  have hy2 : y.tab (maskN (insC l c)) = [(idOf 0 1, insC l c)] := by
    subst hy
    show upd _ _ _ _ = _
    rw [upd_same, upd_other hne, hxo _ hne]; rfl
  have hy1 : y.tab (maskN l) = dropI (x.tab (maskN l)) 0 := by
    subst hy
    show upd _ _ _ _ = _
    rw [upd_other (Ne.symm hne), upd_same]
  have hyo : ∀ k, k ≠ maskN l → k ≠ maskN (insC l c) → y.tab k = [] := fun k h1 h2 => by
    subst hy
    show upd _ _ _ _ = _
    rw [upd_other h2, upd_other h1, hxo _ h1]
  have hys : y.s = x.s := by subst hy; rfl
  have hy0 : (y.tab (maskN (insC l c)))[0]? = some (idOf 0 1, insC l c) := by rw [hy2]; rfl
  have hat2 : y.at (idOf 0 1) = some (maskN (insC l c), 0, (idOf 0 1, insC l c)) := hyok.at_of hm2 hy0
  have hfi : (insC l c).filter (fun x => !(x.1 == c.1)) = l := filter_ins fun x hx e => hno (by rw [← hv.kinds, ← e]; exact List.mem_map.2 ⟨x, hx, rfl⟩)
  have hrem : y.remove (idOf 0 1) c.1 = (0, y.turn (idOf 0 1) (maskN (insC l c)) 0 l) := by
    unfold StM.remove
    rw [hat2]
    simp only [if_pos hk2, hfi]
  have hzok : StOk (y.turn (idOf 0 1) (maskN (insC l c)) 0 l) := hyok.turn hm2 hy0 hl
  refine ⟨y, _, hadd, hrem, ?_, ?_, (dropI (x.tab (maskN l)) 0).map (·.1), ?_, ?_⟩
  · show y.s = _
    rw [hys, ← hx]
  · generalize hz : y.turn (idOf 0 1) (maskN (insC l c)) 0 l = z at hzok
    have hz1 : z.tab (maskN l) = dropI (x.tab (maskN l)) 0 ++ [(idOf 0 1, l)] := by
      subst hz
      show upd _ _ _ _ = _
      rw [upd_same, upd_other (Ne.symm hne), hy1]
    have : (z.tab (maskN l))[(dropI (x.tab (maskN l)) 0).length]? = some (idOf 0 1, l) := by rw [hz1]; simp
    have ha : z.at (idOf 0 1) = some (maskN l, _, (idOf 0 1, l)) := hzok.at_of hm this
    unfold StM.ent
    rw [ha]
  · have hz1 : (y.turn (idOf 0 1) (maskN (insC l c)) 0 l).tab (maskN l) = dropI (x.tab (maskN l)) 0 ++ [(idOf 0 1, l)] := by
      show upd _ _ _ _ = _
      rw [upd_same, upd_other (Ne.symm hne), hy1]
    rw [groups_one (T := (y.turn (idOf 0 1) (maskN (insC l c)) 0 l).tab) hm (by rw [hz1]; simp) fun k hk => ?_, hz1, List.map_append]
    · rfl
    · show upd _ _ _ _ = _
      rw [upd_other hk]
      by_cases h2 : k = maskN (insC l c)
      · subst h2; rw [upd_same, hy2]; rfl
      · rw [upd_other h2, hyo k hk h2]
  · have hlen : (x.tab (maskN l)).length = n := by rw [hxt]; simp
    rw [List.length_map]
    unfold dropI
    rw [List.length_take]
    split
    · rw [List.length_set]; omega
    · omega

theorem law_StoreMoves {W : World} {s : Sl} {l : List Comp} {c : Comp} {n : Int} (hS : SlT (fun k => k < W.heap.size) W compT s l) (hok : ∀ c ∈ l, CompOk c) (hcap : s.c ≤ maxLen) (hco : CompOk c) (hn : 0 ≤ n ∧ n ≤ 255) :
    Calls Try.prog 10 #[.slice s.a s.n s.c, .agg ⟨compC c⟩, .int .u8 n] W (fun e w' => e = .returned (.bool true) ∧ Fr None W w') := by
  refine calls_of (C_pinnacelaw11_StoreMoves s c n _ _ W ?_)
  unfold F_pinnacelaw11_StoreMoves
  have hlen := hS.len
  have hsc := hS.cap
  rw [maxLen_eq] at hcap
  have ek : IntKind.wrap .i64 (1 + IntKind.wrap .i64 (Int.tmod n 10)) = ((1 + n.toNat % 10 : Nat) : Int) := by
    have h1 : Int.tmod n 10 = n % 10 := Int.tmod_eq_emod_of_nonneg hn.1
    rw [h1, w64 (x := n % 10) (by omega), w64 (by omega)]
    omega
  rw [ek]
  generalize hkk : 1 + n.toNat % 10 = k
  have hk1 : 1 ≤ k ∧ k ≤ 10 := by omega
  refine newI fun wa Ba fa sa => spec_l11_awake fun w1 f1 => condF rfl ?_
  have fW1 := fa.then0 f1
  have hW1 := fW1.size
  have hs1 := f1.size
  refine spec_store_New (fun h => absurd (by omega) h) fun b w2 _ st2 f2 => ?_
  rw [show Int.toNat 20 = 20 from rfl] at st2
  have B1 : Blk w1 W.heap.size 55 (compC c) := Ba.fr f1 fun h => h
  have B2 := B1.fr f2 fun h => h
  have f02 := fW1.then0 f2
  have hs2 := f2.size
  refine joinI (fun z w' => Fr None w2 w' ∧ z = decide (listE l ≠ 0 ∨ checkM c ≠ 0)) ?_ ?_
  · refine condF rfl (spec_r5_ListX (hS.fr0 f02) (by omega) hok fun w3 f3 => ?_)
    refine condN (fun h => ⟨f3, by rw [decide_eq_true (Or.inl h)]⟩) fun h => ?_
    refine aggI (B2.fr f3 fun h => h) (x := c) rfl (spec_r5_Check (c := c) hco.1.1 fun w4 f4 => ⟨f3.then0 f4, ?_⟩)
    have h : listE l = 0 := by simpa using h
    by_cases h2 : checkM c = 0 <;> simp [h, h2]
  rintro z w3 ⟨f3, rfl⟩
  have f03 := f02.then0 f3
  have f13 := f2.then0 f3
  refine condD (fun _ => ⟨rfl, f03⟩) fun hbad => ?_
  have hl : listE l = 0 := Classical.byContradiction fun h => hbad (.inl h)
  have hch : checkM c = 0 := Classical.byContradiction fun h => hbad (.inr h)
  have hsm : Small l := by have := listE_small hl; show _ ≤ 1048576; omega
  have hs3 := f3.size
  have hS1 : ∀ {w' : World}, Fr None W w' → SlT (fun r => r < w1.heap.size) w' compT s l := fun f => (hS.fr0 f).mono fun r _ e => by have e : r < W.heap.size := e; omega
  refine spawnLoop (k := 20) (n := k) (W0 := w1) (by omega) (by omega) rfl hl hok (hS1 f03) (fun r e => e) f13 (Store.st st2 f3 fun r hr e => ⟨fun h => h, e, by omega⟩) fun out G w4 st4 hG o4 f4 => ?_
  have hs4 := f4.size
  have fW4 := fW1.then0 f4
  have B4 := B1.fr f4 fun h => h
  have hok4 := (Store.open_ st4).1
  have hv : Valid (maskN l) l := ⟨hl, rfl⟩
  have olen : (List.range k).map (fun (i : Nat) => idOf i 1) ≠ [] := by simp; omega
  have h0 : ((List.range k).map fun (i : Nat) => idOf i 1)[0]? = some (idOf 0 1) := by rw [List.getElem?_map, List.getElem?_range (by omega)]; rfl
  have hlen0 : 0 < ((List.range k).map fun (i : Nat) => idOf i 1).length := by simp; omega
  have id0 : IdOk (idOf 0 1) := ⟨by decide, by decide⟩
  have hat : (⟨FullS 20 k, manyT l k⟩ : StM).at (idOf 0 1) = some (maskN l, 0, (idOf 0 1, l)) := hok4.at_of (maskN_lt l) (i := 0) (e := (idOf 0 1, l)) (by show ((if maskN l = maskN l then _ else _) : List Ent)[0]? = _; rw [if_pos rfl, List.getElem?_map, List.getElem?_range (by omega)]; rfl)
  refine fldI B4 (x := c.1) rfl (spec_r5_Find (hS.fr0 fW4) hsm fun w5 f5 => ?_)
  have fW5 := fW4.then0 f5
  have B5 := B4.fr f5 fun h => h
  have o5 := o4.none f5
  have st5 := Store.st.fr0 st4 f5
  have fd : Fr None w5 w5.drew := (Fr.refl _ _).drew
  rcases findM_valid hv c.1 with ⟨hneg, hno⟩ | ⟨q, hq, _, hin⟩
  · -- it is new
    refine condF (decide_eq_false (by omega)) ?_
    obtain ⟨y, z, hadd, hrem, hzs, hze, ids, hgr, hidl⟩ := moves hk1.1 hl hch hno hok4
    have G6 : ∀ {T : Nat → Prop} {w' : World}, Fr T w5 w' → (∀ r, r < w5.heap.size → T r → G r) → SlT (fun r => w1.heap.size ≤ r ∧ ¬ G r ∧ r < w5.heap.size) w' idT out ((List.range k).map fun (i : Nat) => idOf i 1) := fun f hT => SlT.st o5.sl f fun r hr e => ⟨fun e2 => e.2 (hT r hr e2), e.1, e.2, hr⟩
    have Bk : ∀ {T : Nat → Prop} {w' : World}, Fr T w5 w' → (∀ r, r < w5.heap.size → T r → G r) → Blk w' W.heap.size 55 (compC c) := fun f hT => B5.fr f fun e => by
      have h1 := (hG _ (hT _ B5.lt e)).1
      have h2 := Ba.lt
      omega
    have Fin : ∀ {T : Nat → Prop} {w' : World}, Fr T w5 w' → (∀ r, r < w5.heap.size → T r → G r) → Fr None W w' := fun f hT => fW5.trans f (fun _ h => h.elim) fun r hr e => by
      by_cases hr5 : r < w5.heap.size
      · have := (hG _ (hT r hr5 e)).1; omega
      · have := fW5.size; omega
    have GT : ∀ r, r < w5.heap.size → G r → G r := fun r _ e => e
    refine joinI (fun z' w' => z' = false ∧ ∃ T : Nat → Prop, (∀ r, r < w5.heap.size → T r → G r) ∧ Fr T w5 w' ∧ Store b z (fun r => G r ∨ w5.heap.size ≤ r) w') ?_ ?_
    · refine (G6 fd.any GT).get (j := 0) rfl rfl hlen0 fun x hx => ?_
      rw [h0] at hx
      cases hx
      refine aggI (Bk fd.any GT) (x := c) rfl ?_
      refine spec_store_Add (Store.st.fr0 st5 fd) id0 (c := c) fun w6 st6 f6 => ?_
      rw [hadd] at st6 ⊢
      have f56 : Fr G w5 w6 := fd.any.then f6
      have hs6 := f56.size
      refine condF rfl ((G6 f56 GT).get (j := 0) rfl rfl hlen0 fun x hx => ?_)
      rw [h0] at hx
      cases hx
      refine fldI (Bk f56 GT) (x := c.1) rfl ?_
      refine spec_store_Remove st6 id0 hco.1.1 fun w7 st7 f7 => ?_
      rw [hrem] at st7 ⊢
      refine ⟨rfl, fun r => G r ∨ w5.heap.size ≤ r, fun r hr e => by rcases e with e | e; exact e; omega, ?_, ?_⟩
      · refine (f56.sub fun r e => .inl e).then (f7.sub fun r e => ?_)
        rcases e with e | e
        · exact .inl e
        · exact .inr e
      · refine Store.st.mono st7 fun r _ e => ?_
        rcases e with (e | e) | e
        · exact .inl e
        · exact .inr e
        · exact .inr (by omega)
    rintro z' w7 ⟨rfl, T, hT, f7, st7⟩
    refine condF rfl ((G6 f7 hT).get (j := 0) rfl rfl hlen0 fun x hx => ?_)
    rw [h0] at hx
    cases hx
    refine spec_store_EntM st7 id0 fun sl w8 o8 f8 => ?_
    rw [hze] at o8 ⊢
    refine newI fun w9 B9 f9 _ => stoAll B9 rfl rfl fun w10 B10 f10 s10 => ?_
    have f810 : Fr None w8 w10 := f9.newer f10 fun r e => by omega
    have f710 := f8.then0 f810
    refine spec_store_Groups (Store.st.fr0 st7 f710) fun r raws lab w11 hD f11 => ?_
    rw [hgr] at hD
    have hl1 := hD.len
    have hrn : r.n = 1 := by rw [hD.own.len, hl1]; rfl
    obtain ⟨r0, hr0⟩ : ∃ r0, raws[0]? = some r0 := ⟨_, List.getElem?_eq_getElem (by rw [hl1]; simp)⟩
    obtain ⟨a1, a2⟩ := hD.at_ 0 r0 _ hr0 rfl
    have f711 := f710.then0 f11
    have fd11 : Fr None w11 w11.drew := (Fr.refl _ _).drew
    have f712 := f711.then0 fd11
    have f512 : Fr T w5 w11.drew := f7.then f712.any
    have fin := Fin f512 hT
    have B12 := (B10.fr f11 fun h => h).fr fd11 fun h => h
    refine joinI (fun z' w' => z' = true ∧ Fr None w11.drew w') ?_ fun z' w12 ⟨hz', f12⟩ => by subst hz'; exact ⟨rfl, fin.then0 f12⟩
    refine condT rfl (aggI B12 (x := (idOf 0 1, sl)) rfl ?_)
    have os := G6 f512 hT
    refine os.get (j := 0) rfl rfl hlen0 fun x hx => ?_
    rw [h0] at hx
    cases hx
    refine spec_r10_SameEnt (id := idOf 0 1) (id2 := idOf 0 1) (s := sl) (s2 := s) (o8.sl.fr0 ((f810.then0 f11).then0 fd11)) (hS.fr0 fin) hsm fun w13 f13' => ?_
    refine condT (by simp) (condT (by rw [hrn]; rfl) ?_)
    have hgs := (hD.own.sl.fr0 fd11).fr0 f13'
    refine hgs.getF (j := 0) rfl rfl hr0 (c := .sl) (q := 1) (y := r0.2) rfl ?_
    have e1 : r0.2.n = k := by rw [a2.len]; simp; omega
    have e2 : out.n = k := by rw [o4.len]; simp
    refine condT (by rw [e1, e2]; simp) ?_
    refine hgs.getF (j := 0) rfl rfl hr0 (c := .sl) (q := 1) (y := r0.2) rfl ?_
    have ga := (a2.sl.fr0 fd11).fr0 f13'
    refine ga.get (j := k - 1) rfl (by rw [e2, w64 (by omega)]; omega) (by simp; omega) fun x hx => ?_
    have hx2 : x = idOf 0 1 := by
      have h3 : (ids ++ [idOf 0 1])[k - 1]? = some (idOf 0 1) := by rw [List.getElem?_append_right (by omega), show k - 1 - ids.length = 0 by omega]; rfl
      have hx : (ids ++ [idOf 0 1])[k - 1]? = some x := hx
      rw [h3] at hx
      exact (Option.some.inj hx).symm
    subst hx2
    refine (os.fr0 f13').get (j := 0) rfl rfl hlen0 fun x hx => ?_
    rw [h0] at hx
    cases hx
    refine condT (by simp) (spec_store_List (Store.st.fr0 st7 (f712.then0 f13')) fun rl w14 l14 f14 => ?_)
    rw [hzs, full_list (by omega)] at l14
    refine spec_r7_Same l14 (os.fr0 (f13'.then0 f14)) (by show _ ≤ 1048576; simp; omega) fun w15 f15 => ⟨by simp, (f13'.then0 f14).then0 f15⟩
  · refine condT (decide_eq_true (by omega)) ?_
    refine (o5.sl.fr0 fd).get (j := 0) rfl rfl hlen0 fun x hx => ?_
    rw [h0] at hx
    cases hx
    refine aggI (B5.fr fd fun h => h) (x := c) rfl ?_
    have hadd : (⟨FullS 20 k, manyT l k⟩ : StM).add (idOf 0 1) c = (9, ⟨FullS 20 k, manyT l k⟩) := by
      unfold StM.add
      rw [if_neg (fun h => h hch), hat]
      simp only [if_pos hin]
    refine spec_store_Add (Store.st.fr0 st5 fd) id0 (c := c) fun w6 st6 f6 => ?_
    rw [hadd]
    exact ⟨rfl, (fW5.then0 fd).newer f6 fun r e => by have := (hG r e).1; omega⟩

/-! ### the row -/
set_option maxRecDepth 100000 in
theorem storeMoves_lifted (os : Os) (started : os.Started) (H : Type) (enc : TypeId × Value → H) :
    ReturnsInHanded {} Try.checked os 10 .any (Rows.storeMovesSpec.pre6 enc Try.prog Try.f10 Rows.storeMovesRow.domain false) (Rows.storeMovesSpec.post enc Try.prog Try.f10 false true false false) := by
  refine returnsInHanded_of_change (C := Try.checked) own_knob started (by kernel_rfl) Try.func10
    (ChangeSpec.witness6 (enc := enc) (C := Try.checked) false ⟨#[], #[.slice none 0 0, .agg #[.int .u8 0, .int .i32 0, .int .i32 0, .int .i32 0], .int .u8 0], []⟩ 8 (by kernel_rfl) (by kernel_rfl) (by kernel_rfl) (by kernel_rfl)) ?_
  intro W base args ds gs before hval0 hW hcnd _
  have hval : ∀ (j : Nat) t v, Try.f10.params[j]? = some t → args[j]? = some v → Value.okWide Try.prog W .any base t v := hval0
  have hW' := hW
  obtain ⟨p, q, hA0, hV, rfl, hfz, hnd⟩ := hW
  have hA : DataW.TrodAll enc Try.prog W 0 (fun _ => true) true Try.f10.params.toList args.toList ds p := hA0
  rw [Try.params10] at hA hval
  obtain ⟨v0, v1, v2, d0, d1, d2, p0, p1, p2, rfl, rfl, rfl, h0, h1, h2⟩ := trodAll_three hA
  obtain ⟨s0, l0, rfl, S0, c0, e0⟩ := arg_slice comps_arg (hval 0 _ v0 rfl rfl) h0
  obtain ⟨x1, rfl, e1⟩ := arg_agg comp_arg (hval 1 _ v1 rfl rfl) h1
  obtain ⟨a2, rfl, w2⟩ := arg_int u8_und (hval 2 _ v2 rfl rfl) h2
  refine (law_StoreMoves S0 (fun c hc => comp_ok (e0 c hc)) c0 (comp_ok e1) (wf_u8 w2)).mono fun e W' ⟨he, hf⟩ => ?_
  subst he
  exact ⟨_, rfl, law_post laid_out bool_und (by kernel_rfl) (by rw [Try.params10]; decide +kernel) rfl ⟨rfl, rfl, rfl⟩ hW' hf⟩

theorem storeMoves_holds : Rows.StoreMovesSaid :=
  OpenClaim.holds_of_wide 10 Try.f10 rfl rfl rfl rfl rfl rfl rfl ⟨rfl, rfl, rfl, rfl, rfl⟩ rfl rfl rfl rfl rfl (by kernel_rfl) Try.func10 (by kernel_rfl)
    (of_decide_eq_true (by kernel_rfl)) (by unfold Func.isWrapper; first | (rw [if_pos (by decide +kernel)]; kernel_rfl) | (rw [if_neg (by decide +kernel)]; exact ⟨rfl, rfl⟩))
    (fun os started H enc _ => storeMoves_lifted os started H enc)

end Go.Proofs.Ytecmpmnaeciapaa
