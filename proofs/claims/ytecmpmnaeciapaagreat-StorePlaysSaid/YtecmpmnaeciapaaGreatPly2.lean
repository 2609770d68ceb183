/-
  StorePlays, second part: a store is alike to the document's.
-/
import Derived.Test.YtecmpmnaeciapaaGreatPly
import Derived.Test.YtecmpmnaeciapaaGreatFlip
namespace Go.Proofs.YtecmpmnaeciapaaGreat
open Go Go.RowKit Go.Proofs.YtecmpmnaeciapaaGreat.Den
variable {R : Type} {Q : R → World → Prop} {w : World}

theorem StOk.ent_live2 {x : StM} (h : StOk x) {id : Int} (hl : x.s.live id = true) : (x.ent id).1.1 = id ∧ (x.ent id).2 = 0 ∧ (x.ent id).1.2.length ≤ 6 := by
  have := h.at_live id
  rw [hl] at this
  obtain ⟨⟨m, i, e⟩, ha⟩ := Option.isSome_iff_exists.1 this
  obtain ⟨_, _, _, _, h3, hv, _⟩ := h.at_some ha
  rw [StM.ent_some ha]
  exact ⟨h3, rfl, hv.small⟩
theorem ArrO.sl {m : Nat} {s : Sl} {L : List Ent} {F : Nat → Prop} (A : ArrO m s L F w) : ∃ raws, SlT F w entT s raws ∧ (raws.length = L.length) ∧ ∀ (i : Nat) (r : Int × Sl), raws[i]? = some r → ∃ e, L[i]? = some e ∧ r.1 = e.1 := by
  obtain ⟨_, raws, lab, h1, h2, h3⟩ := A
  refine ⟨raws, h2.sl.mono fun k _ e => (h1 k (by omega)).1, h3.len, fun i r hr => ?_⟩
  have hl := h3.len
  have hil := (List.getElem?_eq_some_iff.1 hr).1
  obtain ⟨e, he⟩ : ∃ e, L[i]? = some e := ⟨_, List.getElem?_eq_getElem (by omega)⟩
  obtain ⟨r', hr', h4, _⟩ := h3.get he
  rw [hr] at hr'
  cases hr'
  exact ⟨e, he, h4⟩

theorem spec_l11_alike0 {K : Res [.sc .bool] → W R} (hk : K true Q w) : callW Tryz.prog k_pinnacelaw11_alike [.pointer none, .pointer none] [.sc .bool] K Q w := by
  refine C_pinnacelaw11_alike _ _ K Q w ?_
  unfold F_pinnacelaw11_alike
  refine condT rfl (joinK (spec_store_Len0 (condT rfl (spec_store_Room0 (condT rfl (spec_store_List0 (condT rfl (spec_store_Groups0 hk))))))))

theorem spec_l11_alike {F F2 : Nat → Prop} {b b2 : Nat} {x : StM} (h : Store b x F w) (h2 : R11 b2 x F2 w) {K : Res [.sc .bool] → W R} (hk : ∀ w', Fr None w w' → K true Q w') :
    callW Tryz.prog k_pinnacelaw11_alike [.pointer (some ⟨b, 0, none⟩), .pointer (some ⟨b2, 0, none⟩)] [.sc .bool] K Q w := by
  refine C_pinnacelaw11_alike _ _ K Q w ?_
  unfold F_pinnacelaw11_alike
  have hok := (Store.open_ h).1
  have hst2 := h2.shut
  obtain ⟨_, lab, bs, cs, hF, hR⟩ := h2.shut
  refine condF rfl (ptrI (fldI hR.blk (i := 0) (x := some ⟨bs, 0, none⟩) hR.c0 ?_))
  refine s7_ListR hR.slots fun ri w1 o1 f1 => ?_
  have hlist := hok.s.list_le
  have hcl : x.s.list.length = x.s.count := SM.list_len hok.s.len
  have hri := o1.len
  have hs1 := f1.size
  refine joinI (fun z w' => z = false ∧ Fr None w1 w') ?_ fun z w2 ⟨hz, f2⟩ => ?_
  · refine spec_store_List (Store.st.fr0 h f1) fun rl w2 l2 f2 => ?_
    refine spec_r7_Same l2 (o1.sl.fr0 f2) (by show _ ≤ 1048576; omega) fun w3 f3 => ?_
    have f23 := f2.then0 f3
    refine condF (by simp) (spec_store_Len (Store.st.fr0 h (f1.then0 f23)) (condF ?_ ?_))
    · rw [hri, hcl]; simp
    · exact spec_store_Room (Store.st.fr0 h (f1.then0 f23)) fun w4 f4 => ⟨by simp, f23.then0 f4⟩
  subst hz
  have f02 := f1.then0 f2
  refine condF rfl (spec_r11_List (R11.st.fr0 hst2 f02) fun re raws w3 o3 hE f3 => ?_)
  have hel : (entsM x).length = x.s.list.length := by unfold entsM; rw [List.length_map]
  have hrl := hE.len
  have hrn : re.n = x.s.list.length := by rw [o3.len, hrl, hel]
  have f13 := f2.then0 f3
  have f03 := f02.then0 f3
  have hs3 := f03.size
  refine forI (N := re.n) (fun s : Int => s) (fun j i w' => i = (j : Int) ∧ Fr None w3 w') ⟨rfl, Fr.refl _ _⟩ (fun j s w' h => h.1) ?_ ?_
  · rintro j i w4 K' hj ⟨rfl, f4⟩ - hK
    obtain ⟨id, hid⟩ : ∃ id, x.s.list[j]? = some id := ⟨_, List.getElem?_eq_getElem (by omega)⟩
    obtain ⟨hlive, hidok⟩ := hok.s.list_id (List.mem_of_getElem? hid)
    obtain ⟨e1, e2, e3⟩ := hok.ent_live2 hlive
    have hent : (entsM x)[j]? = some (x.ent id).1 := by unfold entsM; rw [List.getElem?_map, hid]; rfl
    obtain ⟨r0, hr0, ha1, ha2⟩ := hE.get hent
    rw [e1] at ha1
    refine (o3.sl.fr0 f4).get rfl rfl (by omega) fun y hy => ?_
    rw [hr0] at hy
    cases hy
    refine newI fun w5 B5 f5 s5 => stoAll B5 rfl rfl fun w6 B6 f6 s6 => ?_
    have f46 : Fr None w4 w6 := f5.newer f6 fun k e => by omega
    have f36 := f4.then0 f46
    refine (o1.sl.fr0 (f13.then0 f36)).get rfl rfl (by omega) fun y hy => ?_
    rw [hid] at hy
    cases hy
    refine spec_store_EntM (Store.st.fr0 h (f03.then0 f36)) hidok fun sl w7 o7 f7 => ?_
    have hs7 := f7.size
    refine newI fun w8 B8 f8 s8 => stoAll B8 rfl rfl fun w9 B9 f9 s9 => ?_
    have f79 : Fr None w7 w9 := f8.newer f9 fun k e => by omega
    have f69 := f7.then0 f79
    have o9 := o7.none f79
    have B69 := B6.fr f69 fun h => h
    have f39 := f36.then0 f69
    refine joinI (fun z w' => z = false ∧ Fr None w9 w') ?_ fun z w10 ⟨hz, f10⟩ => ?_
    · refine condF (by rw [e2]; rfl) (aggI B9 (x := ((x.ent id).1.1, sl)) rfl (aggI B69 (x := r0) rfl ?_))
      rw [e1]
      refine spec_r10_SameEnt (id := id) (id2 := r0.1) (s := sl) (s2 := r0.2) o9.sl (((ha2.fr0 f4).fr0 f46).fr0 f69) (by show _ ≤ 1048576; omega) fun w10 f10 => ?_
      refine condF (by rw [ha1]; simp) ?_
      refine (o1.sl.fr0 (f13.then0 (f39.then0 f10))).get rfl rfl (by omega) fun y hy => ?_
      rw [hid] at hy
      cases hy
      refine spec_store_Live (Store.st.fr0 h (f03.then0 (f39.then0 f10))) hidok fun w11 f11 => ⟨?_, f10.then0 f11⟩
      rw [hlive]; rfl
    · subst hz
      refine condF rfl (fldI (B9.fr f10 fun h => h) (i := 1) (x := sl) rfl ?_)
      have o10 := o9.none f10
      have hsl := o10.len
      have B10 := B9.fr f10 fun h => h
      refine forI (N := sl.n) (fun s : Int => s) (fun q i w' => i = (q : Int) ∧ ∃ l', l'.length = (x.ent id).1.2.length ∧ Own (Up w6.heap.size) w' 60 compT sl l' ∧ Fr (fun k => sl.v.ownBlock = some k) w10 w') ⟨rfl, _, rfl, o10, Fr.refl _ _⟩ (fun j s w' h => h.1) ?_ ?_
      · rintro q i w11 K2 hq ⟨rfl, l', hl', o11, f11⟩ - hK2
        have fd : Fr None w11 w11.drew := (Fr.refl _ _).drew
        have hno : ¬ (sl.v.ownBlock = some w7.heap.size) := fun e => by
          have h1 := o7.lt e
          omega
        refine fldI ((B10.fr f11 hno).fr fd fun h => h) (i := 1) (x := sl) rfl ?_
        refine flipS (o11.none fd) rfl (by omega) fun w12 l2 hl2 o12 f12 => ?_
        exact hK2 _ _ ⟨wsucc hq (by omega), l2, by omega, o12, (f11.then fd.any).then f12⟩
      · rintro i w11 ⟨-, l', _, _, f11⟩
        have hs6 := f36.size
        exact hK _ _ ⟨wsucc hj (by omega), (f39.then0 f10).newer f11 fun k e => by have h1 : w6.heap.size ≤ k := o10.own k e; omega⟩
  rintro i w4 ⟨-, f4⟩
  have f04 := f03.then0 f4
  refine spec_store_Groups (Store.st.fr0 h f04) fun rg rawsG labG w5 hD f5 => ?_
  have f05 := f04.then0 f5
  have hGl := hD.len
  have hgn := hD.own.len
  have hgm := grpL_len x.tab ((List.range 64).map fun (n : Nat) => (n : Int))
  have hgm : (groupsM x.tab).length ≤ 64 := by rw [List.length_map, List.length_range] at hgm; exact hgm
  refine forI (N := rg.n) (fun s : Int × Int => s.2) (fun j st w' => st.2 = (j : Int) ∧ Fr None w5 w' ∧ ∃ n : Nat, st.1 = (n : Int) ∧ n ≤ 64 ∧ (groupsM x.tab).drop j = grpF x.tab n) ⟨rfl, Fr.refl _ _, 0, rfl, by omega, by rw [grpF_0]; rfl⟩ (fun j s w' h => h.1) ?_ ?_
  · rintro j ⟨_, _⟩ w6 K' hj ⟨rfl, f6, n, rfl, hn64, hdrop⟩ - hK
    obtain ⟨g, hg⟩ : ∃ g, (groupsM x.tab)[j]? = some g := ⟨_, List.getElem?_eq_getElem (by omega)⟩
    have hgl := (List.getElem?_eq_some_iff.1 hg)
    obtain ⟨hjl, hge⟩ := hgl
    rw [List.drop_eq_getElem_cons hjl, hge] at hdrop
    obtain ⟨r0, hr0⟩ : ∃ r0, rawsG[j]? = some r0 := ⟨_, List.getElem?_eq_getElem (by omega)⟩
    obtain ⟨a1, a2⟩ := hD.at_ j r0 g hr0 hg
    have f06 := f05.then0 f6
    refine (hD.own.sl.fr0 f6).get rfl rfl (by omega) fun y hy => ?_
    rw [hr0] at hy
    cases hy
    refine newI fun w7 B7 f7 s7 => stoAll B7 rfl rfl fun w8 B8 f8 s8 => ?_
    have f68 : Fr None w6 w8 := f7.newer f8 fun k e => by omega
    have f58 := f6.then0 f68
    refine loopI (fun s w' => Fr None w8 w' ∧ ∃ m : Nat, s = (m : Int) ∧ m ≤ 64 ∧ g :: (groupsM x.tab).drop (j + 1) = grpF x.tab m) (fun s _ => (64 - s).toNat) ⟨Fr.refl _ _, n, rfl, hn64, hdrop⟩ ?_
    rintro s w9 ⟨f9, m, rfl, hm64, hgr⟩
    have f89 := f9
    have R9 := hR.fr0 (f05.then0 (f58.then0 f9))
    refine joinI (fun z w' => z = decide (m < 64 ∧ x.tab m = []) ∧ w' = w9) ?_ ?_
    · refine condD (fun hlt => ?_) fun hge => ⟨by rw [decide_eq_false (by omega)], rfl⟩
      have hlt : m < 64 := by omega
      obtain ⟨t1, sl, t2, t3⟩ := R9.tab m hlt
      obtain ⟨raws, hsl, hrw, _⟩ := t3.sl
      have hn := hsl.len
      refine ptrI (pt64 rfl hlt (fldA R9.blk (i := 1) (x := sl) t2 ⟨?_, rfl⟩))
      by_cases he : x.tab m = []
      · rw [he] at hrw
        simp [he, hlt, hn, hrw]
      · have : (x.tab m).length ≠ 0 := fun e => he (List.eq_nil_of_length_eq_zero e)
        rw [decide_eq_false (fun h => he h.2)]
        simp; omega
    rintro z w10 ⟨rfl, rfl⟩
    refine condD (fun ⟨hlt, hT⟩ => ?_) fun hnot => ?_
    · refine ⟨⟨f9, m + 1, wsucc (N := 64) hlt (by omega), by omega, by rw [hgr, grpF_none hlt hT]⟩, ?_⟩
      have : IntKind.wrap .i64 ((m : Int) + 1) = ((m + 1 : Nat) : Int) := wsucc (N := 64) hlt (by omega)
      rw [this]
      omega
    have hlt : m < 64 := by
      rcases Nat.lt_or_ge m 64 with h1 | h1
      · exact h1
      · have : m = 64 := by omega
        subst this
        rw [grpF_end] at hgr
        cases hgr
    have hT : x.tab m ≠ [] := fun e => hnot ⟨hlt, e⟩
    rw [grpF_some hlt hT] at hgr
    obtain ⟨hg1, hg2⟩ := List.cons.inj hgr
    subst hg1
    have a1 : r0.1 = (m : Int) := a1
    have a2' : Own _ w5 37 idT r0.2 ((x.tab m).map (·.1)) := a2
    have h2n := a2'.len
    rw [List.length_map] at h2n
    obtain ⟨t1, sl, t2, t3⟩ := R9.tab m hlt
    obtain ⟨raws, hsl, hrw, hrr⟩ := t3.sl
    have hsn := hsl.len
    have htl := hok.tab_le hlt
    have fd : Fr None w10 w10.drew := (Fr.refl _ _).drew
    have B10 := B8.fr f9 fun h => h
    refine joinI (fun z w' => z = false ∧ Fr None w10 w') ?_ ?_
    · refine condF (by simp; omega) (fldI (B10.fr fd fun h => h) (i := 0) (x := r0.1) rfl (condF ?_ (fldI (B10.fr fd fun h => h) (i := 1) (x := r0.2) rfl ?_)))
      · rw [a1, w64 (by omega)]; simp
      · exact ptrI (pt64 rfl hlt (fldA (R9.fr0 fd).blk (i := 1) (x := sl) t2 ⟨by simp; omega, fd⟩))
    rintro z w11 ⟨rfl, f11⟩
    refine condF rfl (ptrI (pt64 rfl hlt (fldA (R9.fr0 f11).blk (i := 1) (x := sl) t2 ?_)))
    have hsl11 := hsl.fr0 f11
    have f511 := f58.then0 (f9.then0 f11)
    refine rangeC (t := entT) (l := raws) (ok := fun k => lab k = 3 + m) (fun s : Int => s) (fun q i w' => i = (q : Int) ∧ Fr None w11 w') rfl rfl rfl ⟨rfl, Fr.refl _ _⟩ (fun j s w' h => h.1) (fun j st w' hp => hsl11.fr0 hp.2) ?_ ?_
    · rintro q y i w12 w13 K2 hy ⟨rfl, f12⟩ - B13 f13 s13 hK2
      have hql := (List.getElem?_eq_some_iff.1 hy).1
      obtain ⟨e, he, hye⟩ := hrr q y hy
      have fd13 : Fr None w13 w13.drew := (Fr.refl _ _).drew
      have f1013 := (f11.then0 (f12.then0 f13)).then0 fd13
      refine fldI (B10.fr f1013 fun h => h) (i := 1) (x := r0.2) rfl ?_
      refine (a2'.sl.fr0 (f58.then0 (f9.then0 f1013))).get rfl rfl (by rw [List.length_map]; omega) fun z hz => ?_
      rw [List.getElem?_map, he] at hz
      cases hz
      refine fldI (B13.fr fd13 fun h => h) (i := 0) (x := y.1) rfl ?_
      refine condF (by rw [hye]; simp) (hK2 _ _ ⟨wsucc hql (by omega), (f12.then0 f13).then0 fd13⟩)
    · rintro i w12 ⟨-, f12⟩
      exact hK _ _ ⟨wsucc hj (by omega), f6.then0 (f68.then0 (f9.then0 (f11.then0 f12))), m + 1, wsucc (N := 64) hlt (by omega), by omega, hg2⟩
  rintro ⟨_, _⟩ w6 ⟨-, f6, n, rfl, hn64, hdrop⟩
  have hend : grpF x.tab n = [] := by rw [← hdrop]; exact List.drop_eq_nil_of_le (by omega)
  refine loopI (fun s w' => w' = w6 ∧ ∃ m : Nat, s = (m : Int) ∧ m ≤ 64 ∧ grpF x.tab m = []) (fun s _ => (64 - s).toNat) ⟨rfl, n, rfl, hn64, hend⟩ ?_
  rintro s w7 ⟨rfl, m, rfl, hm64, hgr⟩
  refine condD (fun hlt => ?_) fun hge => hk _ (f05.then0 f6)
  have hlt : m < 64 := by omega
  have hT : x.tab m = [] := by
    by_cases h : x.tab m = []
    · exact h
    · rw [grpF_some hlt h] at hgr; cases hgr
  have R7 := hR.fr0 (f05.then0 f6)
  obtain ⟨t1, sl, t2, t3⟩ := R7.tab m hlt
  obtain ⟨raws, hsl, hrw, _⟩ := t3.sl
  have hn := hsl.len
  rw [hT] at hrw
  have hn0 : sl.n = 0 := by rw [hn, hrw]; rfl
  refine ptrI (pt64 rfl hlt (fldA R7.blk (i := 1) (x := sl) t2 (condF (by rw [hn0]; rfl) ⟨⟨rfl, m + 1, wsucc (N := 64) hlt (by omega), by omega, by rw [← grpF_none hlt hT]; exact hgr⟩, ?_⟩)))
  have : IntKind.wrap .i64 ((m : Int) + 1) = ((m + 1 : Nat) : Int) := wsucc (N := 64) hlt (by omega)
  rw [this]
  omega

end Go.Proofs.YtecmpmnaeciapaaGreat
