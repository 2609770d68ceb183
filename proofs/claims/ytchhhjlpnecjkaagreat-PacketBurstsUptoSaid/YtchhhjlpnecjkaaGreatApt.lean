/-
  Two packets with one frame are one packet (plainly).
-/
import Derived.Test.YtchhhjlpnecjkaaGreatPkM
import Derived.Test.YtchhhjlpnecjkaaGreatCrc
namespace Go.Proofs.YtchhhjlpnecjkaaGreat
open Go Go.RowKit Go.Proofs.YtchhhjlpnecjkaaGreat.Den

/-! ### bytes and bits -/
theorem bitAt_bits (v : Nat) : ∀ n i, bitAt (bitsOf v n) i = (decide (i < n) && v.testBit i)
  | 0, i => by simp [bitsOf, bitAt]
  | n + 1, i => by
    rw [bitsOf, bitAt_snoc, bitsOf_len, bitAt_bits v n i]
    by_cases h : i = n
    · subst h; simp
    · rw [if_neg h]
      congr 1
      rw [decide_eq_decide]
      omega
theorem bitAt_bitsU : ∀ (l : List Int) (j i : Nat) (x : Int), l[j]? = some x → i < 8 → bitAt (bitsU l) (8 * j + i) = x.toNat.testBit i
  | [], j, i, x, h, _ => by simp at h
  | y :: r, j, i, x, h, hi => by
    have e : bitsU (y :: r) = bitsOf y.toNat 8 ++ bitsU r := rfl
    rw [e, bitAt_append, bitsOf_len]
    rcases j with _ | j
    · simp at h
      subst h
      rw [if_pos (by omega), bitAt_bits, Nat.mul_zero, Nat.zero_add]
      simp [hi]
    · rw [if_neg (by omega), show 8 * (j + 1) + i - 8 = 8 * j + i by omega]
      exact bitAt_bitsU r j i x (by simpa using h) hi
theorem byte8 : ∀ b0 b1 b2 b3 b4 b5 b6 b7 : Bool, ∀ i : Fin 8, (bitN b0 + 2 * bitN b1 + 4 * bitN b2 + 8 * bitN b3 + 16 * bitN b4 + 32 * bitN b5 + 64 * bitN b6 + 128 * bitN b7).testBit i.val = [b0, b1, b2, b3, b4, b5, b6, b7].getD i.val false := by decide +kernel
theorem byteAt_bit (L : List Bool) (j i : Nat) (hi : i < 8) : (byteAt L j).testBit i = bitAt L (8 * j + i) := by
  unfold byteAt
  rw [byte8 _ _ _ _ _ _ _ _ ⟨i, hi⟩]
  rcases (show i = 0 ∨ i = 1 ∨ i = 2 ∨ i = 3 ∨ i = 4 ∨ i = 5 ∨ i = 6 ∨ i = 7 by omega) with rfl | rfl | rfl | rfl | rfl | rfl | rfl | rfl <;> rfl
theorem list_bits {A B : List Bool} (hl : A.length = B.length) (h : ∀ k, k < A.length → bitAt A k = bitAt B k) : A = B := by
  apply List.ext_getElem hl
  intro k h1 h2
  have := h k h1
  unfold bitAt at this
  rw [List.getElem?_eq_getElem h1, List.getElem?_eq_getElem h2] at this
  simpa using this
theorem bits_pack (L : List Bool) : bitsU (packM L) = L ++ List.replicate (8 * ((L.length + 7) / 8) - L.length) false := by
  have hlen : (bitsU (packM L)).length = 8 * ((L.length + 7) / 8) := by rw [bitsU_len, packM_len]
  refine list_bits (by rw [hlen, List.length_append, List.length_replicate]; omega) fun k hk => ?_
  rw [hlen] at hk
  have hj : k / 8 < (packM L).length := by rw [packM_len]; omega
  have hx : (packM L)[k / 8]? = some (byteAt L (k / 8) : Int) := by
    unfold packM
    rw [List.getElem?_map, List.getElem?_range (by rw [packM_len] at hj; exact hj)]
    rfl
  have := bitAt_bitsU (packM L) (k / 8) (k % 8) _ hx (Nat.mod_lt _ (by decide))
  rw [show 8 * (k / 8) + k % 8 = k by omega, Int.toNat_natCast, byteAt_bit L _ _ (Nat.mod_lt _ (by decide)), show 8 * (k / 8) + k % 8 = k by omega] at this
  rw [this, bitAt_append, bitAt_false]
  split
  · rfl
  · exact bitAt_ge (by omega)

/-! ### a delta says what has become -/
theorem lost_bit (a b : List Comp) {k : Nat} (hk : k < 6) : (lostM a b).toNat.testBit k = (has a k && !has b k) := by
  have h1 := maskN_lt a
  have h2 := maskN_lt b
  have e : (lostM a b).toNat = (BitVec.ofInt 8 (maskN a : Int) &&& ~~~BitVec.ofInt 8 (maskN b : Int)).toNat := by
    unfold lostM bNot
    have := (BitVec.ofInt 8 (maskN a : Int) &&& ~~~BitVec.ofInt 8 (maskN b : Int)).isLt
    show (IntKind.wrap .u8 ((BitVec.ofInt 8 (maskN a : Int) &&& ~~~BitVec.ofInt 8 (maskN b : Int)).toNat : Int)).toNat = _
    rw [wu8 (by omega), Int.toNat_natCast]
  have e2 : ∀ m : Nat, m < 64 → (BitVec.ofInt 8 (m : Int)).getLsbD k = m.testBit k := fun m hm => by
    rw [BitVec.getLsbD, BitVec.toNat_ofInt]
    congr 1
    omega
  rw [e]
  show (BitVec.ofInt 8 (maskN a : Int) &&& ~~~BitVec.ofInt 8 (maskN b : Int)).getLsbD k = _
  rw [BitVec.getLsbD_and, BitVec.getLsbD_not, e2 _ h1, e2 _ h2, maskN_bit a hk, maskN_bit b hk]
  simp [show k < 8 by omega]
theorem has_mem {l : List Comp} {k : Nat} : has l k = true ↔ ∃ c ∈ l, c.1 = (k : Int) := by simp [has]
theorem findC_none {l : List Comp} {k : Int} (h : (findC l k).2 = false) : ∀ c ∈ l, c.1 ≠ k := by
  unfold findC at h
  split at h
  · cases h
  · rename_i hn
    rw [List.findIdx?_eq_none_iff] at hn
    intro c hc
    simpa using hn c hc
theorem findC_some {l : List Comp} {k : Int} (h : (findC l k).2 = true) : (findC l k).1 ∈ l ∧ (findC l k).1.1 = k := by
  unfold findC at h ⊢
  split at h
  · rename_i i hi
    rw [List.findIdx?_eq_some_iff_getElem] at hi
    obtain ⟨hl, he, _⟩ := hi
    simp only
    rw [List.getElem?_eq_getElem hl]
    exact ⟨List.getElem_mem hl, by simpa using he⟩
  · cases h
theorem kind_one {l : List Comp} (h : listE l = 0) {a b : Comp} (ha : a ∈ l) (hb : b ∈ l) (e : a.1 = b.1) : a = b := by
  have hr := (listE_0.1 h).2
  obtain ⟨i, hi⟩ := List.mem_iff_getElem?.1 ha
  obtain ⟨j, hj⟩ := List.mem_iff_getElem?.1 hb
  rcases Nat.lt_trichotomy i j with h1 | h1 | h1
  · have := rising_lt hr h1 hi hj; omega
  · subst h1; rw [hi] at hj; cases hj; rfl
  · have := rising_lt hr h1 hj hi; omega
theorem change_mem {a b : Ent} (ha : listE a.2 = 0) (hb : listE b.2 = 0) (c : Comp) : c ∈ b.2 ↔ (c ∈ newM a.2 b.2 ∨ c ∈ chM a.2 b.2 ∨ (c ∈ a.2 ∧ (lostM a.2 b.2).toNat.testBit c.1.toNat = false ∧ ∀ d ∈ chM a.2 b.2, d.1 ≠ c.1)) := by
  have kr : ∀ {l : List Comp}, listE l = 0 → ∀ x ∈ l, 0 ≤ x.1 ∧ x.1 < 6 := fun hl x hx => by have := checkM_kind ((listE_0.1 hl).1 x hx); omega
  constructor
  · intro hc
    by_cases hf : (findC a.2 c.1).2 = true
    · by_cases he : (findC a.2 c.1).1 = c
      · obtain ⟨h1, h2⟩ := findC_some hf
        rw [he] at h1
        refine .inr (.inr ⟨h1, ?_, fun d hd e => ?_⟩)
        · have := kr hb c hc
          rw [lost_bit _ _ (by omega)]
          have : has b.2 c.1.toNat = true := has_mem.2 ⟨c, hc, by omega⟩
          rw [this]; simp
        · obtain ⟨h3, h4⟩ := List.mem_filter.1 hd
          have hdc := kind_one hb h3 hc e
          subst hdc
          rw [he] at h4
          simp at h4
      · exact .inr (.inl (List.mem_filter.2 ⟨hc, by simp [hf, he]⟩))
    · exact .inl (List.mem_filter.2 ⟨hc, by simpa using hf⟩)
  · rintro (hc | hc | ⟨hc, hl, hs⟩)
    · exact (List.mem_filter.1 hc).1
    · exact (List.mem_filter.1 hc).1
    · have hk := kr ha c hc
      rw [lost_bit _ _ (by omega)] at hl
      have h1 : has a.2 c.1.toNat = true := has_mem.2 ⟨c, hc, by omega⟩
      rw [h1] at hl
      have h2 : has b.2 c.1.toNat = true := by simpa using hl
      obtain ⟨d, hd, e⟩ := has_mem.1 h2
      have e : d.1 = c.1 := by omega
      have hf : (findC a.2 d.1).2 = true := by
        refine Classical.byContradiction fun hn => ?_
        have hn : (findC a.2 d.1).2 = false := by simpa using hn
        exact findC_none hn c hc e.symm
      obtain ⟨g1, g2⟩ := findC_some hf
      have hx := kind_one ha g1 hc (by rw [g2, e])
      by_cases hcd : c = d
      · rw [hcd]; exact hd
      · refine absurd e (hs d (List.mem_filter.2 ⟨hd, ?_⟩))
        rw [hf, hx]
        simp [hcd]
theorem comps_ext {l k : List Comp} (hl : listE l = 0) (hk : listE k = 0) (h : ∀ c, c ∈ l ↔ c ∈ k) : l = k := by
  have hr := rising_ext (listE_0.1 hl).2 (listE_0.1 hk).2 fun x => by
    simp only [List.mem_map]
    exact ⟨fun ⟨c, hc, e⟩ => ⟨c, (h c).1 hc, e⟩, fun ⟨c, hc, e⟩ => ⟨c, (h c).2 hc, e⟩⟩
  have hlen : l.length = k.length := by have := congrArg List.length hr; simpa using this
  apply List.ext_getElem hlen
  intro i h1 h2
  have e : (l.map (·.1))[i]? = (k.map (·.1))[i]? := by rw [hr]
  rw [List.getElem?_map, List.getElem?_map, List.getElem?_eq_getElem h1, List.getElem?_eq_getElem h2] at e
  have e : l[i].1 = k[i].1 := by simpa using e
  exact kind_one hk ((h _).1 (List.getElem_mem h1)) (List.getElem_mem h2) e
theorem change_inj {a b b' : Ent} (ha : listE a.2 = 0) (hb : listE b.2 = 0) (hb' : listE b'.2 = 0) (h : (changeM a b).2 = (changeM a b').2) : b.2 = b'.2 := by
  have h1 : lostM a.2 b.2 = lostM a.2 b'.2 := congrArg (·.1) h
  have h2 : newM a.2 b.2 = newM a.2 b'.2 := congrArg (·.2.1) h
  have h3 : chM a.2 b.2 = chM a.2 b'.2 := congrArg (·.2.2) h
  refine comps_ext hb hb' fun c => ?_
  rw [change_mem ha hb, change_mem ha hb', h1, h2, h3]
theorem ids_ext : ∀ {l k : List Ent}, (l.Pairwise fun a b => a.1 < b.1) → (k.Pairwise fun a b => a.1 < b.1) → (∀ x, x ∈ l ↔ x ∈ k) → l = k
  | [], [], _, _, _ => rfl
  | [], y :: k, _, _, h => by have := (h y).2 List.mem_cons_self; cases this
  | x :: l, [], _, _, h => by have := (h x).1 List.mem_cons_self; cases this
  | x :: l, y :: k, hl, hk, h => by
    obtain ⟨l1, l2⟩ := List.pairwise_cons.1 hl
    obtain ⟨k1, k2⟩ := List.pairwise_cons.1 hk
    have hxy : x = y := by
      rcases List.mem_cons.1 ((h x).1 List.mem_cons_self) with e | e
      · exact e
      · rcases List.mem_cons.1 ((h y).2 List.mem_cons_self) with e2 | e2
        · exact e2.symm
        · have := k1 x e; have := l1 y e2; omega
    subst hxy
    rw [ids_ext l2 k2 fun z => ?_]
    constructor
    · intro hz
      rcases List.mem_cons.1 ((h z).1 (List.mem_cons_of_mem _ hz)) with e | e
      · subst e; have := l1 z hz; omega
      · exact e
    · intro hz
      rcases List.mem_cons.1 ((h z).2 (List.mem_cons_of_mem _ hz)) with e | e
      · subst e; have := k1 z hz; omega
      · exact e
theorem id_one {L : List Ent} (h : L.Pairwise fun a b => a.1 < b.1) {a b : Ent} (ha : a ∈ L) (hb : b ∈ L) (e : a.1 = b.1) : a = b := by
  obtain ⟨i, hi⟩ := List.mem_iff_getElem?.1 ha
  obtain ⟨j, hj⟩ := List.mem_iff_getElem?.1 hb
  rcases Nat.lt_trichotomy i j with h1 | h1 | h1
  · have := ids_lt h h1 hi hj; omega
  · subst h1; rw [hi] at hj; cases hj; rfl
  · have := ids_lt h h1 hj hi; omega
theorem chgOne_some {was : List Ent} (hw : was.Pairwise fun a b => a.1 < b.1) {a e : Ent} (ha : a ∈ was) (he : a.1 = e.1) : chgOne was e = if nothingM (changeM a e) = true then none else some (changeM a e) := by
  obtain ⟨i, hi⟩ := List.mem_iff_getElem?.1 ha
  unfold chgOne
  rw [← he, find_at hw hi]
theorem chgOne_id {was : List Ent} {e : Ent} {d : Chg} (h : chgOne was e = some d) : d.1 = e.1 ∧ ∃ a ∈ was, a.1 = e.1 ∧ d = changeM a e ∧ nothingM (changeM a e) = false := by
  unfold chgOne at h
  split at h
  · cases h
  · rename_i a ha
    split at h
    · cases h
    · rename_i hn
      cases h
      exact ⟨rfl, a, List.mem_of_find?_eq_some ha, by have := List.find?_some ha; simpa using this, rfl, by simpa using hn⟩
theorem nothing_eq {d : Chg} (h : nothingM d = true) : d.2 = (0, [], []) := by
  unfold nothingM at h
  obtain ⟨a, b, c⟩ := of_decide_eq_true h
  exact Prod.ext a (Prod.ext (List.length_eq_zero_iff.1 b) (List.length_eq_zero_iff.1 c))
theorem delta_sub {was x y : List Ent} (hw : FormOk was) (hx : FormOk x) (hy : FormOk y) (hg : goneM was x = goneM was y) (hc : comeM was x = comeM was y) (hd : chgsM was x = chgsM was y) : ∀ e ∈ x, e ∈ y := by
  intro e he
  by_cases hh : hasE was e.1 = true
  · obtain ⟨a, ha, hae⟩ := hasE_iff.1 hh
    have hny : hasE y a.1 = true := by
      refine Classical.byContradiction fun hn => ?_
      have hn : hasE y a.1 = false := by simpa using hn
      have : a.1 ∈ goneM was y := List.mem_map.2 ⟨a, List.mem_filter.2 ⟨ha, by rw [hn]; rfl⟩, rfl⟩
      rw [← hg] at this
      obtain ⟨a2, ha2, e2⟩ := List.mem_map.1 this
      have h3 := (List.mem_filter.1 ha2).2
      have : hasE x a2.1 = true := hasE_iff.2 ⟨e, he, by rw [e2, hae]⟩
      rw [this] at h3
      cases h3
    obtain ⟨e', he', hid⟩ := hasE_iff.1 hny
    have hee : e.1 = e'.1 := by rw [hid, hae]
    have o1 := chgOne_some hw.rise ha hae
    have o2 := chgOne_some hw.rise ha hid.symm
    have key : (changeM a e).2 = (changeM a e').2 := by
      by_cases hn : nothingM (changeM a e) = true
      · by_cases hn' : nothingM (changeM a e') = true
        · rw [nothing_eq hn, nothing_eq hn']
        · rw [if_neg hn'] at o2
          have : changeM a e' ∈ chgsM was y := List.mem_filterMap.2 ⟨e', he', o2⟩
          rw [← hd] at this
          obtain ⟨e2, h2, h3⟩ := List.mem_filterMap.1 this
          have h4 := (chgOne_id h3).1
          have : e2 = e := id_one hx.rise h2 he (by rw [← h4, hee]; rfl)
          subst this
          rw [o1, if_pos hn] at h3
          cases h3
      · rw [if_neg hn] at o1
        have : changeM a e ∈ chgsM was x := List.mem_filterMap.2 ⟨e, he, o1⟩
        rw [hd] at this
        obtain ⟨e2, h2, h3⟩ := List.mem_filterMap.1 this
        have h4 := (chgOne_id h3).1
        have : e2 = e' := id_one hy.rise h2 he' (by rw [← h4, ← hee]; rfl)
        subst this
        rw [o2] at h3
        split at h3
        · cases h3
        · injection h3 with h3
          rw [h3]
    have := change_inj (hw.list ha) (hx.list he) (hy.list he') key
    have : e = e' := Prod.ext hee this
    rw [this]
    exact he'
  · have hh : hasE was e.1 = false := by simpa using hh
    have : e ∈ comeM was x := List.mem_filter.2 ⟨he, by rw [hh]; rfl⟩
    rw [hc] at this
    exact (List.mem_filter.1 this).1
theorem delta_inj {was x y : List Ent} (hw : FormOk was) (hx : FormOk x) (hy : FormOk y) (hg : goneM was x = goneM was y) (hc : comeM was x = comeM was y) (hd : chgsM was x = chgsM was y) : x = y :=
  ids_ext hx.rise hy.rise fun e => ⟨delta_sub hw hx hy hg hc hd e, delta_sub hw hy hx hg.symm hc.symm hd.symm e⟩

end Go.Proofs.YtchhhjlpnecjkaaGreat

namespace Go.Proofs.YtchhhjlpnecjkaaGreat
open Go Go.RowKit Go.Proofs.YtchhhjlpnecjkaaGreat.Den

theorem keepM_0 {e x : Int} (h : keepM e x = 0) : e = 0 ∧ x = 0 := by
  unfold keepM at h
  split at h
  · exact ⟨by assumption, h⟩
  · exact absurd h (by assumption)
theorem masked_of {L : List Ent} (h : FormOk L) {e : Ent} (he : e ∈ L) (hm : maskN e.2 < 32) : Masked e.2 := ⟨h.list he, hm⟩
theorem sub_list {l k : List Comp} (hl : listE l = 0) (hs : ∀ c ∈ k, c ∈ l) (hr : Rising (k.map (·.1))) : listE k = 0 := listE_0.2 ⟨fun c hc => (listE_0.1 hl).1 c (hs c hc), hr⟩
theorem filter_list {l : List Comp} (hl : listE l = 0) (p : Comp → Bool) : listE (l.filter p) = 0 := by
  refine sub_list hl (fun c hc => (List.mem_filter.1 hc).1) ?_
  have := (listE_0.1 hl).2
  unfold Rising at this ⊢
  rw [List.pairwise_map] at this ⊢
  exact this.filter p

abbrev Res2 := List Ent × Delta
def resM (h : Head) (was now : List Ent) : Res2 := if h.1 = 1 then (now, ([], [], [])) else if h.1 = 2 then ([], (goneM was now, comeM was now, chgsM was now)) else ([], ([], [], []))
def resD (k : Int) (was : List Ent) (L : List Bool) : Option (Res2 × List Bool) := if k = 1 then (match entsD L with
    | none => none
    | some (l, L) => some ((l, ([], [], [])), L))
  else if k = 2 then (match deltaD was L with
    | none => none
    | some (d, L) => some (([], d), L))
  else some (([], ([], [], [])), L)
def bodyD (was : List Ent) (L : List Bool) : Option (Head × Res2) := match headD L with
  | none => none
  | some (h, L) => match resD h.1 was L with
    | none => none
    | some (r, _) => some (h, r)
/-- what a seal that goes well says of what was sealed. -/
structure SealOk (h : Head) (was now : List Ent) : Prop where
  head : headE h = 0
  one : h.1 = 1 → FormOk now
  two : h.1 = 2 → FormOk was ∧ FormOk now
  rest : h.1 ≠ 1 → h.1 ≠ 2 → now = []
theorem seal_put {h : Head} {was now : List Ent} (hok : HeadOk h) (hm1 : was.length ≤ 1048576) (hm2 : now.length ≤ 1048576) (hL1 : ∀ e ∈ was, EntFit e) (hL2 : ∀ e ∈ now, EntFit e) (he : sealE h was now = 0) :
    SealOk h was now ∧ ∀ s, bodyD was ((sealW h was now).1 ++ s) = some (h, resM h was now) := by
  have h0 : headE h = 0 := by
    unfold sealE at he
    split at he
    · exact absurd he (by assumption)
    · omega
  have hw : (sealW h was now).2 = 0 := by
    unfold sealE at he
    rw [if_neg (by omega)] at he
    split at he
    · exact absurd he (by assumption)
    · omega
  have idok : ∀ e ∈ now, IdOk e.1 := fun e he => (hL2 e he).1
  by_cases k1 : h.1 = 1
  · have eW : sealW h was now = if keepM (headM ([], 0) h).2 (formM 0 now) = 0 then entsW ((headM ([], 0) h).1, keepM (headM ([], 0) h).2 (formM 0 now)) now else ((headM ([], 0) h).1, keepM (headM ([], 0) h).2 (formM 0 now)) := by unfold sealW; rw [if_pos k1]
    rw [eW] at hw ⊢
    split at hw
    · rename_i hk
      rw [if_pos hk]
      obtain ⟨a, b⟩ := keepM_0 hk
      have fm := formOk.1 b
      obtain ⟨_, c, d⟩ := ents_bits hw
      obtain ⟨_, e⟩ := head_bits a
      refine ⟨⟨h0, fun _ => fm, fun k => absurd k (by omega), fun k => absurd k1 k⟩, fun s => ?_⟩
      rw [c, e]
      unfold bodyD
      simp only [List.nil_append, List.append_assoc]
      rw [headD_put hok h0]
      simp only
      unfold resD resM
      rw [if_pos k1, if_pos k1, entsD_put (by omega) fun e he => ⟨idok e he, masked_of fm he (d e he).1⟩]
    · exact absurd hw (by assumption)
  · by_cases k2 : h.1 = 2
    · have eW : sealW h was now = if diffE was now = 0 then deltaW was ((headM ([], 0) h).1, keepM (headM ([], 0) h).2 (diffE was now)) (goneM was now) (comeM was now) (chgsM was now) else ((headM ([], 0) h).1, keepM (headM ([], 0) h).2 (diffE was now)) := by unfold sealW; rw [if_neg k1, if_pos k2]
      rw [eW] at hw ⊢
      split at hw
      · rename_i hd
        rw [if_pos hd]
        have fw : FormOk was := formOk.1 (by
          unfold diffE at hd
          refine Classical.byContradiction fun hc => ?_
          rw [if_pos hc] at hd
          exact hc hd)
        have fn : FormOk now := formOk.1 (by
          unfold diffE at hd
          rw [if_neg (by rw [formOk.2 fw]; simp)] at hd
          exact hd)
        unfold deltaW at hw ⊢
        obtain ⟨a, b, c⟩ := chgs_bits hw
        obtain ⟨d, e, f⟩ := ents_bits a
        obtain ⟨g, i⟩ := gone_bits d
        obtain ⟨j, _⟩ := keepM_0 g
        obtain ⟨_, k⟩ := head_bits j
        refine ⟨⟨h0, fun k => absurd k k1, fun _ => ⟨fw, fn⟩, fun _ k => absurd k2 k⟩, fun s => ?_⟩
        rw [b, e, i, k]
        unfold bodyD
        simp only [List.nil_append, List.append_assoc]
        rw [headD_put hok h0]
        simp only
        unfold resD resM
        rw [if_neg k1, if_pos k2, if_neg k1, if_pos k2]
        have hg := goneM_fit (now := now) hL1 hm1
        have hc := comeM_fit (was := was) hL2 hm2
        have hh := chgsM_fit (was := was) hL2 hm2
        have := deltaD_put (was := was) (gone := goneM was now) (come := comeM was now) (chg := chgsM was now) ⟨by omega, hg.2⟩ ⟨by omega, fun e he => ⟨idok e (List.mem_filter.1 he).1, masked_of fn (List.mem_filter.1 he).1 (f e he).1⟩⟩ ⟨by omega, fun d hd => ?_⟩ s
        · unfold deltaB at this
          simp only [List.append_assoc] at this
          rw [this]
        · obtain ⟨c1, c2, c3, c4, c5⟩ := c d hd
          obtain ⟨e, he, hx⟩ := List.mem_filterMap.1 hd
          obtain ⟨_, a, ha, _, rfl, _⟩ := chgOne_id hx
          exact ⟨idok e he, ⟨(lostM_range _ _).1, c1⟩, ⟨filter_list (fn.list he) _, c2⟩, ⟨filter_list (fn.list he) _, c3⟩, c5⟩
      · exact absurd (keepM_0 hw).2 (by assumption)
    · have eW : sealW h was now = if 0 < now.length then ((headM ([], 0) h).1, keepM (headM ([], 0) h).2 4) else headM ([], 0) h := by unfold sealW; rw [if_neg k1, if_neg k2]
      rw [eW] at hw ⊢
      split at hw
      · exact absurd (keepM_0 hw).2 (by decide)
      · rename_i hl
        rw [if_neg hl]
        have hn : now = [] := List.length_eq_zero_iff.1 (by omega)
        obtain ⟨_, b⟩ := head_bits hw
        refine ⟨⟨h0, fun k => absurd k k1, fun k => absurd k k2, fun _ _ => hn⟩, fun s => ?_⟩
        rw [b]
        unfold bodyD
        rw [List.nil_append, headD_put hok h0]
        simp only
        unfold resD resM
        rw [if_neg k1, if_neg k2, if_neg k1, if_neg k2]
theorem sealF_inj {l k : List Int} (h : sealF l = sealF k) : l = k := by
  have h1 := congrArg List.length h
  rw [sealF_len, sealF_len] at h1
  unfold sealF at h
  exact (List.append_inj h (by omega)).1
theorem seal_inj {a b : Head} {was x y : List Ent} (ha : HeadOk a) (hb : HeadOk b) (hm : was.length ≤ 1048576) (hx : x.length ≤ 1048576) (hy : y.length ≤ 1048576) (hL : ∀ e ∈ was, EntFit e) (hLx : ∀ e ∈ x, EntFit e) (hLy : ∀ e ∈ y, EntFit e) (h1 : sealE a was x = 0) (h2 : sealE b was y = 0) (h : sealB a was x = sealB b was y) : a = b ∧ x = y := by
  obtain ⟨o1, p1⟩ := seal_put ha hm hx hL hLx h1
  obtain ⟨o2, p2⟩ := seal_put hb hm hy hL hLy h2
  have hp := congrArg bitsU (sealF_inj h)
  rw [bits_pack, bits_pack] at hp
  have hq := p1 (List.replicate (8 * (((sealW a was x).1.length + 7) / 8) - (sealW a was x).1.length) false)
  rw [hp, p2] at hq
  injection hq with hq
  injection hq with e1 e2
  subst e1
  refine ⟨rfl, ?_⟩
  by_cases k1 : b.1 = 1
  · unfold resM at e2
    rw [if_pos k1, if_pos k1] at e2
    injection e2 with e2
    exact e2.symm
  · by_cases k2 : b.1 = 2
    · unfold resM at e2
      rw [if_neg k1, if_pos k2, if_neg k1, if_pos k2] at e2
      injection e2 with _ e2
      injection e2 with e3 e4
      injection e4 with e4 e5
      obtain ⟨fw, fx⟩ := o1.two k2
      obtain ⟨_, fy⟩ := o2.two k2
      exact delta_inj fw fx fy e3.symm e4.symm e5.symm
    · rw [o1.rest k1 k2, o2.rest k1 k2]

end Go.Proofs.YtchhhjlpnecjkaaGreat
