/-
  Plain law: lists of components by rising kinds, and what a table keeps of them.
-/
import Derived.Test.YtchhhjlpnecjkaaGreatComp
namespace Go.Proofs.YtchhhjlpnecjkaaGreat
open Go Go.RowKit Go.Proofs.YtchhhjlpnecjkaaGreat.Den

abbrev Ent := Int × List Comp
def kindsOf (m : Nat) : List Int := ((List.range 6).filter (Nat.testBit m)).map fun (k : Nat) => (k : Int)
abbrev F3 := Int × Int × Int
def fieldsOf (l : List Comp) (k : Int) : F3 := match l.find? (fun c => c.1 == k) with
  | some c => c.2
  | none => (0, 0, 0)
structure Valid (m : Nat) (l : List Comp) : Prop where
  list : listE l = 0
  mask : maskN l = m

abbrev Rising (l : List Int) : Prop := l.Pairwise (· < ·)
theorem rising_ext : ∀ {l k : List Int}, Rising l → Rising k → (∀ x, x ∈ l ↔ x ∈ k) → l = k
  | [], [], _, _, _ => rfl
  | [], y :: k, _, _, h => by have := (h y).2 List.mem_cons_self; simp at this
  | x :: l, [], _, _, h => by have := (h x).1 List.mem_cons_self; simp at this
  | x :: l, y :: k, hl, hk, h => by
    rw [Rising, List.pairwise_cons] at hl hk
    have hxy : x = y := by
      rcases List.mem_cons.1 ((h x).1 List.mem_cons_self) with e | e
      · exact e
      · rcases List.mem_cons.1 ((h y).2 List.mem_cons_self) with e2 | e2
        · exact e2.symm
        · have h1 := hk.1 x e
          have h2 := hl.1 y e2
          omega
    subst hxy
    congr 1
    refine rising_ext hl.2 hk.2 fun z => ⟨fun hz => ?_, fun hz => ?_⟩
    · rcases List.mem_cons.1 ((h z).1 (List.mem_cons_of_mem _ hz)) with e | e
      · have := hl.1 z hz; omega
      · exact e
    · rcases List.mem_cons.1 ((h z).2 (List.mem_cons_of_mem _ hz)) with e | e
      · have := hk.1 z hz; omega
      · exact e

theorem listM_0 : ∀ {l : List Comp} {last : Int}, listM last l = 0 ↔ (∀ c ∈ l, checkM c = 0 ∧ last < c.1) ∧ Rising (l.map (·.1))
  | [], _ => by simp [listM]
  | c :: r, last => by
    rw [listM]
    by_cases h1 : checkM c = 0
    · rw [if_neg (by simpa using h1)]
      by_cases h2 : c.1 ≤ last
      · rw [if_pos h2]
        simp
        intro h3
        omega
      · rw [if_neg h2, listM_0, List.map_cons, Rising, Rising, List.pairwise_cons]
        constructor
        · rintro ⟨h3, h4⟩
          refine ⟨fun x hx => ?_, fun y hy => ?_, h4⟩
          · rcases List.mem_cons.1 hx with rfl | hx
            · exact ⟨h1, by omega⟩
            · have := h3 x hx; exact ⟨this.1, by omega⟩
          · obtain ⟨x, hx, rfl⟩ := List.mem_map.1 hy
            exact (h3 x hx).2
        · rintro ⟨h3, h4, h5⟩
          exact ⟨fun x hx => ⟨(h3 x (List.mem_cons_of_mem _ hx)).1, h4 _ (List.mem_map_of_mem hx)⟩, h5⟩
    · rw [if_pos (by simpa using h1)]
      constructor
      · intro h; exact absurd h h1
      · rintro ⟨h3, _⟩; exact absurd (h3 c List.mem_cons_self).1 h1

theorem listE_0 {l : List Comp} : listE l = 0 ↔ (∀ c ∈ l, checkM c = 0) ∧ Rising (l.map (·.1)) := by
  unfold listE
  rw [listM_0]
  constructor
  · rintro ⟨h1, h2⟩; exact ⟨fun c hc => (h1 c hc).1, h2⟩
  · rintro ⟨h1, h2⟩; exact ⟨fun c hc => ⟨h1 c hc, by have := checkM_kind (h1 c hc); omega⟩, h2⟩

theorem has_iff {l : List Comp} {k : Nat} : has l k = true ↔ (k : Int) ∈ l.map (·.1) := by
  simp [has]
theorem kindsOf_mem {m : Nat} {x : Int} : x ∈ kindsOf m ↔ ∃ k : Nat, k < 6 ∧ Nat.testBit m k = true ∧ x = (k : Int) := by
  simp only [kindsOf, List.mem_map, List.mem_filter, List.mem_range]
  constructor
  · rintro ⟨k, ⟨h1, h2⟩, rfl⟩; exact ⟨k, h1, h2, rfl⟩
  · rintro ⟨k, h1, h2, rfl⟩; exact ⟨k, ⟨h1, h2⟩, rfl⟩
theorem kindsOf_rising (m : Nat) : Rising (kindsOf m) := by
  unfold kindsOf Rising
  rw [List.pairwise_map]
  refine (List.Pairwise.filter _ List.pairwise_lt_range).imp fun h => ?_
  exact Int.ofNat_lt.2 h
theorem kindsOf_range {m : Nat} {x : Int} (h : x ∈ kindsOf m) : 0 ≤ x ∧ x < 6 := by
  obtain ⟨k, hk, _, rfl⟩ := kindsOf_mem.1 h
  omega

theorem Valid.kinds {m : Nat} {l : List Comp} (h : Valid m l) : l.map (·.1) = kindsOf m := by
  obtain ⟨h1, h2⟩ := listE_0.1 h.list
  refine rising_ext h2 (kindsOf_rising m) fun x => ?_
  rw [kindsOf_mem]
  constructor
  · intro hx
    obtain ⟨c, hc, rfl⟩ := List.mem_map.1 hx
    have hk := checkM_kind (h1 c hc)
    refine ⟨c.1.toNat, by omega, ?_, by omega⟩
    rw [← h.mask, maskN_bit l (by omega), has_iff, show ((c.1.toNat : Nat) : Int) = c.1 by omega]
    exact List.mem_map_of_mem hc
  · rintro ⟨k, hk, hb, rfl⟩
    rw [← h.mask, maskN_bit l hk, has_iff] at hb
    exact hb

theorem fieldsOf_mem {l : List Comp} (hr : Rising (l.map (·.1))) {c : Comp} (hc : c ∈ l) : fieldsOf l c.1 = c.2 := by
  unfold fieldsOf
  have : l.find? (fun x => x.1 == c.1) = some c := by
    induction l with
    | nil => simp at hc
    | cons x r ih =>
      rw [List.map_cons, Rising, List.pairwise_cons] at hr
      rcases List.mem_cons.1 hc with h | h
      · subst h; simp
      · have := hr.1 c.1 (List.mem_map_of_mem h)
        rw [List.find?_cons_of_neg (by simp; omega)]
        exact ih hr.2 h
  rw [this]

theorem Valid.rising {m : Nat} {l : List Comp} (h : Valid m l) : Rising (l.map (·.1)) := (listE_0.1 h.list).2
/-- a right list is its kinds with their fields. -/
theorem Valid.eq {m : Nat} {l : List Comp} (h : Valid m l) : l = (kindsOf m).map fun k => (k, fieldsOf l k) := by
  have e1 : (kindsOf m).map (fun k => (k, fieldsOf l k)) = l.map fun c => (c.1, fieldsOf l c.1) := by
    rw [← h.kinds, List.map_map]; rfl
  rw [e1]
  have : l.map (fun c => (c.1, fieldsOf l c.1)) = l.map id := List.map_congr_left fun c hc => by rw [fieldsOf_mem h.rising hc]; rfl
  rw [this, List.map_id]

theorem Valid.mk' {m : Nat} (hm : m < 64) {g : Int → F3} (hc : ∀ k ∈ kindsOf m, checkM (k, g k) = 0) : Valid m ((kindsOf m).map fun k => (k, g k)) := by
  have e : ((kindsOf m).map fun k => ((k, g k) : Comp)).map (·.1) = kindsOf m := by rw [List.map_map]; exact List.map_id _
  constructor
  · rw [listE_0, e]
    refine ⟨fun c hc' => ?_, kindsOf_rising m⟩
    obtain ⟨k, hk, rfl⟩ := List.mem_map.1 hc'
    exact hc k hk
  · refine mask_ext (maskN_lt _) hm fun k hk => ?_
    rw [maskN_bit _ hk, Bool.eq_iff_iff, has_iff, e, kindsOf_mem]
    constructor
    · rintro ⟨q, _, hb, he⟩
      have : q = k := by omega
      subst this; exact hb
    · intro hb; exact ⟨k, hk, hb, rfl⟩

theorem Valid.small {m : Nat} {l : List Comp} (h : Valid m l) : l.length ≤ 6 := by
  have : (l.map (·.1)).length = l.length := List.length_map _
  rw [← this, h.kinds, kindsOf, List.length_map]
  exact List.length_filter_le _ (List.range 6)

/-- one of its kind is put anew. -/
theorem withG_done {c : Comp} : ∀ {l : List Comp}, (∀ x ∈ l, x.1 ≠ c.1) → withG c true l = l
  | [], _ => rfl
  | x :: r, h => by
    rw [withG, Bool.true_or, withG_done fun y hy => h y (List.mem_cons_of_mem _ hy)]
    simp [h x List.mem_cons_self]
theorem withM_put {c : Comp} : ∀ {l : List Comp}, Rising (l.map (·.1)) → c.1 ∈ l.map (·.1) → withM l c = l.map fun x => if x.1 = c.1 then c else x
  | [], _, h => by simp at h
  | x :: r, hr, hm => by
    rw [List.map_cons, Rising, List.pairwise_cons] at hr
    rw [withM, withG]
    by_cases h : x.1 = c.1
    · have hno : ∀ y ∈ r, y.1 ≠ c.1 := fun y hy e => by have := hr.1 y.1 (List.mem_map_of_mem hy); omega
      rw [List.map_cons, if_pos h]
      have : r.map (fun x => if x.1 = c.1 then c else x) = r := by
        have e : r.map (fun x => if x.1 = c.1 then c else x) = r.map id := List.map_congr_left fun y hy => by rw [if_neg (hno y hy)]; rfl
        rw [e, List.map_id]
      rw [this]
      have hge : decide (x.1 ≥ c.1) = true := decide_eq_true (by omega)
      rw [hge, Bool.or_true, withG_done (by simpa using hno)]
      simp [h]
    · have hm' : c.1 ∈ r.map (·.1) := by
        rcases List.mem_cons.1 hm with e | e
        · exact absurd e.symm h
        · exact e
      have hlt := hr.1 c.1 hm'
      have hge : decide (x.1 ≥ c.1) = false := decide_eq_false (by omega)
      rw [hge, List.map_cons, if_neg h]
      have ih := withM_put hr.2 hm'
      rw [withM] at ih
      simp [h, ih]

theorem withM_valid {m : Nat} (hm : m < 64) {l : List Comp} {c : Comp} (h : Valid m l) (hc : checkM c = 0) (hk : c.1 ∈ kindsOf m) : Valid m (withM l c) ∧ ∀ k ∈ kindsOf m, fieldsOf (withM l c) k = if k = c.1 then c.2 else fieldsOf l k := by
  have e1 := withM_put h.rising (c := c) (by rw [h.kinds]; exact hk)
  have e2 : withM l c = (kindsOf m).map fun k => (k, if k = c.1 then c.2 else fieldsOf l k) := by
    rw [e1]
    conv => lhs; rw [h.eq]
    rw [List.map_map]
    refine List.map_congr_left fun k _ => ?_
    simp only [Function.comp]
    split
    · rename_i e; rw [e]
    · rfl
  have hv : Valid m ((kindsOf m).map fun k => (k, if k = c.1 then c.2 else fieldsOf l k)) := Valid.mk' hm fun k hk2 => by
    split
    · rename_i e; subst e; exact hc
    · have : ((k, fieldsOf l k) : Comp) ∈ l := by rw [h.eq]; exact List.mem_map.2 ⟨k, hk2, by rw [← h.eq]⟩
      exact (listE_0.1 h.list).1 _ this
  rw [e2]
  refine ⟨hv, fun k hk2 => ?_⟩
  exact fieldsOf_mem hv.rising (c := (k, if k = c.1 then c.2 else fieldsOf l k)) (List.mem_map.2 ⟨k, hk2, rfl⟩)

/-! ### rows -/
def rowM (L : List Ent) (id : Int) : Option Nat := L.findIdx? (fun e => e.1 == id)
theorem rowM_some {L : List Ent} {id : Int} {i : Nat} (h : rowM L id = some i) : i < L.length ∧ ∃ e, L[i]? = some e ∧ e.1 = id := by
  unfold rowM at h
  rw [List.findIdx?_eq_some_iff_getElem] at h
  obtain ⟨h1, h2, _⟩ := h
  exact ⟨h1, L[i], List.getElem?_eq_getElem h1, by simpa using h2⟩
theorem rowM_none {L : List Ent} {id : Int} : rowM L id = none ↔ ∀ e ∈ L, e.1 ≠ id := by
  unfold rowM
  rw [List.findIdx?_eq_none_iff]
  simp
theorem rowM_at {L : List Ent} (hn : (L.map (·.1)).Nodup) {i : Nat} {e : Ent} (h : L[i]? = some e) : rowM L e.1 = some i := by
  unfold rowM
  rw [List.findIdx?_eq_some_iff_getElem]
  obtain ⟨hl, he⟩ := List.getElem?_eq_some_iff.1 h
  refine ⟨hl, by simp [he], fun j hj => ?_⟩
  have hp := List.pairwise_iff_getElem.1 hn j i (by simp; omega) (by simp; omega) hj
  simp only [List.getElem_map, he] at hp
  simpa using hp

def addM (m : Nat) (L : List Ent) (id : Int) (l : List Comp) : Int := if listE l ≠ 0 then listE l else if maskN l ≠ m then 4 else if (rowM L id).isSome then 9 else 0
def compM (L : List Ent) (i : Nat) (k : Int) : Comp := (k, fieldsOf ((L[i]?.map (·.2)).getD []) k)
def getM (m : Nat) (L : List Ent) (id k : Int) : Comp × Int := match rowM L id with
  | none => ((0, 0, 0, 0), 7)
  | some i => if k ∈ kindsOf m then (compM L i k, 0) else ((0, 0, 0, 0), 10)
def setM (m : Nat) (L : List Ent) (id : Int) (c : Comp) : Int := if checkM c ≠ 0 then checkM c else match rowM L id with
  | none => 7
  | some _ => if c.1 ∈ kindsOf m then 0 else 10
def setL (L : List Ent) (i : Nat) (c : Comp) : List Ent := L.modify i fun e => (e.1, withM e.2 c)
/-- the last one in the place of who goes. -/
def dropI {α : Type} (l : List α) (i : Nat) : List α := (match l[l.length - 1]? with
  | some z => l.set i z
  | none => l).take (l.length - 1)
theorem dropI_map {α β : Type} (f : α → β) (l : List α) (i : Nat) : (dropI l i).map f = dropI (l.map f) i := by
  unfold dropI
  rw [List.length_map, List.getElem?_map]
  cases l[l.length - 1]? <;> simp [List.map_take, List.map_set]
theorem dropI_eq {α : Type} {l : List α} {i : Nat} {z : α} (h : l[l.length - 1]? = some z) : dropI l i = (l.set i z).take (l.length - 1) := by rw [dropI, h]
theorem dropI_len {α : Type} (l : List α) (i : Nat) : (dropI l i).length = l.length - 1 := by
  unfold dropI
  cases l[l.length - 1]? <;> simp

/-- what is true of a table's rows. -/
structure TabOk (m : Nat) (L : List Ent) : Prop where
  mask : m < 64
  nodup : (L.map (·.1)).Nodup
  ids : ∀ e ∈ L, 0 ≤ e.1 ∧ e.1 ≤ 4294967295
  valid : ∀ e ∈ L, Valid m e.2
  small : L.length ≤ 1048576

theorem TabOk.nil {m : Nat} (h : m < 64) : TabOk m [] := ⟨h, by simp, by simp, by simp, by simp⟩
theorem TabOk.add {m : Nat} {L : List Ent} (h : TabOk m L) {id : Int} {l : List Comp} (hid : 0 ≤ id ∧ id ≤ 4294967295) (ha : addM m L id l = 0) (hs : L.length < 1048576) : TabOk m (L ++ [(id, l)]) := by
  unfold addM at ha
  split at ha
  · rename_i h1; exact absurd ha h1
  · rename_i h1
    split at ha
    · cases ha
    · rename_i h2
      split at ha
      · cases ha
      · rename_i h3
        have hr : rowM L id = none := by simpa using h3
        refine ⟨h.mask, ?_, ?_, ?_, by simp; omega⟩
        · rw [List.map_append, List.nodup_append]
          refine ⟨h.nodup, by simp, fun x hx y hy => ?_⟩
          simp at hy
          subst hy
          obtain ⟨e, he, rfl⟩ := List.mem_map.1 hx
          exact rowM_none.1 hr e he
        · intro e he
          rcases List.mem_append.1 he with he | he
          · exact h.ids e he
          · simp at he; subst he; exact hid
        · intro e he
          rcases List.mem_append.1 he with he | he
          · exact h.valid e he
          · simp at he; subst he; exact ⟨by simpa using h1, by simpa using h2⟩

/-! ### rows, once more -/
theorem rowM_map (L : List Ent) (id : Int) : rowM L id = (L.map (·.1)).findIdx? (fun x => x == id) := by
  unfold rowM
  rw [List.findIdx?_map]
  rfl
theorem rowM_congr {L L' : List Ent} (h : L'.map (·.1) = L.map (·.1)) : rowM L' = rowM L := by
  funext id
  rw [rowM_map, rowM_map, h]
theorem rowM_iff {L : List Ent} (hn : (L.map (·.1)).Nodup) {id : Int} {q : Nat} : rowM L id = some q ↔ ∃ x, L[q]? = some x ∧ x.1 = id := by
  constructor
  · intro h; exact (rowM_some h).2
  · rintro ⟨x, hx, rfl⟩; exact rowM_at hn hx
theorem dropI_get {α : Type} {l : List α} {i q : Nat} {z : α} (hz : l[l.length - 1]? = some z) : (dropI l i)[q]? = if q < l.length - 1 then (if q = i then some z else l[q]?) else none := by
  rw [dropI_eq hz, List.getElem?_take]
  by_cases hq : q < l.length - 1
  · rw [if_pos hq, if_pos hq, List.getElem?_set]
    by_cases hi : i = q
    · subst hi
      rw [if_pos rfl, if_pos rfl, if_pos (by omega)]
    · rw [if_neg hi, if_neg (fun e => hi e.symm)]
  · rw [if_neg hq, if_neg hq]
theorem dropI_mem {α : Type} {l : List α} {i : Nat} {x : α} (h : x ∈ dropI l i) : x ∈ l := by
  unfold dropI at h
  split at h
  · rename_i z hz
    have := List.mem_of_mem_take h
    rcases List.mem_or_eq_of_mem_set this with h | h
    · exact h
    · subst h; exact List.mem_of_getElem? hz
  · exact List.mem_of_mem_take h
theorem dropI_nodup {α : Type} {l : List α} {i : Nat} (hn : l.Nodup) (hi : i < l.length) : (dropI l i).Nodup := by
  obtain ⟨z, hz⟩ : ∃ z, l[l.length - 1]? = some z := ⟨_, List.getElem?_eq_getElem (by omega)⟩
  have uniq : ∀ (a b : Nat) (x : α), l[a]? = some x → l[b]? = some x → a = b := by
    intro a b x ha hb
    obtain ⟨ha1, ha2⟩ := List.getElem?_eq_some_iff.1 ha
    obtain ⟨hb1, hb2⟩ := List.getElem?_eq_some_iff.1 hb
    rcases Nat.lt_trichotomy a b with h | h | h
    · exact absurd (ha2.trans hb2.symm) (List.pairwise_iff_getElem.1 hn a b ha1 hb1 h)
    · exact h
    · exact absurd (hb2.trans ha2.symm) (List.pairwise_iff_getElem.1 hn b a hb1 ha1 h)
  rw [List.Nodup, List.pairwise_iff_getElem]
  intro a b ha hb hab he
  have ha' := List.getElem?_eq_getElem ha
  have hb' := List.getElem?_eq_getElem hb
  rw [he] at ha'
  have hl := dropI_len l i
  rw [dropI_get hz, if_pos (by omega)] at ha' hb'
  by_cases h1 : a = i
  · rw [if_pos h1] at ha'
    rw [if_neg (by omega)] at hb'
    have := uniq b (l.length - 1) _ hb' (by rw [hz, ha'])
    omega
  · rw [if_neg h1] at ha'
    by_cases h2 : b = i
    · rw [if_pos h2] at hb'
      have := uniq a (l.length - 1) _ ha' (by rw [hz, hb'])
      omega
    · rw [if_neg h2] at hb'
      have := uniq a b _ ha' hb'
      omega
theorem TabOk.drop {m : Nat} {L : List Ent} (h : TabOk m L) {i : Nat} (hi : i < L.length) : TabOk m (dropI L i) :=
  ⟨h.mask, by rw [dropI_map]; exact dropI_nodup h.nodup (by simpa using hi), fun e he => h.ids e (dropI_mem he), fun e he => h.valid e (dropI_mem he), by rw [dropI_len]; have := h.small; omega⟩
theorem rowM_drop {L : List Ent} (hn : (L.map (·.1)).Nodup) {i : Nat} {e z : Ent} (hi : L[i]? = some e) (hz : L[L.length - 1]? = some z) (j : Int) :
    rowM (dropI L i) j = if j = e.1 then none else if j = z.1 then some i else rowM L j := by
  obtain ⟨hil, _⟩ := List.getElem?_eq_some_iff.1 hi
  have hn2 : ((dropI L i).map (·.1)).Nodup := by rw [dropI_map]; exact dropI_nodup hn (by simpa using hil)
  have uniq : ∀ (a b : Nat) (x y : Ent), L[a]? = some x → L[b]? = some y → x.1 = y.1 → a = b := by
    intro a b x y ha hb he
    have h1 := rowM_at hn ha
    have h2 := rowM_at hn hb
    rw [he, h2] at h1
    exact (Option.some.inj h1).symm
  apply Option.ext
  intro q
  rw [rowM_iff hn2]
  constructor
  · rintro ⟨x, hx, rfl⟩
    rw [dropI_get hz] at hx
    by_cases hq : q < L.length - 1
    · rw [if_pos hq] at hx
      by_cases hqi : q = i
      · subst hqi
        rw [if_pos rfl] at hx
        cases hx
        by_cases he : z.1 = e.1
        · have := uniq _ _ _ _ hz hi he
          omega
        · rw [if_neg he, if_pos rfl]
      · rw [if_neg hqi] at hx
        have h1 : x.1 ≠ e.1 := fun he => hqi (uniq _ _ _ _ hx hi he)
        have h2 : x.1 ≠ z.1 := fun he => by have := uniq _ _ _ _ hx hz he; omega
        rw [if_neg h1, if_neg h2]
        exact rowM_at hn hx
    · rw [if_neg hq] at hx; cases hx
  · intro h
    by_cases h1 : j = e.1
    · rw [if_pos h1] at h; cases h
    · rw [if_neg h1] at h
      by_cases h2 : j = z.1
      · rw [if_pos h2] at h
        cases h
        have hne : i ≠ L.length - 1 := by
          intro he
          rw [← he, hi] at hz
          cases hz
          exact h1 h2
        exact ⟨z, by rw [dropI_get hz, if_pos (by omega), if_pos rfl], h2.symm⟩
      · rw [if_neg h2] at h
        obtain ⟨x, hx, rfl⟩ := (rowM_iff hn).1 h
        have hq : q < L.length := (List.getElem?_eq_some_iff.1 hx).1
        have h3 : q ≠ L.length - 1 := fun he => by rw [he, hz] at hx; cases hx; exact h2 rfl
        have h4 : q ≠ i := fun he => by rw [he, hi] at hx; cases hx; exact h1 rfl
        exact ⟨x, by rw [dropI_get hz, if_pos (by omega), if_neg h4]; exact hx, rfl⟩

theorem setL_eq {L : List Ent} {i : Nat} {e : Ent} {c : Comp} (h : L[i]? = some e) : setL L i c = L.set i (e.1, withM e.2 c) := by
  unfold setL
  apply List.ext_getElem?
  intro q
  rw [List.getElem?_modify, List.getElem?_set]
  by_cases hq : i = q
  · subst hq
    have := (List.getElem?_eq_some_iff.1 h).1
    have e2 := (List.getElem?_eq_some_iff.1 h).2
    simp [this, e2]
  · simp [hq]
theorem setL_ids {L : List Ent} {i : Nat} {e : Ent} {c : Comp} (h : L[i]? = some e) : (setL L i c).map (·.1) = L.map (·.1) := by
  rw [setL_eq h, List.map_set]
  apply List.ext_getElem?
  intro q
  rw [List.getElem?_set]
  by_cases hq : i = q
  · subst hq
    have := (List.getElem?_eq_some_iff.1 h).1
    have e2 := (List.getElem?_eq_some_iff.1 h).2
    simp [this, e2]
  · simp [hq]
theorem setL_len {L : List Ent} {i : Nat} {c : Comp} : (setL L i c).length = L.length := by simp [setL]
theorem TabOk.set {m : Nat} {L : List Ent} (h : TabOk m L) {i : Nat} {e : Ent} {c : Comp} (hi : L[i]? = some e) (hc : checkM c = 0) (hk : c.1 ∈ kindsOf m) : TabOk m (setL L i c) := by
  have hv := h.valid e (List.mem_of_getElem? hi)
  refine ⟨h.mask, by rw [setL_ids hi]; exact h.nodup, fun x hx => ?_, fun x hx => ?_, by rw [setL_len]; exact h.small⟩
  · rw [setL_eq hi] at hx
    rcases List.mem_or_eq_of_mem_set hx with hx | rfl
    · exact h.ids x hx
    · exact h.ids e (List.mem_of_getElem? hi)
  · rw [setL_eq hi] at hx
    rcases List.mem_or_eq_of_mem_set hx with hx | rfl
    · exact h.valid x hx
    · exact (withM_valid h.mask hv hc hk).1

end Go.Proofs.YtchhhjlpnecjkaaGreat
