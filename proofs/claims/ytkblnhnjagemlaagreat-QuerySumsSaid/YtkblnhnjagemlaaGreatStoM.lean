/-
  Plain law: a store as numbers and tables by makes.
-/
import Derived.Test.YtkblnhnjagemlaaGreatSlo
namespace Go.Proofs.YtkblnhnjagemlaaGreat
open Go Go.RowKit Go.Proofs.YtkblnhnjagemlaaGreat.Den

theorem fieldsM_i32 (k : Int) : ∀ p ∈ fieldsM k, i32 p.2.1 ∧ i32 p.2.2 := by
  rcases fieldsM_cases k with rfl | rfl | rfl | rfl | rfl | rfl | ⟨h0, h1, h2, h3, h4, h5⟩ <;> simp [fieldsM, i32, *]
theorem checkM_ok {c : Comp} (h : checkM c = 0) : CompOk c := by
  have hk := checkM_kind h
  have hall : (List.range 3).all (inR c) = true := by
    unfold checkM at h
    split at h
    · cases h
    · split at h
      · cases h
      · split at h
        · assumption
        · cases h
  have key : ∀ i, i < 3 → i32 (fl c i) := fun i hi => by
    have h1 := List.all_eq_true.1 hall i (List.mem_range.2 hi)
    unfold inR at h1
    split at h1
    · rename_i p hp
      have h2 := fieldsM_i32 c.1 p (List.mem_of_getElem? hp)
      simp only [Bool.and_eq_true, decide_eq_true_eq] at h1
      unfold i32 at h2 ⊢
      omega
    · have : fl c i = 0 := by simpa using h1
      rw [this]; unfold i32; omega
  exact ⟨⟨by omega, by omega⟩, key 0 (by omega), key 1 (by omega), key 2 (by omega)⟩

structure StM where
  s : SM
  tab : Nat → List Ent
abbrev inT (T : Nat → List Ent) (m : Nat) (id : Int) : Prop := (rowM (T m) id).isSome = true
def homeT (T : Nat → List Ent) (id : Int) : Option Nat := (List.range 64).find? fun m => (rowM (T m) id).isSome
def upd (T : Nat → List Ent) (m : Nat) (L : List Ent) : Nat → List Ent := fun k => if k = m then L else T k
theorem upd_same (T : Nat → List Ent) (m : Nat) (L : List Ent) : upd T m L m = L := if_pos rfl
theorem upd_other {T : Nat → List Ent} {m k : Nat} {L : List Ent} (h : k ≠ m) : upd T m L k = T k := if_neg h

structure StOk (x : StM) : Prop where
  s : SMOk x.s
  tab : ∀ m, m < 64 → TabOk m (x.tab m)
  uniq : ∀ m m' id, m < 64 → m' < 64 → inT x.tab m id → inT x.tab m' id → m = m'
  live : ∀ id, (∃ m, m < 64 ∧ inT x.tab m id) ↔ x.s.live id = true

theorem inT_iff {T : Nat → List Ent} {m : Nat} {id : Int} : inT T m id ↔ ∃ e ∈ T m, e.1 = id := by
  unfold inT
  cases h : rowM (T m) id with
  | none =>
    simp only [Option.isSome_none, Bool.false_eq_true, false_iff]
    rintro ⟨e, he, h2⟩
    exact rowM_none.1 h e he h2
  | some i =>
    obtain ⟨_, e, he, h2⟩ := rowM_some h
    simp only [Option.isSome_some, true_iff]
    exact ⟨e, List.mem_of_getElem? he, h2⟩
theorem home_some {T : Nat → List Ent} {id : Int} {m : Nat} (h : homeT T id = some m) : m < 64 ∧ inT T m id := by
  unfold homeT at h
  have h1 := List.find?_some h
  have h2 := List.mem_of_find?_eq_some h
  exact ⟨by simpa using h2, h1⟩
theorem home_none {T : Nat → List Ent} {id : Int} : homeT T id = none ↔ ∀ m, m < 64 → ¬ inT T m id := by
  unfold homeT
  rw [List.find?_eq_none]
  simp
theorem StOk.home_at {x : StM} (h : StOk x) {m : Nat} {id : Int} (hm : m < 64) (hi : inT x.tab m id) : homeT x.tab id = some m := by
  cases he : homeT x.tab id with
  | none => exact absurd hi (home_none.1 he m hm)
  | some k =>
    obtain ⟨h1, h2⟩ := home_some he
    rw [h.uniq k m id h1 hm h2 hi]
theorem StOk.home_live {x : StM} (h : StOk x) (id : Int) : (homeT x.tab id).isSome = x.s.live id := by
  cases hl : x.s.live id with
  | true =>
    obtain ⟨m, h1, h2⟩ := (h.live id).2 hl
    rw [h.home_at h1 h2]; rfl
  | false =>
    cases he : homeT x.tab id with
    | none => rfl
    | some m => have := (h.live id).1 ⟨m, (home_some he).1, (home_some he).2⟩; rw [hl] at this; cases this

theorem rowM_app {L : List Ent} {e : Ent} (h : rowM L e.1 = none) (id : Int) : rowM (L ++ [e]) id = if id = e.1 then some L.length else rowM L id := by
  unfold rowM at h ⊢
  rw [List.findIdx?_append]
  by_cases hid : id = e.1
  · subst hid
    rw [h, if_pos rfl]
    simp
  · rw [if_neg hid]
    have : List.findIdx? (fun x => x.1 == id) [e] = none := by simp; exact fun h => hid h.symm
    rw [this]
    cases List.findIdx? (fun x => x.1 == id) L <;> rfl
theorem inT_add {T : Nat → List Ent} {m : Nat} {e : Ent} (k : Nat) (id : Int) : inT (upd T m (T m ++ [e])) k id ↔ inT T k id ∨ (k = m ∧ id = e.1) := by
  rw [inT_iff, inT_iff]
  by_cases h : k = m
  · subst h
    rw [upd_same]
    simp only [List.mem_append, List.mem_singleton, true_and]
    constructor
    · rintro ⟨x, hx | rfl, rfl⟩
      · exact .inl ⟨x, hx, rfl⟩
      · exact .inr rfl
    · rintro (⟨x, hx, rfl⟩ | rfl)
      · exact ⟨x, .inl hx, rfl⟩
      · exact ⟨e, .inr rfl, rfl⟩
  · rw [upd_other h]
    simp [h]
theorem inT_drop {T : Nat → List Ent} {m i : Nat} {e : Ent} (hn : ((T m).map (·.1)).Nodup) (hi : (T m)[i]? = some e) (k : Nat) (id : Int) : inT (upd T m (dropI (T m) i)) k id ↔ inT T k id ∧ ¬ (k = m ∧ id = e.1) := by
  by_cases h : k = m
  · subst h
    obtain ⟨hl, _⟩ := List.getElem?_eq_some_iff.1 hi
    obtain ⟨z, hz⟩ : ∃ z, (T k)[(T k).length - 1]? = some z := ⟨_, List.getElem?_eq_getElem (by omega)⟩
    unfold inT
    rw [upd_same, rowM_drop hn hi hz]
    simp only [true_and]
    by_cases h1 : id = e.1
    · simp [h1]
    · rw [if_neg h1]
      by_cases h2 : id = z.1
      · rw [if_pos h2, h2, rowM_at hn hz]
        simp [h2 ▸ h1]
      · rw [if_neg h2]; simp [h1]
  · unfold inT
    rw [upd_other h]
    simp [h]
theorem inT_set {T : Nat → List Ent} {m i : Nat} {e : Ent} {c : Comp} (hi : (T m)[i]? = some e) (k : Nat) (id : Int) : inT (upd T m (setL (T m) i c)) k id ↔ inT T k id := by
  unfold inT
  by_cases h : k = m
  · subst h; rw [upd_same, rowM_congr (setL_ids hi)]
  · rw [upd_other h]
theorem home_add {T : Nat → List Ent} {m : Nat} {e : Ent} (hm : m < 64) (hno : ∀ k, k < 64 → ¬ inT T k e.1) (id : Int) : homeT (upd T m (T m ++ [e])) id = if id = e.1 then some m else homeT T id := by
  by_cases h : id = e.1
  · subst h
    rw [if_pos rfl]
    cases he : homeT (upd T m (T m ++ [e])) e.1 with
    | none => exact absurd ((inT_add m e.1).2 (.inr ⟨rfl, rfl⟩)) (home_none.1 he m hm)
    | some k =>
      obtain ⟨h1, h2⟩ := home_some he
      rcases (inT_add k e.1).1 h2 with h3 | h3
      · exact absurd h3 (hno k h1)
      · rw [h3.1]
  · rw [if_neg h]
    unfold homeT
    congr 1
    funext k
    rw [Bool.eq_iff_iff]
    refine (inT_add k id).trans ?_
    simp [h]
theorem home_set {T : Nat → List Ent} {m i : Nat} {e : Ent} {c : Comp} (hi : (T m)[i]? = some e) : homeT (upd T m (setL (T m) i c)) = homeT T := by
  funext id
  unfold homeT
  congr 1
  funext k
  rw [Bool.eq_iff_iff]
  exact inT_set hi k id
theorem home_drop {x : StM} (h : StOk x) {m i : Nat} {e : Ent} (hm : m < 64) (hi : (x.tab m)[i]? = some e) (id : Int) : homeT (upd x.tab m (dropI (x.tab m) i)) id = if id = e.1 then none else homeT x.tab id := by
  have hin : inT x.tab m e.1 := inT_iff.2 ⟨e, List.mem_of_getElem? hi, rfl⟩
  by_cases hid : id = e.1
  · subst hid
    rw [if_pos rfl, home_none]
    intro k hk hin2
    obtain ⟨h1, h2⟩ := (inT_drop (h.tab m hm).nodup hi k e.1).1 hin2
    exact h2 ⟨h.uniq k m _ hk hm h1 hin, rfl⟩
  · rw [if_neg hid]
    unfold homeT
    congr 1
    funext k
    rw [Bool.eq_iff_iff]
    refine (inT_drop (h.tab m hm).nodup hi k id).trans ?_
    simp [hid]

/-! ### live -/
theorem live_ex {s : SM} {id : Int} : s.live id = true ↔ ∃ (i : Nat) (g : Int), id = idOf i g ∧ i < 1024 ∧ s.used[i]? = some true ∧ s.gen[i]? = some g := by
  rw [SM.live_iff]
  have hr := slot_range id
  constructor
  · rintro ⟨h1, h2⟩
    refine ⟨(slotOf id).toNat, genOf id, ?_, by omega, h1, h2⟩
    rw [show (((slotOf id).toNat : Nat) : Int) = slotOf id by omega, id_eq]
  · rintro ⟨i, g, rfl, hi, h1, h2⟩
    rw [slot_id hi, gen_id hi]
    exact ⟨h1, h2⟩
theorem SMOk.live_lt {s : SM} (h : SMOk s) {i : Nat} (hu : s.used[i]? = some true) : i < 1024 := by
  have := (List.getElem?_eq_some_iff.1 hu).1
  have h1 := h.len
  have h2 := h.le
  omega
theorem SM.live_use {s : SM} {i : Nat} {g : Int} (hs : s.used.length = s.n) (hi : i < s.n) (hn : s.n ≤ 1024) (hu : s.used[i]? = some false) (id : Int) : (s.use i g).live id = true ↔ s.live id = true ∨ id = idOf i g := by
  rw [live_ex, live_ex]
  constructor
  · rintro ⟨j, g', rfl, hj, h1, h2⟩
    simp only [SM.use, List.getElem?_set] at h1 h2
    by_cases e : i = j
    · subst e
      rw [if_pos rfl, if_pos (show i < s.gen.length from hi)] at h2
      cases h2
      exact .inr rfl
    · rw [if_neg e] at h1 h2
      exact .inl ⟨j, g', rfl, hj, h1, h2⟩
  · rintro (⟨j, g', rfl, hj, h1, h2⟩ | rfl)
    · have e : i ≠ j := fun e => by subst e; rw [hu] at h1; cases h1
      exact ⟨j, g', rfl, hj, by simp only [SM.use, List.getElem?_set_ne e]; exact h1, by simp only [SM.use, List.getElem?_set_ne e]; exact h2⟩
    · exact ⟨i, g, rfl, by omega, by simp only [SM.use]; rw [List.getElem?_set_self (by omega)], by simp only [SM.use]; rw [List.getElem?_set_self hi]⟩
theorem SMOk.take_live {s s' : SM} {id : Int} (h : SMOk s) (ht : s.take = some (id, s')) : s.live id = false ∧ (∀ j, s'.live j = true ↔ s.live j = true ∨ j = id) ∧ IdOk id ∧ 1024 ≤ id := by
  have key : ∀ (i : Nat) (g : Int), i < s.n → s.used[i]? = some false → 1 ≤ g ∧ g ≤ 4194303 → s.live (idOf i g) = false ∧ (∀ j, (s.use i g).live j = true ↔ s.live j = true ∨ j = idOf i g) ∧ IdOk (idOf i g) ∧ 1024 ≤ idOf i g := fun i g hi hu hg => by
    have hr := id_range (i := i) (g := g) (by have := h.le; omega) hg.1 hg.2
    refine ⟨?_, SM.live_use h.len hi h.le hu, ⟨by omega, by omega⟩, hr.1⟩
    have := h.le
    simp [SM.live, slot_id (show i < 1024 by omega), hu]
  unfold SM.take at ht
  split at ht
  · rename_i x hx
    obtain ⟨i, rfl, hi, hu, g, hg, h1, h2⟩ := h.freeGet (List.mem_of_getLast? hx)
    rw [Int.toNat_natCast, hg] at ht
    simp only [Option.some.injEq, Prod.mk.injEq] at ht
    obtain ⟨rfl, rfl⟩ := ht
    exact key i (g + 1) hi hu ⟨by omega, by omega⟩
  · split at ht
    · rename_i hlt
      simp only [Option.some.injEq, Prod.mk.injEq] at ht
      obtain ⟨rfl, rfl⟩ := ht
      have hl : s.fresh < s.used.length := by rw [h.len]; exact hlt
      have hu : s.used[s.fresh]? = some false := by
        cases hb : s.used[s.fresh] with
        | false => rw [List.getElem?_eq_getElem hl, hb]
        | true => exact absurd (h.unused s.fresh (by rw [List.getElem?_eq_getElem hl, hb])) (by omega)
      exact key s.fresh s.first hlt hu h.first
    · cases ht
theorem SMOk.freed_live {s : SM} (_h : SMOk s) {id : Int} (hl : s.live id = true) (j : Int) : (s.freed id).live j = true ↔ s.live j = true ∧ j ≠ id := by
  obtain ⟨i, g, rfl, hi, hu, hg⟩ := live_ex.1 hl
  rw [live_ex, live_ex]
  have hul : i < s.used.length := (List.getElem?_eq_some_iff.1 hu).1
  simp only [SM.freed, slot_id hi, Int.toNat_natCast]
  constructor
  · rintro ⟨q, g', rfl, hq, h1, h2⟩
    rw [List.getElem?_set] at h1
    by_cases e : i = q
    · subst e; rw [if_pos rfl, if_pos hul] at h1; cases h1
    · rw [if_neg e] at h1
      refine ⟨⟨q, g', rfl, hq, h1, h2⟩, fun e2 => e ?_⟩
      have := congrArg slotOf e2
      rw [slot_id hq, slot_id hi] at this
      omega
  · rintro ⟨⟨q, g', rfl, hq, h1, h2⟩, hne⟩
    have e : i ≠ q := fun e => by subst e; rw [hg] at h2; cases h2; exact hne rfl
    exact ⟨q, g', rfl, hq, by rw [List.getElem?_set_ne e]; exact h1, h2⟩
theorem SMOk.live_id {s : SM} (h : SMOk s) {id : Int} (hl : s.live id = true) : IdOk id ∧ 1024 ≤ id := by
  obtain ⟨i, g, rfl, hi, hu, hg⟩ := live_ex.1 hl
  have := h.old i g hg (h.unused i hu)
  have := id_range hi this.1 this.2
  exact ⟨⟨by omega, by omega⟩, this.1⟩

/-! ### what a store does -/
def putT (T : Nat → List Ent) (id : Int) (l : List Comp) : Nat → List Ent := upd T (maskN l) (T (maskN l) ++ [(id, l)])
def StM.spawn (x : StM) (l : List Comp) : Int × Int × StM := if listE l ≠ 0 then (0, listE l, x) else match x.s.take with
  | none => (0, 8, x)
  | some (id, s') => (id, 0, ⟨s', putT x.tab id l⟩)
def StM.at (x : StM) (id : Int) : Option (Nat × Nat × Ent) := match homeT x.tab id with
  | none => none
  | some m => match rowM (x.tab m) id with
    | none => none
    | some i => match (x.tab m)[i]? with
      | none => none
      | some e => some (m, i, e)
def StM.despawn (x : StM) (id : Int) : Int × StM := match x.at id with
  | none => (7, x)
  | some (m, i, _) => (0, ⟨x.s.freed id, upd x.tab m (dropI (x.tab m) i)⟩)
def StM.get (x : StM) (id k : Int) : Comp × Int := match x.at id with
  | none => ((0, 0, 0, 0), 7)
  | some (m, _, e) => if k ∈ kindsOf m then ((k, fieldsOf e.2 k), 0) else ((0, 0, 0, 0), 10)
def StM.set (x : StM) (id : Int) (c : Comp) : Int × StM := if checkM c ≠ 0 then (checkM c, x) else match x.at id with
  | none => (7, x)
  | some (m, i, _) => if c.1 ∈ kindsOf m then (0, ⟨x.s, upd x.tab m (setL (x.tab m) i c)⟩) else (10, x)
def StM.turn (x : StM) (id : Int) (m i : Nat) (l : List Comp) : StM := ⟨x.s, putT (upd x.tab m (dropI (x.tab m) i)) id l⟩
/-- a component more, by rising kinds. -/
def insC (l : List Comp) (c : Comp) : List Comp := (l.takeWhile fun x => !decide (x.1 > c.1)) ++ c :: (l.dropWhile fun x => !decide (x.1 > c.1))
def StM.add (x : StM) (id : Int) (c : Comp) : Int × StM := if checkM c ≠ 0 then (checkM c, x) else match x.at id with
  | none => (7, x)
  | some (m, i, e) => if c.1 ∈ kindsOf m then (9, x) else (0, x.turn id m i (insC e.2 c))
def StM.remove (x : StM) (id k : Int) : Int × StM := match x.at id with
  | none => (7, x)
  | some (m, i, e) => if k ∈ kindsOf m then (0, x.turn id m i (e.2.filter fun c => !(c.1 == k))) else (10, x)
def StM.ent (x : StM) (id : Int) : Ent × Int := match x.at id with
  | none => ((0, []), 7)
  | some (_, _, e) => (e, 0)
def StM.new (n : Nat) (first : Int) : StM := ⟨SM.new n first, fun _ => []⟩

theorem StOk.at_some {x : StM} (h : StOk x) {id : Int} {m i : Nat} {e : Ent} (ha : x.at id = some (m, i, e)) : homeT x.tab id = some m ∧ m < 64 ∧ rowM (x.tab m) id = some i ∧ (x.tab m)[i]? = some e ∧ e.1 = id ∧ Valid m e.2 ∧ x.s.live id = true := by
  unfold StM.at at ha
  split at ha
  · cases ha
  · rename_i m' hm
    split at ha
    · cases ha
    · rename_i i' hi
      split at ha
      · cases ha
      · rename_i e' he
        cases ha
        obtain ⟨h1, h2⟩ := home_some hm
        obtain ⟨_, e2, he2, h3⟩ := rowM_some hi
        rw [he] at he2
        cases he2
        exact ⟨hm, h1, hi, he, h3, (h.tab m h1).valid e (List.mem_of_getElem? he), (h.live id).1 ⟨m, h1, h2⟩⟩
theorem StOk.at_none {x : StM} (_h : StOk x) {id : Int} : x.at id = none ↔ homeT x.tab id = none := by
  unfold StM.at
  cases hm : homeT x.tab id with
  | none => simp
  | some m =>
    obtain ⟨h1, h2⟩ := home_some hm
    simp only [reduceCtorEq, iff_false]
    cases hi : rowM (x.tab m) id with
    | none => unfold inT at h2; rw [hi] at h2; cases h2
    | some i =>
      obtain ⟨hl, e, he, _⟩ := rowM_some hi
      simp [he]
theorem StOk.at_live {x : StM} (h : StOk x) (id : Int) : (x.at id).isSome = x.s.live id := by
  rw [← h.home_live]
  cases ha : x.at id with
  | none => rw [h.at_none.1 ha]; rfl
  | some p =>
    obtain ⟨m, i, e⟩ := p
    rw [(h.at_some ha).1]; rfl

/-- no table has more than there are slots. -/
theorem slots_le {l : List Int} {s : SM} (_h : SMOk s) (hn : l.Nodup) (hl : ∀ id ∈ l, s.live id = true) : l.length ≤ s.n := by
  have hm : (l.map slotOf).Nodup := by
    rw [List.Nodup, List.pairwise_map]
    refine List.Pairwise.imp_of_mem ?_ hn
    intro a b ha hb hne e
    obtain ⟨h1, h2⟩ := SM.live_iff.1 (hl a ha)
    obtain ⟨h3, h4⟩ := SM.live_iff.1 (hl b hb)
    rw [e, h4] at h2
    have : genOf a = genOf b := (Option.some.inj h2).symm
    have e1 := id_eq (id := a)
    have e2 := id_eq (id := b)
    rw [e, this] at e1
    exact hne (e1.symm.trans e2)
  have hs : (l.map slotOf) ⊆ (List.range s.n).map fun (k : Nat) => (k : Int) := fun z hz => by
    obtain ⟨a, ha, rfl⟩ := List.mem_map.1 hz
    obtain ⟨h1, h2⟩ := SM.live_iff.1 (hl a ha)
    have hr := slot_range a
    have := (List.getElem?_eq_some_iff.1 h2).1
    exact List.mem_map.2 ⟨(slotOf a).toNat, by simpa [SM.n] using this, by omega⟩
  have := hm.length_le_of_subset hs
  simpa using this
theorem StOk.tab_le {x : StM} (h : StOk x) {m : Nat} (hm : m < 64) : (x.tab m).length ≤ 1024 := by
  have := slots_le h.s (h.tab m hm).nodup fun id hid => by
    obtain ⟨e, he, rfl⟩ := List.mem_map.1 hid
    exact (h.live e.1).1 ⟨m, hm, inT_iff.2 ⟨e, he, rfl⟩⟩
  have h2 := h.s.le
  rw [List.length_map] at this
  omega

theorem stok_new {n : Nat} {first : Int} (h1 : 1 ≤ n) (h2 : n ≤ 1024) (hf : 1 ≤ first ∧ first ≤ 4194303) : StOk (StM.new n first) := by
  refine ⟨smok_new h1 h2 hf, fun m hm => TabOk.nil hm, fun m m' id _ _ h => ?_, fun id => ?_⟩
  · simp [inT, StM.new, rowM] at h
  · constructor
    · rintro ⟨m, _, h⟩; simp [inT, StM.new, rowM] at h
    · intro h
      obtain ⟨i, g, _, _, hu, _⟩ := live_ex.1 h
      simp only [StM.new, SM.new, List.getElem?_replicate] at hu
      split at hu <;> cases hu

theorem addM_ok {m : Nat} {L : List Ent} {id : Int} {l : List Comp} (hv : Valid m l) (hr : rowM L id = none) : addM m L id l = 0 := by
  rw [addM, if_neg (by simp [hv.list]), if_neg (by simp [hv.mask]), if_neg (by simp [hr])]
theorem StOk.put {x : StM} (h : StOk x) {s' : SM} {id : Int} {l : List Comp} (hs : SMOk s') (hid : IdOk id) (hv : listE l = 0) (hno : homeT x.tab id = none) (hl : ∀ j, s'.live j = true ↔ x.s.live j = true ∨ j = id) (hroom : (x.tab (maskN l)).length < 1048576) : StOk ⟨s', putT x.tab id l⟩ := by
  have hm := maskN_lt l
  have hno' := home_none.1 hno
  have hr : rowM (x.tab (maskN l)) id = none := by
    have := hno' _ hm
    unfold inT at this
    simpa using this
  have hin : ∀ k j, inT (putT x.tab id l) k j ↔ inT x.tab k j ∨ (k = maskN l ∧ j = id) := fun k j => inT_add (e := (id, l)) k j
  refine ⟨hs, fun k hk => ?_, fun k k' j hk hk' h1 h2 => ?_, fun j => ?_⟩
  · show TabOk k (upd _ _ _ k)
    by_cases e : k = maskN l
    · subst e
      rw [upd_same]
      exact (h.tab _ hk).add hid (addM_ok ⟨hv, rfl⟩ hr) hroom
    · rw [upd_other e]; exact h.tab k hk
  · rcases (hin k j).1 h1 with a | a <;> rcases (hin k' j).1 h2 with b | b
    · exact h.uniq k k' j hk hk' a b
    · exact absurd (b.2 ▸ a) (hno' k hk)
    · exact absurd (a.2 ▸ b) (hno' k' hk')
    · rw [a.1, b.1]
  · show (∃ m, m < 64 ∧ inT (putT x.tab id l) m j) ↔ s'.live j = true
    rw [hl, ← h.live]
    constructor
    · rintro ⟨k, hk, h1⟩
      rcases (hin k j).1 h1 with a | a
      · exact .inl ⟨k, hk, a⟩
      · exact .inr a.2
    · rintro (⟨k, hk, a⟩ | rfl)
      · exact ⟨k, hk, (hin k j).2 (.inl a)⟩
      · exact ⟨maskN l, hm, (hin _ _).2 (.inr ⟨rfl, rfl⟩)⟩
theorem StOk.spawn {x : StM} (h : StOk x) (l : List Comp) : StOk (x.spawn l).2.2 := by
  unfold StM.spawn
  split
  · exact h
  · rename_i hl
    split
    · exact h
    · rename_i id s' ht
      obtain ⟨h1, h2, h3, _⟩ := h.s.take_live ht
      have hh : homeT x.tab id = none := by
        have := h.home_live id
        rw [h1] at this
        simpa using this
      exact h.put (h.s.take ht) h3 (by simpa using hl) hh h2 (by have := h.tab_le (maskN_lt l); omega)
theorem StOk.drop {x : StM} (h : StOk x) {m i : Nat} {e : Ent} (hm : m < 64) (hi : (x.tab m)[i]? = some e) : StOk ⟨x.s.freed e.1, upd x.tab m (dropI (x.tab m) i)⟩ := by
  have hin0 : inT x.tab m e.1 := inT_iff.2 ⟨e, List.mem_of_getElem? hi, rfl⟩
  have hl := (h.live e.1).1 ⟨m, hm, hin0⟩
  have hin := fun k j => inT_drop (T := x.tab) (h.tab m hm).nodup hi k j
  refine ⟨h.s.freed hl, fun k hk => ?_, fun k k' j hk hk' h1 h2 => h.uniq k k' j hk hk' ((hin k j).1 h1).1 ((hin k' j).1 h2).1, fun j => ?_⟩
  · show TabOk k (upd _ _ _ k)
    by_cases e : k = m
    · subst e; rw [upd_same]; exact (h.tab k hk).drop (List.getElem?_eq_some_iff.1 hi).1
    · rw [upd_other e]; exact h.tab k hk
  · show (∃ k, k < 64 ∧ inT (upd x.tab m (dropI (x.tab m) i)) k j) ↔ _
    rw [h.s.freed_live hl, ← h.live]
    constructor
    · rintro ⟨k, hk, h1⟩
      obtain ⟨a, b⟩ := (hin k j).1 h1
      exact ⟨⟨k, hk, a⟩, fun e2 => b ⟨h.uniq k m j hk hm a (e2 ▸ hin0), e2⟩⟩
    · rintro ⟨⟨k, hk, a⟩, hne⟩
      exact ⟨k, hk, (hin k j).2 ⟨a, fun b => hne b.2⟩⟩
theorem StOk.despawn {x : StM} (h : StOk x) (id : Int) : StOk (x.despawn id).2 := by
  unfold StM.despawn
  split
  · exact h
  · rename_i m i e ha
    obtain ⟨_, hm, _, hi, rfl, _⟩ := h.at_some ha
    exact h.drop hm hi
theorem StOk.set {x : StM} (h : StOk x) {m i : Nat} {e : Ent} {c : Comp} (hm : m < 64) (hi : (x.tab m)[i]? = some e) (hc : checkM c = 0) (hk : c.1 ∈ kindsOf m) : StOk ⟨x.s, upd x.tab m (setL (x.tab m) i c)⟩ := by
  refine ⟨h.s, fun k hk2 => ?_, fun k k' j a b h1 h2 => h.uniq k k' j a b ((inT_set hi k j).1 h1) ((inT_set hi k' j).1 h2), fun j => ?_⟩
  · show TabOk k (upd _ _ _ k)
    by_cases e : k = m
    · subst e; rw [upd_same]; exact (h.tab k hk2).set hi hc hk
    · rw [upd_other e]; exact h.tab k hk2
  · rw [← h.live]
    exact ⟨fun ⟨k, a, b⟩ => ⟨k, a, (inT_set hi k j).1 b⟩, fun ⟨k, a, b⟩ => ⟨k, a, (inT_set hi k j).2 b⟩⟩
theorem StOk.setM {x : StM} (h : StOk x) (id : Int) (c : Comp) : StOk (x.set id c).2 := by
  unfold StM.set
  split
  · exact h
  · rename_i hc
    split
    · exact h
    · rename_i m i e ha
      split
      · rename_i hk
        obtain ⟨_, hm, _, hi, rfl, _⟩ := h.at_some ha
        exact h.set hm hi (by simpa using hc) hk
      · exact h
/-- an entity is of another make now. -/
theorem StOk.turn {x : StM} (h : StOk x) {m i : Nat} {e : Ent} {l : List Comp} (hm : m < 64) (hi : (x.tab m)[i]? = some e) (hv : listE l = 0) : StOk (x.turn e.1 m i l) := by
  have hin0 : inT x.tab m e.1 := inT_iff.2 ⟨e, List.mem_of_getElem? hi, rfl⟩
  have hl := (h.live e.1).1 ⟨m, hm, hin0⟩
  have hd := h.drop hm hi
  refine hd.put h.s (h.s.live_id hl).1 hv (by rw [home_drop h hm hi, if_pos rfl]) (fun j => ?_) ?_
  · show _ ↔ (x.s.freed e.1).live j = true ∨ _
    rw [h.s.freed_live hl]
    constructor
    · intro hj
      by_cases e2 : j = e.1
      · exact .inr e2
      · exact .inl ⟨hj, e2⟩
    · rintro (⟨a, _⟩ | rfl)
      · exact a
      · exact hl
  · have := hd.tab_le (maskN_lt l)
    omega

end Go.Proofs.YtkblnhnjagemlaaGreat
