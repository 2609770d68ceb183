/-
  Plain law: which entities of a store fit two masks, by rising slots.
-/
import Derived.Test.YtkblnhnjagemlaaGreatGrp
namespace Go.Proofs.YtkblnhnjagemlaaGreat
open Go Go.RowKit Go.Proofs.YtkblnhnjagemlaaGreat.Den

/-! ### the numbers that are taken, by their slots -/
theorem SM.mem_ids {s : SM} (hs : s.used.length = s.n) {id : Int} : ∀ {j : Nat}, j ≤ s.n → (id ∈ s.ids j ↔ ∃ (i : Nat) (g : Int), i < j ∧ id = idOf i g ∧ s.used[i]? = some true ∧ s.gen[i]? = some g)
  | 0, _ => by simp [SM.ids]
  | j + 1, h => by
    have hj : j < s.used.length := by omega
    have hg : j < s.gen.length := h
    rw [SM.ids, List.mem_append, SM.mem_ids hs (by omega), List.getElem?_eq_getElem hj, List.getElem?_eq_getElem hg]
    constructor
    · rintro (⟨i, g, h1, h2⟩ | h1)
      · exact ⟨i, g, by omega, h2⟩
      · cases hu : s.used[j] with
        | true =>
          rw [hu] at h1
          simp only [List.mem_singleton] at h1
          exact ⟨j, s.gen[j], by omega, h1, by rw [List.getElem?_eq_getElem hj, hu], List.getElem?_eq_getElem hg⟩
        | false => rw [hu] at h1; cases h1
    · rintro ⟨i, g, h1, h2, h3, h4⟩
      by_cases hij : i = j
      · subst hij
        rw [List.getElem?_eq_getElem hj] at h3
        rw [List.getElem?_eq_getElem hg] at h4
        simp only [Option.some.injEq] at h3 h4
        right
        rw [h3, h4]
        simpa using h2
      · exact .inl ⟨i, g, by omega, h2, h3, h4⟩
theorem SM.ids_slots {s : SM} (hs : s.used.length = s.n) (hn : s.n ≤ 1024) : ∀ {j : Nat}, j ≤ s.n → (s.ids j).Pairwise fun a b => slotOf a < slotOf b
  | 0, _ => List.Pairwise.nil
  | j + 1, h => by
    rw [SM.ids, List.pairwise_append]
    refine ⟨SM.ids_slots hs hn (by omega), ?_, fun a ha b hb => ?_⟩
    · split
      · exact List.pairwise_singleton _ _
      · exact List.Pairwise.nil
    · obtain ⟨i, g, h1, rfl, _, _⟩ := (SM.mem_ids hs (by omega)).1 ha
      split at hb
      · simp only [List.mem_singleton] at hb
        subst hb
        rw [slot_id (by omega), slot_id (by omega)]
        omega
      · cases hb
theorem SMOk.mem_list {s : SM} (h : SMOk s) {id : Int} : id ∈ s.list ↔ s.live id = true := by
  unfold SM.list
  rw [SM.mem_ids h.len (Nat.le_refl _), live_ex]
  constructor
  · rintro ⟨i, g, h1, h2, h3, h4⟩
    exact ⟨i, g, h2, by have := h.le; omega, h3, h4⟩
  · rintro ⟨i, g, h2, _, h3, h4⟩
    exact ⟨i, g, (List.getElem?_eq_some_iff.1 h4).1, h2, h3, h4⟩
theorem SMOk.list_slots {s : SM} (h : SMOk s) : s.list.Pairwise fun a b => slotOf a < slotOf b := SM.ids_slots h.len h.le (Nat.le_refl _)
theorem SMOk.list_nodup {s : SM} (h : SMOk s) : s.list.Nodup := h.list_slots.imp fun hab e => by subst e; omega

/-! ### who fits -/
def fitB (m all non : Int) : Bool := bAnd .u8 m all == all && bAnd .u8 m non == 0
def fitE (x : StM) (all non : Int) (id : Int) : Bool := match homeT x.tab id with
  | some m => fitB (m : Int) all non
  | none => false
def withL (x : StM) (all non : Int) : List Int := x.s.list.filter (fitE x all non)
/-- the groups' own order. -/
def grpIds (_T : Nat → List Ent) (all non : Int) (l : List (Int × List Int)) : List Int := l.flatMap fun g => if fitB g.1 all non then g.2 else []

theorem mem_grpIds {x : StM} (h : StOk x) (all non id : Int) : id ∈ grpIds x.tab all non (groupsM x.tab) ↔ x.s.live id = true ∧ fitE x all non id = true := by
  unfold grpIds groupsM grpL
  simp only [List.mem_flatMap, List.mem_map, List.mem_filter, List.mem_range]
  constructor
  · rintro ⟨g, ⟨m, ⟨⟨k, hk, rfl⟩, h2⟩, rfl⟩, h3⟩
    rw [Int.toNat_natCast] at h3
    dsimp only at h3
    split at h3
    · rename_i hf
      obtain ⟨e, he, rfl⟩ := List.mem_map.1 h3
      have hi : inT x.tab k e.1 := inT_iff.2 ⟨e, he, rfl⟩
      refine ⟨(h.live _).1 ⟨k, hk, hi⟩, ?_⟩
      unfold fitE
      rw [h.home_at hk hi]
      exact hf
    · cases h3
  · rintro ⟨h1, h2⟩
    obtain ⟨m, hm, hi⟩ := (h.live id).2 h1
    unfold fitE at h2
    rw [h.home_at hm hi] at h2
    obtain ⟨e, he, rfl⟩ := inT_iff.1 hi
    refine ⟨_, ⟨(m : Int), ⟨⟨m, hm, rfl⟩, ?_⟩, rfl⟩, ?_⟩
    · rw [Int.toNat_natCast]
      exact decide_eq_true fun e2 => by rw [e2] at he; cases he
    · dsimp only at h2 ⊢
      rw [if_pos h2, Int.toNat_natCast]
      exact List.mem_map.2 ⟨e, he, rfl⟩
theorem grpIds_nodup {x : StM} (h : StOk x) (all non : Int) : (grpIds x.tab all non (groupsM x.tab)).Nodup := by
  unfold grpIds groupsM grpL
  rw [List.flatMap]
  refine List.pairwise_flatten.2 ⟨?_, ?_⟩
  · intro l hl
    simp only [List.mem_map, List.mem_filter, List.mem_range] at hl
    obtain ⟨g, ⟨m, ⟨⟨k, hk, rfl⟩, h2⟩, rfl⟩, rfl⟩ := hl
    dsimp only
    split
    · rw [Int.toNat_natCast]; exact (h.tab k hk).nodup
    · exact List.nodup_nil
  · rw [List.map_map, List.pairwise_map]
    refine List.Pairwise.filter _ ?_
    rw [List.pairwise_map]
    refine (List.pairwise_lt_range (n := 64)).imp_of_mem fun {a b} ha hb hab => ?_
    rw [List.mem_range] at ha hb
    intro y hy1 z hz1 e
    subst e
    simp only [Function.comp_apply, Int.toNat_natCast] at hy1 hz1
    split at hy1
    · split at hz1
      · obtain ⟨e1, he1, rfl⟩ := List.mem_map.1 hy1
        obtain ⟨e2, he2, h3⟩ := List.mem_map.1 hz1
        have := h.uniq a b e1.1 ha hb (inT_iff.2 ⟨e1, he1, rfl⟩) (inT_iff.2 ⟨e2, he2, h3⟩)
        omega
      · cases hz1
    · cases hy1
theorem grpIds_perm {x : StM} (h : StOk x) (all non : Int) : (grpIds x.tab all non (groupsM x.tab)).Perm (withL x all non) := by
  refine (List.perm_ext_iff_of_nodup (grpIds_nodup h all non) (List.Pairwise.filter _ h.s.list_nodup)).2 fun id => ?_

  rw [mem_grpIds h, List.mem_filter, h.s.mem_list]
theorem withL_slots {x : StM} (h : StOk x) (all non : Int) : (withL x all non).Pairwise fun a b => slotOf a < slotOf b := List.Pairwise.filter _ h.s.list_slots
theorem withL_live {x : StM} (h : StOk x) {all non id : Int} (hi : id ∈ withL x all non) : x.s.live id = true := h.s.mem_list.1 (List.mem_filter.1 hi).1
theorem withL_id {x : StM} (h : StOk x) {all non id : Int} (hi : id ∈ withL x all non) : IdOk id := (h.s.live_id (withL_live h hi)).1
theorem withL_len {x : StM} (h : StOk x) (all non : Int) : (withL x all non).length ≤ 1024 := by
  have h1 : (withL x all non).length ≤ x.s.list.length := List.length_filter_le _ _
  have h2 := slots_le h.s h.s.list_nodup fun id hi => h.s.mem_list.1 hi
  have := h.s.le
  omega
/-- sorted by slots, it is that list. -/
theorem withL_sorted {x : StM} (h : StOk x) {all non : Int} {l : List Int} (hp : l.Perm (withL x all non)) (hs : l.Pairwise fun a b => slotOf a ≤ slotOf b) : l = withL x all non := by
  refine List.Perm.eq_of_pairwise (le := fun a b => slotOf a ≤ slotOf b) (fun a b ha hb h1 h2 => ?_) hs ((withL_slots h all non).imp fun h => Int.le_of_lt h) hp
  have ha' : a ∈ withL x all non := hp.mem_iff.1 ha
  obtain ⟨i, hi⟩ := List.mem_iff_getElem?.1 ha'
  obtain ⟨j, hj⟩ := List.mem_iff_getElem?.1 hb
  obtain ⟨hil, hie⟩ := List.getElem?_eq_some_iff.1 hi
  obtain ⟨hjl, hje⟩ := List.getElem?_eq_some_iff.1 hj
  have hw := List.pairwise_iff_getElem.1 (withL_slots h all non)
  rcases Nat.lt_trichotomy i j with hlt | rfl | hlt
  · have := hw i j hil hjl hlt; rw [hie, hje] at this; omega
  · rw [hi] at hj; cases hj; rfl
  · have := hw j i hjl hil hlt; rw [hie, hje] at this; omega

end Go.Proofs.YtkblnhnjagemlaaGreat
