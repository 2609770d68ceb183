/-
  What Add and Remove of the program's package table compute.
-/
import Derived.Test.YtchhhjlpnecjkaaGreatTabF
namespace Go.Proofs.YtchhhjlpnecjkaaGreat
open Go Go.RowKit Go.Proofs.YtchhhjlpnecjkaaGreat.Den
variable {R : Type} {Q : R → World → Prop} {w : World}

section
variable {lab : Nat → Nat} {b m : Nat} {L : List Ent}

def addT (m : Nat) (L : List Ent) (id : Int) (l : List Comp) : List Ent := if addM m L id l = 0 then L ++ [(id, l)] else L
def colJ (m : Nat) (L : List Ent) (l : List Comp) (j : Nat) (k : Nat) : List F3 := if (k : Int) ∈ (l.take j).map (·.1) then colM m L k ++ [fieldsOf l (k : Int)] else colM m L k

theorem colJ_step {m : Nat} {L : List Ent} {l : List Comp} (hr : Rising (l.map (·.1))) {j k : Nat} {x : Comp} (hx : l[j]? = some x) (hk : x.1 = (k : Int)) (q : Nat) :
    colJ m L l (j + 1) q = if q = k then colJ m L l j k ++ [x.2] else colJ m L l j q := by
  have hm : ∀ q : Nat, (q : Int) ∈ (l.take (j + 1)).map (·.1) ↔ (q : Int) ∈ (l.take j).map (·.1) ∨ q = k := by
    intro q
    rw [take_at hx, List.map_append, List.mem_append, List.map_cons, List.map_nil, List.mem_singleton, hk]
    exact or_congr Iff.rfl ⟨fun h => by omega, fun h => by omega⟩
  by_cases hq : q = k
  · subst hq
    have hno : (q : Int) ∉ (l.take j).map (·.1) := by
      intro h
      rw [List.map_take] at h
      obtain ⟨p, hp⟩ := List.mem_iff_getElem?.1 h
      rw [List.getElem?_take] at hp
      split at hp
      · rename_i hpj
        rw [Rising, List.pairwise_iff_getElem] at hr
        have hxj : (l.map (·.1))[j]? = some x.1 := by rw [List.getElem?_map, hx]; rfl
        obtain ⟨h1, h2⟩ := List.getElem?_eq_some_iff.1 hp
        obtain ⟨h3, h4⟩ := List.getElem?_eq_some_iff.1 hxj
        have := hr p j h1 h3 hpj
        rw [h2, h4, hk] at this
        omega
      · cases hp
    rw [if_pos rfl, colJ, if_pos ((hm q).2 (.inr rfl)), colJ, if_neg hno, ← hk, fieldsOf_mem hr (List.mem_of_getElem? hx)]
  · rw [if_neg hq, colJ, colJ]
    by_cases h : (q : Int) ∈ (l.take j).map (·.1)
    · rw [if_pos ((hm q).2 (.inl h)), if_pos h]
    · rw [if_neg (fun h2 => ((hm q).1 h2).elim h hq), if_neg h]
theorem colJ_end {m : Nat} {L : List Ent} {l : List Comp} (hv : Valid m l) {id : Int} {q : Nat} (hq : q < 6) : colJ m L l l.length q = colM m (L ++ [(id, l)]) q := by
  rw [colJ, List.take_length, hv.kinds]
  unfold colM
  by_cases hb : Nat.testBit m q
  · rw [if_pos (kindsOf_mem.2 ⟨q, hq, hb, rfl⟩), if_pos hb, if_pos hb, List.map_append]
    rfl
  · rw [if_neg (fun h => by obtain ⟨k, _, hk, e⟩ := kindsOf_mem.1 h; have : q = k := by omega
                            subst this; exact hb hk), if_neg hb, if_neg hb]

theorem rowM_add {L : List Ent} {id : Int} {l : List Comp} (h : rowM L id = none) (j : Int) : rowM (L ++ [(id, l)]) j = if j = id then some L.length else rowM L j := by
  unfold rowM at *
  rw [List.findIdx?_append]
  by_cases hj : j = id
  · subst hj
    rw [if_pos rfl, h]
    simp
  · rw [if_neg hj]
    have : List.findIdx? (fun e : Ent => e.1 == j) [(id, l)] = none := by simp; exact fun e => hj e.symm
    rw [this]
    cases List.findIdx? (fun e : Ent => e.1 == j) L <;> rfl

def colD (m : Nat) (L : List Ent) (i j : Nat) (k : Nat) : List F3 := if (k : Int) ∈ (kindsOf m).take j then dropI (colM m L k) i else colM m L k
theorem colD_step {m : Nat} {L : List Ent} {i j k : Nat} (hx : (kindsOf m)[j]? = some (k : Int)) (q : Nat) : colD m L i (j + 1) q = if q = k then dropI (colD m L i j k) i else colD m L i j q := by
  have hm : ∀ q : Nat, (q : Int) ∈ (kindsOf m).take (j + 1) ↔ (q : Int) ∈ (kindsOf m).take j ∨ q = k := by
    intro q
    rw [take_at hx, List.mem_append, List.mem_singleton]
    exact or_congr Iff.rfl ⟨fun h => by omega, fun h => by omega⟩
  by_cases hq : q = k
  · subst hq
    have hno : (q : Int) ∉ (kindsOf m).take j := by
      intro h
      obtain ⟨p, hp⟩ := List.mem_iff_getElem?.1 h
      rw [List.getElem?_take] at hp
      split at hp
      · rename_i hpj
        have hr := kindsOf_rising m
        rw [Rising, List.pairwise_iff_getElem] at hr
        obtain ⟨h1, h2⟩ := List.getElem?_eq_some_iff.1 hp
        obtain ⟨h3, h4⟩ := List.getElem?_eq_some_iff.1 hx
        have := hr p j h1 h3 hpj
        rw [h2, h4] at this
        omega
      · cases hp
    rw [if_pos rfl, colD, if_pos ((hm q).2 (.inr rfl)), colD, if_neg hno]
  · rw [if_neg hq, colD, colD]
    by_cases h : (q : Int) ∈ (kindsOf m).take j
    · rw [if_pos ((hm q).2 (.inl h)), if_pos h]
    · rw [if_neg (fun h2 => ((hm q).1 h2).elim h hq), if_neg h]
theorem colD_end {m : Nat} {L : List Ent} {i q : Nat} (hq : q < 6) : colD m L i (kindsOf m).length q = colM m (dropI L i) q := by
  rw [colD, List.take_length]
  unfold colM
  by_cases hb : Nat.testBit m q
  · rw [if_pos (kindsOf_mem.2 ⟨q, hq, hb, rfl⟩), if_pos hb, if_pos hb, dropI_map]
  · rw [if_neg (fun h => by obtain ⟨k, _, hk, e⟩ := kindsOf_mem.1 h; have : q = k := by omega
                            subst this; exact hb hk), if_neg hb, if_neg hb]

end

end Go.Proofs.YtchhhjlpnecjkaaGreat
