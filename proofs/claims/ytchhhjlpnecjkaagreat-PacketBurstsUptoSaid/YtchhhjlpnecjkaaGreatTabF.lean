/-
  What the exported functions of the program's package table compute.
-/
import Derived.Test.YtchhhjlpnecjkaaGreatTab
namespace Go.Proofs.YtchhhjlpnecjkaaGreat
open Go Go.RowKit Go.Proofs.YtchhhjlpnecjkaaGreat.Den
variable {R : Type} {Q : R → World → Prop} {w : World}

theorem kinds_step {m j : Nat} : ((List.range (j + 1)).filter (Nat.testBit m)).map (fun (k : Nat) => (k : Int)) = ((List.range j).filter (Nat.testBit m)).map (fun (k : Nat) => (k : Int)) ++ (if Nat.testBit m j then [(j : Int)] else []) := by
  rw [List.range_succ, List.filter_append, List.map_append]
  congr 1
  by_cases h : Nat.testBit m j <;> simp [h]

section
variable {lab : Nat → Nat} {b m : Nat} {L : List Ent}

theorem kindsOf_len (m : Nat) : (kindsOf m).length ≤ 6 := by
  rw [kindsOf, List.length_map]
  exact List.length_filter_le _ (List.range 6)

end

section
variable {lab : Nat → Nat} {b m : Nat} {L : List Ent}

def findT (m : Nat) (L : List Ent) (id k : Int) : Int × Int := match rowM L id with
  | none => (0, 7)
  | some i => if k ∈ kindsOf m then ((i : Int), 0) else (0, 10)
theorem compM_at {L : List Ent} {i : Nat} {e : Ent} (h : L[i]? = some e) (k : Int) : compM L i k = (k, fieldsOf e.2 k) := by simp [compM, h]

theorem colM_set {m : Nat} {L : List Ent} (h : TabOk m L) {i : Nat} {e : Ent} {c : Comp} (hi : L[i]? = some e) (hc : checkM c = 0) {k : Nat} (hk6 : k < 6) (hck : c.1 = (k : Int)) (hb : Nat.testBit m k = true) {q : Nat} (hq : q < 6) :
    colM m (setL L i c) q = if q = k then (colM m L k).set i c.2 else colM m L q := by
  have hv := h.valid e (List.mem_of_getElem? hi)
  have hkm : c.1 ∈ kindsOf m := kindsOf_mem.2 ⟨k, hk6, hb, hck⟩
  have hf := (withM_valid h.mask hv hc hkm).2
  rw [setL_eq hi]
  by_cases hqk : q = k
  · subst hqk
    rw [if_pos rfl, colM, colM, if_pos hb, if_pos hb, List.map_set]
    congr 1
    rw [hf _ (by rw [← hck]; exact hkm), if_pos hck.symm]
  · rw [if_neg hqk]
    unfold colM
    split
    · rename_i hbq
      rw [List.map_set]
      have : fieldsOf (withM e.2 c) (q : Int) = fieldsOf e.2 (q : Int) := by
        rw [hf _ (kindsOf_mem.2 ⟨q, hq, hbq, rfl⟩), if_neg (by omega)]
      rw [this]
      apply List.ext_getElem?
      intro p
      rw [List.getElem?_set]
      by_cases hp : i = p
      · subst hp
        have h1 := (List.getElem?_eq_some_iff.1 hi).1
        simp [h1]
        rw [(List.getElem?_eq_some_iff.1 hi).2]
      · rw [if_neg hp]
    · rfl

def setT (m : Nat) (L : List Ent) (id : Int) (c : Comp) : List Ent := if setM m L id c = 0 then setL L ((rowM L id).getD 0) c else L
end

end Go.Proofs.YtchhhjlpnecjkaaGreat
