/-
  What the functions of the document's layer 10 (a table as a list) compute.
-/
import Derived.Test.YtchhhjlpnecjkaaGreatTabG
namespace Go.Proofs.YtchhhjlpnecjkaaGreat
open Go Go.RowKit Go.Proofs.YtchhhjlpnecjkaaGreat.Den
variable {R : Type} {Q : R → World → Prop} {w : World}

abbrev entT : Ty := .agg [.int .u32, .sl]
abbrev entC (r : Int × Sl) : List Value := [.int .u32 r.1, .slice r.2.a r.2.n r.2.c]
theorem ents_ty : SlTy Tryz.prog 23 57 entT 32 := slTy (by kernel_rfl)

/-- entities as they lie in memory: their lists lie in blocks of ok. -/
structure EntsR (ok : Nat → Prop) (w : World) (raws : List (Int × Sl)) (L : List Ent) : Prop where
  len : raws.length = L.length
  at_ : ∀ (i : Nat) (r : Int × Sl) (e : Ent), raws[i]? = some r → L[i]? = some e → r.1 = e.1 ∧ SlT ok w compT r.2 e.2
theorem EntsR.fr {ok S : Nat → Prop} {w' : World} {raws : List (Int × Sl)} {L : List Ent} (h : EntsR ok w raws L) (f : Fr S w w') (hn : ∀ k, ok k → ¬ S k) : EntsR ok w' raws L :=
  ⟨h.len, fun i r e h1 h2 => ⟨(h.at_ i r e h1 h2).1, (h.at_ i r e h1 h2).2.fr f hn⟩⟩
theorem EntsR.mono {ok ok' : Nat → Prop} {raws : List (Int × Sl)} {L : List Ent} (h : EntsR ok w raws L) (hn : ∀ k, k < w.heap.size → ok k → ok' k) : EntsR ok' w raws L :=
  ⟨h.len, fun i r e h1 h2 => ⟨(h.at_ i r e h1 h2).1, (h.at_ i r e h1 h2).2.mono hn⟩⟩
theorem EntsR.get {ok : Nat → Prop} {raws : List (Int × Sl)} {L : List Ent} (h : EntsR ok w raws L) {i : Nat} {e : Ent} (he : L[i]? = some e) : ∃ r, raws[i]? = some r ∧ r.1 = e.1 ∧ SlT ok w compT r.2 e.2 := by
  obtain ⟨hl, _⟩ := List.getElem?_eq_some_iff.1 he
  have hr := List.getElem?_eq_getElem (l := raws) (i := i) (by rw [h.len]; exact hl)
  exact ⟨_, hr, h.at_ i _ e hr he⟩
theorem EntsR.nil (ok : Nat → Prop) (w : World) : EntsR ok w [] [] := ⟨rfl, fun i r e h => by simp at h⟩

section
variable {lab : Nat → Nat} {b m : Nat} {s : Sl} {raws : List (Int × Sl)} {L : List Ent}
theorem EntsR.relab (h : EntsR (fun k => lab k = 3) w raws L) (n' c : Nat) : EntsR (fun k => relab lab w.heap.size n' c k = 3) w raws L := h.mono fun k hk e => by rw [relab_lt hk]; exact e
end

section
variable {lab : Nat → Nat} {b m : Nat} {L : List Ent}

def rowI (L : List Ent) (id : Int) : Int := match rowM L id with
  | some i => (i : Int)
  | none => -1
theorem findM_valid {m : Nat} {l : List Comp} (h : Valid m l) (k : Int) : (findM l k < 0 ∧ k ∉ kindsOf m) ∨ (∃ q : Nat, findM l k = (q : Int) ∧ l[q]? = some (k, fieldsOf l k) ∧ k ∈ kindsOf m) := by
  unfold findM
  cases hf : l.findIdx? (fun c => c.1 == k) with
  | none =>
    left
    refine ⟨by simp, fun hk => ?_⟩
    rw [List.findIdx?_eq_none_iff] at hf
    rw [← h.kinds] at hk
    obtain ⟨c, hc, rfl⟩ := List.mem_map.1 hk
    have := hf c hc
    simp at this
  | some q =>
    right
    rw [List.findIdx?_eq_some_iff_getElem] at hf
    obtain ⟨hq, h1, _⟩ := hf
    have h1 : (l[q]).1 = k := by simpa using h1
    refine ⟨q, rfl, ?_, ?_⟩
    · rw [List.getElem?_eq_getElem hq, ← h1, fieldsOf_mem h.rising (List.getElem_mem hq)]
    · rw [← h.kinds, ← h1]; exact List.mem_map_of_mem (List.getElem_mem hq)

theorem getM_err (m : Nat) (L : List Ent) (id k : Int) : (getM m L id k).2 = match rowM L id with
    | none => 7
    | some _ => if k ∈ kindsOf m then 0 else 10 := by
  unfold getM
  cases rowM L id with
  | none => rfl
  | some i => simp only []; split <;> rfl

theorem EntsR.drop {ok : Nat → Prop} {raws : List (Int × Sl)} {L : List Ent} (h : EntsR ok w raws L) (i : Nat) : EntsR ok w (dropI raws i) (dropI L i) := by
  refine ⟨by rw [dropI_len, dropI_len, h.len], fun q r e h1 h2 => ?_⟩
  by_cases h0 : L = []
  · subst h0; simp [dropI] at h2
  · have hp : 0 < L.length := List.length_pos_iff.2 h0
    have hl := h.len
    obtain ⟨z, hz⟩ : ∃ z, raws[raws.length - 1]? = some z := ⟨_, List.getElem?_eq_getElem (by omega)⟩
    obtain ⟨y, hy⟩ : ∃ y, L[L.length - 1]? = some y := ⟨_, List.getElem?_eq_getElem (by omega)⟩
    rw [dropI_get hz] at h1
    rw [dropI_get hy] at h2
    rw [hl] at h1
    by_cases hq : q < L.length - 1
    · rw [if_pos hq] at h1 h2
      by_cases hqi : q = i
      · rw [if_pos hqi] at h1 h2
        cases h1; cases h2
        rw [hl] at hz
        exact h.at_ _ _ _ hz hy
      · rw [if_neg hqi] at h1 h2
        exact h.at_ q r e h1 h2
    · rw [if_neg hq] at h1; cases h1

theorem spec_r10_SameEnt {ok ok2 : Nat → Prop} {id id2 : Int} {s s2 : Sl} {l l2 : List Comp} (hS : SlT ok w compT s l) (hS2 : SlT ok2 w compT s2 l2) (hm : Small l) {K : Res [.sc .bool] → W R} (hk : ∀ w', Fr None w w' → K (decide (id = id2 ∧ l = l2)) Q w') :
    callW Tryz.prog k_pinnaceref10_SameEnt [.agg ⟨entC (id, s)⟩, .agg ⟨entC (id2, s2)⟩] [.sc .bool] K Q w := by
  refine C_pinnaceref10_SameEnt (id, s) (id2, s2) K Q w ?_
  unfold F_pinnaceref10_SameEnt
  refine newI fun w1 B1 f1 s1 => newI fun w2 B2 f2 s2' => ?_
  have B12 := B1.fr f2 fun h => h
  refine joinK ?_
  refine fldI B12 (x := id) rfl ?_
  refine fldI B2 (x := id2) rfl ?_
  have f02 := f1.then0 f2
  refine condE (fun h => ?_) fun h => ?_
  · refine fldI B12 (x := s) rfl ?_
    refine fldI B2 (x := s2) rfl ?_
    refine spec_r5_Same (hS.fr0 f02) (hS2.fr0 f02) hm fun w3 f3 => ?_
    have e := hk w3 (f02.then0 f3)
    have : decide (id = id2 ∧ l = l2) = decide (l = l2) := decide_eq_decide.2 ⟨fun h => h.2, fun h2 => ⟨h, h2⟩⟩
    rw [this] at e
    exact e
  · have e := hk w2 f02
    rw [decide_eq_false (fun h2 => h h2.1)] at e
    exact e

end

end Go.Proofs.YtchhhjlpnecjkaaGreat
