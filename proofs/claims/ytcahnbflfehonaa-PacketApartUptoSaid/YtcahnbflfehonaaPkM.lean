/-
  packet: what a writer has written (plainly).
-/
import Derived.Test.YtcahnbflfehonaaSea
namespace Go.Proofs.Ytcahnbflfehonaa
open Go Go.RowKit Go.Proofs.Ytcahnbflfehonaa.Den

/-! ### steps that go well -/
theorem doM_ok {s : WS} {p : Int × List Bool} (h : (doM s p).2 = 0) : s.2 = 0 ∧ p.1 = 0 := by
  unfold doM keepM at h
  dsimp only at h
  split at h
  · exact ⟨by assumption, h⟩
  · exact absurd h (by assumption)
theorem plain_fwd {s : WS} {v n : Int} (hs : s.2 = 0) (hn : 0 ≤ n ∧ n ≤ 64) (hv : v.toNat < 2 ^ n.toNat) (hl : (s.1.length : Int) + n ≤ 1048576) : plainM s v n = (s.1 ++ bitsOf v.toNat n.toNat, 0) := by
  unfold plainM doM putB keepM
  rw [if_neg (by omega), if_neg (by rw [Nat.div_eq_of_lt hv]; simp), if_neg (by omega), if_pos hs]
theorem var_fwd {s : WS} {v : Nat} (hs : s.2 = 0) (hl : s.1.length + 5 * groupsM v ≤ 1048576) : varM s v = (s.1 ++ varB v, 0) := by
  unfold varM doM putVarM keepM
  rw [if_neg (by omega), if_pos hs]

theorem packM_ok (L : List Bool) : ∀ x ∈ packM L, 0 ≤ x ∧ x ≤ 255 := fun x hx => by
  unfold packM at hx
  obtain ⟨j, _, rfl⟩ := List.mem_map.1 hx
  have := byteAt_le L j
  omega

/-! ### nothing has changed -/
theorem rising_lt {l : List Comp} (h : Rising (l.map (·.1))) {p q : Nat} {a b : Comp} (hpq : p < q) (ha : l[p]? = some a) (hb : l[q]? = some b) : a.1 < b.1 := by
  have h : (l.map (·.1)).Pairwise (· < ·) := h
  obtain ⟨h1, rfl⟩ := List.getElem?_eq_some_iff.1 ha
  obtain ⟨h2, rfl⟩ := List.getElem?_eq_some_iff.1 hb
  have := List.pairwise_iff_getElem.1 h p q (by simpa using h1) (by simpa using h2) hpq
  simpa using this
theorem diff_self {was : List Ent} (h : FormOk was) (hL : ∀ e ∈ was, e.2.length ≤ 1048576) : diffE was was = 0 ∧ goneM was was = [] ∧ comeM was was = [] ∧ chgsM was was = [] := by
  have h0 := formOk.2 h
  have hhas : ∀ e ∈ was, hasE was e.1 = true := fun e he => hasE_iff.2 ⟨e, he, rfl⟩
  refine ⟨by unfold diffE; rw [if_neg (by rw [h0]; simp)]; exact h0, ?_, ?_, ?_⟩
  · unfold goneM
    rw [List.map_eq_nil_iff, List.filter_eq_nil_iff]
    intro e he
    rw [hhas e he]; simp
  · unfold comeM
    rw [List.filter_eq_nil_iff]
    intro e he
    rw [hhas e he]; simp
  · unfold chgsM
    rw [List.filterMap_eq_nil_iff]
    intro e he
    obtain ⟨i, hi⟩ := List.mem_iff_getElem?.1 he
    unfold chgOne
    rw [find_at h.rise hi]
    have hrise := (listE_0.1 (h.list he)).2
    have hfind : ∀ c ∈ e.2, findC e.2 c.1 = (c, true) := by
      intro c hc
      obtain ⟨q, hq⟩ := List.mem_iff_getElem?.1 hc
      have : e.2.findIdx? (fun x => x.1 == c.1) = some q := by
        rw [List.findIdx?_eq_some_iff_getElem]
        obtain ⟨hl, hg⟩ := List.getElem?_eq_some_iff.1 hq
        refine ⟨hl, by rw [hg]; simp, fun p hp => ?_⟩
        have := rising_lt hrise hp (List.getElem?_eq_getElem (by omega)) hq
        simp; omega
      unfold findC
      rw [this]
      dsimp only
      rw [hq]
      rfl
    have hn : newM e.2 e.2 = [] := by
      unfold newM
      rw [List.filter_eq_nil_iff]
      intro c hc
      rw [hfind c hc]; simp
    have hs : chM e.2 e.2 = [] := by
      unfold chM
      rw [List.filter_eq_nil_iff]
      intro c hc
      rw [hfind c hc]; simp
    have hlost : lostM e.2 e.2 = 0 := by
      unfold lostM bNot
      rw [show (BitVec.ofInt (IntKind.bits .u8) (maskN e.2 : Int) &&& ~~~BitVec.ofInt (IntKind.bits .u8) (maskN e.2 : Int)) = 0#_ by simp]
      rfl
    have : nothingM (changeM e e) = true := by
      unfold nothingM changeM
      rw [hn, hs, hlost]
      rfl
    dsimp only
    rw [if_pos this]
theorem delta_nil (was : List Ent) (s : WS) : deltaW was s [] [] [] = varM (varM (varM s 0) 0) 0 := rfl

end Go.Proofs.Ytcahnbflfehonaa
