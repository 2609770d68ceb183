/-
  OrdersNone: its Go text answers true, whatever the input.
-/
import Derived.Test.YtecmpmnaeciapaaGreatArg
import Derived.Test.YtecmpmnaeciapaaGreatOrd2
import Derived.Test.YtecmpmnaeciapaaGreatFL13
namespace Go.Proofs.YtecmpmnaeciapaaGreat
open Go Go.RowKit Go.ChangeShapes Go.WideShapes Go.ChangeAt Go.Proofs.YtecmpmnaeciapaaGreat.Den
variable {R : Type} {Q : R → World → Prop} {w : World}

/-- a literal. -/
theorem Den.litI {E : TypeId} {t : Ty} {cs : List Value} {K : Addr → W R} (l : List t.T) (hc : cs = l.flatMap t.cells) (hm : l.length ≤ 1000) (hk : ∀ w', SlT (Up w.heap.size) w' t ⟨some ⟨w.heap.size, 0, none⟩, l.length, l.length⟩ l → Fr None w w' → K ⟨w.heap.size, 0, none⟩ Q w') : newW E cs K Q w := by
  refine newI fun w1 B1 f1 s1 => hk w1 ?_ f1
  subst hc
  exact (Own.mk' (S := Up w.heap.size) (w := w1) (E := E) (t := t) (l := l) (g := w.heap.size) (c := l.length) (cur := ⟨l.flatMap t.cells⟩) (Nat.le_refl _) B1 (Nat.le_refl _) (by rw [maxLen_eq]; omega) (show (l.flatMap t.cells).length = _ from flat_len l) (by rw [List.take_of_length_le]; rw [flat_len]; exact Nat.le_refl _)).sl

theorem spec_l13_awake {K : Res [.sc .bool] → W R} (hk : ∀ w', Fr None w w' → K true Q w') : callW Tryz.prog k_pinnacelaw13_awake [] [.sc .bool] K Q w := by
  refine C_pinnacelaw13_awake K Q w ?_
  unfold F_pinnacelaw13_awake
  refine spec_store_New (fun h => absurd (by decide) h) fun b w1 _ st1 f1 => ?_
  have hs1 := f1.size
  refine litI (t := ordT) (cs := _) [((1, 0, 0, ⟨none, 0, 0⟩) : OrdRaw), (2, 1024, 0, ⟨none, 0, 0⟩), (2, 1024, 0, ⟨none, 0, 0⟩)] rfl (by decide) fun w2 l2 f2 => ?_
  have hR : DR ordR (t := ordT) (Up w1.heap.size) w2 ⟨some ⟨w1.heap.size, 0, none⟩, 3, 3⟩ [((1, 0, 0, ⟨none, 0, 0⟩) : OrdRaw), (2, 1024, 0, ⟨none, 0, 0⟩), (2, 1024, 0, ⟨none, 0, 0⟩)] [(1, 0, 0, []), (2, 1024, 0, []), (2, 1024, 0, [])] := by
    refine ⟨l2, rfl, fun i a b h1 h2 => ?_⟩
    rcases i with _ | _ | _ | i
    · simp at h1 h2; subst h1; subst h2; exact ⟨rfl, rfl, rfl, SlT.nil _⟩
    · simp at h1 h2; subst h1; subst h2; exact ⟨rfl, rfl, rfl, SlT.nil _⟩
    · simp at h1 h2; subst h1; subst h2; exact ⟨rfl, rfl, rfl, SlT.nil _⟩
    · simp at h1
  refine spec_orders_All (Store.st.fr0 st1.shut f2) hR (fun k _ e e2 => by have e : w1.heap.size ≤ k := e; omega) (fun o ho => ?_) (by decide) fun r w3 G st3 hG o3 f3 => ?_
  · simp only [List.mem_cons, List.not_mem_nil, or_false] at ho
    rcases ho with rfl | rfl | rfl
    · exact ⟨⟨by decide, ⟨by decide, by decide⟩, by decide, by simp⟩, by decide⟩
    · exact ⟨⟨by decide, ⟨by decide, by decide⟩, by decide, by simp⟩, by decide⟩
    · exact ⟨⟨by decide, ⟨by decide, by decide⟩, by decide, by simp⟩, by decide⟩
  have e3 : (allM (StM.new 3 1) [(1, 0, 0, []), (2, 1024, 0, []), (2, 1024, 0, [])]).1 = [(0, 1024), (0, 1024), (7, 0)] := by kernel_rfl
  rw [show Int.toNat 3 = 3 from rfl, e3] at o3
  have f03 : Fr None w w3 := (f1.then0 f2).newer f3 fun k e => e.1
  refine joinK (litI (t := resT) [((0, 1024) : Int × Int), (0, 1024), (7, 0)] rfl (by decide) fun w4 l4 f4 => ?_)
  refine spec_SameResults (o3.sl.fr0 f4) l4 (by decide) fun w5 f5 => ?_
  refine condT (decide_eq_true rfl) (spec_orders_New fun b2 w6 bf6 f6 => ?_)
  refine spec_Push bf6 (by decide) (r := (3, 0, 0, ⟨none, 0, 0⟩)) (o := (3, 0, 0, [])) (ok := fun _ => False) ⟨rfl, rfl, rfl, SlT.nil _⟩ (by decide) fun w7 bf7 f7 => ?_
  have f06 := (((f03.then0 f4).then0 f5).then0 f6)
  have hs5 := ((f03.then0 f4).then0 f5).size
  exact hk w7 (f06.newer f7 fun k e => by have e : w5.heap.size ≤ k := e; omega)

theorem doN_ok (o : Ordr) : (doN o).2 = 0 ∧ ((ochk o ≠ 0 ∧ (doN o).1 = ochk o) ∨ (ochk o = 0 ∧ (doN o).1 = 10)) := by
  unfold doN
  by_cases h : ochk o ≠ 0
  · rw [if_pos h]; exact ⟨rfl, .inl ⟨h, rfl⟩⟩
  · rw [if_neg h]; exact ⟨rfl, .inr ⟨by simpa using h, rfl⟩⟩

/-! ### the row -/
end Go.Proofs.YtecmpmnaeciapaaGreat
