/-
  StorePlays, first part: how many could be taken; a store is alike to the document's.
-/
import Derived.Test.YtecmpmnaeciapaaGreatL11c
import Derived.Test.YtecmpmnaeciapaaGreatRef11d
namespace Go.Proofs.YtecmpmnaeciapaaGreat
open Go Go.RowKit Go.Proofs.YtecmpmnaeciapaaGreat.Den
variable {R : Type} {Q : R → World → Prop} {w : World}

/-! ### how many could be taken -/
def cnd (s : SM) (i : Nat) : Bool := s.used[i]? == some false && (match s.gen[i]? with
  | some g => decide (g < 4194303)
  | none => false)
def roomTo (s : SM) (j : Nat) : Nat := ((List.range j).filter (cnd s)).length
theorem roomTo_le (s : SM) (j : Nat) : roomTo s j ≤ j := by
  unfold roomTo
  have := List.length_filter_le (cnd s) (List.range j)
  rwa [List.length_range] at this
theorem roomTo_succ (s : SM) (j : Nat) : roomTo s (j + 1) = roomTo s j + if cnd s j then 1 else 0 := by
  unfold roomTo
  rw [List.range_succ, List.filter_append, List.length_append]
  by_cases h : cnd s j
  · rw [if_pos h, List.filter_cons_of_pos h]; rfl
  · rw [if_neg h, List.filter_cons_of_neg h]; rfl
theorem room_eq {s : SM} (h : SMOk s) : (roomTo s s.n : Int) = s.room := by
  obtain ⟨d, hd⟩ : ∃ d, s.n = s.fresh + d := ⟨s.n - s.fresh, by have := h.fresh; omega⟩
  have e1 : ∀ k, k ≤ d → roomTo s (s.fresh + k) = roomTo s s.fresh + k := by
    intro k
    induction k with
    | zero => intro _; rfl
    | succ k ih =>
      intro hk
      rw [← Nat.add_assoc, roomTo_succ, ih (by omega)]
      have hlt : s.fresh + k < s.n := by omega
      obtain ⟨g, hg⟩ : ∃ g, s.gen[s.fresh + k]? = some g := ⟨_, List.getElem?_eq_getElem hlt⟩
      have hg0 := h.new _ g hg (by omega)
      have hu : s.used[s.fresh + k]? = some false := by
        obtain ⟨u, hu⟩ : ∃ u, s.used[s.fresh + k]? = some u := ⟨_, List.getElem?_eq_getElem (by rw [h.len]; exact hlt)⟩
        cases u with
        | false => exact hu
        | true => exact absurd (h.unused _ hu) (by omega)
      have : cnd s (s.fresh + k) = true := by unfold cnd; rw [hu, hg, hg0]; decide
      rw [if_pos this]; omega
  have e2 : roomTo s s.fresh = s.free.length := by
    have hm : ∀ x : Int, x ∈ ((List.range s.fresh).filter (cnd s)).map (fun (k : Nat) => (k : Int)) ↔ x ∈ s.free := fun x => by
      rw [h.free, List.mem_map]
      constructor
      · rintro ⟨i, hi, rfl⟩
        rw [List.mem_filter, List.mem_range] at hi
        obtain ⟨h1, h2⟩ := hi
        unfold cnd at h2
        rw [Bool.and_eq_true] at h2
        obtain ⟨h2, h3⟩ := h2
        cases hg : s.gen[i]? with
        | none => rw [hg] at h3; cases h3
        | some g => rw [hg] at h3; exact ⟨i, rfl, h1, by simpa using h2, g, hg, by simpa using h3⟩
      · rintro ⟨i, rfl, h1, h2, g, h3, h4⟩
        refine ⟨i, ?_, rfl⟩
        rw [List.mem_filter, List.mem_range]
        exact ⟨h1, by unfold cnd; rw [h2, h3]; simp [h4]⟩
    have hn : (((List.range s.fresh).filter (cnd s)).map (fun (k : Nat) => (k : Int))).Nodup := by
      refine List.Pairwise.map _ (fun a b hab e => hab (by omega)) (List.Pairwise.filter _ List.nodup_range)
    have hp := ((List.perm_ext_iff_of_nodup hn h.nodup).2 hm).length_eq
    rw [List.length_map] at hp
    exact hp
  have := e1 d (Nat.le_refl _)
  rw [← hd, e2] at this
  unfold SM.room
  omega
section
variable {F : Nat → Prop} {b : Nat} {s : SM}
theorem s7_ListR (h : S7O b s F w) {K : Res [.sc .sl, .sc (.int .i64)] → W R} (hk : ∀ r w', Own (Up w.heap.size) w' 37 idT r s.list → Fr None w w' → K (r, s.room) Q w') :
    callW Tryz.prog k_pinnaceref07_List [.pointer (some ⟨b, 0, none⟩)] [.sc .sl, .sc (.int .i64)] K Q w := by
  obtain ⟨hs, sl, ones, clock, hF, B, ho, hM⟩ := h
  refine C_pinnaceref07_List _ K Q w ?_
  unfold F_pinnaceref07_List
  refine condF rfl (ptrI (fldI B (x := sl) rfl ?_))
  have hlen := hM.len
  have hle := hs.le
  refine rangeC (t := oneT) (l := ones) (ok := fun _ => True) (fun s : Sl × Int × Int => s.2.2) (fun j st w' => st.2.2 = (j : Int) ∧ st.2.1 = (roomTo s j : Int) ∧ Fr None w w' ∧ Own (Up w.heap.size) w' 37 idT st.1 (s.ids j)) rfl rfl rfl ⟨rfl, rfl, Fr.refl _ _, Own.nil _ _ _ _⟩ (fun j s w' h => h.1) (fun j st w' hp => (ho.sl.mono fun _ _ _ => trivial).fr0 hp.2.2.1) ?_ ?_
  · rintro j x ⟨out, room, _⟩ w1 w2 K' hx ⟨rfl, hroom, f1, ow⟩ - B2 f2 s2 hK
    have hroom : room = (roomTo s j : Int) := hroom
    subst hroom
    have hjl := (List.getElem?_eq_some_iff.1 hx).1
    have f02 := f1.then0 f2
    have hil := SM.ids_len hs.len (j := j) (by omega)
    have hcl : ((s.used.take j).countP (fun b => b)) ≤ (s.used.take j).length := List.countP_le_length
    have hidl : (s.ids j).length ≤ 1024 := by simp at hcl; omega
    have hgx : s.gen[j]? = some x.1 := by rw [← hM.gen, List.getElem?_map, hx]; rfl
    have hux : s.used[j]? = some x.2.1 := by rw [← hM.used, List.getElem?_map, hx]; rfl
    have hrl := roomTo_le s j
    refine fldI B2 (x := x.2.1) rfl ?_
    refine joinI (fun (z : Sl × Int) w' => z.2 = (roomTo s (j + 1) : Int) ∧ Fr None w w' ∧ Own (Up w.heap.size) w' 37 idT z.1 (s.ids (j + 1))) ?_ ?_
    · rw [roomTo_succ]
      refine condI (fun hu => ?_) fun hu => ?_
      · rw [hu] at hux
        have hg := hs.old j x.1 hgx (hs.unused j hux)
        have hc : cnd s j = false := by unfold cnd; rw [hux]; rfl
        refine fldI B2 (x := x.1) rfl (spec_r7_Make (by omega) hg.1 hg.2 ?_)
        have e : s.ids (j + 1) = s.ids j ++ [idOf j x.1] := by rw [SM.ids, hux, hgx]
        rw [e, hc]
        have o2 := ow.none f2
        have hs1 := f02.size
        exact appF ids_ty (x := idOf j x.1) rfl o2 hs1 (by omega) (by omega) fun r w3 o3 f3 _ => ⟨by simp, (f02.up.thenOwn o2 f3).ofUp (Nat.le_refl _), o3⟩
      · rw [hu] at hux
        have e : s.ids (j + 1) = s.ids j := by rw [SM.ids, hux, hgx]; simp
        rw [e]
        have hc : cnd s j = decide (x.1 < 4194303) := by unfold cnd; rw [hux, hgx]; rfl
        rw [hc]
        refine fldI B2 (x := x.1) rfl (joinK (condD (fun hlt => ⟨?_, f02, ow.none f2⟩) fun hge => ⟨?_, f02, ow.none f2⟩))
        · rw [decide_eq_true hlt, if_pos rfl]
          show IntKind.wrap .i64 _ = _
          rw [w64 (by omega)]
          omega
        · rw [decide_eq_false hge]
          simp
    · rintro ⟨z, room2⟩ w3 ⟨hr, f3, o3⟩
      exact hK _ _ ⟨wsucc (N := ones.length) hjl (by omega), hr, f3, o3⟩
  · rintro ⟨out, room, _⟩ w1 ⟨-, hr, f1, ow⟩
    have hr : room = (roomTo s ones.length : Int) := hr
    subst hr
    rw [hlen] at ow ⊢
    rw [room_eq hs]
    exact hk out w1 ow f1
end

/-! ### groups, from a number on -/
def grpF (T : Nat → List Ent) (n : Nat) : List (Int × List Int) := grpL T ((List.range' n (64 - n)).map fun (k : Nat) => (k : Int))
theorem grpF_0 (T : Nat → List Ent) : grpF T 0 = groupsM T := by unfold grpF groupsM; rw [List.range_eq_range']
theorem grpF_some {T : Nat → List Ent} {n : Nat} (h : n < 64) (hT : T n ≠ []) : grpF T n = ((n : Int), (T n).map (·.1)) :: grpF T (n + 1) := by
  unfold grpF
  obtain ⟨d, hd⟩ : ∃ d, 64 - n = d + 1 := ⟨63 - n, by omega⟩
  have hd2 : 64 - (n + 1) = d := by omega
  rw [hd, hd2, List.range'_succ, List.map_cons]
  unfold grpL
  rw [List.filter_cons_of_pos (by simpa using hT)]; simp
theorem grpF_none {T : Nat → List Ent} {n : Nat} (h : n < 64) (hT : T n = []) : grpF T n = grpF T (n + 1) := by
  unfold grpF
  obtain ⟨d, hd⟩ : ∃ d, 64 - n = d + 1 := ⟨63 - n, by omega⟩
  have hd2 : 64 - (n + 1) = d := by omega
  rw [hd, hd2, List.range'_succ, List.map_cons]
  unfold grpL
  rw [List.filter_cons_of_neg (by simpa using hT)]
theorem grpF_end (T : Nat → List Ent) : grpF T 64 = [] := rfl

end Go.Proofs.YtecmpmnaeciapaaGreat
