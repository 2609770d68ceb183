/-
  The document's layer 7, third part: freeing, listing.
-/
import Derived.Test.YtecmpmnaeciapaaGreatRef7b
namespace Go.Proofs.YtecmpmnaeciapaaGreat
open Go Go.RowKit Go.Proofs.YtecmpmnaeciapaaGreat.Den
variable {R : Type} {Q : R → World → Prop} {w : World}
section
variable {F : Nat → Prop} {b : Nat} {s : SM}

theorem s7_Free (h : S7O b s F w) {id : Int} (hid : IdOk id) (hl : s.live id = true) {K : Res [.sc (.int .i64)] → W R} (hk : ∀ w', S7O b (s.freed id) F w' → Fr F w w' → K 0 Q w') :
    callW Tryz.prog k_pinnaceref07_Free [.pointer (some ⟨b, 0, none⟩), .int .u32 id] [.sc (.int .i64)] K Q w := by
  refine C_pinnaceref07_Free _ _ K Q w ?_
  unfold F_pinnaceref07_Free
  refine condF rfl (s7_Live h hid fun w1 f1 => ?_)
  rw [hl]
  obtain ⟨hs, sl, ones, clock, hF, B, ho, hM⟩ := S7O.st.fr0 h f1
  obtain ⟨hu, hg⟩ := SM.live_iff.1 hl
  have hr := slot_range id
  have hclk := hM.clock_le hs
  have hc0 := hM.c0
  have hq : (slotOf id).toNat < s.n := (List.getElem?_eq_some_iff.1 hg).1
  obtain ⟨o, hoq, hog, hou⟩ := hM.at_ hq
  rw [hu] at hou
  rw [hg] at hog
  have hgo : o.1 = genOf id := (Option.some.inj hog).symm
  have huo : o.2.1 = true := (Option.some.inj hou).symm
  have eq : ((slotOf id).toNat : Int) = slotOf id := by omega
  have hno : (((slotOf id).toNat : Nat) : Int) ∉ s.free := fun hm => by
    obtain ⟨i, e, _, hu2, _⟩ := hs.freeGet hm
    have : (slotOf id).toNat = i := by omega
    rw [this, hu2] at hu
    cases hu
  have hn0 : ∀ x ∈ s.free, 0 ≤ x := fun x hx => by obtain ⟨i', e, _⟩ := hs.freeGet hx; omega
  obtain ⟨m1, m2⟩ := hM.off hoq huo hno hn0
  have hlen := hM.len
  have hne : ∀ {S : Nat → Prop} {w' : World} {l : List One}, Own (fun k => F k ∧ k ≠ b) w' 166 oneT sl l → ¬ (sl.v.ownBlock = some b) := fun o e => (o.own b e).2 rfl
  have hnb : ¬ (sl.v.ownBlock = some b) := fun e => (ho.own b e).2 rfl
  refine condF rfl (spec_r7_SlotR hid ?_)
  rw [← eq]
  generalize hqq : (slotOf id).toNat = q at *
  have hql : q < ones.length := by omega
  refine ptrI (fldI B (x := sl) rfl ?_)
  refine ho.idx rfl (by omega) (by omega) fun g u hgg hu1 _ => ?_
  rw [Int.toNat_natCast] at hu1 ⊢
  rw [hoq] at hu1
  cases hu1
  rw [add_lit]
  refine ho.setFld (i := q) (j := 1) (x' := ((o.1, false, o.2.2) : One)) hoq hgg (show 1 < 3 by omega) rfl rfl fun w2 o2 f2 s2 => ?_
  have B2 := B.fr f2 hnb
  have hq2 : (ones.set q (o.1, false, o.2.2))[q]? = some (o.1, false, o.2.2) := by rw [List.getElem?_set_self hql]
  refine ptrI (fldI B2 (x := sl) rfl ?_)
  refine o2.sl.fldL rfl hq2 (c := .int .i64) (q := 0) (y := o.1) rfl ?_
  have f02 : Fr F w w2 := f1.any.then (f2.sub fun k e => (ho.own k e).1)
  refine joinI (fun (_ : Unit) w' => S7O b (s.freed id) F w' ∧ Fr F w w') ?_ fun _ w3 ⟨h3, f3⟩ => hk w3 h3 f3
  rw [hgo]
  refine condD (fun hlt => ?_) fun hge => ⟨⟨hs.freed hl, sl, _, clock, hF, ?_, o2, ?_⟩, f02⟩
  · refine ptrI (fldI B2 (x := clock) rfl (ptrI (setA (i := 2) B2 (show 2 < 3 by omega) rfl fun w3 B3 f3 s3 => ?_)))
    rw [w64 (x := clock + 1) (by omega)] at B3
    have o3 := o2.fr f3 fun k hk e => hk.2 e
    have fd : Fr None w3 w3.drew := (Fr.refl _ _).drew
    refine ptrI (fldI B3.drew (x := sl) rfl (ptrI (fldI B3.drew (x := clock + 1) rfl ?_)))
    have o3d := o3.none fd
    refine o3d.idx rfl (by omega) (by rw [List.length_set]; omega) fun g u hgg hu1 _ => ?_
    rw [Int.toNat_natCast] at hu1 ⊢
    rw [hq2] at hu1
    cases hu1
    rw [add_lit]
    refine o3d.setFld (i := q) (j := 2) (x' := ((o.1, false, clock + 1) : One)) hq2 hgg (show 2 < 3 by omega) rfl rfl fun w4 o4 f4 s4 => ⟨⟨hs.freed hl, sl, _, clock + 1, hF, ?_, o4, ?_⟩, ?_⟩
    · exact B3.drew.fr f4 hnb
    · rw [List.set_set]
      have e : s.freed id = { s with used := s.used.set q false, free := s.free ++ [(q : Int)] } := by
        unfold SM.freed
        rw [hqq, if_pos hlt, eq]
      rw [e]
      exact m1
    · exact ((f02.then (f3.sub fun k e => by rw [e]; exact hF)).then fd.any).then (f4.sub fun k e => (o3d.own k e).1)
  · exact B2
  · have e : s.freed id = { s with used := s.used.set q false } := by
      unfold SM.freed
      rw [hqq, if_neg hge]
    rw [e]
    exact m2

theorem s7_List (h : S7O b s F w) {K : Res [.sc .sl, .sc (.int .i64)] → W R} (hk : ∀ r room w', Own (Up w.heap.size) w' 37 idT r s.list → Fr None w w' → K (r, room) Q w') :
    callW Tryz.prog k_pinnaceref07_List [.pointer (some ⟨b, 0, none⟩)] [.sc .sl, .sc (.int .i64)] K Q w := by
  obtain ⟨hs, sl, ones, clock, hF, B, ho, hM⟩ := h
  refine C_pinnaceref07_List _ K Q w ?_
  unfold F_pinnaceref07_List
  refine condF rfl (ptrI (fldI B (x := sl) rfl ?_))
  have hlen := hM.len
  have hle := hs.le
  refine rangeC (t := oneT) (l := ones) (ok := fun _ => True) (fun s : Sl × Int × Int => s.2.2) (fun j st w' => st.2.2 = (j : Int) ∧ Fr None w w' ∧ Own (Up w.heap.size) w' 37 idT st.1 (s.ids j)) rfl rfl rfl ⟨rfl, Fr.refl _ _, Own.nil _ _ _ _⟩ (fun j s w' h => h.1) (fun j st w' hp => (ho.sl.mono fun _ _ _ => trivial).fr0 hp.2.1) ?_ ?_
  · rintro j x ⟨out, room, _⟩ w1 w2 K' hx ⟨rfl, f1, ow⟩ - B2 f2 s2 hK
    have hjl := (List.getElem?_eq_some_iff.1 hx).1
    have f02 := f1.then0 f2
    have hil := SM.ids_len hs.len (j := j) (by omega)
    have hcl : ((s.used.take j).countP (fun b => b)) ≤ (s.used.take j).length := List.countP_le_length
    have hidl : (s.ids j).length ≤ 1024 := by simp at hcl; omega
    have hgx : s.gen[j]? = some x.1 := by rw [← hM.gen, List.getElem?_map, hx]; rfl
    have hux : s.used[j]? = some x.2.1 := by rw [← hM.used, List.getElem?_map, hx]; rfl
    refine fldI B2 (x := x.2.1) rfl ?_
    refine joinI (fun (z : Sl × Int) w' => Fr None w w' ∧ Own (Up w.heap.size) w' 37 idT z.1 (s.ids (j + 1))) ?_ ?_
    · refine condI (fun hu => ?_) fun hu => ?_
      · rw [hu] at hux
        have hg := hs.old j x.1 hgx (hs.unused j hux)
        refine fldI B2 (x := x.1) rfl (spec_r7_Make (by omega) hg.1 hg.2 ?_)
        have e : s.ids (j + 1) = s.ids j ++ [idOf j x.1] := by rw [SM.ids, hux, hgx]
        rw [e]
        have o2 := ow.none f2
        have hs1 := f02.size
        exact appF ids_ty (x := idOf j x.1) rfl o2 hs1 (by omega) (by omega) fun r w3 o3 f3 _ => ⟨(f02.up.thenOwn o2 f3).ofUp (Nat.le_refl _), o3⟩
      · rw [hu] at hux
        have e : s.ids (j + 1) = s.ids j := by rw [SM.ids, hux, hgx]; simp
        rw [e]
        exact fldI B2 (x := x.1) rfl (joinK (condI (fun _ => ⟨f02, ow.none f2⟩) fun _ => ⟨f02, ow.none f2⟩))
    · rintro ⟨z, room2⟩ w3 ⟨f3, o3⟩
      exact hK _ _ ⟨wsucc (N := ones.length) hjl (by omega), f3, o3⟩
  · rintro ⟨out, room, _⟩ w1 ⟨-, f1, ow⟩
    rw [hlen] at ow
    exact hk out room w1 ow f1
end

end Go.Proofs.YtecmpmnaeciapaaGreat
