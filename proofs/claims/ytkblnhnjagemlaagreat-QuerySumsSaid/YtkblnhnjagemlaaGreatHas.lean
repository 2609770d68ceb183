/-
  Literals, fields of things in lists; what becomes of one entity leaves the others; lists of lists that come in (parts of XL11 and XL11c, for other seats).
-/
import Derived.Test.YtkblnhnjagemlaaGreatGrp
import Derived.Test.YtkblnhnjagemlaaGreatArg
import Derived.Test.YtkblnhnjagemlaaGreatRef10
namespace Go.Proofs.YtkblnhnjagemlaaGreat
open Go Go.RowKit Go.ChangeShapes Go.WideShapes Go.ChangeAt Go.Proofs.YtkblnhnjagemlaaGreat.Den
variable {R : Type} {Q : R → World → Prop} {w : World} {H : Type} {enc : TypeId × Value → H}

/-- a literal. -/
theorem Den.litJ {E : TypeId} {t : Ty} {cs : List Value} {K : Addr → W R} (l : List t.T) (hc : cs = l.flatMap t.cells) (hm : l.length ≤ 1000) (hk : ∀ w', SlT (Up w.heap.size) w' t ⟨some ⟨w.heap.size, 0, none⟩, l.length, l.length⟩ l → Fr None w w' → w'.heap.size = w.heap.size + 1 → K ⟨w.heap.size, 0, none⟩ Q w') : newW E cs K Q w := by
  refine newI fun w1 B1 f1 s1 => hk w1 ?_ f1 s1
  subst hc
  exact (Own.mk' (S := Up w.heap.size) (w := w1) (E := E) (t := t) (l := l) (g := w.heap.size) (c := l.length) (cur := ⟨l.flatMap t.cells⟩) (Nat.le_refl _) B1 (Nat.le_refl _) (by rw [maxLen_eq]; omega) (show (l.flatMap t.cells).length = _ from flat_len l) (by rw [List.take_of_length_le]; rw [flat_len]; exact Nat.le_refl _)).sl
/-- a field of a thing in a list. -/
theorem Den.SlT.getF {ok : Nat → Prop} {t : Ty} {s : Sl} {l : List t.T} (h : SlT ok w t s l) {sz : Nat} (hsz : sz = t.size) {i : Int} {j : Nat} (hi : i = j) {x : t.T} (hj : l[j]? = some x) {q : Nat} {c : Sc} {y : c.T} (hq : (t.cells x)[q]? = some (c.e y)) {K : c.T → W R} (hk : K y Q w) :
    (idxW s.a s.n sz i fun a => ld (.sc c) (Addr.add a q) K) Q w := by
  subst hi; subst hsz
  have hjl := (List.getElem?_eq_some_iff.1 hj).1
  have hn := h.len
  rcases h.at_ with e | ⟨b, o, ha, _, _, hrd⟩
  · rw [e] at hjl; simp at hjl
  · rw [ha]
    refine ⟨_, rfl, by omega, by omega, ?_⟩
    have := hrd j x hj
    rw [add_lit, Int.toNat_natCast]
    exact ⟨y, (Rd.cells.1 this) q _ hq, hk⟩

/-- a thing of a list, with its place. -/
theorem Den.SlT.read {ok : Nat → Prop} {t : Ty} {s : Sl} {l : List t.T} (h : SlT ok w t s l) {sz : Nat} (hsz : sz = t.size) {i : Int} {j : Nat} (hi : i = j) {x : t.T} (hj : l[j]? = some x) {K : Addr → W R} (hk : ∀ a, Rd w a t x → K a Q w) :
    (idxW s.a s.n sz i K) Q w := by
  subst hi; subst hsz
  have hjl := (List.getElem?_eq_some_iff.1 hj).1
  have hn := h.len
  rcases h.at_ with e | ⟨b, o, ha, _, _, hrd⟩
  · rw [e] at hjl; simp at hjl
  · rw [ha]
    refine ⟨_, rfl, by omega, by omega, hk _ ?_⟩
    rw [add_lit, Int.toNat_natCast]
    exact hrd j x hj

theorem listE_small {l : List Comp} (h : listE l = 0) : l.length ≤ 6 := (Valid.mk h rfl : Valid (maskN l) l).small
theorem spec_r7_Slot {id : Int} (hid : IdOk id) {K : Res [.sc (.int .i64)] → W R} (hk : K (slotOf id) Q w) : callW Tryz.prog k_pinnaceref07_Slot [.int .u32 id] [.sc (.int .i64)] K Q w := by
  refine C_pinnaceref07_Slot _ K Q w ?_
  unfold F_pinnaceref07_Slot
  obtain ⟨h1, h2⟩ := hid
  have e : Int.tmod (IntKind.wrap .i64 id) 1024 = slotOf id := by rw [w64 (by omega), Int.tmod_eq_emod_of_nonneg h1]; rfl
  rw [e]
  exact hk

/-! ### the model: what becomes of one leaves all others -/
theorem mem_dropI {α : Type} {L : List α} {i : Nat} {a e : α} (hi : L[i]? = some a) (he : e ∈ L) (hne : e ≠ a) : e ∈ dropI L i := by
  have hil := (List.getElem?_eq_some_iff.1 hi).1
  obtain ⟨j, hj⟩ := List.mem_iff_getElem?.1 he
  have hjl := (List.getElem?_eq_some_iff.1 hj).1
  have hji : j ≠ i := fun h => by subst h; rw [hi] at hj; exact hne (Option.some.inj hj).symm
  have hz := List.getElem?_eq_getElem (l := L) (i := L.length - 1) (by omega)
  unfold dropI
  rw [hz]
  by_cases hlast : j = L.length - 1
  · subst hlast
    rw [hz] at hj
    have hez := Option.some.inj hj
    refine List.mem_of_getElem? (i := i) ?_
    rw [List.getElem?_take, if_pos (by omega), List.getElem?_set_self hil, hez]
  · refine List.mem_of_getElem? (i := j) ?_
    rw [List.getElem?_take, if_pos (by omega), List.getElem?_set_ne (Ne.symm hji)]
    exact hj
theorem StOk.at_of2 {x : StM} (h : StOk x) {m i : Nat} {e : Ent} (hm : m < 64) (he : (x.tab m)[i]? = some e) : x.at e.1 = some (m, i, e) := by
  have hr := rowM_at (h.tab m hm).nodup he
  have hh := h.home_at hm (show inT x.tab m e.1 from by unfold inT; rw [hr]; rfl)
  unfold StM.at
  rw [hh]
  simp only [hr, he]
/-- entity e stands in a table. -/
def Has (x : StM) (e : Ent) : Prop := ∃ m, m < 64 ∧ e ∈ x.tab m
theorem StOk.ent_has {x : StM} (h : StOk x) {e : Ent} (he : Has x e) : x.ent e.1 = (e, 0) := by
  obtain ⟨m, hm, hi⟩ := he
  obtain ⟨i, hi⟩ := List.mem_iff_getElem?.1 hi
  unfold StM.ent
  rw [h.at_of2 hm hi]
theorem StOk.has_of {x : StM} (h : StOk x) {id : Int} (hl : x.s.live id = true) : ∃ e, Has x e ∧ e.1 = id ∧ x.ent id = (e, 0) := by
  have := h.at_live id
  rw [hl] at this
  obtain ⟨⟨m, i, e⟩, ha⟩ := Option.isSome_iff_exists.1 this
  obtain ⟨_, h1, _, h2, h3, _⟩ := h.at_some ha
  exact ⟨e, ⟨m, h1, List.mem_of_getElem? h2⟩, h3, by unfold StM.ent; rw [ha]⟩
theorem has_drop {T : Nat → List Ent} {m i : Nat} {a e : Ent} (hi : (T m)[i]? = some a) (hne : e.1 ≠ a.1) {k : Nat} (he : e ∈ T k) : e ∈ upd T m (dropI (T m) i) k := by
  by_cases hk : k = m
  · subst hk; rw [upd_same]; exact mem_dropI hi he fun h => hne (by rw [h])
  · rw [upd_other hk]; exact he
theorem has_put {T : Nat → List Ent} {id : Int} {l : List Comp} {e : Ent} {k : Nat} (he : e ∈ T k) : e ∈ putT T id l k := by
  unfold putT
  by_cases hk : k = maskN l
  · subst hk; rw [upd_same]; exact List.mem_append_left _ he
  · rw [upd_other hk]; exact he
theorem apart_despawn {x : StM} (h : StOk x) {id : Int} {e : Ent} (hne : e.1 ≠ id) (he : Has x e) : Has (x.despawn id).2 e := by
  obtain ⟨k, hk, hi⟩ := he
  unfold StM.despawn
  cases ha : x.at id with
  | none => exact ⟨k, hk, hi⟩
  | some p =>
    obtain ⟨m, i, a⟩ := p
    obtain ⟨_, _, _, h2, h3, _⟩ := h.at_some ha
    exact ⟨k, hk, has_drop h2 (by rw [h3]; exact hne) hi⟩
theorem apart_set {x : StM} (h : StOk x) {id : Int} {c : Comp} {e : Ent} (hne : e.1 ≠ id) (he : Has x e) : Has (x.set id c).2 e := by
  obtain ⟨k, hk, hi⟩ := he
  unfold StM.set
  split
  · exact ⟨k, hk, hi⟩
  · cases ha : x.at id with
    | none => exact ⟨k, hk, hi⟩
    | some p =>
      obtain ⟨m, i, a⟩ := p
      obtain ⟨_, _, _, h2, h3, _⟩ := h.at_some ha
      simp only
      split
      · refine ⟨k, hk, ?_⟩
        show e ∈ upd _ _ _ k
        by_cases hkm : k = m
        · subst hkm
          rw [upd_same]
          obtain ⟨j, hj⟩ := List.mem_iff_getElem?.1 hi
          refine List.mem_of_getElem? (i := j) ?_
          unfold setL
          rw [List.getElem?_modify, hj]
          have : i ≠ j := fun e2 => by subst e2; rw [h2] at hj; cases hj; exact hne h3
          simp [this]
        · rw [upd_other hkm]; exact hi
      · exact ⟨k, hk, hi⟩
theorem apart_turn {x : StM} (h : StOk x) {id : Int} {m i : Nat} {a : Ent} (ha : x.at id = some (m, i, a)) {l : List Comp} {e : Ent} (hne : e.1 ≠ id) (he : Has x e) : Has (x.turn id m i l) e := by
  obtain ⟨k, hk, hi⟩ := he
  obtain ⟨_, _, _, h2, h3, _⟩ := h.at_some ha
  exact ⟨k, hk, has_put (has_drop h2 (by rw [h3]; exact hne) hi)⟩
theorem apart_add {x : StM} (h : StOk x) {id : Int} {c : Comp} {e : Ent} (hne : e.1 ≠ id) (he : Has x e) : Has (x.add id c).2 e := by
  unfold StM.add
  split
  · exact he
  · cases ha : x.at id with
    | none => exact he
    | some p =>
      obtain ⟨m, i, a⟩ := p
      simp only
      split
      · exact he
      · exact apart_turn h ha hne he
theorem apart_remove {x : StM} (h : StOk x) {id k : Int} {e : Ent} (hne : e.1 ≠ id) (he : Has x e) : Has (x.remove id k).2 e := by
  unfold StM.remove
  cases ha : x.at id with
  | none => exact he
  | some p =>
    obtain ⟨m, i, a⟩ := p
    simp only
    split
    · exact apart_turn h ha hne he
    · exact he

/-! ### what comes in -/
abbrev slT : Ty := .sc .sl
theorem lists_arg : SlArg Tryz.prog 60 32 slT [32] :=
  ⟨by kernel_rfl, by kernel_rfl, by decide, by kernel_rfl, ⟨[.sl], by kernel_rfl, .inr ⟨.sl, rfl, rfl⟩⟩⟩
def ListIn (W : World) (r : Sl) (l : List Comp) : Prop := SlT (Old W) W compT r l ∧ (∀ c ∈ l, CompOk c) ∧ r.c ≤ maxLen
theorem lists_in {raws : List Sl} (h : ∀ r ∈ raws, AllLeaf enc Tryz.prog w [32] (slT.cells r)) : ∃ L, All2 (ListIn w) raws L := deep_of fun r hr => by
  obtain ⟨_, h⟩ := h r hr
  exact comps_leaf (h 0 _ _ rfl rfl)

end Go.Proofs.YtkblnhnjagemlaaGreat
