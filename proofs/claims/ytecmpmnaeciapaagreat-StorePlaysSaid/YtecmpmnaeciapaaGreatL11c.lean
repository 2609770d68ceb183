/-
  StoreApart: its Go text answers true, whatever the input.
-/
import Derived.Test.YtecmpmnaeciapaaGreatL11
import Derived.Test.YtecmpmnaeciapaaGreatRef10
namespace Go.Proofs.YtecmpmnaeciapaaGreat
open Go Go.RowKit Go.ChangeShapes Go.WideShapes Go.ChangeAt Go.Proofs.YtecmpmnaeciapaaGreat.Den
variable {R : Type} {Q : R → World → Prop} {w : World} {H : Type} {enc : TypeId × Value → H}

/-! ### the model: what becomes of one leaves all others -/
theorem mem_dropI {α : Type} {L : List α} {i : Nat} {a e : α} (hi : L[i]? = some a) (he : e ∈ L) (hne : e ≠ a) : e ∈ dropI L i := by
  have hil := (List.getElem?_eq_some_iff.1 hi).1
  obtain ⟨j, hj⟩ := List.mem_iff_getElem?.1 he
  have hjl := (List.getElem?_eq_some_iff.1 hj).1
  have hji : j ≠ i := fun h => by subst h; rw [hi] at hj; exact hne (Option.some.inj hj).symm
  have hz := List.getElem?_eq_getElem (l := L) (i := L.length - 1) (by omega)
  unfold dropI
  rw [hz]
  by_cases hlast : j = L.length - 1
  · subst hlast
    rw [hz] at hj
    have hez := Option.some.inj hj
    refine List.mem_of_getElem? (i := i) ?_
    rw [List.getElem?_take, if_pos (by omega), List.getElem?_set_self hil, hez]
  · refine List.mem_of_getElem? (i := j) ?_
    rw [List.getElem?_take, if_pos (by omega), List.getElem?_set_ne (Ne.symm hji)]
    exact hj
theorem StOk.at_of2 {x : StM} (h : StOk x) {m i : Nat} {e : Ent} (hm : m < 64) (he : (x.tab m)[i]? = some e) : x.at e.1 = some (m, i, e) := by
  have hr := rowM_at (h.tab m hm).nodup he
  have hh := h.home_at hm (show inT x.tab m e.1 from by unfold inT; rw [hr]; rfl)
  unfold StM.at
  rw [hh]
  simp only [hr, he]
/-- entity e stands in a table. -/
def Has (x : StM) (e : Ent) : Prop := ∃ m, m < 64 ∧ e ∈ x.tab m
theorem StOk.ent_has {x : StM} (h : StOk x) {e : Ent} (he : Has x e) : x.ent e.1 = (e, 0) := by
  obtain ⟨m, hm, hi⟩ := he
  obtain ⟨i, hi⟩ := List.mem_iff_getElem?.1 hi
  unfold StM.ent
  rw [h.at_of2 hm hi]
theorem StOk.has_of {x : StM} (h : StOk x) {id : Int} (hl : x.s.live id = true) : ∃ e, Has x e ∧ e.1 = id ∧ x.ent id = (e, 0) := by
  have := h.at_live id
  rw [hl] at this
  obtain ⟨⟨m, i, e⟩, ha⟩ := Option.isSome_iff_exists.1 this
  obtain ⟨_, h1, _, h2, h3, _⟩ := h.at_some ha
  exact ⟨e, ⟨m, h1, List.mem_of_getElem? h2⟩, h3, by unfold StM.ent; rw [ha]⟩
theorem has_drop {T : Nat → List Ent} {m i : Nat} {a e : Ent} (hi : (T m)[i]? = some a) (hne : e.1 ≠ a.1) {k : Nat} (he : e ∈ T k) : e ∈ upd T m (dropI (T m) i) k := by
  by_cases hk : k = m
  · subst hk; rw [upd_same]; exact mem_dropI hi he fun h => hne (by rw [h])
  · rw [upd_other hk]; exact he
theorem has_put {T : Nat → List Ent} {id : Int} {l : List Comp} {e : Ent} {k : Nat} (he : e ∈ T k) : e ∈ putT T id l k := by
  unfold putT
  by_cases hk : k = maskN l
  · subst hk; rw [upd_same]; exact List.mem_append_left _ he
  · rw [upd_other hk]; exact he
theorem apart_despawn {x : StM} (h : StOk x) {id : Int} {e : Ent} (hne : e.1 ≠ id) (he : Has x e) : Has (x.despawn id).2 e := by
  obtain ⟨k, hk, hi⟩ := he
  unfold StM.despawn
  cases ha : x.at id with
  | none => exact ⟨k, hk, hi⟩
  | some p =>
    obtain ⟨m, i, a⟩ := p
    obtain ⟨_, _, _, h2, h3, _⟩ := h.at_some ha
    exact ⟨k, hk, has_drop h2 (by rw [h3]; exact hne) hi⟩
theorem apart_set {x : StM} (h : StOk x) {id : Int} {c : Comp} {e : Ent} (hne : e.1 ≠ id) (he : Has x e) : Has (x.set id c).2 e := by
  obtain ⟨k, hk, hi⟩ := he
  unfold StM.set
  split
  · exact ⟨k, hk, hi⟩
  · cases ha : x.at id with
    | none => exact ⟨k, hk, hi⟩
    | some p =>
      obtain ⟨m, i, a⟩ := p
      obtain ⟨_, _, _, h2, h3, _⟩ := h.at_some ha
      simp only
      split
      · refine ⟨k, hk, ?_⟩
        show e ∈ upd _ _ _ k
        by_cases hkm : k = m
        · subst hkm
          rw [upd_same]
          obtain ⟨j, hj⟩ := List.mem_iff_getElem?.1 hi
          refine List.mem_of_getElem? (i := j) ?_
          unfold setL
          rw [List.getElem?_modify, hj]
          have : i ≠ j := fun e2 => by subst e2; rw [h2] at hj; cases hj; exact hne h3
          simp [this]
        · rw [upd_other hkm]; exact hi
      · exact ⟨k, hk, hi⟩
theorem apart_turn {x : StM} (h : StOk x) {id : Int} {m i : Nat} {a : Ent} (ha : x.at id = some (m, i, a)) {l : List Comp} {e : Ent} (hne : e.1 ≠ id) (he : Has x e) : Has (x.turn id m i l) e := by
  obtain ⟨k, hk, hi⟩ := he
  obtain ⟨_, _, _, h2, h3, _⟩ := h.at_some ha
  exact ⟨k, hk, has_put (has_drop h2 (by rw [h3]; exact hne) hi)⟩
theorem apart_add {x : StM} (h : StOk x) {id : Int} {c : Comp} {e : Ent} (hne : e.1 ≠ id) (he : Has x e) : Has (x.add id c).2 e := by
  unfold StM.add
  split
  · exact he
  · cases ha : x.at id with
    | none => exact he
    | some p =>
      obtain ⟨m, i, a⟩ := p
      simp only
      split
      · exact he
      · exact apart_turn h ha hne he
theorem apart_remove {x : StM} (h : StOk x) {id k : Int} {e : Ent} (hne : e.1 ≠ id) (he : Has x e) : Has (x.remove id k).2 e := by
  unfold StM.remove
  cases ha : x.at id with
  | none => exact he
  | some p =>
    obtain ⟨m, i, a⟩ := p
    simp only
    split
    · exact apart_turn h ha hne he
    · exact he

/-! ### what comes in -/
abbrev slT : Ty := .sc .sl
def ListIn (W : World) (r : Sl) (l : List Comp) : Prop := SlT (Old W) W compT r l ∧ (∀ c ∈ l, CompOk c) ∧ r.c ≤ maxLen
theorem lists_in {raws : List Sl} (h : ∀ r ∈ raws, AllLeaf enc Tryz.prog w [38] (slT.cells r)) : ∃ L, All2 (ListIn w) raws L := deep_of fun r hr => by
  obtain ⟨_, h⟩ := h r hr
  exact comps_leaf (h 0 _ _ rfl rfl)
abbrev Op11 := Int × Int × Sl
abbrev op11C (o : Op11) : List Value := [.int .u8 o.1, .int .i64 o.2.1, .slice o.2.2.a o.2.2.n o.2.2.c]
theorem i64_und : Tryz.prog.underlying 3 = some (.int .i64) := by kernel_rfl
theorem op11_arg : AggArg Tryz.prog 48 [.int .u8, .int .i64, .sl] [5, 3, 38] := ⟨by kernel_rfl, by kernel_rfl, by kernel_rfl⟩
structure OpIn (W : World) (o : Op11) (l : List Comp) : Prop where
  do_ : 0 ≤ o.1 ∧ o.1 ≤ 255
  who : -9223372036854775808 ≤ o.2.1 ∧ o.2.1 ≤ 9223372036854775807
  l : ListIn W o.2.2 l
theorem op11_in {o : Op11} (h : AllLeaf enc Tryz.prog w [5, 3, 38] (op11C o)) : ∃ l, OpIn w o l := by
  obtain ⟨_, h⟩ := h
  obtain ⟨_, e, h0⟩ := (h 0 _ _ rfl rfl).int u8_und
  cases e
  obtain ⟨_, e, h1⟩ := (h 1 _ _ rfl rfl).int i64_und
  cases e
  obtain ⟨l, hl⟩ := comps_leaf (s := o.2.2) (h 2 _ _ rfl rfl)
  exact ⟨l, wf_u8 h0, by simp [Lit.wf, IntKind.min, IntKind.max, IntKind.bits, IntKind.signed] at h1; omega, hl⟩

def fstC (l : List Comp) : Comp := match l with
  | [] => (0, 0, 0, 0)
  | c :: _ => c
theorem spec_l11_first {ok : Nat → Prop} {s : Sl} {l : List Comp} (hS : SlT ok w compT s l) {K : Res [.agg [.int .u8, .int .i32, .int .i32, .int .i32]] → W R} (hk : ∀ w', Fr None w w' → K (fstC l) Q w') : callW Tryz.prog k_pinnacelaw11_first [.slice s.a s.n s.c] [.agg [.int .u8, .int .i32, .int .i32, .int .i32]] K Q w := by
  refine C_pinnacelaw11_first _ K Q w ?_
  unfold F_pinnacelaw11_first
  have hlen := hS.len
  refine newI fun w1 B1 f1 _ => ?_
  cases l with
  | nil =>
    refine condT (by simp at hlen; simp [hlen]) (stoAll B1 rfl rfl fun w2 B2 f2 _ => aggI B2 (x := (0, 0, 0, 0)) rfl (hk w2 (f1.newer f2 fun k e => by omega)))
  | cons c r =>
    refine condF (by simp at hlen; simp [hlen]; omega) ((hS.fr0 f1).get (j := 0) rfl rfl (by simp) fun x hx => ?_)
    simp at hx
    subst hx
    exact stoAll B1 rfl rfl fun w2 B2 f2 _ => aggI B2 (x := c) rfl (hk w2 (f1.newer f2 fun k e => by omega))

/-! ### a map of entities -/
theorem ent_zero : (Tryz.prog.info? 97).bind (·.zero) = some (.agg #[.int .u32 0, .slice none 0 0]) := by kernel_rfl
abbrev entV (r : Int × Sl) : Value := .agg ⟨[.int .u32 r.1, .slice r.2.a r.2.n r.2.c]⟩
/-! ### the row -/
end Go.Proofs.YtecmpmnaeciapaaGreat
