/-
  What the functions of the program's package orders and of the document's layer 13 compute (checks and lists).
-/
import Derived.Test.YtkblnhnjagemlaaGreatSto4
import Derived.Test.YtkblnhnjagemlaaGreatDeep
namespace Go.Proofs.YtkblnhnjagemlaaGreat
open Go Go.RowKit Go.Proofs.YtkblnhnjagemlaaGreat.Den
variable {R : Type} {Q : R → World → Prop} {w : World}

abbrev Ordr := Int × Int × Int × List Comp
abbrev OrdRaw := Int × Int × Int × Sl
abbrev ordT : Ty := .agg [.int .u8, .int .u32, .int .u8, .sl]
abbrev ordC (r : OrdRaw) : List Value := [.int .u8 r.1, .int .u32 r.2.1, .int .u8 r.2.2.1, .slice r.2.2.2.a r.2.2.2.n r.2.2.2.c]
abbrev resT : Ty := .agg [.int .i64, .int .u32]
theorem ords_ty : SlTy Tryz.prog 76 81 ordT 40 := slTy (by kernel_rfl)
theorem ress_ty : SlTy Tryz.prog 83 107 resT 16 := slTy (by kernel_rfl)
instance decIL : DecidableEq (Int × List Comp) := instDecidableEqProd
instance decIIL : DecidableEq (Int × Int × List Comp) := instDecidableEqProd
instance decIIIL : DecidableEq (Int × Int × Int × List Comp) := instDecidableEqProd
def ordR : Rel OrdRaw Ordr := fun F w r o => r.1 = o.1 ∧ r.2.1 = o.2.1 ∧ r.2.2.1 = o.2.2.1 ∧ SlT F w compT r.2.2.2 o.2.2.2
def ordO : Rel OrdRaw Ordr := fun F w r o => r.1 = o.1 ∧ r.2.1 = o.2.1 ∧ r.2.2.1 = o.2.2.1 ∧ Own F w 53 compT r.2.2.2 o.2.2.2
theorem ordR_st : ordR.st := fun _ _ => fun ⟨h1, h2, h3, h4⟩ f hs => ⟨h1, h2, h3, SlT.st h4 f hs⟩
theorem ordO_st : ordO.st := fun _ _ => fun ⟨h1, h2, h3, h4⟩ f hs => ⟨h1, h2, h3, Own.st h4 f hs⟩
theorem ordO.r {F : Nat → Prop} {r : OrdRaw} {o : Ordr} (h : ordO F w r o) : ordR F w r o := ⟨h.1, h.2.1, h.2.2.1, h.2.2.2.sl⟩
/-- what an order that came in is. -/
structure OrdOk (o : Ordr) : Prop where
  do_ : 0 ≤ o.1 ∧ o.1 ≤ 255
  id : IdOk o.2.1
  kind : 0 ≤ o.2.2.1 ∧ o.2.2.1 ≤ 255
  comps : ∀ c ∈ o.2.2.2, CompOk c

def chk1 (l : List Comp) : Int := match l with
  | [c] => checkM c
  | _ => 4
def chk0 (l : List Comp) : Int := match l with
  | [] => 0
  | _ => 4
def ochk (o : Ordr) : Int := if o.1 = 1 then listE o.2.2.2 else if o.1 = 2 then chk0 o.2.2.2 else if o.1 = 3 ∨ o.1 = 4 then chk1 o.2.2.2 else if o.1 = 5 ∧ o.2.2.1 < 6 then chk0 o.2.2.2 else 1

theorem ochk_mk (a b c : Int) (l : List Comp) : ochk (a, b, c, l) = if a = 1 then listE l else if a = 2 then chk0 l else if a = 3 ∨ a = 4 then chk1 l else if a = 5 ∧ c < 6 then chk0 l else 1 := rfl
section
variable {ok : Nat → Prop} {r : OrdRaw} {o : Ordr}
theorem spec_orders_none {s : Sl} {l : List Comp} (hS : SlT ok w compT s l) {K : Res [.sc (.int .i64)] → W R} (hk : K (chk0 l) Q w) : callW Tryz.prog k_orders_none [.slice s.a s.n s.c] [.sc (.int .i64)] K Q w := by
  refine C_orders_none _ K Q w ?_
  unfold F_orders_none
  have := hS.len
  cases l with
  | nil => exact condF (decide_eq_false (by simp at this; omega)) hk
  | cons c r => exact condT (decide_eq_true (by simp at this; omega)) hk
theorem spec_orders_one {s : Sl} {l : List Comp} (hS : SlT ok w compT s l) {K : Res [.sc (.int .i64)] → W R} (hk : ∀ w', Fr None w w' → K (chk1 l) Q w') : callW Tryz.prog k_orders_one [.slice s.a s.n s.c] [.sc (.int .i64)] K Q w := by
  refine C_orders_one _ K Q w ?_
  unfold F_orders_one
  have hlen := hS.len
  have hk' := hk w (Fr.refl _ _)
  refine condN (fun h => ?_) fun h => ?_
  · have e : chk1 l = 4 := by
      rcases l with _ | ⟨c, _ | ⟨c2, r⟩⟩
      · rfl
      · simp at hlen; omega
      · rfl
    rw [e] at hk'
    exact hk'
  · rcases l with _ | ⟨c, _ | ⟨c2, r⟩⟩
    · simp at hlen; omega
    · refine hS.get (j := 0) rfl rfl (by simp) fun x hx => ?_
      simp at hx
      subst hx
      exact spec_schema_Check (c := c) hk
    · simp at hlen; omega

theorem spec_orders_Check (h : ordR ok w r o) (hsm : Small o.2.2.2) {K : Res [.sc (.int .i64)] → W R} (hk : ∀ w', Fr None w w' → K (ochk o) Q w') : callW Tryz.prog k_orders_Check [.agg ⟨ordC r⟩] [.sc (.int .i64)] K Q w := by
  obtain ⟨a, b, c, l⟩ := o
  obtain ⟨a', b', c', s⟩ := r
  obtain ⟨h1, h2, h3, hS⟩ := h
  dsimp only at h1 h2 h3 hS hsm hk ⊢
  subst h1; subst h2; subst h3
  refine C_orders_Check _ K Q w ?_
  unfold F_orders_Check
  refine newI fun w1 B1 f1 s1 => fldI B1 (x := a') rfl ?_
  have hS1 := hS.fr0 f1
  refine condE (fun e => ?_) fun n1 => ?_
  · refine fldI B1 (x := s) rfl (spec_schema_List hS1 hsm fun w2 f2 => ?_)
    have := hk w2 (f1.then0 f2)
    rw [ochk_mk, if_pos e] at this
    exact this
  refine condE (fun e => ?_) fun n2 => ?_
  · refine fldI B1 (x := s) rfl (spec_orders_none hS1 ?_)
    have := hk w1 f1
    rw [ochk_mk, if_neg n1, if_pos e] at this
    exact this
  refine joinI (fun z w' => z = decide (a' = 3 ∨ a' = 4) ∧ w' = w1) ?_ ?_
  · refine condE (fun e => ⟨by simp [e], rfl⟩) fun n3 => ⟨?_, rfl⟩
    by_cases e : a' = 4 <;> simp [n3, e]
  rintro z w' ⟨rfl, rfl⟩
  refine condD (fun e => ?_) fun n3 => ?_
  · refine fldI B1 (x := s) rfl (spec_orders_one hS1 fun w2 f2 => ?_)
    have := hk w2 (f1.then0 f2)
    rw [ochk_mk, if_neg n1, if_neg n2, if_pos e] at this
    exact this
  have key : ¬ (a' = 5 ∧ c' < 6) → K 1 Q w' := fun h => by
    have := hk w' f1
    rw [ochk_mk, if_neg n1, if_neg n2, if_neg n3, if_neg h] at this
    exact this
  refine joinI (fun _ w2 => w2 = w' ∧ ¬ (a' = 5 ∧ c' < 6)) ?_ fun _ w2 ⟨e, h⟩ => by subst e; exact key h
  refine condE (fun e => ?_) fun n5 => ⟨rfl, fun h => n5 h.1⟩
  refine fldI B1 (x := c') rfl (condD (fun e6 => ?_) fun n6 => ⟨rfl, fun h => n6 h.2⟩)
  refine fldI B1 (x := s) rfl (spec_orders_none hS1 ?_)
  have := hk w' f1
  rw [ochk_mk, if_neg n1, if_neg n2, if_neg n3, if_pos ⟨e, e6⟩] at this
  exact this

theorem spec_r13_Check (h : ordR ok w r o) (ho : OrdOk o) (hsm : Small o.2.2.2) {K : Res [.sc (.int .i64)] → W R} (hk : ∀ w', Fr None w w' → K (ochk o) Q w') : callW Tryz.prog k_pinnaceref13_Check [.agg ⟨ordC r⟩] [.sc (.int .i64)] K Q w := by
  obtain ⟨a, b, c, l⟩ := o
  obtain ⟨a', b', c', s⟩ := r
  obtain ⟨h1, h2, h3, hS⟩ := h
  obtain ⟨hd, hid, hkd, hcs⟩ := ho
  dsimp only at h1 h2 h3 hS hsm hk hd hkd hcs ⊢
  subst h1; subst h2; subst h3
  refine C_pinnaceref13_Check _ K Q w ?_
  unfold F_pinnaceref13_Check
  have hlen := hS.len
  refine newI fun w1 B1 f1 s1 => ?_
  have hS1 := hS.fr0 f1
  have e1 := hk w1 f1
  refine joinI (fun z w' => z = !decide (1 ≤ a' ∧ a' ≤ 5) ∧ w' = w1) ?_ ?_
  · refine fldI B1 (x := a') rfl (condD (fun h => ⟨by rw [decide_eq_false (by omega)]; rfl, rfl⟩) fun h => fldI B1 (x := a') rfl ⟨?_, rfl⟩)
    by_cases h2 : a' > 5
    · rw [decide_eq_true h2, decide_eq_false (by omega)]; rfl
    · rw [decide_eq_false h2, decide_eq_true (by omega)]; rfl
  rintro z w' ⟨rfl, rfl⟩
  refine condI (fun hz => ?_) fun hz => ?_
  · have hz : ¬ (1 ≤ a' ∧ a' ≤ 5) := fun h => by rw [decide_eq_true h] at hz; cases hz
    rw [ochk_mk, if_neg (by omega), if_neg (by omega), if_neg (by omega), if_neg (by omega)] at e1
    exact e1
  have hz : 1 ≤ a' ∧ a' ≤ 5 := by simpa using hz
  refine fldI B1 (x := a') rfl (condE (fun e => ?_) fun n1 => ?_)
  · refine fldI B1 (x := s) rfl (spec_r5_List hS1 hsm hcs fun w2 f2 => ?_)
    have := hk w2 (f1.then0 f2)
    rw [ochk_mk, if_pos e] at this
    exact this
  refine joinI (fun z w2 => z = decide (a' = 5 ∧ c' > 5) ∧ w2 = w') ?_ ?_
  · refine fldI B1 (x := a') rfl (condE (fun e => fldI B1 (x := c') rfl ⟨by simp [e], rfl⟩) fun e => ⟨by simp [e], rfl⟩)
  rintro z w2 ⟨rfl, rfl⟩
  refine condD (fun e => ?_) fun n5 => ?_
  · rw [ochk_mk, if_neg n1, if_neg (by omega), if_neg (by omega), if_neg (by omega)] at e1
    exact e1
  refine joinI (fun z w3 => z = decide (a' = 3 ∨ a' = 4) ∧ w3 = w2) ?_ ?_
  · refine fldI B1 (x := a') rfl (condE (fun e => ⟨by simp [e], rfl⟩) fun n3 => fldI B1 (x := a') rfl ⟨?_, rfl⟩)
    by_cases e : a' = 4 <;> simp [n3, e]
  rintro z w3 ⟨rfl, rfl⟩
  refine joinI (fun z w4 => z = (if a' = 3 ∨ a' = 4 then 1 else 0) ∧ w4 = w3) ?_ ?_
  · exact condD (fun e => ⟨by rw [if_pos e], rfl⟩) fun e => ⟨by rw [if_neg e], rfl⟩
  rintro z w4 ⟨rfl, rfl⟩
  refine fldI B1 (x := s) rfl ?_
  by_cases h34 : a' = 3 ∨ a' = 4
  · rw [if_pos h34]
    rw [ochk_mk, if_neg n1, if_neg (by omega), if_pos h34] at e1
    refine condN (fun hne => ?_) fun heq => condT rfl ?_
    · have e : chk1 l = 4 := by
        rcases l with _ | ⟨c, _ | ⟨c2, r⟩⟩
        · rfl
        · simp at hlen; omega
        · rfl
      rw [e] at e1
      exact e1
    · rcases l with _ | ⟨c, _ | ⟨c2, r⟩⟩
      · simp at hlen; omega
      · refine fldI B1 (x := s) rfl (hS1.get (j := 0) rfl rfl (by simp) fun x hx => ?_)
        simp at hx
        subst hx
        refine spec_r5_Check (c := c) (hcs c (by simp)).1.1 fun w5 f5 => ?_
        have := hk w5 (f1.then0 f5)
        rw [ochk_mk, if_neg n1, if_neg (by omega), if_pos h34] at this
        exact this
      · simp at hlen; omega
  · rw [if_neg h34]
    have e2 : ochk (a', b', c', l) = chk0 l := by
      rw [ochk_mk]
      by_cases h2 : a' = 2
      · rw [if_neg n1, if_pos h2]
      · rw [if_neg n1, if_neg h2, if_neg h34, if_pos ⟨by omega, by omega⟩]
    rw [e2] at e1
    refine condN (fun hne => ?_) fun heq => condF rfl ?_
    · cases l with
      | nil => simp at hlen; omega
      | cons c r => exact e1
    · cases l with
      | nil => exact e1
      | cons c r => simp at hlen; omega

theorem spec_SameOrder {ok2 : Nat → Prop} {r2 : OrdRaw} {o2 : Ordr} (h : ordR ok w r o) (h2 : ordR ok2 w r2 o2) (hsm : Small o.2.2.2) {K : Res [.sc .bool] → W R} (hk : ∀ w', Fr None w w' → K (decide (o = o2)) Q w') :
    callW Tryz.prog k_pinnaceref13_SameOrder [.agg ⟨ordC r⟩, .agg ⟨ordC r2⟩] [.sc .bool] K Q w := by
  obtain ⟨a, b, c, l⟩ := o
  obtain ⟨a', b', c', s⟩ := r
  obtain ⟨d, e, f, l2⟩ := o2
  obtain ⟨d', e', f', s2⟩ := r2
  obtain ⟨h1, h2', h3, hS⟩ := h
  obtain ⟨g1, g2, g3, hS2⟩ := h2
  dsimp only at h1 h2' h3 hS hsm g1 g2 g3 hS2 hk ⊢
  subst h1; subst h2'; subst h3; subst g1; subst g2; subst g3
  refine C_pinnaceref13_SameOrder _ _ K Q w ?_
  unfold F_pinnaceref13_SameOrder
  refine newI fun w1 B1 f1 _ => newI fun w2 B2 f2 _ => ?_
  have f12 := f1.then0 f2
  have B1' := B1.fr f2 fun h => h
  refine joinK ?_
  have no : ¬ ((a', b', c', l) = (d', e', f', l2)) → K false Q w2 := fun hn => by
    have := hk w2 f12
    rw [decide_eq_false hn] at this
    exact this
  refine fldI B1' (x := a') rfl (fldI B2 (x := d') rfl (condE (fun e1 => ?_) fun n => no fun h => n (congrArg (·.1) h)))
  refine fldI B1' (x := b') rfl (fldI B2 (x := e') rfl (condE (fun e2 => ?_) fun n => no fun h => n (congrArg (·.2.1) h)))
  refine fldI B1' (x := c') rfl (fldI B2 (x := f') rfl (condE (fun e3 => ?_) fun n => no fun h => n (congrArg (·.2.2.1) h)))
  subst e1; subst e2; subst e3
  refine fldI B1' (x := s) rfl (fldI B2 (x := s2) rfl (spec_r5_Same (hS.fr0 f12) (hS2.fr0 f12) hsm fun w3 f3 => ?_))
  have := hk w3 (f12.then0 f3)
  have e : decide ((a', b', c', l) = (a', b', c', l2)) = decide (l = l2) := by
    rw [decide_eq_decide]
    exact ⟨fun h => congrArg (·.2.2.2) h, fun h => by rw [h]⟩
  rw [e] at this
  exact this
end

theorem neq_res {a b : Operand} {x y : Int × Int} {K : Bool → W R} (hk : K (!decide (x = y)) Q w) : rawQ Tryz.prog (do Go.eqGuard .neq 107 a b (.agg ⟨[.int .i64 x.1, .int .u32 x.2]⟩) (.agg ⟨[.int .i64 y.1, .int .u32 y.2]⟩); Go.binOp .neq 107 (.agg ⟨[.int .i64 x.1, .int .u32 x.2]⟩) (.agg ⟨[.int .i64 y.1, .int .u32 y.2]⟩)) [.sc .bool] K Q w := by
  have e : ((x.1 == y.1) && ((x.2 == y.2) && true)) = decide (x = y) := by
    obtain ⟨a, b⟩ := x; obtain ⟨c, d⟩ := y
    rw [Bool.eq_iff_iff]
    simp
  refine neqI (r := ((x.1 == y.1) && ((x.2 == y.2) && true))) (by kernel_rfl) (by kernel_rfl) ?_
  rw [e]
  exact hk
theorem spec_SameResults {ok ok2 : Nat → Prop} {s s2 : Sl} {l l2 : List (Int × Int)} (hS : SlT ok w resT s l) (hS2 : SlT ok2 w resT s2 l2) (hsm : Small l) {K : Res [.sc .bool] → W R} (hk : ∀ w', Fr None w w' → K (decide (l = l2)) Q w') :
    callW Tryz.prog k_pinnaceref13_SameResults [.slice s.a s.n s.c, .slice s2.a s2.n s2.c] [.sc .bool] K Q w := by
  refine C_pinnaceref13_SameResults _ _ K Q w ?_
  unfold F_pinnaceref13_SameResults
  have h1 := hS.len
  have h2 := hS2.len
  refine condN (fun hne => ?_) fun heq => ?_
  · have e := hk w (Fr.refl _ _)
    rw [decide_eq_false (fun e => hne (by rw [h1, h2, e]))] at e
    exact e
  refine forI (N := s.n) (fun s : Int => s) (fun j s w' => s = j ∧ Fr None w w' ∧ l.take j = l2.take j) ⟨rfl, Fr.refl _ _, rfl⟩ (fun j s w' h => h.1) ?_ ?_
  · rintro j i w1 K' hj ⟨rfl, f1, ht⟩ - hK
    refine (hS.fr0 f1.drew).get rfl rfl (by omega) fun x hx => ?_
    refine (hS2.fr0 f1.drew).get rfl rfl (by omega) fun y hy => neq_res ?_
    refine condI (fun hb => ?_) fun hb => ?_
    · have e := hk _ f1.drew
      rw [decide_eq_false (fun e => by subst e; rw [hx] at hy; cases hy; simp at hb)] at e
      exact e
    · have hb : x = y := by simpa using hb
      subst hb
      exact hK _ _ ⟨wsucc hj (by omega), f1.drew, by rw [take_at hx, take_at hy, ht]⟩
  · rintro i w1 ⟨rfl, f1, ht⟩
    have e := hk _ f1
    rw [h1, List.take_length, List.take_of_length_le (by omega)] at ht
    rw [decide_eq_true ht] at e
    exact e

/-- orders of their own. -/
theorem spec_r13_Twins {ok : Nat → Prop} {s : Sl} {raws : List OrdRaw} {L : List Ordr} (h : DR ordR (t := ordT) ok w s raws L) (hm : Small L) (hc : ∀ o ∈ L, Small o.2.2.2) {K : Res [.sc .sl] → W R}
    (hk : ∀ r raws' lab w', DO ordO (t := ordT) 81 (Up w.heap.size) w' r raws' L lab → Fr None w w' → K r Q w') : callW Tryz.prog k_pinnaceref13_Twins [.slice s.a s.n s.c] [.sc .sl] K Q w := by
  refine C_pinnaceref13_Twins _ K Q w ?_
  unfold F_pinnaceref13_Twins
  have hl := h.all.len
  refine rangeC (t := ordT) (fun s : Sl × Int => s.2) (fun j st w' => st.2 = (j : Int) ∧ Fr None w w' ∧ ∃ raws' lab, DO ordO (t := ordT) 81 (Up w.heap.size) w' st.1 raws' (L.take j) lab) rfl rfl rfl ⟨rfl, Fr.refl _ _, [], _, DO.nil _ _⟩ (fun j st w' h => h.1) (fun j st w' hp => h.sl.fr0 hp.2.1) ?_ ?_
  · rintro j x ⟨o, _⟩ w1 w2 K' hx ⟨rfl, f1, raws', lab, hD⟩ - B2 f2 s2 hK
    obtain ⟨b, hb, h1, h2, h3, hS⟩ := h.all.getL hx
    have hjl := (List.getElem?_eq_some_iff.1 hb).1
    have f02 := f1.then0 f2
    refine fldI B2 (x := x.2.2.2) rfl (spec_r5_Twin (hS.fr0 f02) (hc b (List.mem_of_getElem? hb)) fun tw w3 o3 f3 => ?_)
    have B3 := B2.fr f3 fun h => h
    refine setA (i := 3) B3 (show 3 < 4 by omega) rfl fun w4 B4 f4 s4 => aggI B4 (x := (x.1, x.2.1, x.2.2.1, tw)) rfl ?_
    have hs2 : w2.heap.size = w1.heap.size + 1 := s2
    have o4 : Own (fun k => w2.heap.size ≤ k) w4 53 compT tw b.2.2.2 := o3.fr f4 fun k h e => by omega
    have f14 : Fr None w1 w4 := (f2.then0 f3).newer f4 fun k e => by omega
    have hs1 := f1.size
    refine hD.app (a := ((x.1, x.2.1, x.2.2.1, tw) : OrdRaw)) (b := b) ords_ty ordO_st f14 (fun k e => Nat.le_trans hs1 e) ⟨h1, h2, h3, o4.mono fun k _ e => by show w1.heap.size ≤ k; omega⟩ rfl (by rw [List.length_take]; omega) (by rw [List.length_take]; omega) fun r lab' w5 hD5 f5 => ?_
    refine hK _ _ ⟨wsucc (N := L.length) hjl (by omega), (f1.then0 f14).newer f5 fun k e => (hD.own.own k e).1, raws' ++ [((x.1, x.2.1, x.2.2.1, tw) : OrdRaw)], lab', ?_⟩
    rw [take_at hb]
    exact hD5
  · rintro ⟨o, _⟩ w1 ⟨_, f1, raws', lab, hD⟩
    rw [hl, List.take_length] at hD
    exact hk o raws' lab w1 hD f1

def fewO (L : List Ordr) (n : Nat) : List Ordr := (L.take n).map fun o => (o.1, o.2.1, o.2.2.1, o.2.2.2.take 20)
/-- the first orders, none with very many components. -/
theorem spec_r13_Few {ok : Nat → Prop} {s : Sl} {raws : List OrdRaw} {L : List Ordr} (h : DR ordR (t := ordT) ok w s raws L) (hcap : s.c ≤ 9223372036854775807) {n : Nat} (hn : n ≤ 1000) (hcs : ∀ r ∈ raws, r.2.2.2.c ≤ 9223372036854775807) {K : Res [.sc .sl] → W R}
    (hk : ∀ r raws' w', Own (Up w.heap.size) w' 81 ordT r raws' → All2 (fun a b => ordR ok w' a b) raws' (fewO L n) → Fr None w w' → K r Q w') : callW Tryz.prog k_pinnaceref13_Few [.slice s.a s.n s.c, .int .i64 (n : Int)] [.sc .sl] K Q w := by
  refine C_pinnaceref13_Few _ _ K Q w ?_
  unfold F_pinnaceref13_Few
  have hl := h.all.len
  have hsl := h.sl.len
  have hsc := h.sl.cap
  let few1 : Ordr → Ordr := fun o => (o.1, o.2.1, o.2.2.1, o.2.2.2.take 20)
  refine rangeC (t := ordT) (fun s : Sl × Int => s.2) (fun j st w' => st.2 = (j : Int) ∧ Fr None w w' ∧ ∃ raws', Own (Up w.heap.size) w' 81 ordT st.1 raws' ∧ All2 (fun a b => ordR ok w a b) raws' ((L.take (min j n)).map few1)) rfl rfl rfl ⟨rfl, Fr.refl _ _, [], Own.nil _ _ _ _, by simp; exact All2.nil _⟩ (fun j st w' h => h.1) (fun j st w' hp => h.sl.fr0 hp.2.1) ?_ ?_
  · rintro j x ⟨o, _⟩ w1 w2 K' hx ⟨rfl, f1, raws', ho, hall⟩ - B2 f2 s2 hK
    obtain ⟨b, hb, h1, h2, h3, hS⟩ := h.all.getL hx
    have hjl := (List.getElem?_eq_some_iff.1 hb).1
    have f02 := f1.then0 f2
    have hlr := hall.len
    rw [List.length_map, List.length_take] at hlr
    refine joinI (fun o' w' => Fr None w w' ∧ ∃ raws', Own (Up w.heap.size) w' 81 ordT o' raws' ∧ All2 (fun a b => ordR ok w a b) raws' ((L.take (min (j + 1) n)).map few1)) ?_ ?_
    · refine condD (fun hlt => ?_) fun hge => ?_
      · have hjn : j < n := by have : (j : Int) < (n : Int) := hlt; omega
        refine fldI B2 (x := x.2.2.2) rfl (fldI B2 (x := x.2.2.2) rfl ?_)
        have hxl := hS.len
        have hxc := hS.cap
        have hxm := hcs x (List.mem_of_getElem? hx)
        refine (hS.fr0 f02).cutI (n := min b.2.2.2.length 20) (by split <;> omega) (by omega) fun sl _ hsl => ?_
        refine setA (i := 3) B2 (show 3 < 4 by omega) rfl fun w4 B4 f4 s4 => aggI B4 (x := (x.1, x.2.1, x.2.2.1, sl)) rfl ?_
        have f14 : Fr None w1 w4 := f2.newer f4 fun k e => by omega
        have o4 := ho.none f14
        have hs1 := f1.size
        have hs14 := f14.size
        refine appP (x := ((x.1, x.2.1, x.2.2.1, sl) : OrdRaw)) ords_ty rfl o4 (fun k e => by show w.heap.size ≤ k; omega) (by omega) (by omega) fun r w5 o5 f5 => ⟨(f1.then0 f14).newer f5 fun k e => o4.own k e, raws' ++ [((x.1, x.2.1, x.2.2.1, sl) : OrdRaw)], o5, ?_⟩
        have e1 : (L.take (min (j + 1) n)).map few1 = (L.take (min j n)).map few1 ++ [few1 b] := by
          rw [Nat.min_eq_left (by omega), Nat.min_eq_left (by omega), take_at hb, List.map_append]; rfl
        rw [e1]
        refine hall.snoc ⟨h1, h2, h3, ?_⟩
        show SlT ok w compT sl (b.2.2.2.take 20)
        have := hsl ok w hS
        rwa [Nat.min_comm, ← List.take_take, List.take_length] at this
      · have hjn : ¬ j < n := by have : ¬ (j : Int) < (n : Int) := hge; omega
        refine ⟨f02, raws', ho.none f2, ?_⟩
        rw [Nat.min_eq_right (by omega)]
        rw [Nat.min_eq_right (by omega)] at hall
        exact hall
    · rintro o' w5 ⟨f5, raws', o5, hall⟩
      exact hK _ _ ⟨wsucc (N := L.length) hjl (by omega), f5, raws', o5, hall⟩
  · rintro ⟨o, _⟩ w1 ⟨_, f1, raws', ho, hall⟩
    rw [hl, Nat.min_comm, ← List.take_take, List.take_length] at hall
    refine hk o raws' w1 ho (hall.imp fun a b hab => ordR_st a b hab f1 fun _ _ e => ⟨fun h => h, e⟩ |> fun h => h) f1

end Go.Proofs.YtkblnhnjagemlaaGreat
