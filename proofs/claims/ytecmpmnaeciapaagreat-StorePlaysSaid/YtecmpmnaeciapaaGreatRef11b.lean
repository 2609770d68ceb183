/-
  The document's layer 11: what each function answers.
-/
import Derived.Test.YtecmpmnaeciapaaGreatRef11
namespace Go.Proofs.YtecmpmnaeciapaaGreat
open Go Go.RowKit Go.Proofs.YtecmpmnaeciapaaGreat.Den
variable {R : Type} {Q : R → World → Prop} {w : World}

/-! ### lists of components -/
theorem spec_r5_Without {ok : Nat → Prop} {s : Sl} {l : List Comp} (hS : SlT ok w compT s l) (hm : Small l) {k : Int} {K : Res [.sc .sl] → W R}
    (hk : ∀ r w', Own (Up w.heap.size) w' 60 compT r (l.filter fun c => !(c.1 == k)) → Fr None w w' → K r Q w') : callW Tryz.prog k_pinnaceref05_Without [.slice s.a s.n s.c, .int .u8 k] [.sc .sl] K Q w := by
  refine C_pinnaceref05_Without _ _ K Q w ?_
  unfold F_pinnaceref05_Without
  refine rangeC (t := compT) (l := l) (ok := ok) (fun s : Sl × Int => s.2) (fun j st w' => st.2 = (j : Int) ∧ Fr None w w' ∧ Own (Up w.heap.size) w' 60 compT st.1 ((l.take j).filter fun c => !(c.1 == k))) rfl rfl rfl ⟨rfl, Fr.refl _ _, Own.nil _ _ _ _⟩ (fun j s w' h => h.1) (fun j st w' hp => hS.fr0 hp.2.1) ?_ ?_
  · rintro j x ⟨out, _⟩ w1 w2 K' hx ⟨rfl, f1, ow⟩ - B2 f2 s2 hK
    have hjl := (List.getElem?_eq_some_iff.1 hx).1
    have f02 := f1.then0 f2
    have hs1 := f02.size
    have hfl : ((l.take j).filter fun c => !(c.1 == k)).length ≤ (l.take j).length := List.length_filter_le _ _
    rw [List.length_take] at hfl
    have o2 := ow.none f2
    refine fldI B2 (x := x.1) rfl ?_
    refine joinI (fun (z : Sl) w' => Fr None w w' ∧ Own (Up w.heap.size) w' 60 compT z ((l.take (j + 1)).filter fun c => !(c.1 == k))) ?_ ?_
    · rw [take_at hx, List.filter_append]
      refine condN (fun hne => ?_) fun heq => ?_
      · rw [List.filter_cons_of_pos (by simp [hne])]
        refine aggI B2 (x := x) rfl ?_
        have h9 : ((l.take j).filter fun c => !(c.1 == k)).length ≤ 1048576 := by omega
        exact appF comps_ty (x := x) rfl o2 hs1 (Nat.le_trans (Nat.mul_le_mul_right 16 (Nat.succ_le_succ h9)) (by decide)) (Nat.le_trans (Nat.succ_le_succ h9) (by decide)) fun r w3 o3 f3 _ => ⟨(f02.up.thenOwn o2 f3).ofUp (Nat.le_refl _), o3⟩
      · rw [List.filter_cons_of_neg (by simp [heq])]
        exact ⟨f02, by simpa using o2⟩
    · rintro z w3 ⟨f3, o3⟩
      exact hK _ _ ⟨wsucc (N := l.length) hjl (by omega), f3, o3⟩
  · rintro ⟨out, _⟩ w1 ⟨-, f1, ow⟩
    rw [List.take_length] at ow
    exact hk out w1 ow f1
/-- a component that is new. -/
theorem withG_new {c : Comp} : ∀ {l : List Comp}, (∀ x ∈ l, x.1 ≠ c.1) → withG c false l = insC l c
  | [], _ => rfl
  | x :: r, h => by
    have hx := h x (by simp)
    have hr : ∀ y ∈ r, y.1 ≠ c.1 := fun y hy => h y (by simp [hy])
    rw [withG, if_pos hx, Bool.false_or]
    by_cases hge : x.1 ≥ c.1
    · rw [if_pos (by simp [hge]), decide_eq_true hge, withG_done hr]
      unfold insC
      rw [List.takeWhile_cons_of_neg (by simp; omega), List.dropWhile_cons_of_neg (by simp; omega)]
      rfl
    · rw [if_neg (by simp; omega), decide_eq_false hge, withG_new hr]
      unfold insC
      rw [List.takeWhile_cons_of_pos (by simp; omega), List.dropWhile_cons_of_pos (by simp; omega)]
      rfl
theorem withM_new {l : List Comp} {c : Comp} (h : ∀ x ∈ l, x.1 ≠ c.1) : withM l c = insC l c := withG_new h

/-! ### a new store -/
def reps : Nat → List Value
  | 0 => []
  | k + 1 => .int .u8 0 :: .slice none 0 0 :: reps k
theorem reps_at : ∀ {k m : Nat}, m < k → (reps k)[m * 2]? = some (.int .u8 0) ∧ (reps k)[m * 2 + 1]? = some (.slice none 0 0)
  | 0, _, h => by omega
  | k + 1, 0, _ => ⟨rfl, rfl⟩
  | k + 1, m + 1, h => by
    obtain ⟨h1, h2⟩ := reps_at (k := k) (m := m) (by omega)
    rw [show (m + 1) * 2 = m * 2 + 2 by omega]
    exact ⟨h1, h2⟩
theorem reps_len : ∀ k, (reps k).length = k * 2
  | 0 => rfl
  | k + 1 => by simp [reps, reps_len k]; omega
theorem spec_r11_New {n first : Int} {K : Res [.sc .ptr, .sc (.int .i64)] → W R} (h1 : ¬ (1 ≤ n ∧ n ≤ 1024 ∧ 1 ≤ first ∧ first ≤ 4194303) → K (none, 1) Q w)
    (h2 : ∀ b w', 1 ≤ n ∧ n ≤ 1024 ∧ 1 ≤ first ∧ first ≤ 4194303 → R11 b (StM.new n.toNat first) (Up w.heap.size) w' → Fr None w w' → K (some ⟨b, 0, none⟩, 0) Q w') :
    callW Tryz.prog k_pinnaceref11_New [.int .i64 n, .int .i64 first] [.sc .ptr, .sc (.int .i64)] K Q w := by
  refine C_pinnaceref11_New n first K Q w ?_
  unfold F_pinnaceref11_New
  refine spec_r7_New (fun h => condT rfl (h1 h)) fun bs w1 hr hS f1 => condF rfl (newI fun w2 B2 f2 s2 => ?_)
  have hs1 := f1.size
  refine forI (N := 64) (fun s : Int => s) (fun j i w' => i = (j : Int) ∧ Fr (fun k => k = w1.heap.size) w2 w' ∧ ∃ cs, Blk w' w1.heap.size 91 cs ∧ cs.length = 129 ∧ cs[0]? = some (.pointer (some ⟨bs, 0, none⟩)) ∧ ∀ m, m < 64 → cs[1 + m * 2]? = some (.int .u8 (if m < j then (m : Int) else 0)) ∧ cs[1 + m * 2 + 1]? = some (.slice none 0 0))
    ⟨rfl, Fr.refl _ _, .pointer (some ⟨bs, 0, none⟩) :: reps 64, B2, by rw [List.length_cons, reps_len], rfl, fun m hm => ?_⟩ (fun j s w' h => h.1) ?_ ?_
  · obtain ⟨a1, a2⟩ := reps_at (k := 64) hm
    rw [show 1 + m * 2 = m * 2 + 1 by omega]
    exact ⟨a1, a2⟩
  · rintro j i w3 K' hj ⟨rfl, f3, cs, B3, hl, hc0, hc⟩ - hK
    refine pt64 rfl hj ?_
    rw [add_lit]
    have ew : IntKind.wrap .u8 (j : Int) = (j : Int) := wu8 (by omega)
    rw [ew]
    refine setI (i := 1 + j * 2 + 0) B3 (by omega) rfl fun w4 B4 f4 s4 => hK _ _ ⟨wsucc hj (by omega), f3.then f4, _, B4, by rw [List.length_set]; exact hl, by rw [List.getElem?_set_ne (by omega)]; exact hc0, fun m hm => ?_⟩
    obtain ⟨a1, a2⟩ := hc m hm
    refine ⟨?_, by rw [List.getElem?_set_ne (by omega)]; exact a2⟩
    by_cases e : m = j
    · subst e
      rw [if_pos (by omega)]
      rw [show 1 + m * 2 + 0 = 1 + m * 2 by omega, List.getElem?_set_self (by omega)]
    · rw [List.getElem?_set_ne (by omega), a1]
      by_cases h : m < j
      · rw [if_pos h, if_pos (by omega)]
      · rw [if_neg h, if_neg (by omega)]
  · rintro i w3 ⟨-, f3, cs, B3, hl, hc0, hc⟩
    have f13 : Fr None w1 w3 := f2.newer f3 fun k e => by omega
    refine h2 _ w3 hr ⟨stok_new (by omega) (by omega) hr.2.2, fun k => if k = w1.heap.size then 1 else if w.heap.size ≤ k ∧ k < w1.heap.size then 2 else 0, bs, cs, fun k e => ?_, ⟨if_pos rfl, B3, hc0, S7O.st hS f13 fun k hk e => ⟨fun h => h, ?_⟩, fun m hm => ?_⟩⟩ (f1.then0 f13)
    · show w.heap.size ≤ k
      by_cases e1 : k = w1.heap.size
      · omega
      · simp only [if_neg e1] at e
        by_cases e2 : w.heap.size ≤ k ∧ k < w1.heap.size
        · exact e2.1
        · rw [if_neg e2] at e; exact absurd rfl e
    · have e : w.heap.size ≤ k := e
      show (if _ then _ else _) = _
      rw [if_neg (by omega), if_pos ⟨e, hk⟩]
    · obtain ⟨a1, a2⟩ := hc m hm
      rw [if_pos hm] at a1
      exact ⟨a1, ⟨none, 0, 0⟩, a2, TabOk.nil hm, [], fun _ => 0, fun k e => absurd rfl e, Own.nil _ _ _ _, EntsR.nil _ _⟩

section
variable {F : Nat → Prop} {b : Nat} {x : StM}
theorem R11.shut (h : R11 b x F w) : R11 b x (fun k => F k ∧ k < w.heap.size) w := R11.st.mono h fun _ hk e => ⟨e, hk⟩
theorem spec_r11_Spawn (h : R11 b x F w) {ok : Nat → Prop} {r : Sl} {l : List Comp} (hS : SlT ok w compT r l) (hd : ∀ k, k < w.heap.size → ok k → ¬ F k) (hsm : Small l) (hl : ∀ c ∈ l, CompOk c) {K : Res [.sc (.int .u32), .sc (.int .i64)] → W R}
    (hk : ∀ w', R11 b (x.spawn l).2.2 (Ex F w) w' → Fr F w w' → K ((x.spawn l).1, (x.spawn l).2.1) Q w') : callW Tryz.prog k_pinnaceref11_Spawn [.pointer (some ⟨b, 0, none⟩), .slice r.a r.n r.c] [.sc (.int .u32), .sc (.int .i64)] K Q w := by
  have hst := h.shut
  refine C_pinnaceref11_Spawn _ _ K Q w ?_
  unfold F_pinnaceref11_Spawn
  refine condF rfl (spec_r5_List hS hsm hl fun w1 f1 => ?_)
  refine condN (fun hc => ?_) fun hc => ?_
  · have e : x.spawn l = (0, listE l, x) := by rw [StM.spawn, if_pos hc]
    rw [e] at hk
    exact hk w1 (R11.st h f1 fun k _ e => ⟨fun h => h, .inl e⟩) f1.any
  have hv : listE l = 0 := by simpa using hc
  obtain ⟨ok1, lab, bs, cs, hF, hR⟩ := R11.st.fr0 hst f1
  have hs1 := f1.size
  refine ptrI (fldI hR.blk (i := 0) (x := some ⟨bs, 0, none⟩) hR.c0 ?_)
  refine s7_Take hR.slots (fun ht w2 f2 => ?_) fun id s' w2 ht hS2 f2 => ?_
  · have e : x.spawn l = (0, 8, x) := by unfold StM.spawn; rw [if_neg (fun h => h hv), ht]
    rw [e] at hk
    refine joinK (condF rfl (hk w2 (R11.st h (f1.then0 f2) fun k _ e => ⟨fun h => h, .inl e⟩) (f1.then0 f2).any))
  · obtain ⟨t1, t2, t3, _⟩ := ok1.s.take_live ht
    have hh : homeT x.tab id = none := by
      have := ok1.home_live id
      rw [t1] at this
      simpa using this
    have e : x.spawn l = (id, 0, ⟨s', putT x.tab id l⟩) := by unfold StM.spawn; rw [if_neg (fun h => h hv), ht]
    have hok : StOk (x.spawn l).2.2 := ok1.spawn l
    rw [e] at hk hok
    have hm := maskN_lt l
    have hno : rowM (x.tab (maskN l)) id = none := by
      have := home_none.1 hh _ hm
      unfold inT at this
      simpa using this
    have f02 : Fr F w w2 := f1.any.then (f2.sub fun k e => (hF k (by omega)).1)
    refine joinI (fun (_ : Unit) w' => R11 b ⟨s', putT x.tab id l⟩ (Ex F w) w' ∧ Fr F w w') ?_ fun _ w3 ⟨a, f⟩ => hk w3 a f
    refine condT rfl ?_
    have hS3 : SlT (fun k => ok k ∧ k < w.heap.size) w2 compT r l := SlT.st (F := fun k => ok k ∧ k < w.heap.size) (hS.mono fun k hk e => ⟨e, hk⟩) f02 fun k hk e => ⟨hd k hk e.1, e⟩
    refine r11_put (hR.setSlots hS2 f2) t3 hS3 hsm hl hv hno (by have := ok1.tab_le hm; omega) fun lab' cs' w3 h3 hex f3 => ⟨⟨hok, lab', bs, cs', fun k e => ?_, h3⟩, ?_⟩
    · have := f02.size
      rcases hex k e with h | h
      · exact .inl (hF k h).1
      · exact .inr (by omega)
    · exact f02.exS f3 fun k e => .inl (hF k e).1

theorem spec_r11_Ent (h : R11 b x F w) {id : Int} {K : Res [.agg [.int .u32, .sl], .sc (.int .i64)] → W R} (hk : ∀ s w', SlT F w' compT s (x.ent id).1.2 → Fr None w w' → K (((x.ent id).1.1, s), (x.ent id).2) Q w') :
    callW Tryz.prog k_pinnaceref11_Ent [.pointer (some ⟨b, 0, none⟩), .int .u32 id] [.agg [.int .u32, .sl], .sc (.int .i64)] K Q w := by
  obtain ⟨ok, lab, bs, cs, hF, hR⟩ := h.shut
  refine C_pinnaceref11_Ent _ _ K Q w ?_
  unfold F_pinnaceref11_Ent
  refine newI fun w1 B1 f1 s1 => condF rfl (r11_find (hR.fr0 f1) fun w2 f2 => ?_)
  have f02 := f1.then0 f2
  have B2 := B1.fr f2 fun h => h
  cases hh : homeT x.tab id with
  | none =>
    have e : x.ent id = ((0, []), 7) := by unfold StM.ent; rw [ok.at_none.2 hh]
    rw [e] at hk
    refine condT rfl (stoAll B2 rfl rfl fun w3 B3 f3 s3 => aggI B3 (x := (0, ⟨none, 0, 0⟩)) rfl ?_)
    exact hk ⟨none, 0, 0⟩ w3 (SlT.nil _) (f02.newer f3 fun k e => by omega)
  | some m =>
    obtain ⟨hm, hin⟩ := home_some hh
    obtain ⟨i, hi⟩ := Option.isSome_iff_exists.1 (show (rowM (x.tab m) id).isSome = true from hin)
    obtain ⟨hil, e, he, heid⟩ := rowM_some hi
    have hent : x.ent id = (e, 0) := by
      unfold StM.ent StM.at
      rw [hh]
      simp only [hi, he]
    rw [hent] at hk
    refine condF rfl ?_
    have fd : Fr None w2 w2.drew := (Fr.refl _ _).drew
    have h2 := (hR.fr0 f02).fr0 fd
    obtain ⟨t1, sl, t2, t3⟩ := h2.tab m hm
    refine ptrI (fldA h2.blk (i := 1) (x := sl) t2 (r11_row h2 hm fun w3 f3 => ?_))
    have h3 := h2.fr0 f3
    refine andI (by rw [add_lit]; exact (h3.blk.cell _).trans t2) ?_
    have A3 := ArrO.st.fr0 t3 f3
    obtain ⟨_, raws, lab', hl1, ho, hE⟩ := A3
    obtain ⟨r0, hr0, hr1, hr2⟩ := hE.get he
    have hrl := (List.getElem?_eq_some_iff.1 hr0).1
    refine ho.sl.get (j := i) rfl (by unfold rowI; rw [hi]) hrl fun y hy => ?_
    rw [hr0] at hy
    cases hy
    have B3 := (B2.fr fd fun h => h).fr f3 fun h => h
    refine stoAll B3 rfl rfl fun w4 B4 f4 s4 => aggI B4 (x := (r0.1, r0.2)) rfl ?_
    rw [hr1]
    have f03 := (f02.then0 fd).then0 f3
    have hw1 := f2.size
    refine hk r0.2 w4 ?_ (f03.newer f4 fun k e => by omega)
    refine SlT.st (F := fun k => lab' k = 2) hr2 f4 fun k hk2 e2 => ?_
    have h5 := (hl1 k (by omega)).1
    have h6 := hF k (by omega)
    exact ⟨fun e3 => by omega, h6.1⟩
end

end Go.Proofs.YtecmpmnaeciapaaGreat
