/-
  What the functions of the document's layer 7 (slots, each with its story) compute, against the model of the program's slots.
-/
import Derived.Test.YtecmpmnaeciapaaGreatStoM
import Derived.Test.YtecmpmnaeciapaaGreatSl2
namespace Go.Proofs.YtecmpmnaeciapaaGreat
open Go Go.RowKit Go.Proofs.YtecmpmnaeciapaaGreat.Den
variable {R : Type} {Q : R → World → Prop} {w : World}

/-! ### the model -/
abbrev One := Int × Bool × Int
def wt (o : One) : Int := o.1 - (if o.2.1 then 1 else 0)
def fz (ones : List One) (a : Int) : Int := match ones[a.toNat]? with
  | some o => o.2.2
  | none => 0
theorem fz_at {ones : List One} {q : Nat} {o : One} (h : ones[q]? = some o) : fz ones (q : Int) = o.2.2 := by unfold fz; rw [Int.toNat_natCast, h]
theorem fz_set {ones : List One} {q : Nat} {o : One} {a : Int} (h : a.toNat ≠ q) : fz (ones.set q o) a = fz ones a := by unfold fz; rw [List.getElem?_set_ne (Ne.symm h)]
structure R7M (s : SM) (ones : List One) (clock : Int) : Prop where
  gen : ones.map (·.1) = s.gen
  used : ones.map (·.2.1) = s.used
  fr : ∀ (i : Nat) (o : One), ones[i]? = some o → (0 < o.2.2 ↔ (i : Int) ∈ s.free)
  mono : s.free.Pairwise (fun a b => fz ones a < fz ones b)
  le : ∀ o ∈ ones, o.2.2 ≤ clock
  c0 : 0 ≤ clock
  cb : clock ≤ (ones.map wt).sum
theorem sum_set : ∀ {l : List Int} {i : Nat} {x : Int}, l[i]? = some x → ∀ y, (l.set i y).sum = l.sum - x + y
  | [], _, _, h, _ => by simp at h
  | a :: r, 0, x, h, y => by simp at h; subst h; simp; omega
  | a :: r, i + 1, x, h, y => by simp at h; simp [sum_set h y]; omega
theorem set_same {α : Type} : ∀ {l : List α} {q : Nat} {x : α}, l[q]? = some x → l.set q x = l
  | [], _, _, h => by simp at h
  | a :: r, 0, x, h => by simp at h; subst h; rfl
  | a :: r, q + 1, x, h => by simp at h; rw [List.set_cons_succ, set_same h]
theorem sum_le {c : Int} : ∀ {l : List Int}, (∀ x ∈ l, x ≤ c) → l.sum ≤ l.length * c
  | [], _ => by simp
  | a :: r, h => by
    have h1 := h a (by simp)
    have h2 := sum_le (l := r) fun x hx => h x (by simp [hx])
    simp only [List.sum_cons, List.length_cons]
    have : ((r.length + 1 : Nat) : Int) * c = (r.length : Int) * c + c := by push_cast; rw [Int.add_mul, Int.one_mul]
    omega
section
variable {s : SM} {ones : List One} {clock : Int}
theorem R7M.len (h : R7M s ones clock) : ones.length = s.n := by rw [SM.n, ← h.gen, List.length_map]
theorem R7M.at_ (h : R7M s ones clock) {q : Nat} (hq : q < s.n) : ∃ o, ones[q]? = some o ∧ s.gen[q]? = some o.1 ∧ s.used[q]? = some o.2.1 := by
  have hl := h.len
  refine ⟨_, List.getElem?_eq_getElem (by omega), ?_, ?_⟩
  · rw [← h.gen, List.getElem?_map, List.getElem?_eq_getElem (by omega)]; rfl
  · rw [← h.used, List.getElem?_map, List.getElem?_eq_getElem (by omega)]; rfl
theorem R7M.new (n : Nat) (first : Int) : R7M (SM.new n first) (List.replicate n (0, false, 0)) 0 := by
  refine ⟨by simp [SM.new], by simp [SM.new], fun i o h => ?_, by simp [SM.new], fun o h => ?_, Int.le_refl _, ?_⟩
  · rw [List.getElem?_replicate] at h
    split at h
    · cases h; simp [SM.new]
    · cases h
  · rw [List.eq_of_mem_replicate h]; exact Int.le_refl _
  · have : ((List.replicate n ((0, false, 0) : One)).map wt).sum = 0 := by
      rw [List.map_replicate]
      induction n with
      | zero => rfl
      | succ n ih => rw [List.replicate_succ, List.sum_cons, ih]; rfl
    omega
theorem R7M.gen_le (h : R7M s ones clock) (hs : SMOk s) : ∀ o ∈ ones, o.1 ≤ 4194303 := fun o ho => by
  obtain ⟨i, hi⟩ := List.mem_iff_getElem?.1 ho
  have hg : s.gen[i]? = some o.1 := by rw [← h.gen, List.getElem?_map, hi]; rfl
  rcases Nat.lt_or_ge i s.fresh with h1 | h1
  · exact (hs.old i _ hg h1).2
  · rw [hs.new i _ hg h1]; omega
theorem R7M.clock_le (h : R7M s ones clock) (hs : SMOk s) : clock ≤ 4294966272 := by
  have h1 := sum_le (c := 4194303) (l := ones.map wt) fun x hx => by
    obtain ⟨o, ho, rfl⟩ := List.mem_map.1 hx
    have := h.gen_le hs o ho
    unfold wt
    split <;> omega
  have h2 := h.len
  have h3 := hs.le
  have h4 := h.cb
  rw [List.length_map, h2] at h1
  have : (s.n : Int) * 4194303 ≤ 1024 * 4194303 := Int.mul_le_mul_of_nonneg_right (by omega) (by omega)
  omega
theorem R7M.use (h : R7M s ones clock) {q : Nat} {o : One} (hq : ones[q]? = some o) (hu : o.2.1 = false) {g : Int} (hg : o.1 ≤ g - 1) {free' : List Int} {fr' : Nat} (hfree : ∀ x, x ∈ free' ↔ x ∈ s.free ∧ x ≠ (q : Int)) (hsub : free'.Sublist s.free) (hn : ∀ x ∈ s.free, 0 ≤ x) :
    R7M { s.use q g with free := free', fresh := fr' } (ones.set q (g, true, 0)) clock := by
  have hql := (List.getElem?_eq_some_iff.1 hq).1
  refine ⟨by rw [List.map_set, h.gen]; rfl, by rw [List.map_set, h.used]; rfl, fun i o' hi => ?_, ?_, fun o' ho => ?_, h.c0, ?_⟩
  · rw [hfree]
    rw [List.getElem?_set] at hi
    by_cases e : q = i
    · subst e
      rw [if_pos rfl, if_pos hql] at hi
      cases hi
      simp
    · rw [if_neg e] at hi
      rw [h.fr i o' hi]
      constructor
      · intro h1; exact ⟨h1, fun e2 => e (by omega)⟩
      · exact fun h1 => h1.1
  · refine List.Pairwise.imp_of_mem ?_ (h.mono.sublist hsub)
    intro a b ha hb hab
    have h1 := (hfree a).1 ha
    have h2 := (hfree b).1 hb
    have h3 := hn a h1.1
    have h4 := hn b h2.1
    rw [fz_set (fun e => h1.2 (by omega)), fz_set (fun e => h2.2 (by omega))]
    exact hab
  · rcases List.mem_or_eq_of_mem_set ho with h1 | h1
    · exact h.le o' h1
    · subst h1; exact h.c0
  · have hw : (ones.map wt)[q]? = some (wt o) := by rw [List.getElem?_map, hq]; rfl
    rw [List.map_set, sum_set hw]
    have e1 : wt o = o.1 := by unfold wt; rw [hu]; simp
    have e2 : wt (g, true, 0) = g - 1 := by unfold wt; simp
    have := h.cb
    omega
theorem R7M.off (h : R7M s ones clock) {q : Nat} {o : One} (hq : ones[q]? = some o) (hu : o.2.1 = true) (hno : (q : Int) ∉ s.free) (hn : ∀ x ∈ s.free, 0 ≤ x) :
    R7M { s with used := s.used.set q false, free := s.free ++ [(q : Int)] } (ones.set q (o.1, false, clock + 1)) (clock + 1) ∧ R7M { s with used := s.used.set q false } (ones.set q (o.1, false, o.2.2)) clock := by
  have hql := (List.getElem?_eq_some_iff.1 hq).1
  have hw : (ones.map wt)[q]? = some (wt o) := by rw [List.getElem?_map, hq]; rfl
  have e1 : wt o = o.1 - 1 := by unfold wt; rw [hu]; simp
  have hgen : ∀ x, (ones.set q (o.1, false, x)).map (·.1) = s.gen := fun x => by
    rw [List.map_set, h.gen]
    exact set_same (by rw [← h.gen, List.getElem?_map, hq]; rfl)
  have hc := h.cb
  have hfree : ∀ x ∈ s.free, x.toNat ≠ q := fun x hx e => hno (by have := hn x hx; rw [← e, Int.toNat_of_nonneg this]; exact hx)
  have hf0 : ¬ 0 < o.2.2 := fun e => hno ((h.fr q o hq).1 e)
  refine ⟨⟨hgen _, by rw [List.map_set, h.used], fun i o' hi => ?_, ?_, fun o' ho => ?_, by have := h.c0; omega, ?_⟩, ⟨hgen _, by rw [List.map_set, h.used], fun i o' hi => ?_, ?_, fun o' ho => ?_, h.c0, ?_⟩⟩
  · rw [List.getElem?_set] at hi
    rw [List.mem_append, List.mem_singleton]
    by_cases e : q = i
    · subst e
      rw [if_pos rfl, if_pos hql] at hi
      cases hi
      have := h.c0
      simp; omega
    · rw [if_neg e] at hi
      rw [h.fr i o' hi]
      constructor
      · exact .inl
      · rintro (h1 | h1)
        · exact h1
        · exact absurd (by omega) e
  · rw [List.pairwise_append]
    refine ⟨h.mono.imp_of_mem fun {a b} ha hb hab => by rw [fz_set (hfree a ha), fz_set (hfree b hb)]; exact hab, by simp, fun a ha b hb => ?_⟩
    simp only [List.mem_singleton] at hb
    subst hb
    rw [fz_set (hfree a ha), fz_at (o := (o.1, false, clock + 1)) (by rw [List.getElem?_set_self hql])]
    have h1 : fz ones a ≤ clock := by
      unfold fz
      cases ha2 : ones[a.toNat]? with
      | none => exact h.c0
      | some o2 => exact h.le o2 (List.mem_of_getElem? ha2)
    show fz ones a < clock + 1
    omega
  · rcases List.mem_or_eq_of_mem_set ho with h1 | h1
    · have := h.le o' h1; omega
    · subst h1; exact Int.le_refl _
  · rw [List.map_set, sum_set hw]
    have e2 : wt (o.1, false, clock + 1) = o.1 := by unfold wt; simp
    omega
  · rw [List.getElem?_set] at hi
    by_cases e : q = i
    · subst e
      rw [if_pos rfl, if_pos hql] at hi
      cases hi
      exact ⟨fun e => absurd e hf0, fun e => absurd e hno⟩
    · rw [if_neg e] at hi
      exact h.fr i o' hi
  · exact h.mono.imp_of_mem fun {a b} ha hb hab => by rw [fz_set (hfree a ha), fz_set (hfree b hb)]; exact hab
  · rcases List.mem_or_eq_of_mem_set ho with h1 | h1
    · exact h.le o' h1
    · subst h1; exact h.le o (List.mem_of_getElem? hq)
  · rw [List.map_set, sum_set hw]
    have e2 : wt (o.1, false, o.2.2) = o.1 := by unfold wt; simp
    omega
end

/-! ### the walks -/
abbrev oneT : Ty := .agg [.int .i64, .bool, .int .i64]
theorem ones_ty : SlTy Tryz.prog 146 166 oneT 24 := slTy (by kernel_rfl)
theorem one_zero : (Tryz.prog.info? 166).bind (·.zero) = some (.agg #[.int .i64 0, .bool false, .int .i64 0]) := by kernel_rfl
abbrev s7C (s : SM) (sl : Sl) (clock : Int) : List Value := [.int .i64 s.first, .slice sl.a sl.n sl.c, .int .i64 clock]
def S7O (b : Nat) (s : SM) : OB := fun F w => SMOk s ∧ ∃ sl ones clock, F b ∧ Blk w b 148 (s7C s sl clock) ∧ Own (fun k => F k ∧ k ≠ b) w 166 oneT sl ones ∧ R7M s ones clock
theorem S7O.st {b : Nat} {s : SM} : St (S7O b s) := fun ⟨h0, sl, ones, clock, h1, h2, h3, h4⟩ f hs =>
  ⟨h0, sl, ones, clock, (hs b h2.lt h1).2, h2.fr f (hs b h2.lt h1).1, Own.st h3 f fun k hk e => ⟨(hs k hk e.1).1, (hs k hk e.1).2, e.2⟩, h4⟩

theorem spec_r7_Gen {id : Int} (hid : IdOk id) {K : Res [.sc (.int .i64)] → W R} (hk : K (genOf id) Q w) : callW Tryz.prog k_pinnaceref07_Gen [.int .u32 id] [.sc (.int .i64)] K Q w := by
  refine C_pinnaceref07_Gen _ K Q w ?_
  unfold F_pinnaceref07_Gen
  obtain ⟨h1, h2⟩ := hid
  have e : IntKind.wrap .i64 (Int.tdiv (IntKind.wrap .i64 id) 1024) = genOf id := by rw [w64 (x := id) (by omega), Int.tdiv_eq_ediv_of_nonneg h1, w64 (by omega)]; rfl
  rw [e]
  exact hk
theorem spec_r7_SlotR {id : Int} (hid : IdOk id) {K : Res [.sc (.int .i64)] → W R} (hk : K (slotOf id) Q w) : callW Tryz.prog k_pinnaceref07_Slot [.int .u32 id] [.sc (.int .i64)] K Q w := by
  refine C_pinnaceref07_Slot _ K Q w ?_
  unfold F_pinnaceref07_Slot
  obtain ⟨h1, h2⟩ := hid
  have e : Int.tmod (IntKind.wrap .i64 id) 1024 = slotOf id := by rw [w64 (by omega), Int.tmod_eq_emod_of_nonneg h1]; rfl
  rw [e]
  exact hk
theorem spec_r7_Make {i : Nat} {g : Int} (hi : i < 1024) (h1 : 1 ≤ g) (h2 : g ≤ 4194303) {K : Res [.sc (.int .u32), .sc (.int .i64)] → W R} (hk : K (idOf i g, 0) Q w) : callW Tryz.prog k_pinnaceref07_Make [.int .i64 (i : Int), .int .i64 g] [.sc (.int .u32), .sc (.int .i64)] K Q w := by
  refine C_pinnaceref07_Make _ _ K Q w ?_
  unfold F_pinnaceref07_Make
  refine joinI (fun z w' => z = false ∧ w' = w) ?_ ?_
  · refine condD (fun h => absurd (show (i : Int) < 0 from h) (by omega)) fun _ => condD (fun h => absurd (show (i : Int) > 1023 from h) (by omega)) fun _ => condD (fun h => absurd h (by omega)) fun _ => ⟨decide_eq_false (by omega), rfl⟩
  rintro z w' ⟨rfl, rfl⟩
  have e1 : IntKind.wrap .u32 g = g := wu32 (by omega)
  have e2 : IntKind.wrap .u32 (g * 1024) = g * 1024 := wu32 (by omega)
  have e3 : IntKind.wrap .u32 (i : Int) = (i : Int) := wu32 (by omega)
  have e4 : IntKind.wrap .u32 (g * 1024 + (i : Int)) = idOf i g := by rw [wu32 (by omega)]; rfl
  refine condF rfl ?_
  show K _ Q w'
  rw [e1, e2, e3, e4]
  exact hk

theorem spec_r7_New {n first : Int} {K : Res [.sc .ptr, .sc (.int .i64)] → W R} (h1 : ¬ (1 ≤ n ∧ n ≤ 1024 ∧ 1 ≤ first ∧ first ≤ 4194303) → K (none, 1) Q w)
    (h2 : ∀ b w', 1 ≤ n ∧ n ≤ 1024 ∧ 1 ≤ first ∧ first ≤ 4194303 → S7O b (SM.new n.toNat first) (Up w.heap.size) w' → Fr None w w' → K (some ⟨b, 0, none⟩, 0) Q w') :
    callW Tryz.prog k_pinnaceref07_New [.int .i64 n, .int .i64 first] [.sc .ptr, .sc (.int .i64)] K Q w := by
  refine C_pinnaceref07_New n first K Q w ?_
  unfold F_pinnaceref07_New
  refine joinI (fun b w' => b = !decide (1 ≤ n ∧ n ≤ 1024 ∧ 1 ≤ first ∧ first ≤ 4194303) ∧ w' = w) ?_ ?_
  · refine condD (fun h => ⟨by rw [decide_eq_false (by omega)]; rfl, rfl⟩) fun a1 => condD (fun h => ⟨by rw [decide_eq_false (by omega)]; rfl, rfl⟩) fun a2 => condD (fun h => ⟨by rw [decide_eq_false (by omega)]; rfl, rfl⟩) fun a3 => ⟨?_, rfl⟩
    by_cases h : first > 4194303
    · rw [decide_eq_true h, decide_eq_false (by omega)]; rfl
    · rw [decide_eq_false h, decide_eq_true (by omega)]; rfl
  rintro b w' ⟨rfl, rfl⟩
  refine condI (fun h => h1 (by intro h2; rw [decide_eq_true h2] at h; cases h)) fun h => ?_
  have h : 1 ≤ n ∧ n ≤ 1024 ∧ 1 ≤ first ∧ first ≤ 4194303 := by simpa using h
  obtain ⟨m, rfl⟩ : ∃ m : Nat, n = (m : Int) := ⟨n.toNat, by omega⟩
  rw [Int.toNat_natCast] at h2
  refine makeI ones_ty (z := ((0, false, 0) : One)) one_zero rfl rfl (by omega) (by omega) fun w1 o1 f1 s1 => ?_
  refine newI fun w2 B2 f2 s2 => h2 _ w2 h ⟨smok_new (by omega) (by omega) h.2.2, _, _, 0, ?_, B2, Own.st o1 f2 fun k _ e => ⟨fun h => h, ?_, by omega⟩, R7M.new m first⟩ (f1.then0 f2)
  · show w'.heap.size ≤ _; omega
  · show w'.heap.size ≤ k; omega

section
variable {F : Nat → Prop} {b : Nat} {s : SM}
theorem s7_Live (h : S7O b s F w) {id : Int} (hid : IdOk id) {K : Res [.sc .bool] → W R} (hk : ∀ w', Fr None w w' → K (s.live id) Q w') : callW Tryz.prog k_pinnaceref07_Live [.pointer (some ⟨b, 0, none⟩), .int .u32 id] [.sc .bool] K Q w := by
  obtain ⟨hs, sl, ones, clock, hF, B, ho, hM⟩ := h
  refine C_pinnaceref07_Live _ _ K Q w ?_
  unfold F_pinnaceref07_Live
  refine condF rfl (ptrI (fldI B (x := sl) rfl ?_))
  have hlen := hM.len
  have hle := hs.le
  refine rangeC (t := oneT) (l := ones) (ok := fun _ => True) (fun s : Int => s) (fun j i w' => i = (j : Int) ∧ Fr None w w' ∧ ∀ (q : Nat) (o : One), q < j → ones[q]? = some o → ¬ (o.2.1 = true ∧ (q : Int) = slotOf id ∧ o.1 = genOf id)) rfl rfl rfl ⟨rfl, Fr.refl _ _, by omega⟩ (fun j s w' h => h.1) (fun j st w' hp => (ho.sl.mono fun _ _ _ => trivial).fr0 hp.2.1) ?_ ?_
  · rintro j x i w1 w2 K' hx ⟨rfl, f1, hno⟩ - B2 f2 s2 hK
    have hjl := (List.getElem?_eq_some_iff.1 hx).1
    refine joinI (fun z w' => Fr None w w' ∧ z = decide (x.2.1 = true ∧ (j : Int) = slotOf id ∧ x.1 = genOf id)) ?_ ?_
    · have fd : Fr None w w2.drew := (f1.then0 f2).drew
      refine fldI B2.drew (x := x.2.1) rfl ?_
      refine condI (fun hu => ?_) fun hu => ⟨fd, by rw [decide_eq_false (by simp [hu])]⟩
      refine spec_r7_SlotR hid (condE (fun hs2 => ?_) fun hs2 => ⟨fd, by rw [decide_eq_false (fun h => hs2 h.2.1)]⟩)
      refine fldI B2.drew (x := x.1) rfl (spec_r7_Gen hid (andI (B2.drew.rd (s := .int .i64) (i := 0) (x := x.1) rfl) ⟨fd, ?_⟩))
      by_cases hg : x.1 = genOf id <;> simp [hg, hu, hs2]
    · rintro z w3 ⟨f3, rfl⟩
      refine condD (fun hz => ?_) fun hz => ?_
      · have : s.live id = true := SM.live_iff.2 ⟨by rw [← hM.used, List.getElem?_map, show (slotOf id).toNat = j by omega, hx]; simp [hz.1], by rw [← hM.gen, List.getElem?_map, show (slotOf id).toNat = j by omega, hx]; simp [hz.2.2]⟩
        have e := hk w3 f3
        rw [this] at e
        exact e
      · refine hK _ _ ⟨wsucc (N := ones.length) hjl (by omega), f3, fun q o hq ho2 => ?_⟩
        rcases Nat.lt_succ_iff_lt_or_eq.1 hq with h1 | h1
        · exact hno q o h1 ho2
        · subst h1; rw [hx] at ho2; cases ho2; exact hz
  · rintro i w1 ⟨rfl, f1, hno⟩
    have : s.live id = false := by
      cases hl : s.live id with
      | false => rfl
      | true =>
        obtain ⟨h1, h2⟩ := SM.live_iff.1 hl
        have hr := slot_range id
        have hq : (slotOf id).toNat < s.n := by have := (List.getElem?_eq_some_iff.1 h2).1; exact this
        obtain ⟨o, ho1, ho2, ho3⟩ := hM.at_ hq
        rw [h1] at ho3
        rw [h2] at ho2
        exact absurd ⟨(Option.some.inj ho3).symm, by omega, (Option.some.inj ho2).symm⟩ (hno _ o (by omega) ho1)
    have e := hk w1 f1
    rw [this] at e
    exact e
end

end Go.Proofs.YtecmpmnaeciapaaGreat
