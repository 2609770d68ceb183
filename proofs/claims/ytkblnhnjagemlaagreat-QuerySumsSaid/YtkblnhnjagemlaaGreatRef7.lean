/-
  What the functions of the document's layer 7 (slots, each with its story) compute, against the model of the program's slots.
-/
import Derived.Test.YtkblnhnjagemlaaGreatStoM
import Derived.Test.YtkblnhnjagemlaaGreatSl2
namespace Go.Proofs.YtkblnhnjagemlaaGreat
open Go Go.RowKit Go.Proofs.YtkblnhnjagemlaaGreat.Den
variable {R : Type} {Q : R → World → Prop} {w : World}

/-! ### the model -/
abbrev One := Int × Bool × Int
def wt (o : One) : Int := o.1 - (if o.2.1 then 1 else 0)
def fz (ones : List One) (a : Int) : Int := match ones[a.toNat]? with
  | some o => o.2.2
  | none => 0
theorem fz_at {ones : List One} {q : Nat} {o : One} (h : ones[q]? = some o) : fz ones (q : Int) = o.2.2 := by unfold fz; rw [Int.toNat_natCast, h]
theorem fz_set {ones : List One} {q : Nat} {o : One} {a : Int} (h : a.toNat ≠ q) : fz (ones.set q o) a = fz ones a := by unfold fz; rw [List.getElem?_set_ne (Ne.symm h)]
structure R7M (s : SM) (ones : List One) (clock : Int) : Prop where
  gen : ones.map (·.1) = s.gen
  used : ones.map (·.2.1) = s.used
  fr : ∀ (i : Nat) (o : One), ones[i]? = some o → (0 < o.2.2 ↔ (i : Int) ∈ s.free)
  mono : s.free.Pairwise (fun a b => fz ones a < fz ones b)
  le : ∀ o ∈ ones, o.2.2 ≤ clock
  c0 : 0 ≤ clock
  cb : clock ≤ (ones.map wt).sum
theorem sum_set : ∀ {l : List Int} {i : Nat} {x : Int}, l[i]? = some x → ∀ y, (l.set i y).sum = l.sum - x + y
  | [], _, _, h, _ => by simp at h
  | a :: r, 0, x, h, y => by simp at h; subst h; simp; omega
  | a :: r, i + 1, x, h, y => by simp at h; simp [sum_set h y]; omega
theorem set_same {α : Type} : ∀ {l : List α} {q : Nat} {x : α}, l[q]? = some x → l.set q x = l
  | [], _, _, h => by simp at h
  | a :: r, 0, x, h => by simp at h; subst h; rfl
  | a :: r, q + 1, x, h => by simp at h; rw [List.set_cons_succ, set_same h]
theorem sum_le {c : Int} : ∀ {l : List Int}, (∀ x ∈ l, x ≤ c) → l.sum ≤ l.length * c
  | [], _ => by simp
  | a :: r, h => by
    have h1 := h a (by simp)
    have h2 := sum_le (l := r) fun x hx => h x (by simp [hx])
    simp only [List.sum_cons, List.length_cons]
    have : ((r.length + 1 : Nat) : Int) * c = (r.length : Int) * c + c := by push_cast; rw [Int.add_mul, Int.one_mul]
    omega
section
variable {s : SM} {ones : List One} {clock : Int}
theorem R7M.len (h : R7M s ones clock) : ones.length = s.n := by rw [SM.n, ← h.gen, List.length_map]
theorem R7M.at_ (h : R7M s ones clock) {q : Nat} (hq : q < s.n) : ∃ o, ones[q]? = some o ∧ s.gen[q]? = some o.1 ∧ s.used[q]? = some o.2.1 := by
  have hl := h.len
  refine ⟨_, List.getElem?_eq_getElem (by omega), ?_, ?_⟩
  · rw [← h.gen, List.getElem?_map, List.getElem?_eq_getElem (by omega)]; rfl
  · rw [← h.used, List.getElem?_map, List.getElem?_eq_getElem (by omega)]; rfl
theorem R7M.new (n : Nat) (first : Int) : R7M (SM.new n first) (List.replicate n (0, false, 0)) 0 := by
  refine ⟨by simp [SM.new], by simp [SM.new], fun i o h => ?_, by simp [SM.new], fun o h => ?_, Int.le_refl _, ?_⟩
  · rw [List.getElem?_replicate] at h
    split at h
    · cases h; simp [SM.new]
    · cases h
  · rw [List.eq_of_mem_replicate h]; exact Int.le_refl _
  · have : ((List.replicate n ((0, false, 0) : One)).map wt).sum = 0 := by
      rw [List.map_replicate]
      induction n with
      | zero => rfl
      | succ n ih => rw [List.replicate_succ, List.sum_cons, ih]; rfl
    omega
theorem R7M.gen_le (h : R7M s ones clock) (hs : SMOk s) : ∀ o ∈ ones, o.1 ≤ 4194303 := fun o ho => by
  obtain ⟨i, hi⟩ := List.mem_iff_getElem?.1 ho
  have hg : s.gen[i]? = some o.1 := by rw [← h.gen, List.getElem?_map, hi]; rfl
  rcases Nat.lt_or_ge i s.fresh with h1 | h1
  · exact (hs.old i _ hg h1).2
  · rw [hs.new i _ hg h1]; omega
theorem R7M.clock_le (h : R7M s ones clock) (hs : SMOk s) : clock ≤ 4294966272 := by
  have h1 := sum_le (c := 4194303) (l := ones.map wt) fun x hx => by
    obtain ⟨o, ho, rfl⟩ := List.mem_map.1 hx
    have := h.gen_le hs o ho
    unfold wt
    split <;> omega
  have h2 := h.len
  have h3 := hs.le
  have h4 := h.cb
  rw [List.length_map, h2] at h1
  have : (s.n : Int) * 4194303 ≤ 1024 * 4194303 := Int.mul_le_mul_of_nonneg_right (by omega) (by omega)
  omega
theorem R7M.use (h : R7M s ones clock) {q : Nat} {o : One} (hq : ones[q]? = some o) (hu : o.2.1 = false) {g : Int} (hg : o.1 ≤ g - 1) {free' : List Int} {fr' : Nat} (hfree : ∀ x, x ∈ free' ↔ x ∈ s.free ∧ x ≠ (q : Int)) (hsub : free'.Sublist s.free) (hn : ∀ x ∈ s.free, 0 ≤ x) :
    R7M { s.use q g with free := free', fresh := fr' } (ones.set q (g, true, 0)) clock := by
  have hql := (List.getElem?_eq_some_iff.1 hq).1
  refine ⟨by rw [List.map_set, h.gen]; rfl, by rw [List.map_set, h.used]; rfl, fun i o' hi => ?_, ?_, fun o' ho => ?_, h.c0, ?_⟩
  · rw [hfree]
    rw [List.getElem?_set] at hi
    by_cases e : q = i
    · subst e
      rw [if_pos rfl, if_pos hql] at hi
      cases hi
      simp
    · rw [if_neg e] at hi
      rw [h.fr i o' hi]
      constructor
      · intro h1; exact ⟨h1, fun e2 => e (by omega)⟩
      · exact fun h1 => h1.1
  · refine List.Pairwise.imp_of_mem ?_ (h.mono.sublist hsub)
    intro a b ha hb hab
    have h1 := (hfree a).1 ha
    have h2 := (hfree b).1 hb
    have h3 := hn a h1.1
    have h4 := hn b h2.1
    rw [fz_set (fun e => h1.2 (by omega)), fz_set (fun e => h2.2 (by omega))]
    exact hab
  · rcases List.mem_or_eq_of_mem_set ho with h1 | h1
    · exact h.le o' h1
    · subst h1; exact h.c0
  · have hw : (ones.map wt)[q]? = some (wt o) := by rw [List.getElem?_map, hq]; rfl
    rw [List.map_set, sum_set hw]
    have e1 : wt o = o.1 := by unfold wt; rw [hu]; simp
    have e2 : wt (g, true, 0) = g - 1 := by unfold wt; simp
    have := h.cb
    omega
theorem R7M.off (h : R7M s ones clock) {q : Nat} {o : One} (hq : ones[q]? = some o) (hu : o.2.1 = true) (hno : (q : Int) ∉ s.free) (hn : ∀ x ∈ s.free, 0 ≤ x) :
    R7M { s with used := s.used.set q false, free := s.free ++ [(q : Int)] } (ones.set q (o.1, false, clock + 1)) (clock + 1) ∧ R7M { s with used := s.used.set q false } (ones.set q (o.1, false, o.2.2)) clock := by
  have hql := (List.getElem?_eq_some_iff.1 hq).1
  have hw : (ones.map wt)[q]? = some (wt o) := by rw [List.getElem?_map, hq]; rfl
  have e1 : wt o = o.1 - 1 := by unfold wt; rw [hu]; simp
  have hgen : ∀ x, (ones.set q (o.1, false, x)).map (·.1) = s.gen := fun x => by
    rw [List.map_set, h.gen]
    exact set_same (by rw [← h.gen, List.getElem?_map, hq]; rfl)
  have hc := h.cb
  have hfree : ∀ x ∈ s.free, x.toNat ≠ q := fun x hx e => hno (by have := hn x hx; rw [← e, Int.toNat_of_nonneg this]; exact hx)
  have hf0 : ¬ 0 < o.2.2 := fun e => hno ((h.fr q o hq).1 e)
  refine ⟨⟨hgen _, by rw [List.map_set, h.used], fun i o' hi => ?_, ?_, fun o' ho => ?_, by have := h.c0; omega, ?_⟩, ⟨hgen _, by rw [List.map_set, h.used], fun i o' hi => ?_, ?_, fun o' ho => ?_, h.c0, ?_⟩⟩
  · rw [List.getElem?_set] at hi
    rw [List.mem_append, List.mem_singleton]
    by_cases e : q = i
    · subst e
      rw [if_pos rfl, if_pos hql] at hi
      cases hi
      have := h.c0
      simp; omega
    · rw [if_neg e] at hi
      rw [h.fr i o' hi]
      constructor
      · exact .inl
      · rintro (h1 | h1)
        · exact h1
        · exact absurd (by omega) e
  · rw [List.pairwise_append]
    refine ⟨h.mono.imp_of_mem fun {a b} ha hb hab => by rw [fz_set (hfree a ha), fz_set (hfree b hb)]; exact hab, by simp, fun a ha b hb => ?_⟩
    simp only [List.mem_singleton] at hb
    subst hb
    rw [fz_set (hfree a ha), fz_at (o := (o.1, false, clock + 1)) (by rw [List.getElem?_set_self hql])]
    have h1 : fz ones a ≤ clock := by
      unfold fz
      cases ha2 : ones[a.toNat]? with
      | none => exact h.c0
      | some o2 => exact h.le o2 (List.mem_of_getElem? ha2)
    show fz ones a < clock + 1
    omega
  · rcases List.mem_or_eq_of_mem_set ho with h1 | h1
    · have := h.le o' h1; omega
    · subst h1; exact Int.le_refl _
  · rw [List.map_set, sum_set hw]
    have e2 : wt (o.1, false, clock + 1) = o.1 := by unfold wt; simp
    omega
  · rw [List.getElem?_set] at hi
    by_cases e : q = i
    · subst e
      rw [if_pos rfl, if_pos hql] at hi
      cases hi
      exact ⟨fun e => absurd e hf0, fun e => absurd e hno⟩
    · rw [if_neg e] at hi
      exact h.fr i o' hi
  · exact h.mono.imp_of_mem fun {a b} ha hb hab => by rw [fz_set (hfree a ha), fz_set (hfree b hb)]; exact hab
  · rcases List.mem_or_eq_of_mem_set ho with h1 | h1
    · exact h.le o' h1
    · subst h1; exact h.le o (List.mem_of_getElem? hq)
  · rw [List.map_set, sum_set hw]
    have e2 : wt (o.1, false, o.2.2) = o.1 := by unfold wt; simp
    omega
end

/-! ### the walks -/
abbrev oneT : Ty := .agg [.int .i64, .bool, .int .i64]
theorem ones_ty : SlTy Tryz.prog 245 249 oneT 24 := slTy (by kernel_rfl)
theorem one_zero : (Tryz.prog.info? 249).bind (·.zero) = some (.agg #[.int .i64 0, .bool false, .int .i64 0]) := by kernel_rfl
abbrev s7C (s : SM) (sl : Sl) (clock : Int) : List Value := [.int .i64 s.first, .slice sl.a sl.n sl.c, .int .i64 clock]
def S7O (b : Nat) (s : SM) : OB := fun F w => SMOk s ∧ ∃ sl ones clock, F b ∧ Blk w b 247 (s7C s sl clock) ∧ Own (fun k => F k ∧ k ≠ b) w 249 oneT sl ones ∧ R7M s ones clock
theorem S7O.st {b : Nat} {s : SM} : St (S7O b s) := fun ⟨h0, sl, ones, clock, h1, h2, h3, h4⟩ f hs =>
  ⟨h0, sl, ones, clock, (hs b h2.lt h1).2, h2.fr f (hs b h2.lt h1).1, Own.st h3 f fun k hk e => ⟨(hs k hk e.1).1, (hs k hk e.1).2, e.2⟩, h4⟩

theorem spec_r7_Gen {id : Int} (hid : IdOk id) {K : Res [.sc (.int .i64)] → W R} (hk : K (genOf id) Q w) : callW Tryz.prog k_pinnaceref07_Gen [.int .u32 id] [.sc (.int .i64)] K Q w := by
  refine C_pinnaceref07_Gen _ K Q w ?_
  unfold F_pinnaceref07_Gen
  obtain ⟨h1, h2⟩ := hid
  have e : IntKind.wrap .i64 (Int.tdiv (IntKind.wrap .i64 id) 1024) = genOf id := by rw [w64 (x := id) (by omega), Int.tdiv_eq_ediv_of_nonneg h1, w64 (by omega)]; rfl
  rw [e]
  exact hk
theorem spec_r7_SlotR {id : Int} (hid : IdOk id) {K : Res [.sc (.int .i64)] → W R} (hk : K (slotOf id) Q w) : callW Tryz.prog k_pinnaceref07_Slot [.int .u32 id] [.sc (.int .i64)] K Q w := by
  refine C_pinnaceref07_Slot _ K Q w ?_
  unfold F_pinnaceref07_Slot
  obtain ⟨h1, h2⟩ := hid
  have e : Int.tmod (IntKind.wrap .i64 id) 1024 = slotOf id := by rw [w64 (by omega), Int.tmod_eq_emod_of_nonneg h1]; rfl
  rw [e]
  exact hk
theorem spec_r7_Make {i : Nat} {g : Int} (hi : i < 1024) (h1 : 1 ≤ g) (h2 : g ≤ 4194303) {K : Res [.sc (.int .u32), .sc (.int .i64)] → W R} (hk : K (idOf i g, 0) Q w) : callW Tryz.prog k_pinnaceref07_Make [.int .i64 (i : Int), .int .i64 g] [.sc (.int .u32), .sc (.int .i64)] K Q w := by
  refine C_pinnaceref07_Make _ _ K Q w ?_
  unfold F_pinnaceref07_Make
  refine joinI (fun z w' => z = false ∧ w' = w) ?_ ?_
  · refine condD (fun h => absurd (show (i : Int) < 0 from h) (by omega)) fun _ => condD (fun h => absurd (show (i : Int) > 1023 from h) (by omega)) fun _ => condD (fun h => absurd h (by omega)) fun _ => ⟨decide_eq_false (by omega), rfl⟩
  rintro z w' ⟨rfl, rfl⟩
  have e1 : IntKind.wrap .u32 g = g := wu32 (by omega)
  have e2 : IntKind.wrap .u32 (g * 1024) = g * 1024 := wu32 (by omega)
  have e3 : IntKind.wrap .u32 (i : Int) = (i : Int) := wu32 (by omega)
  have e4 : IntKind.wrap .u32 (g * 1024 + (i : Int)) = idOf i g := by rw [wu32 (by omega)]; rfl
  refine condF rfl ?_
  show K _ Q w'
  rw [e1, e2, e3, e4]
  exact hk

theorem spec_r7_New {n first : Int} {K : Res [.sc .ptr, .sc (.int .i64)] → W R} (h1 : ¬ (1 ≤ n ∧ n ≤ 1024 ∧ 1 ≤ first ∧ first ≤ 4194303) → K (none, 1) Q w)
    (h2 : ∀ b w', 1 ≤ n ∧ n ≤ 1024 ∧ 1 ≤ first ∧ first ≤ 4194303 → S7O b (SM.new n.toNat first) (Up w.heap.size) w' → Fr None w w' → K (some ⟨b, 0, none⟩, 0) Q w') :
    callW Tryz.prog k_pinnaceref07_New [.int .i64 n, .int .i64 first] [.sc .ptr, .sc (.int .i64)] K Q w := by
  refine C_pinnaceref07_New n first K Q w ?_
  unfold F_pinnaceref07_New
  refine joinI (fun b w' => b = !decide (1 ≤ n ∧ n ≤ 1024 ∧ 1 ≤ first ∧ first ≤ 4194303) ∧ w' = w) ?_ ?_
  · refine condD (fun h => ⟨by rw [decide_eq_false (by omega)]; rfl, rfl⟩) fun a1 => condD (fun h => ⟨by rw [decide_eq_false (by omega)]; rfl, rfl⟩) fun a2 => condD (fun h => ⟨by rw [decide_eq_false (by omega)]; rfl, rfl⟩) fun a3 => ⟨?_, rfl⟩
    by_cases h : first > 4194303
    · rw [decide_eq_true h, decide_eq_false (by omega)]; rfl
    · rw [decide_eq_false h, decide_eq_true (by omega)]; rfl
  rintro b w' ⟨rfl, rfl⟩
  refine condI (fun h => h1 (by intro h2; rw [decide_eq_true h2] at h; cases h)) fun h => ?_
  have h : 1 ≤ n ∧ n ≤ 1024 ∧ 1 ≤ first ∧ first ≤ 4194303 := by simpa using h
  obtain ⟨m, rfl⟩ : ∃ m : Nat, n = (m : Int) := ⟨n.toNat, by omega⟩
  rw [Int.toNat_natCast] at h2
  refine makeI ones_ty (z := ((0, false, 0) : One)) one_zero rfl rfl (by omega) (by omega) fun w1 o1 f1 s1 => ?_
  refine newI fun w2 B2 f2 s2 => h2 _ w2 h ⟨smok_new (by omega) (by omega) h.2.2, _, _, 0, ?_, B2, Own.st o1 f2 fun k _ e => ⟨fun h => h, ?_, by omega⟩, R7M.new m first⟩ (f1.then0 f2)
  · show w'.heap.size ≤ _; omega
  · show w'.heap.size ≤ k; omega

section
variable {F : Nat → Prop} {b : Nat} {s : SM}
theorem s7_Live (h : S7O b s F w) {id : Int} (hid : IdOk id) {K : Res [.sc .bool] → W R} (hk : ∀ w', Fr None w w' → K (s.live id) Q w') : callW Tryz.prog k_pinnaceref07_Live [.pointer (some ⟨b, 0, none⟩), .int .u32 id] [.sc .bool] K Q w := by
  obtain ⟨hs, sl, ones, clock, hF, B, ho, hM⟩ := h
  refine C_pinnaceref07_Live _ _ K Q w ?_
  unfold F_pinnaceref07_Live
  refine condF rfl (ptrI (fldI B (x := sl) rfl ?_))
  have hlen := hM.len
  have hle := hs.le
  refine rangeC (t := oneT) (l := ones) (ok := fun _ => True) (fun s : Int => s) (fun j i w' => i = (j : Int) ∧ Fr None w w' ∧ ∀ (q : Nat) (o : One), q < j → ones[q]? = some o → ¬ (o.2.1 = true ∧ (q : Int) = slotOf id ∧ o.1 = genOf id)) rfl rfl rfl ⟨rfl, Fr.refl _ _, by omega⟩ (fun j s w' h => h.1) (fun j st w' hp => (ho.sl.mono fun _ _ _ => trivial).fr0 hp.2.1) ?_ ?_
  · rintro j x i w1 w2 K' hx ⟨rfl, f1, hno⟩ - B2 f2 s2 hK
    have hjl := (List.getElem?_eq_some_iff.1 hx).1
    refine joinI (fun z w' => Fr None w w' ∧ z = decide (x.2.1 = true ∧ (j : Int) = slotOf id ∧ x.1 = genOf id)) ?_ ?_
    · have fd : Fr None w w2.drew := (f1.then0 f2).drew
      refine fldI B2.drew (x := x.2.1) rfl ?_
      refine condI (fun hu => ?_) fun hu => ⟨fd, by rw [decide_eq_false (by simp [hu])]⟩
      refine spec_r7_SlotR hid (condE (fun hs2 => ?_) fun hs2 => ⟨fd, by rw [decide_eq_false (fun h => hs2 h.2.1)]⟩)
      refine fldI B2.drew (x := x.1) rfl (spec_r7_Gen hid (andI (B2.drew.rd (s := .int .i64) (i := 0) (x := x.1) rfl) ⟨fd, ?_⟩))
      by_cases hg : x.1 = genOf id <;> simp [hg, hu, hs2]
    · rintro z w3 ⟨f3, rfl⟩
      refine condD (fun hz => ?_) fun hz => ?_
      · have : s.live id = true := SM.live_iff.2 ⟨by rw [← hM.used, List.getElem?_map, show (slotOf id).toNat = j by omega, hx]; simp [hz.1], by rw [← hM.gen, List.getElem?_map, show (slotOf id).toNat = j by omega, hx]; simp [hz.2.2]⟩
        have e := hk w3 f3
        rw [this] at e
        exact e
      · refine hK _ _ ⟨wsucc (N := ones.length) hjl (by omega), f3, fun q o hq ho2 => ?_⟩
        rcases Nat.lt_succ_iff_lt_or_eq.1 hq with h1 | h1
        · exact hno q o h1 ho2
        · subst h1; rw [hx] at ho2; cases ho2; exact hz
  · rintro i w1 ⟨rfl, f1, hno⟩
    have : s.live id = false := by
      cases hl : s.live id with
      | false => rfl
      | true =>
        obtain ⟨h1, h2⟩ := SM.live_iff.1 hl
        have hr := slot_range id
        have hq : (slotOf id).toNat < s.n := by have := (List.getElem?_eq_some_iff.1 h2).1; exact this
        obtain ⟨o, ho1, ho2, ho3⟩ := hM.at_ hq
        rw [h1] at ho3
        rw [h2] at ho2
        exact absurd ⟨(Option.some.inj ho3).symm, by omega, (Option.some.inj ho2).symm⟩ (hno _ o (by omega) ho1)
    have e := hk w1 f1
    rw [this] at e
    exact e
end

end Go.Proofs.YtkblnhnjagemlaaGreat

namespace Go.Proofs.YtkblnhnjagemlaaGreat
open Go Go.RowKit Go.Proofs.YtkblnhnjagemlaaGreat.Den
variable {R : Type} {Q : R → World → Prop} {w : World}
section
variable {F : Nat → Prop} {b : Nat} {s : SM}

theorem Den.SlT.fldL {ok : Nat → Prop} {l : List One} {sl : Sl} (h : SlT ok w oneT sl l) {i : Int} {j : Nat} (hi : i = j) {x : One} (hj : l[j]? = some x) {q : Nat} {c : Sc} {y : c.T} (hq : (oneT.cells x)[q]? = some (c.e y)) {K : c.T → W R} (hk : K y Q w) :
    (idxW sl.a sl.n 3 i fun a => ld (.sc c) (Addr.add a q) K) Q w := by
  subst hi
  have hjl := (List.getElem?_eq_some_iff.1 hj).1
  have hn := h.len
  rcases h.at_ with e | ⟨b, o, ha, _, _, hrd⟩
  · rw [e] at hjl; simp at hjl
  · rw [ha]
    refine ⟨_, rfl, by omega, by omega, ?_⟩
    rw [add_lit, Int.toNat_natCast]
    exact ⟨y, (Rd.cells.1 (hrd j x hj)) q _ hq, hk⟩

/-- the slot that was freed last. -/
theorem last_best {ones : List One} {clock : Int} (hs : SMOk s) (hM : R7M s ones clock) {q : Nat} {o : One} (hq : ones[q]? = some o) (h0 : 0 < o.2.2) (hmax : ∀ (i : Nat) (o' : One), ones[i]? = some o' → o'.2.2 ≤ o.2.2) : s.free.getLast? = some (q : Int) := by
  have hmem := (hM.fr q o hq).1 h0
  obtain ⟨z, hz⟩ : ∃ z, s.free.getLast? = some z := by
    cases hg : s.free.getLast? with
    | none => rw [List.getLast?_eq_none_iff] at hg; rw [hg] at hmem; simp at hmem
    | some z => exact ⟨z, rfl⟩
  have hsp := getLast_split hz
  have hzm : z ∈ s.free := List.mem_of_getLast? hz
  obtain ⟨i, rfl, hi, _⟩ := hs.freeGet hzm
  obtain ⟨oz, hoz, _⟩ := hM.at_ hi
  rw [hz]
  by_cases e : (i : Int) = q
  · rw [e]
  · have hqd : (q : Int) ∈ s.free.dropLast := by
      rw [hsp] at hmem
      rcases List.mem_append.1 hmem with h1 | h1
      · exact h1
      · simp at h1; omega
    have hm := hM.mono
    rw [hsp, List.pairwise_append] at hm
    have := hm.2.2 (q : Int) hqd (i : Int) (by simp)
    rw [fz_at hq, fz_at hoz] at this
    have := hmax i oz hoz
    omega
theorem free_nil {ones : List One} {clock : Int} (hs : SMOk s) (hM : R7M s ones clock) (h : ∀ (i : Nat) (o : One), ones[i]? = some o → ¬ 0 < o.2.2) : s.free = [] := by
  cases hf : s.free with
  | nil => rfl
  | cons x r =>
    obtain ⟨i, rfl, hi, _⟩ := hs.freeGet (x := x) (by rw [hf]; simp)
    obtain ⟨o, ho, _⟩ := hM.at_ hi
    exact absurd ((hM.fr i o ho).2 (by rw [hf]; simp)) (h i o ho)

def Best (ones : List One) (j : Nat) (best : Int) : Prop := (best = -1 ∧ ∀ (i : Nat) (o : One), i < j → ones[i]? = some o → ¬ 0 < o.2.2) ∨ ∃ (q : Nat) (o : One), best = (q : Int) ∧ ones[q]? = some o ∧ 0 < o.2.2 ∧ ∀ (i : Nat) (o' : One), i < j → ones[i]? = some o' → o'.2.2 ≤ o.2.2
def Better (ones : List One) (best : Int) (x : One) : Prop := 0 < x.2.2 ∧ (best < 0 ∨ ∃ (q : Nat) (o : One), best = (q : Int) ∧ ones[q]? = some o ∧ o.2.2 < x.2.2)
theorem best_yes {ones : List One} {j : Nat} {best : Int} {x : One} (hb : Best ones j best) (hx : ones[j]? = some x) (hz : Better ones best x) : Best ones (j + 1) (j : Int) := by
  refine .inr ⟨j, x, rfl, hx, hz.1, fun i o' hi ho' => ?_⟩
  rcases Nat.lt_succ_iff_lt_or_eq.1 hi with h2 | h2
  · rcases hb with ⟨_, hb2⟩ | ⟨q, o, hq, hoq, h3, h4⟩
    · have := hb2 i o' h2 ho'; have := hz.1; omega
    · have := h4 i o' h2 ho'
      rcases hz.2 with h5 | ⟨q2, o2, h6, h7, h8⟩
      · omega
      · have : q2 = q := by omega
        subst this
        rw [hoq] at h7
        cases h7
        omega
  · subst h2; rw [hx] at ho'; cases ho'; exact Int.le_refl _
theorem best_no {ones : List One} {j : Nat} {best : Int} {x : One} (hb : Best ones j best) (hx : ones[j]? = some x) (hz : ¬ Better ones best x) : Best ones (j + 1) best := by
  rcases hb with ⟨hb1, hb2⟩ | ⟨q, o, hq, hoq, h3, h4⟩
  · refine .inl ⟨hb1, fun i o' hi ho' => ?_⟩
    rcases Nat.lt_succ_iff_lt_or_eq.1 hi with h2 | h2
    · exact hb2 i o' h2 ho'
    · subst h2; rw [hx] at ho'; cases ho'
      exact fun h5 => hz ⟨h5, .inl (by omega)⟩
  · refine .inr ⟨q, o, hq, hoq, h3, fun i o' hi ho' => ?_⟩
    rcases Nat.lt_succ_iff_lt_or_eq.1 hi with h2 | h2
    · exact h4 i o' h2 ho'
    · subst h2; rw [hx] at ho'; cases ho'
      exact Int.not_lt.1 fun h5 => hz ⟨by omega, .inr ⟨q, o, hq, hoq, h5⟩⟩

theorem s7_Take (h : S7O b s F w) {K : Res [.sc (.int .u32), .sc (.int .i64)] → W R}
    (h0 : s.take = none → ∀ w', Fr None w w' → K (0, 8) Q w')
    (h1 : ∀ id s' w', s.take = some (id, s') → S7O b s' F w' → Fr F w w' → K (id, 0) Q w') : callW Tryz.prog k_pinnaceref07_Take [.pointer (some ⟨b, 0, none⟩)] [.sc (.int .u32), .sc (.int .i64)] K Q w := by
  obtain ⟨hs, sl, ones, clock, hF, B, ho, hM⟩ := h
  refine C_pinnaceref07_Take _ K Q w ?_
  unfold F_pinnaceref07_Take
  refine condF rfl (ptrI (fldI B (x := sl) rfl ?_))
  have hlen := hM.len
  have hle := hs.le
  have hsn : sl.n = ones.length := ho.len
  -- the one freed last
  refine rangeC (t := oneT) (l := ones) (ok := fun _ => True) (fun s : Int × Int => s.2) (fun j st w' => st.2 = (j : Int) ∧ Fr None w w' ∧ Best ones j st.1) rfl rfl rfl ⟨rfl, Fr.refl _ _, .inl ⟨rfl, by omega⟩⟩ (fun j s w' h => h.1) (fun j st w' hp => (ho.sl.mono fun _ _ _ => trivial).fr0 hp.2.1) ?_ ?_
  · rintro j x ⟨best, _⟩ w1 w2 K' hx ⟨rfl, f1, hb⟩ - B2 f2 s2 hK
    have hb : Best ones j best := hb
    have hjl := (List.getElem?_eq_some_iff.1 hx).1
    have fd : Fr None w w2.drew := (f1.then0 f2).drew
    have B2d := B2.drew
    refine joinI (fun z w' => w' = w2.drew ∧ (z = true ↔ Better ones best x)) ?_ ?_
    · refine fldI B2d (x := x.2.2) rfl (condD (fun hp => ?_) fun hp => ⟨rfl, iff_of_false (by simp) fun h => hp h.1⟩)
      refine condD (fun hb0 => ⟨rfl, iff_of_true rfl ⟨hp, .inl hb0⟩⟩) fun hb0 => ?_
      have hb0 : ¬ best < 0 := hb0
      rcases hb with ⟨hb1, _⟩ | ⟨q, o, hq, hoq, _⟩
      · omega
      refine fldI B2d (x := x.2.2) rfl (ptrI (fldI (B.fr fd fun h => h) (x := sl) rfl ?_))
      refine (ho.none fd).sl.fldL hq hoq (c := .int .i64) (q := 2) (y := o.2.2) rfl ⟨rfl, ?_⟩
      by_cases h2 : o.2.2 < x.2.2
      · exact iff_of_true (decide_eq_true h2) ⟨hp, .inr ⟨q, o, hq, hoq, h2⟩⟩
      · refine iff_of_false (by rw [decide_eq_false h2]; simp) ?_
        rintro ⟨_, h3 | ⟨q2, o2, h4, h5, h6⟩⟩
        · omega
        · have : q2 = q := by omega
          subst this
          rw [hoq] at h5
          cases h5
          exact h2 h6
    · rintro z w3 ⟨rfl, hziff⟩
      refine joinI (fun (c : Int) w' => w' = w2.drew ∧ Best ones (j + 1) c) ?_ ?_
      · exact condI (fun hz => ⟨rfl, best_yes hb hx (hziff.1 hz)⟩) fun hz => ⟨rfl, best_no hb hx fun h => by rw [hziff.2 h] at hz; cases hz⟩
      · rintro c w4 ⟨rfl, hc⟩
        exact hK _ _ ⟨wsucc (N := ones.length) hjl (by omega), fd, hc⟩
  rintro ⟨best, _⟩ w1 ⟨-, f1, hb⟩
  have B1 := B.fr f1 fun h => h
  have o1 := ho.none f1
  -- the slot, if there is one
  have hpost : ∀ (z : Int) (w2 : World), Fr None w w2 → ((z = -1 ∧ s.take = none) ∨ ∃ (q : Nat) (o : One) (g : Int) (s' : SM), z = (q : Int) ∧ ones[q]? = some o ∧ 1 ≤ g ∧ g ≤ 4194303 ∧ (g = if o.1 + 1 = 1 then s.first else o.1 + 1) ∧ o.1 + 1 ≤ 4194303 ∧ 0 ≤ o.1 ∧ s.take = some (idOf q g, s') ∧ R7M s' (ones.set q (g, true, 0)) clock) →
      (cond (decide (z < 0)) (retW (0, 8)) (ptrW (some ⟨b, 0, none⟩) fun x_30 => ld (.sc .sl) (Addr.add x_30 1) fun (x_31 : Sl) => idxW x_31.a x_31.n 3 z fun x_32 => ld (.sc (.int .i64)) (Addr.add x_32 0) fun (x_33 : Int) =>
        joinW (σ := Int) (fun J_34 => cond ((IntKind.wrap .i64 (x_33 + 1)) == 1) (ptrW (some ⟨b, 0, none⟩) fun x_35 => ld (.sc (.int .i64)) (Addr.add x_35 0) fun (x_36 : Int) => J_34 x_36) (J_34 (IntKind.wrap .i64 (x_33 + 1)))) <| fun s_37 =>
        ptrW (some ⟨b, 0, none⟩) fun x_38 => ld (.sc .sl) (Addr.add x_38 1) fun (x_39 : Sl) => idxW x_39.a x_39.n 3 z fun x_40 => stoL x_40 [.int .i64 s_37, .bool true, .int .i64 0] 0 <|
        callW Tryz.prog k_pinnaceref07_Make [.int .i64 z, .int .i64 s_37] [.sc (.int .u32), .sc (.int .i64)] fun (x_41 : Int × Int) => retW (x_41.1, x_41.2)) : W (Int × Int)) (fun r w => K r Q w) w2 := by
    rintro z w2 f2 (⟨rfl, ht⟩ | ⟨q, o, g, s', rfl, hq, g1, g2, hg, hg3, hg4, ht, hM'⟩)
    · exact condT rfl (h0 ht w2 f2)
    · have hql := (List.getElem?_eq_some_iff.1 hq).1
      refine condF (decide_eq_false (by omega)) (ptrI (fldI (B.fr f2 fun h => h) (x := sl) rfl ?_))
      have o2 := ho.none f2
      refine o2.sl.fldL rfl hq (c := .int .i64) (q := 0) (y := o.1) rfl ?_
      rw [w64 (x := o.1 + 1) (by omega)]
      refine joinI (fun (z : Int) w' => z = g ∧ w' = w2) ?_ ?_
      · refine condE (fun e => ptrI (fldI (B.fr f2 fun h => h) (x := s.first) rfl ⟨by rw [hg, if_pos e], rfl⟩)) fun e => ⟨by rw [hg, if_neg e], rfl⟩
      rintro z w3 ⟨rfl, rfl⟩
      refine ptrI (fldI (B.fr f2 fun h => h) (x := sl) rfl ?_)
      refine o2.idx rfl (by omega) (by omega) fun a u ha hu _ => ?_
      refine o2.set rfl (by omega) ha ((z, true, 0) : One) fun w4 o4 f4 _ => ?_
      rw [Int.toNat_natCast] at o4
      have hne : ¬ (sl.v.ownBlock = some b) := fun e => (ho.own b e).2 rfl
      refine spec_r7_Make (by omega) g1 g2 (h1 _ _ w4 ht ⟨hs.take ht, sl, _, clock, hF, ?_, o4, hM'⟩ (f2.any.then (f4.sub fun k e => (o2.own k e).1)))
      have e1 : s'.first = s.first := by
        unfold SM.take at ht
        split at ht
        · split at ht
          · simp only [Option.some.injEq, Prod.mk.injEq] at ht; rw [← ht.2]; rfl
          · cases ht
        · split at ht
          · simp only [Option.some.injEq, Prod.mk.injEq] at ht; rw [← ht.2]; rfl
          · cases ht
      have := (B.fr f2 fun h => h).fr f4 hne
      unfold s7C at this ⊢
      rw [e1]
      exact this
  rcases hb with ⟨hb1, hb2⟩ | ⟨q, o, hq, hoq, h3, h4⟩
  · -- none was freed: the next that is new
    have hb1 : best = -1 := hb1
    subst hb1
    have hfn := free_nil hs hM fun i o hi => hb2 i o (by have := (List.getElem?_eq_some_iff.1 hi).1; omega) hi
    refine loopI (fun st w' => Fr None w w' ∧ ((∃ j : Nat, st = (-1, (j : Int)) ∧ j ≤ ones.length ∧ ∀ (i : Nat) (o : One), i < j → ones[i]? = some o → o.1 ≠ 0) ∨ ∃ (q : Nat) (o : One) (z : Int), st = ((q : Int), z) ∧ ones[q]? = some o ∧ o.1 = 0 ∧ ∀ (i : Nat) (o : One), i < q → ones[i]? = some o → o.1 ≠ 0)) (fun st _ => if st.1 < 0 then ones.length + 1 - st.2.toNat else 0) ⟨f1, .inl ⟨0, rfl, by omega, by omega⟩⟩ ?_
    rintro st w2 ⟨f2, ⟨j, rfl, hjl, hno⟩ | ⟨q, o, z, rfl, hq, hq0, hno⟩⟩
    · refine joinI (fun z w' => w' = w2 ∧ z = decide (j < ones.length)) ?_ ?_
      · refine condT rfl (ptrI (fldI (B.fr f2 fun h => h) (x := sl) rfl ⟨rfl, ?_⟩))
        by_cases hj : j < ones.length
        · rw [decide_eq_true hj]; exact decide_eq_true (by show (j : Int) < (sl.n : Int); omega)
        · rw [decide_eq_false hj]; exact decide_eq_false (by show ¬ (j : Int) < (sl.n : Int); omega)
      rintro z w3 ⟨rfl, rfl⟩
      refine condD (fun hj => ?_) fun hj => ?_
      · obtain ⟨o, hoj⟩ : ∃ o, ones[j]? = some o := ⟨_, List.getElem?_eq_getElem hj⟩
        refine ptrI (fldI (B.fr f2 fun h => h) (x := sl) rfl ?_)
        refine (ho.none f2).sl.fldL rfl hoj (c := .int .i64) (q := 0) (y := o.1) rfl ?_
        have ew : IntKind.wrap .i64 ((j : Int) + 1) = ((j + 1 : Nat) : Int) := wsucc (N := ones.length) hj (by omega)
        refine joinK (condE (fun e => ⟨⟨f2, .inr ⟨j, o, _, rfl, hoj, e, hno⟩⟩, ?_⟩) fun e => ⟨⟨f2, .inl ⟨j + 1, by rw [← ew], by omega, fun i o' hi ho' => ?_⟩⟩, ?_⟩)
        · simp only
          rw [if_neg (by omega), if_pos (by omega)]; omega
        · rcases Nat.lt_succ_iff_lt_or_eq.1 hi with h2 | h2
          · exact hno i o' h2 ho'
          · subst h2; rw [hoj] at ho'; cases ho'; exact e
        · simp only
          rw [if_pos (by omega), if_pos (by omega), ew]; omega
      · refine hpost (-1) w3 f2 (.inl ⟨rfl, ?_⟩)
        unfold SM.take
        rw [hfn]
        simp only [List.getLast?_nil]
        rw [if_neg]
        intro hlt
        obtain ⟨o, ho1, ho2, _⟩ := hM.at_ hlt
        have := hs.new s.fresh o.1 ho2 (Nat.le_refl _)
        exact hno s.fresh o (by omega) ho1 this
    · refine joinI (fun z w' => w' = w2 ∧ z = false) (condF (decide_eq_false (by show ¬ (q : Int) < 0; omega)) ⟨rfl, rfl⟩) ?_
      rintro z2 w3 ⟨rfl, rfl⟩
      refine condF rfl ?_
      have hql := (List.getElem?_eq_some_iff.1 hq).1
      have hgq : s.gen[q]? = some o.1 := by rw [← hM.gen, List.getElem?_map, hq]; rfl
      have hfq : s.fresh = q := by
        have h5 : s.fresh ≤ q := Nat.le_of_not_lt fun h => by have := (hs.old q o.1 hgq h).1; omega
        rcases Nat.lt_or_ge s.fresh q with h6 | h6
        · obtain ⟨o2, ho2, ho3, _⟩ := hM.at_ (q := s.fresh) (by omega)
          have := hs.new s.fresh o2.1 ho3 (Nat.le_refl _)
          exact absurd this (hno s.fresh o2 h6 ho2)
        · omega
      have hfi := hs.first
      have huq : o.2.1 = false := by
        cases hu : o.2.1 with
        | false => rfl
        | true =>
          have := hs.unused q (by rw [← hM.used, List.getElem?_map, hq]; simp [hu])
          omega
      refine hpost (q : Int) w3 f2 (.inr ⟨q, o, s.first, { s.use s.fresh s.first with fresh := s.fresh + 1 }, rfl, hq, hfi.1, hfi.2, by rw [hq0, if_pos (by omega)], by omega, by omega, ?_, ?_⟩)
      · unfold SM.take
        rw [hfn]
        simp only [List.getLast?_nil]
        rw [if_pos (by omega), hfq]
      · have := hM.use (fr' := s.fresh + 1) (free' := []) hq huq (g := s.first) (by omega) (fun x => by rw [hfn]; simp) (List.nil_sublist _) (fun x hx => by rw [hfn] at hx; simp at hx)
        rw [hfq]
        rw [hfq] at this
        have e : ({ s.use q s.first with fresh := q + 1 } : SM) = { s.use q s.first with free := [], fresh := q + 1 } := by
          unfold SM.use
          rw [hfn]
        rw [e]
        exact this
  · have hq : best = (q : Int) := hq
    subst hq
    have hql := (List.getElem?_eq_some_iff.1 hoq).1
    have hlast := last_best hs hM hoq h3 fun i o' hi => h4 i o' (List.getElem?_eq_some_iff.1 hi).1 hi
    refine loopI (fun st w' => st = ((q : Int), 0) ∧ Fr None w w') (fun _ _ => 0) ⟨rfl, f1⟩ ?_
    rintro st w2 ⟨rfl, f2⟩
    refine joinI (fun z w' => w' = w2 ∧ z = false) (condF (decide_eq_false (by show ¬ (q : Int) < 0; omega)) ⟨rfl, rfl⟩) ?_
    rintro z w3 ⟨rfl, rfl⟩
    refine condF rfl ?_
    have hmem : (q : Int) ∈ s.free := List.mem_of_getLast? hlast
    obtain ⟨i, hiq, _, huq, g, hg1, hg2, hg3⟩ := hs.freeGet hmem
    have : i = q := by omega
    subst this
    have hgq : s.gen[i]? = some o.1 := by rw [← hM.gen, List.getElem?_map, hoq]; rfl
    rw [hgq] at hg1
    cases hg1
    have hu : o.2.1 = false := by
      rw [← hM.used, List.getElem?_map, hoq] at huq
      simpa using huq
    have hnd := hs.nodup
    have hsp := getLast_split hlast
    refine hpost (i : Int) w3 f2 (.inr ⟨i, o, o.1 + 1, { s.use i (o.1 + 1) with free := s.free.dropLast }, rfl, hoq, by omega, by omega, by rw [if_neg (by omega)], by omega, by omega, ?_, ?_⟩)
    · unfold SM.take
      rw [hlast]
      simp only [Int.toNat_natCast, hgq]
    · have := hM.use (fr' := s.fresh) (free' := s.free.dropLast) hoq hu (g := o.1 + 1) (by omega) (fun x => ?_) (List.dropLast_sublist _) (fun x hx => by obtain ⟨i', e, _⟩ := hs.freeGet hx; omega)
      · exact this
      · rw [hsp] at hnd
        have hnd2 := List.nodup_append.1 hnd
        constructor
        · intro hx
          exact ⟨(List.dropLast_sublist _).subset hx, fun e => hnd2.2.2 x hx (i : Int) (by simp) e⟩
        · rintro ⟨h5, h6⟩
          rw [hsp] at h5
          rcases List.mem_append.1 h5 with h7 | h7
          · exact h7
          · simp at h7; exact absurd h7 h6
end

end Go.Proofs.YtkblnhnjagemlaaGreat

namespace Go.Proofs.YtkblnhnjagemlaaGreat
open Go Go.RowKit Go.Proofs.YtkblnhnjagemlaaGreat.Den
variable {R : Type} {Q : R → World → Prop} {w : World}
section
variable {F : Nat → Prop} {b : Nat} {s : SM}

theorem s7_Free (h : S7O b s F w) {id : Int} (hid : IdOk id) (hl : s.live id = true) {K : Res [.sc (.int .i64)] → W R} (hk : ∀ w', S7O b (s.freed id) F w' → Fr F w w' → K 0 Q w') :
    callW Tryz.prog k_pinnaceref07_Free [.pointer (some ⟨b, 0, none⟩), .int .u32 id] [.sc (.int .i64)] K Q w := by
  refine C_pinnaceref07_Free _ _ K Q w ?_
  unfold F_pinnaceref07_Free
  refine condF rfl (s7_Live h hid fun w1 f1 => ?_)
  rw [hl]
  obtain ⟨hs, sl, ones, clock, hF, B, ho, hM⟩ := S7O.st.fr0 h f1
  obtain ⟨hu, hg⟩ := SM.live_iff.1 hl
  have hr := slot_range id
  have hclk := hM.clock_le hs
  have hc0 := hM.c0
  have hq : (slotOf id).toNat < s.n := (List.getElem?_eq_some_iff.1 hg).1
  obtain ⟨o, hoq, hog, hou⟩ := hM.at_ hq
  rw [hu] at hou
  rw [hg] at hog
  have hgo : o.1 = genOf id := (Option.some.inj hog).symm
  have huo : o.2.1 = true := (Option.some.inj hou).symm
  have eq : ((slotOf id).toNat : Int) = slotOf id := by omega
  have hno : (((slotOf id).toNat : Nat) : Int) ∉ s.free := fun hm => by
    obtain ⟨i, e, _, hu2, _⟩ := hs.freeGet hm
    have : (slotOf id).toNat = i := by omega
    rw [this, hu2] at hu
    cases hu
  have hn0 : ∀ x ∈ s.free, 0 ≤ x := fun x hx => by obtain ⟨i', e, _⟩ := hs.freeGet hx; omega
  obtain ⟨m1, m2⟩ := hM.off hoq huo hno hn0
  have hlen := hM.len
  have hne : ∀ {S : Nat → Prop} {w' : World} {l : List One}, Own (fun k => F k ∧ k ≠ b) w' 249 oneT sl l → ¬ (sl.v.ownBlock = some b) := fun o e => (o.own b e).2 rfl
  have hnb : ¬ (sl.v.ownBlock = some b) := fun e => (ho.own b e).2 rfl
  refine condF rfl (spec_r7_SlotR hid ?_)
  rw [← eq]
  generalize hqq : (slotOf id).toNat = q at *
  have hql : q < ones.length := by omega
  refine ptrI (fldI B (x := sl) rfl ?_)
  refine ho.idx rfl (by omega) (by omega) fun g u hgg hu1 _ => ?_
  rw [Int.toNat_natCast] at hu1 ⊢
  rw [hoq] at hu1
  cases hu1
  rw [add_lit]
  refine ho.setFld (i := q) (j := 1) (x' := ((o.1, false, o.2.2) : One)) hoq hgg (show 1 < 3 by omega) rfl rfl fun w2 o2 f2 s2 => ?_
  have B2 := B.fr f2 hnb
  have hq2 : (ones.set q (o.1, false, o.2.2))[q]? = some (o.1, false, o.2.2) := by rw [List.getElem?_set_self hql]
  refine ptrI (fldI B2 (x := sl) rfl ?_)
  refine o2.sl.fldL rfl hq2 (c := .int .i64) (q := 0) (y := o.1) rfl ?_
  have f02 : Fr F w w2 := f1.any.then (f2.sub fun k e => (ho.own k e).1)
  refine joinI (fun (_ : Unit) w' => S7O b (s.freed id) F w' ∧ Fr F w w') ?_ fun _ w3 ⟨h3, f3⟩ => hk w3 h3 f3
  rw [hgo]
  refine condD (fun hlt => ?_) fun hge => ⟨⟨hs.freed hl, sl, _, clock, hF, ?_, o2, ?_⟩, f02⟩
  · refine ptrI (fldI B2 (x := clock) rfl (ptrI (setA (i := 2) B2 (show 2 < 3 by omega) rfl fun w3 B3 f3 s3 => ?_)))
    rw [w64 (x := clock + 1) (by omega)] at B3
    have o3 := o2.fr f3 fun k hk e => hk.2 e
    have fd : Fr None w3 w3.drew := (Fr.refl _ _).drew
    refine ptrI (fldI B3.drew (x := sl) rfl (ptrI (fldI B3.drew (x := clock + 1) rfl ?_)))
    have o3d := o3.none fd
    refine o3d.idx rfl (by omega) (by rw [List.length_set]; omega) fun g u hgg hu1 _ => ?_
    rw [Int.toNat_natCast] at hu1 ⊢
    rw [hq2] at hu1
    cases hu1
    rw [add_lit]
    refine o3d.setFld (i := q) (j := 2) (x' := ((o.1, false, clock + 1) : One)) hq2 hgg (show 2 < 3 by omega) rfl rfl fun w4 o4 f4 s4 => ⟨⟨hs.freed hl, sl, _, clock + 1, hF, ?_, o4, ?_⟩, ?_⟩
    · exact B3.drew.fr f4 hnb
    · rw [List.set_set]
      have e : s.freed id = { s with used := s.used.set q false, free := s.free ++ [(q : Int)] } := by
        unfold SM.freed
        rw [hqq, if_pos hlt, eq]
      rw [e]
      exact m1
    · exact ((f02.then (f3.sub fun k e => by rw [e]; exact hF)).then fd.any).then (f4.sub fun k e => (o3d.own k e).1)
  · exact B2
  · have e : s.freed id = { s with used := s.used.set q false } := by
      unfold SM.freed
      rw [hqq, if_neg hge]
    rw [e]
    exact m2

theorem s7_List (h : S7O b s F w) {K : Res [.sc .sl, .sc (.int .i64)] → W R} (hk : ∀ r room w', Own (Up w.heap.size) w' 31 idT r s.list → Fr None w w' → K (r, room) Q w') :
    callW Tryz.prog k_pinnaceref07_List [.pointer (some ⟨b, 0, none⟩)] [.sc .sl, .sc (.int .i64)] K Q w := by
  obtain ⟨hs, sl, ones, clock, hF, B, ho, hM⟩ := h
  refine C_pinnaceref07_List _ K Q w ?_
  unfold F_pinnaceref07_List
  refine condF rfl (ptrI (fldI B (x := sl) rfl ?_))
  have hlen := hM.len
  have hle := hs.le
  refine rangeC (t := oneT) (l := ones) (ok := fun _ => True) (fun s : Sl × Int × Int => s.2.2) (fun j st w' => st.2.2 = (j : Int) ∧ Fr None w w' ∧ Own (Up w.heap.size) w' 31 idT st.1 (s.ids j)) rfl rfl rfl ⟨rfl, Fr.refl _ _, Own.nil _ _ _ _⟩ (fun j s w' h => h.1) (fun j st w' hp => (ho.sl.mono fun _ _ _ => trivial).fr0 hp.2.1) ?_ ?_
  · rintro j x ⟨out, room, _⟩ w1 w2 K' hx ⟨rfl, f1, ow⟩ - B2 f2 s2 hK
    have hjl := (List.getElem?_eq_some_iff.1 hx).1
    have f02 := f1.then0 f2
    have hil := SM.ids_len hs.len (j := j) (by omega)
    have hcl : ((s.used.take j).countP (fun b => b)) ≤ (s.used.take j).length := List.countP_le_length
    have hidl : (s.ids j).length ≤ 1024 := by simp at hcl; omega
    have hgx : s.gen[j]? = some x.1 := by rw [← hM.gen, List.getElem?_map, hx]; rfl
    have hux : s.used[j]? = some x.2.1 := by rw [← hM.used, List.getElem?_map, hx]; rfl
    refine fldI B2 (x := x.2.1) rfl ?_
    refine joinI (fun (z : Sl × Int) w' => Fr None w w' ∧ Own (Up w.heap.size) w' 31 idT z.1 (s.ids (j + 1))) ?_ ?_
    · refine condI (fun hu => ?_) fun hu => ?_
      · rw [hu] at hux
        have hg := hs.old j x.1 hgx (hs.unused j hux)
        refine fldI B2 (x := x.1) rfl (spec_r7_Make (by omega) hg.1 hg.2 ?_)
        have e : s.ids (j + 1) = s.ids j ++ [idOf j x.1] := by rw [SM.ids, hux, hgx]
        rw [e]
        have o2 := ow.none f2
        have hs1 := f02.size
        exact appF ids_ty (x := idOf j x.1) rfl o2 hs1 (by omega) (by omega) fun r w3 o3 f3 _ => ⟨(f02.up.thenOwn o2 f3).ofUp (Nat.le_refl _), o3⟩
      · rw [hu] at hux
        have e : s.ids (j + 1) = s.ids j := by rw [SM.ids, hux, hgx]; simp
        rw [e]
        exact fldI B2 (x := x.1) rfl (joinK (condI (fun _ => ⟨f02, ow.none f2⟩) fun _ => ⟨f02, ow.none f2⟩))
    · rintro ⟨z, room2⟩ w3 ⟨f3, o3⟩
      exact hK _ _ ⟨wsucc (N := ones.length) hjl (by omega), f3, o3⟩
  · rintro ⟨out, room, _⟩ w1 ⟨-, f1, ow⟩
    rw [hlen] at ow
    exact hk out room w1 ow f1
end

end Go.Proofs.YtkblnhnjagemlaaGreat
