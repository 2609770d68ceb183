/-
  ref18: the document's answer on what is a snapshot.
-/
import Derived.Test.YtchhhjlpnecjkaaGreatSnp
import Derived.Test.YtchhhjlpnecjkaaGreatRng
namespace Go.Proofs.YtchhhjlpnecjkaaGreat
open Go Go.RowKit Go.Proofs.YtchhhjlpnecjkaaGreat.Den
variable {R : Type} {Q : R → World → Prop} {w : World}

theorem spec_r5_Told {k : Int} {K : Res [.sc .bool] → W R} (hk : K (decide (k < 5)) Q w) : callW Tryz.prog k_pinnaceref05_Told [.int .u8 k] [.sc .bool] K Q w := by
  refine C_pinnaceref05_Told _ K Q w ?_
  unfold F_pinnaceref05_Told
  exact hk
/-- how many things a list has, as a machine counts. -/
def fewM (l : List Ent) : Int := l.foldl (fun n e => IntKind.wrap .i64 (n + (e.2.length : Int))) (l.length : Int)
theorem spec_r18_Few {ok : Nat → Prop} {s : Sl} {raws : List (Int × Sl)} {L : List Ent} (hS : SlT ok w entT s raws) (hE : EntsR ok w raws L) (hm : L.length ≤ 9223372036854775807) {K : Res [.sc .bool] → W R} (hk : ∀ w', Fr None w w' → K (decide (fewM L ≤ 400)) Q w') :
    callW Tryz.prog k_pinnaceref18_Few [.slice s.a s.n s.c] [.sc .bool] K Q w := by
  refine C_pinnaceref18_Few s K Q w ?_
  unfold F_pinnaceref18_Few
  have hlen := hS.len
  have hel := hE.len
  have hsn : (s.n : Int) = (L.length : Int) := by omega
  refine forI (N := s.n) (fun s : Int × Int => s.2) (fun j s w' => s = ((L.take j).foldl (fun n e => IntKind.wrap .i64 (n + (e.2.length : Int))) (L.length : Int), (j : Int)) ∧ Fr None w w') ⟨by rw [hsn]; rfl, Fr.refl _ _⟩ (fun j s w' h => by rw [h.1]) ?_ ?_
  · rintro j s1 w1 K' hj ⟨rfl, f1⟩ - hK
    obtain ⟨e, he⟩ : ∃ e, L[j]? = some e := ⟨_, List.getElem?_eq_getElem (by omega)⟩
    obtain ⟨r1, hr1, ha1, ha2⟩ := hE.get he
    have hn := ha2.len
    have ef : (L.take (j + 1)).foldl (fun n e => IntKind.wrap .i64 (n + (e.2.length : Int))) (L.length : Int) = IntKind.wrap .i64 ((L.take j).foldl (fun n e => IntKind.wrap .i64 (n + (e.2.length : Int))) (L.length : Int) + (e.2.length : Int)) := by rw [take_at he, List.foldl_append]; rfl
    refine (hS.fr0 f1).get rfl rfl (by omega) fun y hy => ?_
    rw [hr1] at hy
    cases hy
    refine newI fun w2 B2 f2 s2 => stoAll B2 rfl rfl fun w3 B3 f3 s3 => fldI B3 (i := 1) (x := r1.2) rfl ?_
    refine hK _ _ ⟨?_, f1.then0 (f2.newer f3 fun k e => by omega)⟩
    rw [wsucc hj (by omega), ef, hn]
  · rintro s1 w1 ⟨rfl, f1⟩
    rw [List.take_of_length_le (by omega)]
    exact hk w1 f1


theorem spec_r7_Gen2 {id : Int} (hid : IdOk id) {K : Res [.sc (.int .i64)] → W R} (hk : K (genOf id) Q w) : callW Tryz.prog k_pinnaceref07_Gen [.int .u32 id] [.sc (.int .i64)] K Q w := by
  refine C_pinnaceref07_Gen _ K Q w ?_
  unfold F_pinnaceref07_Gen
  obtain ⟨h0, h1⟩ := hid
  have : IntKind.wrap .i64 (Int.tdiv (IntKind.wrap .i64 id) 1024) = genOf id := by rw [w64 (x := id) (by omega), Int.tdiv_eq_ediv_of_nonneg h0, w64 (by omega)]; rfl
  rw [this]
  exact hk
def toldAll (l : List Comp) : Bool := l.all fun c => decide (c.1 < 5)
def badD (prev : Int) (first : Bool) (e : Ent) : Prop := genOf e.1 < 1 ∨ 4194303 < genOf e.1 ∨ (first = false ∧ e.1 ≤ prev)
instance (prev : Int) (first : Bool) (e : Ent) : Decidable (badD prev first e) := by unfold badD; infer_instance
def formD : Int → Bool → List Ent → Int
  | _, _, [] => 0
  | prev, first, e :: r => if badD prev first e then 4 else if listE e.2 ≠ 0 then listE e.2 else if toldAll e.2 = false then 4 else formD e.1 false r
theorem spec_r18_Form {ok : Nat → Prop} {s : Sl} {raws : List (Int × Sl)} {L : List Ent} (hS : SlT ok w entT s raws) (hE : EntsR ok w raws L) (hm : L.length ≤ 9223372036854775807) (hL : ∀ e ∈ L, IdOk e.1 ∧ e.2.length ≤ 9223372036854775807 ∧ ∀ c ∈ e.2, CompOk c) {K : Res [.sc (.int .i64)] → W R} (hk : ∀ w', Fr None w w' → K (formD 0 true L) Q w') :
    callW Tryz.prog k_pinnaceref18_Form [.slice s.a s.n s.c] [.sc (.int .i64)] K Q w := by
  refine C_pinnaceref18_Form s K Q w ?_
  unfold F_pinnaceref18_Form
  have hlen := hS.len
  have hel := hE.len
  refine forI (N := s.n) (fun s : Int => s) (fun j i w' => i = (j : Int) ∧ Fr None w w' ∧ formD 0 true L = formD (lastE L j) (j == 0) (L.drop j)) ⟨rfl, Fr.refl _ _, rfl⟩ (fun j s w' h => h.1) ?_ ?_
  · rintro j i w1 K' hj ⟨rfl, f1, hf⟩ - hK
    obtain ⟨e, he⟩ : ∃ e, L[j]? = some e := ⟨_, List.getElem?_eq_getElem (by omega)⟩
    obtain ⟨r1, hr1, ha1, ha2⟩ := hE.get he
    obtain ⟨hid, hsm, hco⟩ := hL e (List.mem_of_getElem? he)
    have hdrop : L.drop j = e :: L.drop (j + 1) := by
      obtain ⟨hl, hg⟩ := List.getElem?_eq_some_iff.1 he
      rw [List.drop_eq_getElem_cons hl, hg]
    rw [hdrop, formD] at hf
    rw [hf] at hk
    refine (hS.fr0 f1).get rfl rfl (by omega) fun y hy => ?_
    rw [hr1] at hy
    cases hy
    refine newI fun w2 B2 f2 s2 => stoAll B2 rfl rfl fun w3 B3 f3 s3 => fldI B3 (i := 0) (x := r1.1) rfl ?_
    have f13 : Fr None w1 w3 := f2.newer f3 fun k e => by omega
    have f03 := f1.then0 f13
    rw [ha1]
    refine spec_r7_Gen2 hid ?_
    have fd : Fr None w3 w3.drew := (Fr.refl _ _).drew
    have f0d := f03.then0 fd
    have Bd := B3.fr fd fun h => h
    refine joinI (fun z w' => z = decide (badD (lastE L j) (j == 0) e) ∧ w' = w3.drew) ?_ ?_
    · refine condD (fun h => ⟨(decide_eq_true (.inl h)).symm, rfl⟩) fun h1 => condD (fun h => ⟨(decide_eq_true (.inr (.inl h))).symm, rfl⟩) fun h2 => ?_
      refine condD (fun h => ?_) fun h => ⟨?_, rfl⟩
      · obtain ⟨q, rfl⟩ : ∃ q, j = q + 1 := ⟨j - 1, by omega⟩
        refine fldI Bd (i := 0) (x := r1.1) rfl ?_
        obtain ⟨e0, he0⟩ : ∃ e0, L[q]? = some e0 := ⟨_, List.getElem?_eq_getElem (by omega)⟩
        obtain ⟨r0, hr0, hb1, _⟩ := hE.get he0
        have hq : IntKind.wrap .i64 (((q + 1 : Nat) : Int) - 1) = (q : Int) := by rw [w64 (by omega)]; omega
        rw [hq]
        refine (hS.fr0 f0d).readK rfl rfl hr0 fun ad had => (had _ (hS.fr0 f0d)).fld (i := 0) (s := .int .u32) (y := r0.1) rfl ⟨?_, rfl⟩
        have hl : lastE L (q + 1) = e0.1 := by show ((L[q]?).map (·.1)).getD 0 = e0.1; rw [he0]; rfl
        rw [hl, ha1, hb1]
        unfold badD
        simp [h1, h2]
      · have : j = 0 := by omega
        subst this
        unfold badD
        simp [h1, h2]
    rintro z w4 ⟨rfl, rfl⟩
    refine condD (fun h => ?_) fun h => ?_
    · rw [if_pos h] at hk
      exact hk _ f0d
    rw [if_neg h] at hk hf
    refine fldI Bd (i := 1) (x := r1.2) rfl (spec_r5_ListX (ha2.fr0 f0d) hsm hco fun w5 f5 => ?_)
    have f05 := f0d.then0 f5
    refine condN (fun hne => ?_) fun heq => ?_
    · rw [if_pos hne] at hk
      exact hk w5 f05
    rw [if_neg (by omega)] at hk hf
    have hcl := ha2.len
    refine fldI (Bd.fr f5 fun h => h) (i := 1) (x := r1.2) rfl ?_
    refine forI (N := r1.2.n) (fun s : Int => s) (fun i t w' => t = (i : Int) ∧ Fr None w w' ∧ toldAll (e.2.take i) = true) ⟨rfl, f05, rfl⟩ (fun j s w' h => h.1) ?_ ?_
    · rintro i t w6 K2 hi ⟨rfl, f6, hno⟩ - hK2
      refine (ha2.fr0 f6).get rfl rfl (by omega) fun c hc => ?_
      refine newI fun w7 B7 f7 s7 => stoAll B7 rfl rfl fun w8 B8 f8 s8 => fldI B8 (i := 0) (x := c.1) rfl (spec_r5_Told ?_)
      have f68 : Fr None w6 w8 := f7.newer f8 fun k e => by omega
      by_cases hk5 : c.1 < 5
      · refine condF (by simp [hk5]) (hK2 _ _ ⟨wsucc hi (by omega), f6.then0 f68, ?_⟩)
        unfold toldAll at hno ⊢
        rw [take_at hc, List.all_append, hno]
        simp [hk5]
      · refine condT (by simp [hk5]) ?_
        have : toldAll e.2 = false := by
          unfold toldAll
          rw [List.all_eq_false]
          exact ⟨c, List.mem_of_getElem? hc, by simpa using hk5⟩
        rw [if_pos this] at hk
        exact hk w8 (f6.then0 f68)
    · rintro t w6 ⟨rfl, f6, hno⟩
      rw [List.take_of_length_le (by omega)] at hno
      rw [if_neg (by rw [hno]; decide)] at hf
      have hlast : lastE L (j + 1) = e.1 := by
        show ((L[j]?).map (·.1)).getD 0 = e.1
        rw [he]; rfl
      exact hK _ _ ⟨wsucc hj (by omega), f6, by rw [hlast]; exact hf⟩
  · rintro i w1 ⟨rfl, f1, hf⟩
    rw [List.drop_of_length_le (by omega), formD] at hf
    have hk := hk w1 f1
    rw [hf] at hk
    exact hk


/-! ### both say the same -/
theorem told_same {k : Int} (h : 0 ≤ k ∧ k ≤ 5) : toldM k = decide (k < 5) := by
  have : k = 0 ∨ k = 1 ∨ k = 2 ∨ k = 3 ∨ k = 4 ∨ k = 5 := by omega
  rcases this with rfl | rfl | rfl | rfl | rfl | rfl <;> rfl
theorem secret_same {l : List Comp} (h : listE l = 0) : secretM l = !toldAll l := by
  unfold secretM toldAll
  rw [List.not_all_eq_any_not]
  have hc := (listE_0.1 h).1
  clear h
  induction l with
  | nil => rfl
  | cons c r ih =>
    rw [List.any_cons, List.any_cons, ih fun x hx => hc x (List.mem_cons_of_mem _ hx), told_same (checkM_kind (hc c List.mem_cons_self))]
theorem form_same : ∀ (L : List Ent) (prev : Int) (first : Bool), (first = true → prev = 0) → formM prev L = formD prev first L
  | [], _, _, _ => rfl
  | e :: r, prev, first, h => by
    have ih := form_same r e.1 false (fun h => by cases h)
    rw [formM, formD, ih]
    unfold oneM
    by_cases hg : genOf e.1 < 1 ∨ 4194303 < genOf e.1
    · rw [if_pos hg]
      have hb : badD prev first e := by
        rcases hg with h | h
        · exact .inl h
        · exact .inr (.inl h)
      rw [if_pos hb]
      split
      · rfl
      · rfl
    · rw [if_neg hg]
      have he : (e.1 ≤ prev) ↔ badD prev first e := by
        constructor
        · intro hle
          cases first with
          | false => exact .inr (.inr ⟨rfl, hle⟩)
          | true =>
            have := h rfl
            refine .inl ?_
            unfold genOf
            omega
        · rintro (h1 | h1 | h1)
          · exact absurd (.inl h1) hg
          · exact absurd (.inr h1) hg
          · exact h1.2
      by_cases hle : e.1 ≤ prev
      · rw [if_pos hle, if_pos (he.1 hle)]
      · rw [if_neg hle, if_neg fun x => hle (he.2 x)]
        by_cases hl : listE e.2 = 0
        · rw [if_neg (c := listE e.2 ≠ 0) (fun x => x hl), if_neg (c := listE e.2 ≠ 0) (fun x => x hl), secret_same hl]
          cases toldAll e.2 <;> rfl
        · rw [if_pos hl, if_pos hl]

end Go.Proofs.YtchhhjlpnecjkaaGreat
