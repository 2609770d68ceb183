/-
  Plain law: what happens to entities by themselves, entity by entity.
-/
import Derived.Test.YtkblnhnjagemlaaGreatQryM
import Derived.Test.YtkblnhnjagemlaaGreatHas
namespace Go.Proofs.YtkblnhnjagemlaaGreat
open Go Go.RowKit Go.Proofs.YtkblnhnjagemlaaGreat.Den

/-! ### a walk over entities, each once -/
abbrev SysP := StM × List Int
structure SysStep (step : SysP → Ent → SysP) : Prop where
  ok : ∀ p e, StOk p.1 → Has p.1 e → StOk (step p e).1
  keep : ∀ p e e', StOk p.1 → Has p.1 e → e'.1 ≠ e.1 → Has p.1 e' → Has (step p e).1 e'
  len : ∀ p e, (step p e).2.length ≤ p.2.length + 1
def sysF (g : Int → Ent) (step : SysP → Ent → SysP) (p : SysP) (l : List Int) : SysP := l.foldl (fun p id => step p (g id)) p
section
variable {g : Int → Ent} {step : SysP → Ent → SysP}
theorem sysF_snoc (p : SysP) (l : List Int) (id : Int) : sysF g step p (l ++ [id]) = step (sysF g step p l) (g id) := by simp [sysF]
theorem sys_keep (S : SysStep step) : ∀ (l : List Int) (p : SysP), StOk p.1 → l.Nodup → (∀ i ∈ l, Has p.1 (g i) ∧ (g i).1 = i) → StOk (sysF g step p l).1 ∧ (∀ e, e.1 ∉ l → Has p.1 e → Has (sysF g step p l).1 e) ∧ (sysF g step p l).2.length ≤ p.2.length + l.length
  | [], p, h, _, _ => ⟨h, fun e _ he => he, by simp [sysF]⟩
  | a :: r, p, h, hn, hh => by
    rw [List.nodup_cons] at hn
    obtain ⟨h1, h2⟩ := hh a List.mem_cons_self
    have hl := S.len p (g a)
    obtain ⟨k1, k2, k3⟩ := sys_keep S r (step p (g a)) (S.ok p _ h h1) hn.2 fun i hi => by
      obtain ⟨h3, h4⟩ := hh i (List.mem_cons_of_mem _ hi)
      exact ⟨S.keep p _ _ h h1 (by rw [h4, h2]; exact fun e => hn.1 (e ▸ hi)) h3, h4⟩
    refine ⟨k1, fun e he he2 => k2 e (fun hm => he (List.mem_cons_of_mem _ hm)) (S.keep p _ _ h h1 (by rw [h2]; exact fun e2 => he (e2 ▸ List.mem_cons_self)) he2), ?_⟩
    show (sysF g step (step p (g a)) r).2.length ≤ _
    simp only [List.length_cons]
    omega
end
/-- of a store: the numbers l, each once, all live. -/
theorem sys_at {step : SysP → Ent → SysP} (S : SysStep step) {x : StM} (h : StOk x) {l : List Int} (hn : l.Nodup) (hl : ∀ i ∈ l, x.s.live i = true) {j : Nat} {id : Int} (hj : l[j]? = some id) (out : List Int) :
    StOk (sysF (fun i => (x.ent i).1) step (x, out) (l.take j)).1 ∧ Has (sysF (fun i => (x.ent i).1) step (x, out) (l.take j)).1 (x.ent id).1 ∧ (x.ent id).1.1 = id ∧ (sysF (fun i => (x.ent i).1) step (x, out) (l.take j)).2.length ≤ out.length + j ∧
      sysF (fun i => (x.ent i).1) step (x, out) (l.take (j + 1)) = step (sysF (fun i => (x.ent i).1) step (x, out) (l.take j)) (x.ent id).1 := by
  have hlive : ∀ i, x.s.live i = true → Has x (x.ent i).1 ∧ (x.ent i).1.1 = i := fun i hi => by
    obtain ⟨e, h1, h2, h3⟩ := h.has_of hi
    rw [h3]; exact ⟨h1, h2⟩
  obtain ⟨k1, k2, k3⟩ := sys_keep (g := fun i => (x.ent i).1) S (l.take j) (x, out) h (hn.sublist (List.take_sublist _ _)) fun i hi => hlive i (hl i (List.mem_of_mem_take hi))
  obtain ⟨h1, h2⟩ := hlive id (hl id (List.mem_of_getElem? hj))
  have hno : id ∉ l.take j := fun hm => by
    obtain ⟨q, hq⟩ := List.mem_iff_getElem?.1 hm
    rw [List.getElem?_take] at hq
    split at hq
    · rename_i hqj
      obtain ⟨a1, a2⟩ := List.getElem?_eq_some_iff.1 hq
      obtain ⟨b1, b2⟩ := List.getElem?_eq_some_iff.1 hj
      have := (List.nodup_iff_pairwise_ne.1 hn)
      have := (List.pairwise_iff_getElem.1 this) q j a1 b1 hqj
      rw [a2, b2] at this
      exact this rfl
    · cases hq
  refine ⟨k1, k2 _ (by rw [h2]; exact hno) h1, h2, ?_, ?_⟩
  · rw [List.length_take] at k3; simp only at k3; omega
  · rw [take_at hj, sysF_snoc]
theorem sys_all {step : SysP → Ent → SysP} (S : SysStep step) {x : StM} (h : StOk x) {l : List Int} (hn : l.Nodup) (hl : ∀ i ∈ l, x.s.live i = true) (out : List Int) : StOk (sysF (fun i => (x.ent i).1) step (x, out) l).1 ∧ (sysF (fun i => (x.ent i).1) step (x, out) l).2.length ≤ out.length + l.length := by
  have hlive : ∀ i, x.s.live i = true → Has x (x.ent i).1 ∧ (x.ent i).1.1 = i := fun i hi => by
    obtain ⟨e, h1, h2, h3⟩ := h.has_of hi
    rw [h3]; exact ⟨h1, h2⟩
  obtain ⟨k1, k2, k3⟩ := sys_keep (g := fun i => (x.ent i).1) S l (x, out) h hn fun i hi => hlive i (hl i hi)
  exact ⟨k1, k3⟩
/-- a walk that passes some by. -/
def skipE (fit : Ent → Bool) (step : SysP → Ent → SysP) (p : SysP) (e : Ent) : SysP := if fit e then step p e else p
theorem SysStep.skip {step : SysP → Ent → SysP} (S : SysStep step) (fit : Ent → Bool) : SysStep (skipE fit step) :=
  ⟨fun p e h1 h2 => by unfold skipE; split; exact S.ok p e h1 h2; exact h1, fun p e e' h1 h2 h3 h4 => by unfold skipE; split; exact S.keep p e e' h1 h2 h3 h4; exact h4, fun p e => by unfold skipE; split; exact S.len p e; omega⟩
theorem sysF_filter {g : Int → Ent} {step : SysP → Ent → SysP} {fit : Ent → Bool} {q : Int → Bool} : ∀ (l : List Int) (p : SysP), (∀ i ∈ l, q i = fit (g i)) → sysF g step p (l.filter q) = sysF g (skipE fit step) p l
  | [], p, _ => rfl
  | a :: r, p, h => by
    have ha := h a List.mem_cons_self
    have hr := fun p => sysF_filter (g := g) (step := step) (fit := fit) (q := q) r p fun i hi => h i (List.mem_cons_of_mem _ hi)
    unfold sysF at hr ⊢
    by_cases hf : fit (g a) = true
    · rw [List.filter_cons_of_pos (by rw [ha]; exact hf), List.foldl_cons, List.foldl_cons, hr]
      simp only [skipE, hf, if_true]
    · rw [List.filter_cons_of_neg (by rw [ha]; exact hf), List.foldl_cons, hr]
      simp only [skipE, hf]
      rfl

/-! ### an entity of a store -/
theorem Has.at {x : StM} (h : StOk x) {e : Ent} (he : Has x e) : ∃ m i, x.at e.1 = some (m, i, e) ∧ m < 64 ∧ Valid m e.2 ∧ homeT x.tab e.1 = some m ∧ x.s.live e.1 = true := by
  obtain ⟨m, hm, hi⟩ := he
  obtain ⟨i, hi⟩ := List.mem_iff_getElem?.1 hi
  have ha := h.at_of2 hm hi
  obtain ⟨h1, _, _, _, _, h2, h3⟩ := h.at_some ha
  exact ⟨m, i, ha, hm, h2, h1, h3⟩
/-- has it that kind? -/
def hasK (e : Ent) (k : Int) : Bool := decide (k ∈ kindsOf (maskN e.2))
theorem Has.get {x : StM} (h : StOk x) {e : Ent} (he : Has x e) {k : Int} (hk : hasK e k = true) : x.get e.1 k = ((k, fieldsOf e.2 k), 0) := by
  obtain ⟨m, i, ha, hm, hv, _, _⟩ := Has.at h he
  have hk : k ∈ kindsOf m := by rw [← hv.mask]; simpa [hasK] using hk
  unfold StM.get
  rw [ha]
  exact if_pos hk
theorem Has.field {x : StM} (h : StOk x) {e : Ent} (he : Has x e) {k : Int} (hk : hasK e k = true) : checkM (k, fieldsOf e.2 k) = 0 := by
  obtain ⟨m, i, ha, hm, hv, _, _⟩ := Has.at h he
  have hk : k ∈ kindsOf m := by rw [← hv.mask]; simpa [hasK] using hk
  have he := hv.eq
  have : (k, fieldsOf e.2 k) ∈ e.2 := by rw [he]; exact List.mem_map.2 ⟨k, hk, by rw [← he]⟩
  exact (listE_0.1 hv.list).1 _ this
theorem Has.keepSet {x : StM} (h : StOk x) {e e' : Ent} {c : Comp} (hne : e'.1 ≠ e.1) (he : Has x e') : Has (x.set e.1 c).2 e' := apart_set h hne he
theorem apart_spawn {x : StM} {l : List Comp} {e : Ent} (he : Has x e) : Has (x.spawn l).2.2 e := by
  unfold StM.spawn
  split
  · exact he
  · split
    · exact he
    · obtain ⟨k, hk, hi⟩ := he
      exact ⟨k, hk, has_put hi⟩
theorem setM_same {x : StM} {id : Int} {c : Comp} : (x.set id c).2.s = x.s := by
  unfold StM.set
  split
  · rfl
  · split
    · rfl
    · split <;> rfl
theorem Has.setOk {x : StM} (h : StOk x) {e : Ent} (he : Has x e) {c : Comp} (hc : checkM c = 0) (hk : hasK e c.1 = true) : (x.set e.1 c).1 = 0 := by
  obtain ⟨m, i, ha, hm, hv, _, _⟩ := Has.at h he
  have hk : c.1 ∈ kindsOf m := by rw [← hv.mask]; simpa [hasK] using hk
  unfold StM.set
  rw [if_neg (fun h => h hc), ha]
  simp only [if_pos hk]

/-! ### who fits: by kinds -/
theorem fit2 {x : StM} (h : StOk x) {all : Int} {ks : List Int} (hks : ∀ m : Nat, m < 64 → fitB (m : Int) all 0 = ks.all fun k => decide (k ∈ kindsOf m)) {id : Int} (hl : x.s.live id = true) : fitE x all 0 id = ks.all fun k => hasK (x.ent id).1 k := by
  obtain ⟨e, he, h2, h3⟩ := h.has_of hl
  obtain ⟨m, i, ha, hm, hv, hh, _⟩ := Has.at h he
  rw [h2] at hh
  unfold fitE
  rw [hh, h3]
  simp only [hasK, hv.mask]
  exact hks m hm
theorem fits_all {all : Int} {ks : List Int} (h : ((List.range 64).all fun m => fitB (m : Int) all 0 == ks.all fun k => decide (k ∈ kindsOf m)) = true) : ∀ m : Nat, m < 64 → fitB (m : Int) all 0 = ks.all fun k => decide (k ∈ kindsOf m) := fun m hm => by
  have := List.all_eq_true.1 h m (List.mem_range.2 hm)
  simpa using this
theorem fits_3 : ∀ m : Nat, m < 64 → fitB (m : Int) 3 0 = [0, 1].all fun k => decide (k ∈ kindsOf m) := fits_all (by decide +kernel)
theorem fits_4 : ∀ m : Nat, m < 64 → fitB (m : Int) 4 0 = [2].all fun k => decide (k ∈ kindsOf m) := fits_all (by decide +kernel)
theorem fits_33 : ∀ m : Nat, m < 64 → fitB (m : Int) 33 0 = [0, 5].all fun k => decide (k ∈ kindsOf m) := fits_all (by decide +kernel)

/-! ### what becomes of an entity -/
def turnM (a b : Int) : Int × Int := if -524288 ≤ a + b ∧ a + b ≤ 524287 then (a + b, b) else (if a + b < 0 then -524288 else 524287, if b = -32768 then 32767 else -b)
def moveE (p : SysP) (e : Ent) : SysP :=
  let a := fieldsOf e.2 0
  let v := fieldsOf e.2 1
  let X := turnM a.1 v.1
  let Y := turnM a.2.1 v.2.1
  (((p.1.set e.1 (0, X.1, Y.1, 0)).2.set e.1 (1, X.2, Y.2, 0)).2, if X.1 = a.1 ∧ Y.1 = a.2.1 then p.2 else p.2 ++ [e.1])
def ageE (p : SysP) (e : Ent) : SysP :=
  let n := (fieldsOf e.2 2).1
  if n = 0 then ((p.1.despawn e.1).2, p.2 ++ [e.1]) else ((p.1.set e.1 (2, n - 1, 0, 0)).2, p.2)
def childM (shape : Int) (c : Comp) (odd : Bool) : List Comp :=
  [c, (1, if odd then -(64 * (shape + 1)) else 64 * (shape + 1), 32 * (shape + 1), 0), (2, 30 + 10 * shape, 0, 0), (3, shape, 100, 1 + shape)]
def oddM (id : Int) : Bool := decide (slotOf id % 2 = 1)
def breedE (p : SysP) (e : Ent) : SysP :=
  let s := fieldsOf e.2 5
  if 0 < s.2.1 then ((p.1.set e.1 (5, s.1, s.2.1 - 1, s.2.2)).2, p.2)
  else
    let q := p.1.spawn (childM s.2.2 (0, fieldsOf e.2 0) (oddM e.1))
    if q.2.1 = 0 then ((q.2.2.set e.1 (5, s.1, s.1 - 1, s.2.2)).2, p.2 ++ [q.1]) else (q.2.2, p.2)
theorem moveS : SysStep moveE :=
  ⟨fun p e h he => (h.setM e.1 _).setM e.1 _, fun p e e' h he hne he' => apart_set (h.setM e.1 _) hne (apart_set h hne he'), fun p e => by unfold moveE; dsimp only; split <;> simp⟩
theorem ageS : SysStep ageE :=
  ⟨fun p e h he => by unfold ageE; dsimp only; split; exact h.despawn e.1; exact h.setM e.1 _, fun p e e' h he hne he' => by
    unfold ageE; dsimp only; split
    · exact apart_despawn h hne he'
    · exact apart_set h hne he', fun p e => by unfold ageE; dsimp only; split <;> simp⟩
theorem breedS : SysStep breedE :=
  ⟨fun p e h he => by
    unfold breedE; dsimp only; split
    · exact h.setM e.1 _
    · split
      · exact (h.spawn _).setM e.1 _
      · exact h.spawn _, fun p e e' h he hne he' => by
    unfold breedE; dsimp only; split
    · exact apart_set h hne he'
    · split
      · exact apart_set (h.spawn _) hne (apart_spawn he')
      · exact apart_spawn he', fun p e => by
    unfold breedE; dsimp only; split
    · simp
    · split <;> simp⟩
def entF (x : StM) (i : Int) : Ent := (x.ent i).1
def moveM (x : StM) : SysP := sysF (entF x) moveE (x, []) (withL x 3 0)
def ageM (x : StM) : SysP := sysF (entF x) ageE (x, []) (withL x 4 0)
def breedM (x : StM) : SysP := sysF (entF x) breedE (x, []) (withL x 33 0)

/-- as the document goes: over all entities. -/
theorem sys_doc {x : StM} (h : StOk x) {all : Int} {ks : List Int} (hks : ∀ m : Nat, m < 64 → fitB (m : Int) all 0 = ks.all fun k => decide (k ∈ kindsOf m)) (step : SysP → Ent → SysP) :
    sysF (entF x) step (x, []) (withL x all 0) = sysF (entF x) (skipE (fun e => ks.all fun k => hasK e k) step) (x, []) x.s.list :=
  sysF_filter _ _ fun _i hi => fit2 h hks (h.s.mem_list.1 hi)
theorem moveM_ok {x : StM} (h : StOk x) : StOk (moveM x).1 ∧ (moveM x).2.length ≤ 1024 := by
  obtain ⟨h1, h2⟩ := sys_all moveS h (List.Pairwise.filter _ h.s.list_nodup) (fun i hi => withL_live h (all := 3) (non := 0) hi) []
  exact ⟨h1, Nat.le_trans h2 (by have : _ ≤ 1024 := withL_len h 3 0; simp only [List.length_nil, Nat.zero_add]; exact this)⟩
theorem ageM_ok {x : StM} (h : StOk x) : StOk (ageM x).1 ∧ (ageM x).2.length ≤ 1024 := by
  obtain ⟨h1, h2⟩ := sys_all ageS h (List.Pairwise.filter _ h.s.list_nodup) (fun i hi => withL_live h (all := 4) (non := 0) hi) []
  exact ⟨h1, Nat.le_trans h2 (by have : _ ≤ 1024 := withL_len h 4 0; simp only [List.length_nil, Nat.zero_add]; exact this)⟩
theorem breedM_ok {x : StM} (h : StOk x) : StOk (breedM x).1 ∧ (breedM x).2.length ≤ 1024 := by
  obtain ⟨h1, h2⟩ := sys_all breedS h (List.Pairwise.filter _ h.s.list_nodup) (fun i hi => withL_live h (all := 33) (non := 0) hi) []
  exact ⟨h1, Nat.le_trans h2 (by have : _ ≤ 1024 := withL_len h 33 0; simp only [List.length_nil, Nat.zero_add]; exact this)⟩

/-! ### fields in their ranges -/
theorem inR_at {k a b c : Int} (h : checkM (k, a, b, c) = 0) : (∀ p, (fieldsM k)[0]? = some p → p.2.1 ≤ a ∧ a ≤ p.2.2) ∧ (∀ p, (fieldsM k)[1]? = some p → p.2.1 ≤ b ∧ b ≤ p.2.2) ∧ (∀ p, (fieldsM k)[2]? = some p → p.2.1 ≤ c ∧ c ≤ p.2.2) ∧
    ((fieldsM k)[1]? = none → b = 0) ∧ ((fieldsM k)[2]? = none → c = 0) := by
  have hall : (List.range 3).all (inR (k, a, b, c)) = true := by
    unfold checkM at h
    split at h
    · cases h
    · split at h
      · cases h
      · split at h
        · assumption
        · cases h
  have key : ∀ i, i < 3 → inR (k, a, b, c) i = true := fun i hi => List.all_eq_true.1 hall i (List.mem_range.2 hi)
  have h0 := key 0 (by omega)
  have h1 := key 1 (by omega)
  have h2 := key 2 (by omega)
  unfold inR at h0 h1 h2
  simp only [fl] at h0 h1 h2
  refine ⟨fun p hp => ?_, fun p hp => ?_, fun p hp => ?_, fun hp => ?_, fun hp => ?_⟩
  · rw [hp] at h0; simpa using h0
  · rw [hp] at h1; simpa using h1
  · rw [hp] at h2; simpa using h2
  · rw [hp] at h1; simpa using h1
  · rw [hp] at h2; simpa using h2
theorem pos_in {f : F3} (h : checkM (0, f) = 0) : (-524288 ≤ f.1 ∧ f.1 ≤ 524287) ∧ (-524288 ≤ f.2.1 ∧ f.2.1 ≤ 524287) ∧ f.2.2 = 0 := by
  obtain ⟨a, b, c⟩ := f
  obtain ⟨h0, h1, _, _, h2⟩ := inR_at h
  exact ⟨h0 _ rfl, h1 _ rfl, h2 rfl⟩
theorem vel_in {f : F3} (h : checkM (1, f) = 0) : (-32768 ≤ f.1 ∧ f.1 ≤ 32767) ∧ (-32768 ≤ f.2.1 ∧ f.2.1 ≤ 32767) ∧ f.2.2 = 0 := by
  obtain ⟨a, b, c⟩ := f
  obtain ⟨h0, h1, _, _, h2⟩ := inR_at h
  exact ⟨h0 _ rfl, h1 _ rfl, h2 rfl⟩
theorem life_in {f : F3} (h : checkM (2, f) = 0) : (0 ≤ f.1 ∧ f.1 ≤ 4095) ∧ f.2.1 = 0 ∧ f.2.2 = 0 := by
  obtain ⟨a, b, c⟩ := f
  obtain ⟨h0, _, _, h1, h2⟩ := inR_at h
  exact ⟨h0 _ rfl, h1 rfl, h2 rfl⟩
theorem spawn_in {f : F3} (h : checkM (5, f) = 0) : (1 ≤ f.1 ∧ f.1 ≤ 255) ∧ (0 ≤ f.2.1 ∧ f.2.1 ≤ 254) ∧ (0 ≤ f.2.2 ∧ f.2.2 ≤ 15) := by
  obtain ⟨a, b, c⟩ := f
  obtain ⟨h0, h1, h2, _, _⟩ := inR_at h
  exact ⟨h0 _ rfl, h1 _ rfl, h2 _ rfl⟩
theorem checkM_of {k a b c : Int} (hn : cntM k ≠ 0) (h : (List.range 3).all (inR (k, a, b, c)) = true) : checkM (k, a, b, c) = 0 := by
  have ho : over (k, a, b, c) = false := by
    unfold over
    rw [List.any_eq_false]
    intro i hi
    rw [List.all_eq_true.1 h i hi]
    simp
  unfold checkM
  rw [if_neg hn, ho, h]
  rfl
theorem child_ok {shape : Int} (hs : 0 ≤ shape ∧ shape ≤ 15) {f : F3} (hf : checkM (0, f) = 0) (odd : Bool) : listE (childM shape (0, f) odd) = 0 := by
  refine listE_0.2 ⟨fun c hc => ?_, by simp [childM]⟩
  simp only [childM, List.mem_cons, List.not_mem_nil, or_false] at hc
  rcases hc with rfl | rfl | rfl | rfl
  · exact hf
  · refine checkM_of (by decide) ?_
    cases odd <;> simp [List.range_succ, inR, fieldsM, fl] <;> omega
  · refine checkM_of (by decide) ?_
    simp [List.range_succ, inR, fieldsM, fl]; omega
  · refine checkM_of (by decide) ?_
    simp [List.range_succ, inR, fieldsM, fl]; omega

end Go.Proofs.YtkblnhnjagemlaaGreat
