/-
  What the functions of the program's package slots compute.
-/
import Derived.Test.YtkblnhnjagemlaaGreatSl2
import Derived.Test.YtkblnhnjagemlaaGreatTabG
namespace Go.Proofs.YtkblnhnjagemlaaGreat
open Go Go.RowKit Go.Proofs.YtkblnhnjagemlaaGreat.Den
variable {R : Type} {Q : R → World → Prop} {w : World}

/-! ### the model -/
structure SM where
  first : Int
  gen : List Int
  used : List Bool
  free : List Int
  fresh : Nat

def idOf (slot gen : Int) : Int := gen * 1024 + slot
def slotOf (id : Int) : Int := id % 1024
def genOf (id : Int) : Int := id / 1024
def SM.n (s : SM) : Nat := s.gen.length
def SM.count (s : SM) : Nat := s.used.countP (fun b => b)
def SM.new (n : Nat) (first : Int) : SM := ⟨first, List.replicate n 0, List.replicate n false, [], 0⟩
def SM.use (s : SM) (i : Nat) (g : Int) : SM := { s with gen := s.gen.set i g, used := s.used.set i true }
def SM.take (s : SM) : Option (Int × SM) := match s.free.getLast? with
  | some x => match s.gen[x.toNat]? with
    | some g => some (idOf x (g + 1), { s.use x.toNat (g + 1) with free := s.free.dropLast })
    | none => none
  | none => if s.fresh < s.n then some (idOf s.fresh s.first, { s.use s.fresh s.first with fresh := s.fresh + 1 }) else none
def SM.live (s : SM) (id : Int) : Bool := s.used[(slotOf id).toNat]? == some true && s.gen[(slotOf id).toNat]? == some (genOf id)
def SM.freed (s : SM) (id : Int) : SM := { s with used := s.used.set (slotOf id).toNat false, free := if genOf id < 4194303 then s.free ++ [slotOf id] else s.free }
def SM.room (s : SM) : Int := s.free.length + s.n - s.fresh
def SM.ids (s : SM) : Nat → List Int
  | 0 => []
  | j + 1 => s.ids j ++ (match s.used[j]?, s.gen[j]? with
    | some true, some g => [idOf j g]
    | _, _ => [])
def SM.list (s : SM) : List Int := s.ids s.n

structure SMOk (s : SM) : Prop where
  pos : 1 ≤ s.n
  le : s.n ≤ 1024
  len : s.used.length = s.n
  first : 1 ≤ s.first ∧ s.first ≤ 4194303
  fresh : s.fresh ≤ s.n
  old : ∀ i g, s.gen[i]? = some g → i < s.fresh → 1 ≤ g ∧ g ≤ 4194303
  new : ∀ i g, s.gen[i]? = some g → s.fresh ≤ i → g = 0
  unused : ∀ i, s.used[i]? = some true → i < s.fresh
  free : ∀ x, x ∈ s.free ↔ ∃ i : Nat, x = (i : Int) ∧ i < s.fresh ∧ s.used[i]? = some false ∧ ∃ g, s.gen[i]? = some g ∧ g < 4194303
  nodup : s.free.Nodup

theorem smok_new {n : Nat} {first : Int} (h1 : 1 ≤ n) (h2 : n ≤ 1024) (hf : 1 ≤ first ∧ first ≤ 4194303) : SMOk (SM.new n first) := by
  refine ⟨by simp [SM.n, SM.new]; omega, by simp [SM.n, SM.new]; omega, by simp [SM.n, SM.new], hf, by simp [SM.new], fun i g h hi => by simp [SM.new] at hi, fun i g h _ => ?_, fun i h => ?_, fun x => ?_, by simp [SM.new]⟩
  · simp only [SM.new, List.getElem?_replicate] at h
    split at h
    · cases h; rfl
    · cases h
  · simp only [SM.new, List.getElem?_replicate] at h
    split at h
    · cases h
    · cases h
  · simp [SM.new]
theorem SMOk.use {s : SM} (h : SMOk s) {i : Nat} {g : Int} (hi : i < s.n) (hg : 1 ≤ g ∧ g ≤ 4194303) {fr : Nat} (hfr : fr ≤ s.n) (hge : s.fresh ≤ fr) (hif : i < fr) (hle : ∀ j, s.fresh ≤ j → j < fr → j = i) {free : List Int} (hfree : ∀ x, x ∈ free ↔ x ∈ s.free ∧ x ≠ (i : Int)) (hnd : free.Nodup) :
    SMOk { s.use i g with fresh := fr, free := free } := by
  refine ⟨?_, ?_, ?_, h.first, ?_, fun j g' h1 h2 => ?_, fun j g' h1 h2 => ?_, fun j h1 => ?_, fun x => ?_, hnd⟩
  · simpa [SM.n, SM.use] using h.pos
  · simpa [SM.n, SM.use] using h.le
  · simpa [SM.n, SM.use] using h.len
  · simpa [SM.n, SM.use] using hfr
  · simp only [SM.use, List.getElem?_set] at h1
    split at h1
    · split at h1
      · cases h1; exact hg
      · cases h1
    · rename_i hne
      rcases Nat.lt_or_ge j s.fresh with hj | hj
      · exact h.old j g' h1 hj
      · exact absurd (hle j hj h2).symm hne
  · simp only [SM.use, List.getElem?_set] at h1
    split at h1
    · rename_i e; subst e; simp only at h2; omega
    · exact h.new j g' h1 (Nat.le_trans hge h2)
  · simp only [SM.use, List.getElem?_set] at h1
    split at h1
    · rename_i e; subst e; exact hif
    · exact Nat.lt_of_lt_of_le (h.unused j h1) hge
  · rw [hfree, h.free]
    simp only [SM.use]
    constructor
    · rintro ⟨⟨j, rfl, h1, h2, h3⟩, hne⟩
      have hji : ¬ i = j := fun e => hne (by rw [e])
      exact ⟨j, rfl, Nat.lt_of_lt_of_le h1 hge, by rw [List.getElem?_set_ne hji]; exact h2, by rw [List.getElem?_set_ne hji]; exact h3⟩
    · rintro ⟨j, rfl, h1, h2, h3⟩
      have hji : ¬ i = j := fun e => by
        subst e
        rw [List.getElem?_set_self (by rw [h.len]; exact hi)] at h2
        cases h2
      rw [List.getElem?_set_ne hji] at h2 h3
      refine ⟨⟨j, rfl, ?_, h2, h3⟩, fun e => hji (by omega)⟩
      rcases Nat.lt_or_ge j s.fresh with hj | hj
      · exact hj
      · exact absurd (hle j hj h1).symm hji
theorem getLast_split {α : Type} {l : List α} {x : α} (h : l.getLast? = some x) : l = l.dropLast ++ [x] := by
  obtain ⟨ys, rfl⟩ := List.getLast?_eq_some_iff.1 h
  simp

theorem SMOk.freeGet {s : SM} (h : SMOk s) {x : Int} (hx : x ∈ s.free) : ∃ i : Nat, x = (i : Int) ∧ i < s.n ∧ s.used[i]? = some false ∧ ∃ g, s.gen[i]? = some g ∧ 1 ≤ g ∧ g < 4194303 := by
  obtain ⟨i, rfl, h1, h2, g, h3, h4⟩ := (h.free x).1 hx
  exact ⟨i, rfl, Nat.lt_of_lt_of_le h1 h.fresh, h2, g, h3, (h.old i g h3 h1).1, h4⟩
theorem SMOk.free_le {s : SM} (h : SMOk s) : s.free.length ≤ 1024 := by
  have h2 : s.free.length ≤ ((List.range s.n).map fun (k : Nat) => (k : Int)).length := h.nodup.length_le_of_subset fun z hz => by
    obtain ⟨q, rfl, hq, _⟩ := h.freeGet hz
    exact List.mem_map.2 ⟨q, by simpa using hq, rfl⟩
  have := h.le
  simp at h2
  omega
theorem SMOk.take {s s' : SM} {id : Int} (h : SMOk s) (ht : s.take = some (id, s')) : SMOk s' := by
  unfold SM.take at ht
  split at ht
  · rename_i x hx
    have hmem : x ∈ s.free := List.mem_of_getLast? hx
    obtain ⟨i, rfl, hi, hu, g, hg, h1, h2⟩ := h.freeGet hmem
    rw [Int.toNat_natCast, hg] at ht
    simp only [Option.some.injEq, Prod.mk.injEq] at ht
    obtain ⟨_, rfl⟩ := ht
    have hsp := getLast_split hx
    have hnd := h.nodup
    rw [hsp] at hnd
    have hif := (h.free _).1 hmem
    obtain ⟨i', e, hif, _⟩ := hif
    have : i' = i := by omega
    subst this
    refine h.use (fr := s.fresh) hi ⟨by omega, by omega⟩ h.fresh (Nat.le_refl _) hif (fun j h1 h2 => by omega) (fun y => ?_) (List.nodup_append.1 hnd).1
    conv => rhs; rw [hsp]
    rw [List.mem_append, List.mem_singleton]
    constructor
    · intro hy
      exact ⟨.inl hy, fun e => (List.nodup_append.1 hnd).2.2 y hy _ (by simp) e⟩
    · rintro ⟨hy | hy, hne⟩
      · exact hy
      · exact absurd hy hne
  · rename_i hn
    have hfe : s.free = [] := by simpa using hn
    split at ht
    · rename_i hlt
      simp only [Option.some.injEq, Prod.mk.injEq] at ht
      obtain ⟨_, rfl⟩ := ht
      refine h.use (fr := s.fresh + 1) (free := s.free) hlt h.first hlt (by omega) (by omega) (fun j h1 h2 => by omega) (fun y => ?_) h.nodup
      rw [hfe]; simp
    · cases ht

/-- an ID. -/
theorem slot_id {i : Nat} {g : Int} (hi : i < 1024) : slotOf (idOf i g) = (i : Int) := by unfold slotOf idOf; omega
theorem gen_id {i : Nat} {g : Int} (hi : i < 1024) : genOf (idOf i g) = g := by unfold genOf idOf; omega
theorem id_range {i : Nat} {g : Int} (hi : i < 1024) (h1 : 1 ≤ g) (h2 : g ≤ 4194303) : 1024 ≤ idOf i g ∧ idOf i g ≤ 4294967295 := by unfold idOf; omega
theorem id_eq {id : Int} : idOf (slotOf id) (genOf id) = id := by unfold idOf slotOf genOf; omega
theorem slot_range (id : Int) : 0 ≤ slotOf id ∧ slotOf id < 1024 := by unfold slotOf; omega

theorem SM.live_iff {s : SM} {id : Int} : s.live id = true ↔ s.used[(slotOf id).toNat]? = some true ∧ s.gen[(slotOf id).toNat]? = some (genOf id) := by
  simp [SM.live]
theorem SMOk.freed {s : SM} (h : SMOk s) {id : Int} (hl : s.live id = true) : SMOk (s.freed id) := by
  obtain ⟨h1, h2⟩ := SM.live_iff.1 hl
  have hr := slot_range id
  have hx : ((slotOf id).toNat : Int) = slotOf id := by omega
  have hfr := h.unused _ h1
  have hul : (slotOf id).toNat < s.used.length := (List.getElem?_eq_some_iff.1 h1).1
  have hg := h.old _ _ h2 hfr
  have hnot : slotOf id ∉ s.free := fun hm => by
    obtain ⟨i, e, _, hu, _⟩ := (h.free _).1 hm
    rw [show (slotOf id).toNat = i by omega, hu] at h1
    cases h1
  refine ⟨h.pos, h.le, List.length_set.trans h.len, h.first, h.fresh, h.old, h.new, fun i hi => ?_, fun x => ?_, ?_⟩
  · simp only [SM.freed, List.getElem?_set] at hi
    split at hi
    · first | (cases hi; done) | (split at hi <;> cases hi)
    · exact h.unused i hi
  · have key : (∃ i : Nat, x = (i : Int) ∧ i < s.fresh ∧ (s.used.set (slotOf id).toNat false)[i]? = some false ∧ ∃ g, s.gen[i]? = some g ∧ g < 4194303) ↔ (x ∈ s.free ∨ (x = slotOf id ∧ genOf id < 4194303)) := by
      rw [h.free]
      constructor
      · rintro ⟨i, rfl, a1, a2, g, a3, a4⟩
        rw [List.getElem?_set] at a2
        split at a2
        · rename_i e
          subst e
          rw [h2] at a3
          cases a3
          exact .inr ⟨hx, a4⟩
        · exact .inl ⟨i, rfl, a1, a2, g, a3, a4⟩
      · rintro (⟨i, rfl, a1, a2, g, a3, a4⟩ | ⟨rfl, a4⟩)
        · refine ⟨i, rfl, a1, ?_, g, a3, a4⟩
          rw [List.getElem?_set]
          split
          · rename_i e; subst e; simp
          · exact a2
        · exact ⟨_, hx.symm, hfr, by simp [hul], _, h2, a4⟩
    show x ∈ (if genOf id < 4194303 then s.free ++ [slotOf id] else s.free) ↔ _
    refine Iff.trans ?_ key.symm
    split
    · rename_i hlt; simp [hlt]
    · rename_i hlt; simp [hlt]
  · show (if genOf id < 4194303 then s.free ++ [slotOf id] else s.free).Nodup
    split
    · rw [List.nodup_append]
      exact ⟨h.nodup, by simp, fun a ha b hb e => by simp at hb; subst hb; subst e; exact hnot ha⟩
    · exact h.nodup
theorem countP_set {l : List Bool} {i : Nat} {a b : Bool} (h : l[i]? = some a) : (l.set i b).countP (fun b => b) + (if a then 1 else 0) = l.countP (fun b => b) + (if b then 1 else 0) := by
  induction l generalizing i with
  | nil => simp at h
  | cons x r ih =>
    cases i with
    | zero => simp at h; subst h; simp only [List.set_cons_zero, List.countP_cons]; omega
    | succ i => simp at h; have := ih h; simp only [List.set_cons_succ, List.countP_cons]; omega
theorem SM.count_use {s : SM} {i : Nat} {g : Int} (hu : s.used[i]? = some false) : (s.use i g).count = s.count + 1 := by
  have := countP_set (b := true) hu
  simpa [SM.count, SM.use] using this
theorem SM.count_le {s : SM} (h2 : s.n ≤ 1024) (h3 : s.used.length = s.n) : s.count ≤ 1024 := by
  have := List.countP_le_length (p := fun b => b) (l := s.used)
  unfold SM.count
  omega
theorem SM.count_freed {s : SM} {id : Int} (hl : s.live id = true) : (s.freed id).count + 1 = s.count := by
  have := countP_set (b := false) (SM.live_iff.1 hl).1
  simpa [SM.count, SM.freed] using this

/-! ### as it lies in memory -/
abbrev intT : Ty := .sc (.int .i64)
abbrev boolT : Ty := .sc .bool
theorem ints_ty : SlTy Tryz.prog 258 3 intT 8 := slTy (by kernel_rfl)
theorem bools_ty : SlTy Tryz.prog 265 4 boolT 1 := slTy (by kernel_rfl)
abbrev sloC (s : SM) (g u f : Sl) : List Value := [.int .i64 s.first, g.v, u.v, f.v, .int .i64 (s.fresh : Int), .int .i64 (s.count : Int)]
structure SlotsR (lab : Nat → Nat) (w : World) (b : Nat) (g u f : Sl) (s : SM) : Prop where
  blk : Bl b 267 (sloC s g u f) (fun k => lab k = 1) w
  gen : Own (fun k => lab k = 2) w 3 intT g s.gen
  used : Own (fun k => lab k = 3) w 4 boolT u s.used
  free : Own (fun k => lab k = 4) w 3 intT f s.free
def Slots (b : Nat) (s : SM) : OB := fun F w => SMOk s ∧ ∃ lab g u f, (∀ k, lab k ≠ 0 → F k) ∧ SlotsR lab w b g u f s
theorem Slots.st {b : Nat} {s : SM} : St (Slots b s) := fun {F F' S w w'} ⟨ok, lab, g, u, f, hF, h⟩ fr hs => by
  have ne : ∀ k, k < w.heap.size → lab k ≠ 0 → ¬ S k := fun k hk e => (hs k hk (hF k e)).1
  exact ⟨ok, cut lab w.heap.size, g, u, f, fun k e => (hs k (cut_ne e).2 (hF k (cut_ne e).1)).2, Bl.st.cut h.blk fr (by decide) ne, Own.st.cut h.gen fr (by decide) ne, Own.st.cut h.used fr (by decide) ne, Own.st.cut h.free fr (by decide) ne⟩

theorem spec_slots_Slot {id : Int} (h : 0 ≤ id ∧ id ≤ 4294967295) {K : Res [.sc (.int .i64)] → W R} (hk : K (slotOf id) Q w) : callW Tryz.prog k_slots_Slot [.int .u32 id] [.sc (.int .i64)] K Q w := by
  refine C_slots_Slot id K Q w ?_
  unfold F_slots_Slot
  have : IntKind.wrap .i64 (Int.tmod id 1024) = slotOf id := by rw [Int.tmod_eq_emod_of_nonneg h.1, w64 (by omega)]; rfl
  rw [this]
  exact hk
theorem spec_slots_Gen {id : Int} (h : 0 ≤ id ∧ id ≤ 4294967295) {K : Res [.sc (.int .i64)] → W R} (hk : K (genOf id) Q w) : callW Tryz.prog k_slots_Gen [.int .u32 id] [.sc (.int .i64)] K Q w := by
  refine C_slots_Gen id K Q w ?_
  unfold F_slots_Gen
  have : IntKind.wrap .i64 (IntKind.wrap .u32 (Int.tdiv id 1024)) = genOf id := by rw [Int.tdiv_eq_ediv_of_nonneg h.1, wu32 (by omega), w64 (by omega)]; rfl
  rw [this]
  exact hk
theorem spec_slots_Make {i : Nat} {g : Int} (hi : i < 1024) (hg : 1 ≤ g ∧ g ≤ 4194303) {K : Res [.sc (.int .u32), .sc (.int .i64)] → W R} (hk : K (idOf i g, 0) Q w) : callW Tryz.prog k_slots_Make [.int .i64 (i : Int), .int .i64 g] [.sc (.int .u32), .sc (.int .i64)] K Q w := by
  refine C_slots_Make _ _ K Q w ?_
  unfold F_slots_Make
  refine joinI (fun b w' => b = false ∧ w' = w) ?_ ?_
  · refine condF (decide_eq_false (by omega)) (condF (decide_eq_false (by omega)) (condF (decide_eq_false (by omega)) ⟨decide_eq_false (by omega), rfl⟩))
  · rintro b w' ⟨rfl, rfl⟩
    refine condF rfl ?_
    have := id_range hi hg.1 hg.2
    have : IntKind.wrap .u32 (IntKind.wrap .i64 ((IntKind.wrap .i64 (g * 1024)) + i)) = idOf i g := by
      rw [w64 (x := g * 1024) (by omega), w64 (by omega)]
      exact wu32 (by unfold idOf at this; omega)
    rw [this]
    exact hk

theorem spec_slots_New {n first : Int} {K : Res [.sc .ptr, .sc (.int .i64)] → W R} (h1 : ¬ (1 ≤ n ∧ n ≤ 1024 ∧ 1 ≤ first ∧ first ≤ 4194303) → K (none, 1) Q w)
    (h2 : ∀ b w', 1 ≤ n ∧ n ≤ 1024 ∧ 1 ≤ first ∧ first ≤ 4194303 → Slots b (SM.new n.toNat first) (Up w.heap.size) w' → Fr None w w' → K (some ⟨b, 0, none⟩, 0) Q w') :
    callW Tryz.prog k_slots_New [.int .i64 n, .int .i64 first] [.sc .ptr, .sc (.int .i64)] K Q w := by
  refine C_slots_New n first K Q w ?_
  unfold F_slots_New
  refine joinI (fun b w' => b = !decide (1 ≤ n ∧ n ≤ 1024 ∧ 1 ≤ first ∧ first ≤ 4194303) ∧ w' = w) ?_ ?_
  · refine condD (fun h => ⟨by rw [decide_eq_false (by omega)]; rfl, rfl⟩) fun a1 => condD (fun h => ⟨by rw [decide_eq_false (by omega)]; rfl, rfl⟩) fun a2 => condD (fun h => ⟨by rw [decide_eq_false (by omega)]; rfl, rfl⟩) fun a3 => ⟨?_, rfl⟩
    by_cases h : first > 4194303
    · rw [decide_eq_true h, decide_eq_false (by omega)]; rfl
    · rw [decide_eq_false h, decide_eq_true (by omega)]; rfl
  rintro b w' ⟨rfl, rfl⟩
  refine condI (fun h => h1 (by intro h2; rw [decide_eq_true h2] at h; cases h)) fun h => ?_
  have h : 1 ≤ n ∧ n ≤ 1024 ∧ 1 ≤ first ∧ first ≤ 4194303 := by simpa using h
  obtain ⟨m, rfl⟩ : ∃ m : Nat, n = (m : Int) := ⟨n.toNat, by omega⟩
  rw [Int.toNat_natCast] at h2
  have fin : ∀ (g u : Sl) (wa wb : World) (a1 a2 : Nat), Own (fun k => k = a1) wa 3 intT g (List.replicate m 0) → Own (fun k => k = a2) wa 4 boolT u (List.replicate m false) → a1 ≠ a2 → Fr None w' wa → w'.heap.size ≤ a1 → w'.heap.size ≤ a2 → a1 < wa.heap.size → a2 < wa.heap.size →
      newW 267 [.int .i64 first, .slice g.a g.n g.c, .slice u.a u.n u.c, .slice none 0 0, .int .i64 0, .int .i64 0] (fun x => K (some x, 0)) Q wa := by
    intro g u wa wb a1 a2 og ou hne fa l1 l2 s1 s2
    refine newI fun wc Bc fc sc => ?_
    refine h2 wa.heap.size wc h ⟨smok_new (by omega) (by omega) h.2.2, fun k => if k = wa.heap.size then 1 else if k = a1 then 2 else if k = a2 then 3 else 0, g, u, ⟨none, 0, 0⟩, fun k e => ?_, ⟨⟨by simp, ?_⟩, ?_, ?_, Own.nil _ _ _ _⟩⟩ (fa.then0 fc)
    · have := fa.size
      show w'.heap.size ≤ k
      by_cases e1 : k = wa.heap.size
      · omega
      · by_cases e2 : k = a1
        · omega
        · by_cases e3 : k = a2
          · omega
          · simp [e1, e2, e3] at e
    · have : (SM.new m first).count = 0 := by simp [SM.count, SM.new]
      show Blk wc wa.heap.size _ [_, _, _, _, .int .i64 ((0 : Nat) : Int), .int .i64 ((SM.new m first).count : Int)]
      rw [this]
      exact Bc
    · exact (og.none fc).mono fun k _ e => by
        have : ¬ k = wa.heap.size := by omega
        exact (if_neg this).trans (if_pos e)
    · exact (ou.none fc).mono fun k _ e => by
        have h1 : ¬ k = wa.heap.size := by omega
        have h2 : ¬ k = a1 := by omega
        exact (if_neg h1).trans ((if_neg h2).trans (if_pos e))
  have hnb : m ≤ 1024 := by omega
  refine joinK ?_
  refine bothI ?_ ?_
  · refine makeI ints_ty (z := (0 : Int)) (zv := .int .i64 0) (by kernel_rfl) rfl rfl (by omega) (by omega) fun w1 o1 f1 s1 => ?_
    refine makeI bools_ty (z := false) (zv := .bool false) (by kernel_rfl) rfl rfl (by omega) (by omega) fun w2 o2 f2 s2 => ?_
    have hd : w'.drew.heap.size = w'.heap.size := rfl
    exact fin _ _ w2 w2 _ _ (o1.none f2) o2 (by omega) ((Fr.refl None w').drew.then0 (f1.then0 f2)) (by omega) (by omega) (by omega) (by omega)
  · refine makeI bools_ty (z := false) (zv := .bool false) (by kernel_rfl) rfl rfl (by omega) (by omega) fun w1 o1 f1 s1 => ?_
    refine makeI ints_ty (z := (0 : Int)) (zv := .int .i64 0) (by kernel_rfl) rfl rfl (by omega) (by omega) fun w2 o2 f2 s2 => ?_
    have hd : w'.drew.heap.size = w'.heap.size := rfl
    exact fin _ _ w2 w2 _ _ o2 (o1.none f2) (by omega) ((Fr.refl None w').drew.then0 (f1.then0 f2)) (by omega) (by omega) (by omega) (by omega)

section
variable {lab : Nat → Nat} {b : Nat} {g u f : Sl} {s : SM}

theorem SlotsR.fr0 (h : SlotsR lab w b g u f s) {w' : World} (fr : Fr None w w') : SlotsR lab w' b g u f s := ⟨Bl.st.fr0 h.blk fr, Own.st.fr0 h.gen fr, Own.st.fr0 h.used fr, Own.st.fr0 h.free fr⟩

theorem spec_slots_use (h : SlotsR lab w b g u f s) (hle : s.n ≤ 1024) (hsl : s.used.length = s.n) {i : Nat} {x : Int} (hi : i < s.n) (hu : s.used[i]? = some false) (hx : 1 ≤ x ∧ x ≤ 4194303) {K : Res [.sc (.int .u32), .sc (.int .i64)] → W R}
    (hk : ∀ w', SlotsR lab w' b g u f (s.use i x) → Fr (fun k => lab k ≠ 0) w w' → K (idOf i x, 0) Q w') : callW Tryz.prog k_slots_Slots_use [.pointer (some ⟨b, 0, none⟩), .int .i64 (i : Int), .int .i64 x] [.sc (.int .u32), .sc (.int .i64)] K Q w := by
  refine C_slots_Slots_use _ _ _ K Q w ?_
  unfold F_slots_Slots_use
  have fd : Fr None w w.drew := (Fr.refl _ _).drew
  have h := h.fr0 fd
  refine ptrI (fldI h.blk.2 (x := g) rfl (ptrI (fldI h.blk.2 (x := u) rfl ?_)))
  refine h.gen.idx rfl (by omega) (by unfold SM.n at hi; omega) fun gb y hg hy _ => ?_
  rw [Int.toNat_natCast]
  refine h.gen.set rfl hi hg x fun w1 o1 f1 s1 => ?_
  have f1' : Fr (fun k => lab k = 2) w.drew w1 := f1.mono fun k _ e => h.gen.own k e
  have u1 := h.used.fr f1' fun k e => by omega
  have B1 := h.blk.2.fr f1' fun e => by have := h.blk.1; omega
  refine u1.idx rfl (by omega) (by omega) fun ub z hub hz _ => ?_
  rw [Int.toNat_natCast]
  refine u1.set rfl (by omega) hub true fun w2 o2 f2 s2 => ?_
  have f2' : Fr (fun k => lab k = 3) w1 w2 := f2.mono fun k _ e => u1.own k e
  have B2 := B1.fr f2' fun e => by have := h.blk.1; omega
  refine ptrI (fldI B2 (x := (s.count : Int)) rfl (ptrI ?_))
  have hc := s.count_use (g := x) hu
  have hcl := SM.count_le hle hsl
  have : IntKind.wrap .i64 ((s.count : Int) + 1) = (((s.use i x).count : Nat) : Int) := by rw [w64 (by omega), hc]; rfl
  rw [this]
  refine setA B2 (by simp) rfl fun w3 B3 f3 s3 => ?_
  have f3' : Fr (fun k => lab k = 1) w2 w3 := f3.mono fun k _ e => by rw [e]; exact h.blk.1
  refine spec_slots_Make (by omega) hx ?_
  refine hk w3 ⟨⟨h.blk.1, B3⟩, (o1.fr f2' fun k e => by omega).fr f3' fun k e => by omega, o2.fr f3' fun k e => by omega, ((h.free.fr f1' fun k e => by omega).fr f2' fun k e => by omega).fr f3' fun k e => by omega⟩ ?_
  exact ((fd.any.then (f1'.lab (by decide))).then (f2'.lab (by decide))).then (f3'.lab (by decide))
end

section
variable {F : Nat → Prop} {b : Nat} {s : SM}

theorem spec_slots_Take0 {K : Res [.sc (.int .u32), .sc (.int .i64)] → W R} (hk : K (0, 10) Q w) : callW Tryz.prog k_slots_Slots_Take [.pointer none] [.sc (.int .u32), .sc (.int .i64)] K Q w := C_slots_Slots_Take _ K Q w hk
theorem spec_slots_Take (h : Slots b s F w) {K : Res [.sc (.int .u32), .sc (.int .i64)] → W R} (hk0 : s.take = none → ∀ w', Fr None w w' → K (0, 8) Q w')
    (hk : ∀ id s' w', s.take = some (id, s') → Slots b s' F w' → Fr F w w' → K (id, 0) Q w') : callW Tryz.prog k_slots_Slots_Take [.pointer (some ⟨b, 0, none⟩)] [.sc (.int .u32), .sc (.int .i64)] K Q w := by
  obtain ⟨ok, lab, g, u, f, hF, h⟩ := h
  refine C_slots_Slots_Take _ K Q w ?_
  unfold F_slots_Slots_Take
  have hle := ok.le
  refine condF rfl (ptrI (fldI h.blk.2 (x := f) rfl ?_))
  have hfn : f.n = s.free.length := h.free.len
  refine condD (fun hpos => ?_) fun hpos => ?_
  · have fd : Fr None w w.drew := (Fr.refl _ _).drew
    have h := h.fr0 fd
    obtain ⟨x, hx⟩ : ∃ x, s.free.getLast? = some x := by
      cases hl : s.free.getLast? with
      | some x => exact ⟨x, rfl⟩
      | none => have := List.getLast?_eq_none_iff.1 hl; rw [this] at hfn; have : (f.n : Int) > 0 := hpos; simp at hfn; omega
    obtain ⟨i, rfl, hi, hu, y, hy, hy1, hy2⟩ := ok.freeGet (List.mem_of_getLast? hx)
    have hsm := ok.free_le
    have hlast : (IntKind.wrap .i64 ((f.n : Int) - 1)) = ((s.free.length - 1 : Nat) : Int) := by have : (f.n : Int) > 0 := hpos; rw [w64 (by omega)]; omega
    refine ptrI (fldI h.blk.2 (x := f) rfl (ptrI (fldI h.blk.2 (x := f) rfl ?_)))
    rw [hlast]
    have hp : 0 < s.free.length := by have : (f.n : Int) > 0 := hpos; omega
    refine h.free.sl.get rfl rfl (by omega) fun z hz => ?_
    rw [← List.getLast?_eq_getElem?, hx] at hz
    cases hz
    have fd2 : Fr None w w.drew.drew := fd.drew
    have h := h.fr0 ((Fr.refl None w.drew).drew)
    refine ptrI (fldI h.blk.2 (x := f) rfl (ptrI (fldI h.blk.2 (x := f) rfl ?_)))
    rw [hlast]
    have hcap := h.free.cap
    refine chkI (by simp only [Option.getD_some, Option.getD_none]; omega) ?_
    simp only [Option.getD_some, Option.getD_none, Int.toNat_natCast]
    refine ptrI ?_
    have e : (if f.c = Int.toNat 0 then f.a else f.a.map (·.add ((Int.toNat 0) * 1))) = f.a := by
      split
      · rfl
      · cases f.a with
        | none => rfl
        | some a => simp [Addr.add]
    rw [e]
    refine setA h.blk.2 (by simp) rfl fun w1 B1 f1 s1 => ?_
    have f1' : Fr (fun k => lab k = 1) w.drew.drew w1 := f1.mono fun k _ e => by rw [e]; exact h.blk.1
    have ofree : Own (fun k => lab k = 4) w1 3 intT ⟨f.a, s.free.length - Int.toNat 0 - 1, f.c - Int.toNat 0⟩ s.free.dropLast := by
      have := (h.free.fr f1' fun k e => by omega).take (n := s.free.length - 1) (by omega)
      rw [List.dropLast_eq_take]
      simpa using this
    refine ptrI (fldI B1 (x := g) rfl ?_)
    have g1 := h.gen.fr f1' fun k e => by omega
    refine g1.sl.get rfl rfl hi fun y' hy' => ?_
    rw [hy] at hy'
    cases hy'
    rw [w64 (by omega)]
    have hR : SlotsR lab w1 b g u ⟨f.a, s.free.length - Int.toNat 0 - 1, f.c - Int.toNat 0⟩ { s with free := s.free.dropLast } := ⟨⟨h.blk.1, B1⟩, g1, h.used.fr f1' fun k e => by omega, ofree⟩
    refine spec_slots_use hR ok.le ok.len hi hu (by omega) fun w2 h2 f2 => ?_
    have e2 : s.take = some (idOf i (y + 1), { s.use i (y + 1) with free := s.free.dropLast }) := by simp [SM.take, hx, hy]
    exact hk _ _ w2 e2 ⟨ok.take e2, lab, g, u, _, hF, h2⟩ (((fd2.any.then (f1'.lab (by decide))).then f2).sub hF)
  · have fd : Fr None w w.drew := (Fr.refl _ _).drew
    have h := h.fr0 fd
    have hnone : s.free.getLast? = none := by
      have : s.free = [] := List.eq_nil_of_length_eq_zero (by have : ¬ (f.n : Int) > 0 := hpos; omega)
      rw [this]; rfl
    have hgn : g.n = s.n := h.gen.len
    refine ptrI (fldI h.blk.2 (x := (s.fresh : Int)) rfl (ptrI (fldI h.blk.2 (x := g) rfl ?_)))
    refine condD (fun hlt => ?_) fun hlt => ?_
    · have hlt : s.fresh < s.n := by omega
      refine ptrI (fldI h.blk.2 (x := (s.fresh : Int)) rfl (ptrI ?_))
      refine setA h.blk.2 (by simp) rfl fun w1 B1 f1 s1 => ?_
      have f1' : Fr (fun k => lab k = 1) w.drew w1 := f1.mono fun k _ e => by rw [e]; exact h.blk.1
      have ew : IntKind.wrap .i64 ((s.fresh : Int) + 1) = ((s.fresh + 1 : Nat) : Int) := by rw [w64 (by omega)]; rfl
      rw [ew] at B1
      have hR : SlotsR lab w1 b g u f { s with fresh := s.fresh + 1 } := ⟨⟨h.blk.1, B1⟩, h.gen.fr f1' fun k e => by omega, h.used.fr f1' fun k e => by omega, h.free.fr f1' fun k e => by omega⟩
      have fd1 : Fr None w1 w1.drew := (Fr.refl _ _).drew
      have hR := hR.fr0 fd1
      refine ptrI (fldI hR.blk.2 (x := ((s.fresh + 1 : Nat) : Int)) rfl (ptrI (fldI hR.blk.2 (x := s.first) rfl ?_)))
      have e3 : IntKind.wrap .i64 (((s.fresh + 1 : Nat) : Int) - 1) = (s.fresh : Int) := by rw [w64 (by omega)]; omega
      rw [e3]
      have hu : s.used[s.fresh]? = some false := by
        have hl : s.fresh < s.used.length := by rw [ok.len]; exact hlt
        cases hb : s.used[s.fresh] with
        | false => rw [List.getElem?_eq_getElem hl, hb]
        | true => exact absurd (ok.unused s.fresh (by rw [List.getElem?_eq_getElem hl, hb])) (by omega)
      refine spec_slots_use hR ok.le ok.len hlt hu ok.first fun w2 h2 f2 => ?_
      have e2 : s.take = some (idOf s.fresh s.first, { s.use s.fresh s.first with fresh := s.fresh + 1 }) := by simp [SM.take, hnone, hlt]
      exact hk _ _ w2 e2 ⟨ok.take e2, lab, g, u, _, hF, h2⟩ ((((fd.any.then (f1'.lab (by decide))).then0 fd1).then f2).sub hF)
    · exact hk0 (by simp [SM.take, hnone]; omega) _ fd

theorem spec_slots_Live0 {id : Int} {K : Res [.sc .bool] → W R} (hk : ∀ w', Fr None w w' → K false Q w') : callW Tryz.prog k_slots_Slots_Live [.pointer none, .int .u32 id] [.sc .bool] K Q w := by
  refine C_slots_Slots_Live _ _ K Q w (joinK (bothI ?_ ?_)) <;> exact hk _ (Fr.refl _ _).drew
theorem spec_slots_Live (h : Slots b s F w) {id : Int} (hid : 0 ≤ id ∧ id ≤ 4294967295) {K : Res [.sc .bool] → W R} (hk : ∀ w', Fr None w w' → K (s.live id) Q w') : callW Tryz.prog k_slots_Slots_Live [.pointer (some ⟨b, 0, none⟩), .int .u32 id] [.sc .bool] K Q w := by
  obtain ⟨ok, lab, g, u, f, hF, h⟩ := h
  refine C_slots_Slots_Live _ _ K Q w ?_
  unfold F_slots_Slots_Live
  have fd : Fr None w w.drew := (Fr.refl _ _).drew
  have h := h.fr0 fd
  have hr := slot_range id
  have hgn : g.n = s.n := h.gen.len
  have hlen := ok.len
  refine joinK ?_
  have e := hk w.drew fd
  refine both2 ?_
  · refine condT rfl (ptrI (fldI h.blk.2 (x := g) rfl (spec_slots_Slot hid (andI (h.blk.2.rd (s := .sl) (i := 1) (x := g) rfl) ?_))))
    refine condD (fun hlt => ?_) fun hge => ?_
    · obtain ⟨i, hi⟩ : ∃ i : Nat, slotOf id = (i : Int) := ⟨(slotOf id).toNat, by omega⟩
      have hit : (slotOf id).toNat = i := by omega
      refine ptrI (fldI h.blk.2 (x := u) rfl (spec_slots_Slot hid (andI (h.blk.2.rd (s := .sl) (i := 2) (x := u) rfl) ?_)))
      refine h.used.sl.get rfl hi (by omega) fun z hz => ?_
      refine condI (fun hzt => ?_) fun hzf => ?_
      · subst hzt
        refine ptrI (fldI h.blk.2 (x := g) rfl (spec_slots_Slot hid (andI (h.blk.2.rd (s := .sl) (i := 1) (x := g) rfl) ?_)))
        refine h.gen.idx rfl (by omega) (by unfold SM.n at hgn; omega) fun gb y hg hy hrd => ?_
        refine ldI y hrd (spec_slots_Gen hid (andI hrd (andI (h.blk.2.rd (s := .sl) (i := 1) (x := g) rfl) ?_)))
        have : s.live id = (y == genOf id) := by unfold SM.live; rw [hit, hz, ← hit, hy]; rfl
        rw [← this]
        exact e
      · subst hzf
        have : s.live id = false := by simp [SM.live, hit, hz]
        rw [this] at e
        exact e
    · have : s.live id = false := by
        have : s.used[(slotOf id).toNat]? = none := List.getElem?_eq_none (by omega)
        simp [SM.live, this]
      rw [this] at e
      exact e

theorem spec_slots_Len0 {K : Res [.sc (.int .i64)] → W R} (hk : K 0 Q w) : callW Tryz.prog k_slots_Slots_Len [.pointer none] [.sc (.int .i64)] K Q w := C_slots_Slots_Len _ K Q w hk
theorem spec_slots_Len (h : Slots b s F w) {K : Res [.sc (.int .i64)] → W R} (hk : K (s.count : Int) Q w) : callW Tryz.prog k_slots_Slots_Len [.pointer (some ⟨b, 0, none⟩)] [.sc (.int .i64)] K Q w := by
  obtain ⟨ok, lab, g, u, f, hF, h⟩ := h
  refine C_slots_Slots_Len _ K Q w ?_
  exact condF rfl (ptrI (fldI h.blk.2 (x := (s.count : Int)) rfl hk))
theorem spec_slots_Free (h : Slots b s F w) {id : Int} (hid : 0 ≤ id ∧ id ≤ 4294967295) {K : Res [.sc (.int .i64)] → W R} (hk0 : s.live id = false → ∀ w', Fr None w w' → K 7 Q w')
    (hk : ∀ w', s.live id = true → Slots b (s.freed id) (Ex F w) w' → Fr F w w' → K 0 Q w') : callW Tryz.prog k_slots_Slots_Free [.pointer (some ⟨b, 0, none⟩), .int .u32 id] [.sc (.int .i64)] K Q w := by
  refine C_slots_Slots_Free _ _ K Q w ?_
  unfold F_slots_Slots_Free
  refine condF rfl (spec_slots_Live h hid fun w0 f0 => ?_)
  refine condI (fun hl => hk0 (by simpa using hl) _ f0) fun hl => ?_
  have hl : s.live id = true := by simpa using hl
  obtain ⟨ok, lab, g, u, f, hF, h⟩ := Slots.st.fr0 h f0
  have fd : Fr None w0 w0.drew := (Fr.refl _ _).drew
  have h := h.fr0 fd
  obtain ⟨hl1, hl2⟩ := SM.live_iff.1 hl
  have hr := slot_range id
  have hrg : 1 ≤ genOf id ∧ genOf id ≤ 4194303 := ok.old _ _ hl2 (ok.unused _ hl1)
  obtain ⟨i, hi⟩ : ∃ i : Nat, slotOf id = (i : Int) := ⟨(slotOf id).toNat, by omega⟩
  have hit : (slotOf id).toNat = i := by omega
  rw [hit] at hl1 hl2
  have hil : i < s.used.length := (List.getElem?_eq_some_iff.1 hl1).1
  refine ptrI (fldI h.blk.2 (x := u) rfl (spec_slots_Slot hid (andI (h.blk.2.rd (s := .sl) (i := 2) (x := u) rfl) ?_)))
  refine h.used.idx rfl (by omega) (by omega) fun ub z hub hz _ => ?_
  rw [hit]
  refine h.used.set rfl hil hub false fun w1 o1 f1 s1 => ?_
  have f1' : Fr (fun k => lab k = 3) w0.drew w1 := f1.mono fun k _ e => h.used.own k e
  have B1 := h.blk.2.fr f1' fun e => by have := h.blk.1; omega
  have hc := SM.count_freed hl
  have hcl := SM.count_le ok.le ok.len
  refine ptrI (fldI B1 (x := (s.count : Int)) rfl (ptrI ?_))
  have ew : IntKind.wrap .i64 ((s.count : Int) - 1) = (((s.freed id).count : Nat) : Int) := by rw [w64 (by omega)]; omega
  rw [ew]
  refine setA B1 (by simp) rfl fun w2 B2 f2 s2 => ?_
  have f2' : Fr (fun k => lab k = 1) w1 w2 := f2.mono fun k _ e => by rw [e]; exact h.blk.1
  have g2 := (h.gen.fr f1' fun k e => by omega).fr f2' fun k e => by omega
  have u2 := o1.fr f2' fun k e => by omega
  have fr2 := (h.free.fr f1' fun k e => by omega).fr f2' fun k e => by omega
  have f02 : Fr (fun k => lab k ≠ 0) w w2 := (((f0.then0 fd).any.then (f1'.lab (by decide))).then (f2'.lab (by decide)))
  refine spec_slots_Gen hid ?_
  refine joinI (fun _ w' => ∃ f', ∃ lab', (∀ k, lab' k ≠ 0 → lab k ≠ 0 ∨ w.heap.size ≤ k) ∧ SlotsR lab' w' b g u f' (s.freed id) ∧ Fr (fun k => lab k ≠ 0) w w') ?_ ?_
  · refine condD (fun hlt => ?_) fun hge => ?_
    · have fd2 : Fr None w2 w2.drew := (Fr.refl _ _).drew
      refine ptrI (fldI B2.drew (x := f) rfl (spec_slots_Slot hid (andI (B2.drew.rd (s := .sl) (i := 3) (x := f) rfl) ?_)))
      have hs3 := ok.free_le
      refine newI fun w3 B3 f3 s3 => ?_
      have s3 : w3.heap.size = w2.heap.size + 1 := s3
      have fr3 := (fr2.none fd2).none f3
      refine app1 (x := slotOf id) (S' := fun k => lab k = 4 ∨ w2.heap.size ≤ k) ints_ty fr3 B3 rfl (by omega) (by rw [maxLen_eq]; omega) (fun _ h => .inl h) (.inr (by omega)) fun r w4 o4 f4 s4 => ?_
      have f4' : Fr (fun k => lab k = 4) w3 w4 := f4.mono fun k _ e => fr3.own k e
      have f24 : Fr (fun k => lab k = 4) w2 w4 := (fd2.then0 f3).any.then f4'
      have B4 := B2.fr f24 fun e => by have := h.blk.1; omega
      refine ptrI (setA B4 (by simp) rfl fun w5 B5 f5 s5 => ?_)
      have f5' : Fr (fun k => lab k = 1) w4 w5 := f5.mono fun k _ e => by rw [e]; exact h.blk.1
      have hbl := B2.lt
      have hs2 := f02.size
      have hs24 := f24.size
      have hs5 := f5.size
      have o5 := o4.fr f5 fun k e e2 => by subst e2; have := h.blk.1; rcases e with e | e; omega; omega
      refine ⟨r, relab lab w2.heap.size w5.heap.size 4, fun k e => ?_, ⟨⟨?_, ?_⟩, ?_, ?_, ?_⟩, (f02.then (f24.lab (by decide))).then (f5'.lab (by decide))⟩
      · rcases relab_ne e with ⟨e, _⟩ | ⟨e, _⟩
        · exact .inl e
        · exact .inr (by omega)
      · show relab _ _ _ _ b = 1; rw [relab_lt hbl]; exact h.blk.1
      · exact B5
      · exact Own.st (F := fun k => lab k = 2) g2 (f24.trans f5' (U := fun k => lab k = 4 ∨ lab k = 1) (fun _ e => .inl e) (fun _ _ e => .inr e)) fun k hk e => ⟨by rintro (h | h) <;> omega, by rw [relab_lt hk]; exact e⟩
      · have := Own.st (F := fun k => lab k = 3) u2 (f24.trans f5' (U := fun k => lab k = 4 ∨ lab k = 1) (fun _ e => .inl e) (fun _ _ e => .inr e)) (F' := fun k => relab lab w2.heap.size w5.heap.size 4 k = 3) fun k hk e => ⟨by rintro (h | h) <;> omega, by rw [relab_lt hk]; exact e⟩
        simpa [SM.freed, hit] using this
      · have : Own (fun k => relab lab w2.heap.size w5.heap.size 4 k = 4) w5 3 intT r (s.free ++ [slotOf id]) := o5.mono fun k hk e => by
          rcases Nat.lt_or_ge k w2.heap.size with hl | hg
          · rw [relab_lt hl]; rcases e with e | e; exact e; omega
          · exact relab_new hg hk
        simpa [SM.freed, hlt] using this
    · refine ⟨f, lab, fun k e => .inl e, ⟨⟨h.blk.1, B2⟩, g2, by simpa [SM.freed, hit] using u2, ?_⟩, f02⟩
      simpa [SM.freed, show ¬ genOf id < 4194303 from hge] using fr2
  · rintro _ w3 ⟨f', lab', hl3, h3, f3⟩
    exact hk w3 hl ⟨ok.freed hl, lab', g, u, f', fun k e => (hl3 k e).imp (hF k) fun h => h, h3⟩ (f3.sub hF)

theorem spec_Clip_ID {ok : Nat → Prop} {r : Sl} {l : List Int} (hS : SlT ok w idT r l) {K : Res [.sc .sl] → W R} (hk : ∀ r', SlT ok w idT r' l → K r' Q w) : callW Tryz.prog k_slices_Clip_ID [.slice r.a r.n r.c] [.sc .sl] K Q w := by
  refine C_slices_Clip_ID _ K Q w ?_
  exact clipI ids_ty hS fun r' h' _ => hk r' h'

theorem SM.ids_len {s : SM} (hs : s.used.length = s.n) : ∀ {j : Nat}, j ≤ s.n → (s.ids j).length = (s.used.take j).countP (fun b => b)
  | 0, _ => by simp [SM.ids]
  | j + 1, h => by
    obtain ⟨u, hu⟩ : ∃ u, s.used[j]? = some u := ⟨_, List.getElem?_eq_getElem (by omega)⟩
    obtain ⟨g, hg⟩ : ∃ g, s.gen[j]? = some g := ⟨_, List.getElem?_eq_getElem (by unfold SM.n at h; omega)⟩
    rw [SM.ids, List.length_append, SM.ids_len hs (by omega), take_at hu, List.countP_append, hu, hg]
    cases u <;> simp
theorem SM.list_len {s : SM} (hs : s.used.length = s.n) : s.list.length = s.count := by
  rw [SM.list, SM.ids_len hs (Nat.le_refl _), ← hs, List.take_length]; rfl

theorem spec_slots_List0 {K : Res [.sc .sl] → W R} (hk : K ⟨none, 0, 0⟩ Q w) : callW Tryz.prog k_slots_Slots_List [.pointer none] [.sc .sl] K Q w := C_slots_Slots_List _ K Q w hk
theorem spec_slots_List (h : Slots b s F w) {K : Res [.sc .sl] → W R} (hk : ∀ r w', SlT (Up w.heap.size) w' idT r s.list → Fr None w w' → K r Q w') : callW Tryz.prog k_slots_Slots_List [.pointer (some ⟨b, 0, none⟩)] [.sc .sl] K Q w := by
  obtain ⟨ok, lab, g, u, f, hF, h⟩ := h
  refine C_slots_Slots_List _ K Q w ?_
  unfold F_slots_Slots_List
  have hle := ok.le
  have hlen := ok.len
  refine condF rfl (ptrI (fldI h.blk.2 (x := u) rfl ?_))
  refine rangeI (fun s : Sl × Int => s.2) (fun j st w' => st.2 = (j : Int) ∧ Own (Up w.heap.size) w' 31 idT st.1 (s.ids j) ∧ Fr None w w') rfl ⟨rfl, Own.nil _ _ _ _, Fr.refl _ _⟩ (fun j st w' h => h.1) (fun j st w' hp => h.used.sl.fr0 hp.2.2) ?_ ?_
  · rintro j x ⟨o, _⟩ w1 K' hx ⟨rfl, ho, f1⟩ - hK
    obtain ⟨hj, _⟩ := List.getElem?_eq_some_iff.1 hx
    have hjn : j < s.n := by omega
    obtain ⟨y, hy⟩ : ∃ y, s.gen[j]? = some y := ⟨_, List.getElem?_eq_getElem hjn⟩
    have hil := SM.ids_len hlen (j := j) (by omega)
    have hcl := List.countP_le_length (p := fun b => b) (l := s.used.take j)
    have hidl : (s.ids j).length ≤ 1024 := by simp at hcl; omega
    refine joinI (fun o' w' => Own (Up w.heap.size) w' 31 idT o' (s.ids (j + 1)) ∧ Fr None w w') ?_ ?_
    · refine condI (fun hxt => ?_) fun hxf => ?_
      · subst hxt
        have h1 := h.fr0 f1
        refine ptrI (fldI h1.blk.2 (x := g) rfl ?_)
        refine h1.gen.sl.get rfl rfl hjn fun y' hy' => ?_
        rw [hy] at hy'
        cases hy'
        refine spec_slots_Make (by omega) (ok.old j y hy (ok.unused j hx)) ?_
        refine appF (x := idOf j y) ids_ty rfl ho f1.size (by omega) (by omega) fun r w2 o2 f2 _ => ⟨?_, (f1.up.thenOwn ho f2).ofUp (Nat.le_refl _)⟩
        rw [SM.ids, hx, hy]
        exact o2
      · subst hxf
        refine ⟨?_, f1⟩
        rw [SM.ids, hx, hy]
        simpa using ho
    · rintro o' w2 ⟨o2, f2⟩
      exact hK _ _ ⟨wsucc (N := s.n) hjn (by omega), o2, f2⟩
  · rintro ⟨o, i⟩ w1 ⟨_, ho, f1⟩
    refine spec_Clip_ID ho.sl fun r hr => ?_
    rw [hlen] at hr
    exact hk r w1 hr f1
end

end Go.Proofs.YtkblnhnjagemlaaGreat
