/-
  What the functions of the program's package slots compute.
-/
import Derived.Test.YtchhhjlpnecjkaaGreatSl2
import Derived.Test.YtchhhjlpnecjkaaGreatTabG
namespace Go.Proofs.YtchhhjlpnecjkaaGreat
open Go Go.RowKit Go.Proofs.YtchhhjlpnecjkaaGreat.Den
variable {R : Type} {Q : R → World → Prop} {w : World}

/-! ### the model -/
structure SM where
  first : Int
  gen : List Int
  used : List Bool
  free : List Int
  fresh : Nat

def idOf (slot gen : Int) : Int := gen * 1024 + slot
def slotOf (id : Int) : Int := id % 1024
def genOf (id : Int) : Int := id / 1024
def SM.n (s : SM) : Nat := s.gen.length
def SM.count (s : SM) : Nat := s.used.countP (fun b => b)
def SM.new (n : Nat) (first : Int) : SM := ⟨first, List.replicate n 0, List.replicate n false, [], 0⟩
def SM.use (s : SM) (i : Nat) (g : Int) : SM := { s with gen := s.gen.set i g, used := s.used.set i true }
def SM.take (s : SM) : Option (Int × SM) := match s.free.getLast? with
  | some x => match s.gen[x.toNat]? with
    | some g => some (idOf x (g + 1), { s.use x.toNat (g + 1) with free := s.free.dropLast })
    | none => none
  | none => if s.fresh < s.n then some (idOf s.fresh s.first, { s.use s.fresh s.first with fresh := s.fresh + 1 }) else none
def SM.live (s : SM) (id : Int) : Bool := s.used[(slotOf id).toNat]? == some true && s.gen[(slotOf id).toNat]? == some (genOf id)
def SM.freed (s : SM) (id : Int) : SM := { s with used := s.used.set (slotOf id).toNat false, free := if genOf id < 4194303 then s.free ++ [slotOf id] else s.free }
def SM.room (s : SM) : Int := s.free.length + s.n - s.fresh
def SM.ids (s : SM) : Nat → List Int
  | 0 => []
  | j + 1 => s.ids j ++ (match s.used[j]?, s.gen[j]? with
    | some true, some g => [idOf j g]
    | _, _ => [])
def SM.list (s : SM) : List Int := s.ids s.n

structure SMOk (s : SM) : Prop where
  pos : 1 ≤ s.n
  le : s.n ≤ 1024
  len : s.used.length = s.n
  first : 1 ≤ s.first ∧ s.first ≤ 4194303
  fresh : s.fresh ≤ s.n
  old : ∀ i g, s.gen[i]? = some g → i < s.fresh → 1 ≤ g ∧ g ≤ 4194303
  new : ∀ i g, s.gen[i]? = some g → s.fresh ≤ i → g = 0
  unused : ∀ i, s.used[i]? = some true → i < s.fresh
  free : ∀ x, x ∈ s.free ↔ ∃ i : Nat, x = (i : Int) ∧ i < s.fresh ∧ s.used[i]? = some false ∧ ∃ g, s.gen[i]? = some g ∧ g < 4194303
  nodup : s.free.Nodup

theorem smok_new {n : Nat} {first : Int} (h1 : 1 ≤ n) (h2 : n ≤ 1024) (hf : 1 ≤ first ∧ first ≤ 4194303) : SMOk (SM.new n first) := by
  refine ⟨by simp [SM.n, SM.new]; omega, by simp [SM.n, SM.new]; omega, by simp [SM.n, SM.new], hf, by simp [SM.new], fun i g h hi => by simp [SM.new] at hi, fun i g h _ => ?_, fun i h => ?_, fun x => ?_, by simp [SM.new]⟩
  · simp only [SM.new, List.getElem?_replicate] at h
    split at h
    · cases h; rfl
    · cases h
  · simp only [SM.new, List.getElem?_replicate] at h
    split at h
    · cases h
    · cases h
  · simp [SM.new]
theorem SMOk.use {s : SM} (h : SMOk s) {i : Nat} {g : Int} (hi : i < s.n) (hg : 1 ≤ g ∧ g ≤ 4194303) {fr : Nat} (hfr : fr ≤ s.n) (hge : s.fresh ≤ fr) (hif : i < fr) (hle : ∀ j, s.fresh ≤ j → j < fr → j = i) {free : List Int} (hfree : ∀ x, x ∈ free ↔ x ∈ s.free ∧ x ≠ (i : Int)) (hnd : free.Nodup) :
    SMOk { s.use i g with fresh := fr, free := free } := by
  refine ⟨?_, ?_, ?_, h.first, ?_, fun j g' h1 h2 => ?_, fun j g' h1 h2 => ?_, fun j h1 => ?_, fun x => ?_, hnd⟩
  · simpa [SM.n, SM.use] using h.pos
  · simpa [SM.n, SM.use] using h.le
  · simpa [SM.n, SM.use] using h.len
  · simpa [SM.n, SM.use] using hfr
  · simp only [SM.use, List.getElem?_set] at h1
    split at h1
    · split at h1
      · cases h1; exact hg
      · cases h1
    · rename_i hne
      rcases Nat.lt_or_ge j s.fresh with hj | hj
      · exact h.old j g' h1 hj
      · exact absurd (hle j hj h2).symm hne
  · simp only [SM.use, List.getElem?_set] at h1
    split at h1
    · rename_i e; subst e; simp only at h2; omega
    · exact h.new j g' h1 (Nat.le_trans hge h2)
  · simp only [SM.use, List.getElem?_set] at h1
    split at h1
    · rename_i e; subst e; exact hif
    · exact Nat.lt_of_lt_of_le (h.unused j h1) hge
  · rw [hfree, h.free]
    simp only [SM.use]
    constructor
    · rintro ⟨⟨j, rfl, h1, h2, h3⟩, hne⟩
      have hji : ¬ i = j := fun e => hne (by rw [e])
      exact ⟨j, rfl, Nat.lt_of_lt_of_le h1 hge, by rw [List.getElem?_set_ne hji]; exact h2, by rw [List.getElem?_set_ne hji]; exact h3⟩
    · rintro ⟨j, rfl, h1, h2, h3⟩
      have hji : ¬ i = j := fun e => by
        subst e
        rw [List.getElem?_set_self (by rw [h.len]; exact hi)] at h2
        cases h2
      rw [List.getElem?_set_ne hji] at h2 h3
      refine ⟨⟨j, rfl, ?_, h2, h3⟩, fun e => hji (by omega)⟩
      rcases Nat.lt_or_ge j s.fresh with hj | hj
      · exact hj
      · exact absurd (hle j hj h1).symm hji
theorem getLast_split {α : Type} {l : List α} {x : α} (h : l.getLast? = some x) : l = l.dropLast ++ [x] := by
  obtain ⟨ys, rfl⟩ := List.getLast?_eq_some_iff.1 h
  simp

theorem SMOk.freeGet {s : SM} (h : SMOk s) {x : Int} (hx : x ∈ s.free) : ∃ i : Nat, x = (i : Int) ∧ i < s.n ∧ s.used[i]? = some false ∧ ∃ g, s.gen[i]? = some g ∧ 1 ≤ g ∧ g < 4194303 := by
  obtain ⟨i, rfl, h1, h2, g, h3, h4⟩ := (h.free x).1 hx
  exact ⟨i, rfl, Nat.lt_of_lt_of_le h1 h.fresh, h2, g, h3, (h.old i g h3 h1).1, h4⟩
theorem SMOk.free_le {s : SM} (h : SMOk s) : s.free.length ≤ 1024 := by
  have h2 : s.free.length ≤ ((List.range s.n).map fun (k : Nat) => (k : Int)).length := h.nodup.length_le_of_subset fun z hz => by
    obtain ⟨q, rfl, hq, _⟩ := h.freeGet hz
    exact List.mem_map.2 ⟨q, by simpa using hq, rfl⟩
  have := h.le
  simp at h2
  omega
theorem SMOk.take {s s' : SM} {id : Int} (h : SMOk s) (ht : s.take = some (id, s')) : SMOk s' := by
  unfold SM.take at ht
  split at ht
  · rename_i x hx
    have hmem : x ∈ s.free := List.mem_of_getLast? hx
    obtain ⟨i, rfl, hi, hu, g, hg, h1, h2⟩ := h.freeGet hmem
    rw [Int.toNat_natCast, hg] at ht
    simp only [Option.some.injEq, Prod.mk.injEq] at ht
    obtain ⟨_, rfl⟩ := ht
    have hsp := getLast_split hx
    have hnd := h.nodup
    rw [hsp] at hnd
    have hif := (h.free _).1 hmem
    obtain ⟨i', e, hif, _⟩ := hif
    have : i' = i := by omega
    subst this
    refine h.use (fr := s.fresh) hi ⟨by omega, by omega⟩ h.fresh (Nat.le_refl _) hif (fun j h1 h2 => by omega) (fun y => ?_) (List.nodup_append.1 hnd).1
    conv => rhs; rw [hsp]
    rw [List.mem_append, List.mem_singleton]
    constructor
    · intro hy
      exact ⟨.inl hy, fun e => (List.nodup_append.1 hnd).2.2 y hy _ (by simp) e⟩
    · rintro ⟨hy | hy, hne⟩
      · exact hy
      · exact absurd hy hne
  · rename_i hn
    have hfe : s.free = [] := by simpa using hn
    split at ht
    · rename_i hlt
      simp only [Option.some.injEq, Prod.mk.injEq] at ht
      obtain ⟨_, rfl⟩ := ht
      refine h.use (fr := s.fresh + 1) (free := s.free) hlt h.first hlt (by omega) (by omega) (fun j h1 h2 => by omega) (fun y => ?_) h.nodup
      rw [hfe]; simp
    · cases ht

/-- an ID. -/
theorem slot_id {i : Nat} {g : Int} (hi : i < 1024) : slotOf (idOf i g) = (i : Int) := by unfold slotOf idOf; omega
theorem gen_id {i : Nat} {g : Int} (hi : i < 1024) : genOf (idOf i g) = g := by unfold genOf idOf; omega
theorem id_range {i : Nat} {g : Int} (hi : i < 1024) (h1 : 1 ≤ g) (h2 : g ≤ 4194303) : 1024 ≤ idOf i g ∧ idOf i g ≤ 4294967295 := by unfold idOf; omega
theorem id_eq {id : Int} : idOf (slotOf id) (genOf id) = id := by unfold idOf slotOf genOf; omega
theorem slot_range (id : Int) : 0 ≤ slotOf id ∧ slotOf id < 1024 := by unfold slotOf; omega

theorem SM.live_iff {s : SM} {id : Int} : s.live id = true ↔ s.used[(slotOf id).toNat]? = some true ∧ s.gen[(slotOf id).toNat]? = some (genOf id) := by
  simp [SM.live]
theorem SMOk.freed {s : SM} (h : SMOk s) {id : Int} (hl : s.live id = true) : SMOk (s.freed id) := by
  obtain ⟨h1, h2⟩ := SM.live_iff.1 hl
  have hr := slot_range id
  have hx : ((slotOf id).toNat : Int) = slotOf id := by omega
  have hfr := h.unused _ h1
  have hul : (slotOf id).toNat < s.used.length := (List.getElem?_eq_some_iff.1 h1).1
  have hg := h.old _ _ h2 hfr
  have hnot : slotOf id ∉ s.free := fun hm => by
    obtain ⟨i, e, _, hu, _⟩ := (h.free _).1 hm
    rw [show (slotOf id).toNat = i by omega, hu] at h1
    cases h1
  refine ⟨h.pos, h.le, List.length_set.trans h.len, h.first, h.fresh, h.old, h.new, fun i hi => ?_, fun x => ?_, ?_⟩
  · simp only [SM.freed, List.getElem?_set] at hi
    split at hi
    · first | (cases hi; done) | (split at hi <;> cases hi)
    · exact h.unused i hi
  · have key : (∃ i : Nat, x = (i : Int) ∧ i < s.fresh ∧ (s.used.set (slotOf id).toNat false)[i]? = some false ∧ ∃ g, s.gen[i]? = some g ∧ g < 4194303) ↔ (x ∈ s.free ∨ (x = slotOf id ∧ genOf id < 4194303)) := by
      rw [h.free]
      constructor
      · rintro ⟨i, rfl, a1, a2, g, a3, a4⟩
        rw [List.getElem?_set] at a2
        split at a2
        · rename_i e
          subst e
          rw [h2] at a3
          cases a3
          exact .inr ⟨hx, a4⟩
        · exact .inl ⟨i, rfl, a1, a2, g, a3, a4⟩
      · rintro (⟨i, rfl, a1, a2, g, a3, a4⟩ | ⟨rfl, a4⟩)
        · refine ⟨i, rfl, a1, ?_, g, a3, a4⟩
          rw [List.getElem?_set]
          split
          · rename_i e; subst e; simp
          · exact a2
        · exact ⟨_, hx.symm, hfr, by simp [hul], _, h2, a4⟩
    show x ∈ (if genOf id < 4194303 then s.free ++ [slotOf id] else s.free) ↔ _
    refine Iff.trans ?_ key.symm
    split
    · rename_i hlt; simp [hlt]
    · rename_i hlt; simp [hlt]
  · show (if genOf id < 4194303 then s.free ++ [slotOf id] else s.free).Nodup
    split
    · rw [List.nodup_append]
      exact ⟨h.nodup, by simp, fun a ha b hb e => by simp at hb; subst hb; subst e; exact hnot ha⟩
    · exact h.nodup
theorem countP_set {l : List Bool} {i : Nat} {a b : Bool} (h : l[i]? = some a) : (l.set i b).countP (fun b => b) + (if a then 1 else 0) = l.countP (fun b => b) + (if b then 1 else 0) := by
  induction l generalizing i with
  | nil => simp at h
  | cons x r ih =>
    cases i with
    | zero => simp at h; subst h; simp only [List.set_cons_zero, List.countP_cons]; omega
    | succ i => simp at h; have := ih h; simp only [List.set_cons_succ, List.countP_cons]; omega
theorem SM.count_use {s : SM} {i : Nat} {g : Int} (hu : s.used[i]? = some false) : (s.use i g).count = s.count + 1 := by
  have := countP_set (b := true) hu
  simpa [SM.count, SM.use] using this
theorem SM.count_le {s : SM} (h2 : s.n ≤ 1024) (h3 : s.used.length = s.n) : s.count ≤ 1024 := by
  have := List.countP_le_length (p := fun b => b) (l := s.used)
  unfold SM.count
  omega
theorem SM.count_freed {s : SM} {id : Int} (hl : s.live id = true) : (s.freed id).count + 1 = s.count := by
  have := countP_set (b := false) (SM.live_iff.1 hl).1
  simpa [SM.count, SM.freed] using this

/-! ### as it lies in memory -/
abbrev intT : Ty := .sc (.int .i64)
abbrev boolT : Ty := .sc .bool
theorem ints_ty : SlTy Tryz.prog 123 3 intT 8 := slTy (by kernel_rfl)
theorem bools_ty : SlTy Tryz.prog 70 4 boolT 1 := slTy (by kernel_rfl)
abbrev sloC (s : SM) (g u f : Sl) : List Value := [.int .i64 s.first, g.v, u.v, f.v, .int .i64 (s.fresh : Int), .int .i64 (s.count : Int)]
theorem spec_slots_Gen {id : Int} (h : 0 ≤ id ∧ id ≤ 4294967295) {K : Res [.sc (.int .i64)] → W R} (hk : K (genOf id) Q w) : callW Tryz.prog k_slots_Gen [.int .u32 id] [.sc (.int .i64)] K Q w := by
  refine C_slots_Gen id K Q w ?_
  unfold F_slots_Gen
  have : IntKind.wrap .i64 (IntKind.wrap .u32 (Int.tdiv id 1024)) = genOf id := by rw [Int.tdiv_eq_ediv_of_nonneg h.1, wu32 (by omega), w64 (by omega)]; rfl
  rw [this]
  exact hk
section
variable {lab : Nat → Nat} {b : Nat} {g u f : Sl} {s : SM}

end

section
variable {F : Nat → Prop} {b : Nat} {s : SM}

theorem SM.ids_len {s : SM} (hs : s.used.length = s.n) : ∀ {j : Nat}, j ≤ s.n → (s.ids j).length = (s.used.take j).countP (fun b => b)
  | 0, _ => by simp [SM.ids]
  | j + 1, h => by
    obtain ⟨u, hu⟩ : ∃ u, s.used[j]? = some u := ⟨_, List.getElem?_eq_getElem (by omega)⟩
    obtain ⟨g, hg⟩ : ∃ g, s.gen[j]? = some g := ⟨_, List.getElem?_eq_getElem (by unfold SM.n at h; omega)⟩
    rw [SM.ids, List.length_append, SM.ids_len hs (by omega), take_at hu, List.countP_append, hu, hg]
    cases u <;> simp
theorem SM.list_len {s : SM} (hs : s.used.length = s.n) : s.list.length = s.count := by
  rw [SM.list, SM.ids_len hs (Nat.le_refl _), ← hs, List.take_length]; rfl

end

end Go.Proofs.YtchhhjlpnecjkaaGreat
