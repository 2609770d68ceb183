/-
  What becomes of a snapshot, ID by ID (plainly).
-/
import Derived.Test.YtchhhjlpnecjkaaGreatDif
import Derived.Test.YtchhhjlpnecjkaaGreatR18
namespace Go.Proofs.YtchhhjlpnecjkaaGreat
open Go Go.RowKit Go.Proofs.YtchhhjlpnecjkaaGreat.Den

def hasE (L : List Ent) (id : Int) : Bool := L.any fun e => e.1 == id
def goneM (was now : List Ent) : List Int := (was.filter fun e => !hasE now e.1).map (·.1)
def comeM (was now : List Ent) : List Ent := now.filter fun e => !hasE was e.1
def nothingM (c : Chg) : Bool := decide (c.2.1 = 0 ∧ c.2.2.1.length = 0 ∧ c.2.2.2.length = 0)
def chgOne (was : List Ent) (e : Ent) : Option Chg := match was.find? (fun a => a.1 == e.1) with
  | none => none
  | some a => if nothingM (changeM a e) = true then none else some (changeM a e)
def chgsM (was now : List Ent) : List Chg := now.filterMap (chgOne was)
/-- .. of what has come so far. -/
def goneP (was now : List Ent) : List Int := (was.filter fun e => !hasE now e.1).map (·.1)
theorem hasE_iff {L : List Ent} {id : Int} : hasE L id = true ↔ ∃ e ∈ L, e.1 = id := by simp [hasE]
theorem hasE_not {L : List Ent} {id : Int} : hasE L id = false ↔ ∀ e ∈ L, e.1 ≠ id := by simp [hasE]

/-- a snapshot: IDs rise, all is right. -/
structure FormOk (L : List Ent) : Prop where
  rise : L.Pairwise fun a b => a.1 < b.1
  one : ∀ e ∈ L, oneM e = 0
  told : ∀ e ∈ L, secretM e.2 = false
  pos : ∀ e ∈ L, 0 < e.1
theorem formM_ok : ∀ (L : List Ent) (prev : Int), formM prev L = 0 ↔ (∀ e ∈ L, prev < e.1) ∧ L.Pairwise (fun a b => a.1 < b.1) ∧ (∀ e ∈ L, oneM e = 0) ∧ (∀ e ∈ L, secretM e.2 = false)
  | [], _ => by simp [formM]
  | e :: r, prev => by
    have ih := formM_ok r e.1
    rw [formM]
    by_cases h1 : e.1 ≤ prev
    · rw [if_pos h1]
      refine ⟨fun h => absurd h (by decide), fun h => absurd (h.1 e List.mem_cons_self) (by omega)⟩
    · rw [if_neg h1]
      by_cases h2 : oneM e = 0
      · rw [if_neg (c := oneM e ≠ 0) (fun x => x h2)]
        by_cases h3 : secretM e.2 = true
        · rw [if_pos h3]
          refine ⟨fun h => absurd h (by decide), fun h => absurd (h.2.2.2 e List.mem_cons_self) (by rw [h3]; decide)⟩
        · rw [if_neg h3, ih]
          have h3 : secretM e.2 = false := by simpa using h3
          constructor
          · rintro ⟨a, b, c, d⟩
            refine ⟨fun x hx => ?_, List.pairwise_cons.2 ⟨a, b⟩, fun x hx => ?_, fun x hx => ?_⟩
            · rcases List.mem_cons.1 hx with rfl | hx
              · omega
              · have := a x hx; omega
            · rcases List.mem_cons.1 hx with rfl | hx
              · exact h2
              · exact c x hx
            · rcases List.mem_cons.1 hx with rfl | hx
              · exact h3
              · exact d x hx
          · rintro ⟨a, b, c, d⟩
            have hb := List.pairwise_cons.1 b
            exact ⟨hb.1, hb.2, fun x hx => c x (List.mem_cons_of_mem _ hx), fun x hx => d x (List.mem_cons_of_mem _ hx)⟩
      · rw [if_pos h2]
        exact ⟨fun h => absurd h h2, fun h => absurd (h.2.2.1 e List.mem_cons_self) h2⟩
theorem formOk {L : List Ent} : formM 0 L = 0 ↔ FormOk L := by
  rw [formM_ok]
  exact ⟨fun ⟨a, b, c, d⟩ => ⟨b, c, d, a⟩, fun ⟨a, b, c, d⟩ => ⟨d, a, b, c⟩⟩
theorem FormOk.list {L : List Ent} (h : FormOk L) {e : Ent} (he : e ∈ L) : listE e.2 = 0 := by
  have := h.one e he
  unfold oneM at this
  split at this
  · exact absurd this (by decide)
  · exact this

/-! ### step by step -/
theorem find_at {L : List Ent} (hs : L.Pairwise fun a b => a.1 < b.1) {i : Nat} {a : Ent} (ha : L[i]? = some a) : L.find? (fun x => x.1 == a.1) = some a := by
  rw [List.find?_eq_some_iff_getElem]
  obtain ⟨hl, hg⟩ := List.getElem?_eq_some_iff.1 ha
  refine ⟨by simp, i, hl, hg, fun q hq => ?_⟩
  have := ids_lt hs hq (List.getElem?_eq_getElem (by omega)) ha
  simp
  omega
theorem goneM_step {was now : List Ent} {i : Nat} {a : Ent} (ha : was[i]? = some a) : goneP (was.take (i + 1)) now = goneP (was.take i) now ++ if hasE now a.1 = false then [a.1] else [] := by
  unfold goneP
  rw [take_at ha, List.filter_append, List.map_append]
  congr 1
  by_cases h : hasE now a.1 = true
  · simp [List.filter, h]
  · simp [List.filter, h]
theorem comeM_step {was now : List Ent} {i : Nat} {a : Ent} (ha : now[i]? = some a) : comeM was (now.take (i + 1)) = comeM was (now.take i) ++ if hasE was a.1 = false then [a] else [] := by
  unfold comeM
  rw [take_at ha, List.filter_append]
  congr 1
  by_cases h : hasE was a.1 = true
  · simp [List.filter, h]
  · simp [List.filter, h]
theorem chgsM_step {was now : List Ent} {i : Nat} {a : Ent} (ha : now[i]? = some a) : chgsM was (now.take (i + 1)) = chgsM was (now.take i) ++ match chgOne was a with
    | some c => [c]
    | none => [] := by
  unfold chgsM
  rw [take_at ha, List.filterMap_append]
  congr 1
  cases h : chgOne was a <;> simp [h]
/-- two lists gone through side by side. -/
structure Side (was now : List Ent) (i k : Nat) : Prop where
  lt : ∀ (p q : Nat) a b, p < i → k ≤ q → was[p]? = some a → now[q]? = some b → a.1 < b.1
  gt : ∀ (p q : Nat) a b, i ≤ p → q < k → was[p]? = some a → now[q]? = some b → b.1 < a.1
theorem Side.zero (was now : List Ent) : Side was now 0 0 := ⟨fun p q a b h => absurd h (by omega), fun p q a b h h2 => absurd h2 (by omega)⟩
section
variable {was now : List Ent} {i k : Nat}
theorem Side.left (h : Side was now i k) (_hw : was.Pairwise fun a b => a.1 < b.1) (hn : now.Pairwise fun a b => a.1 < b.1) {a : Ent} (ha : was[i]? = some a) (hb : ∀ b, now[k]? = some b → a.1 < b.1) : Side was now (i + 1) k ∧ hasE now a.1 = false := by
  have key : ∀ (q : Nat) b, k ≤ q → now[q]? = some b → a.1 < b.1 := fun q b hq hb2 => by
    rcases Nat.lt_or_ge k q with h1 | h1
    · obtain ⟨c, hc⟩ : ∃ c, now[k]? = some c := ⟨_, List.getElem?_eq_getElem (by have := (List.getElem?_eq_some_iff.1 hb2).1; omega)⟩
      have := hb c hc
      have := ids_lt hn h1 hc hb2
      omega
    · have : q = k := by omega
      subst this
      exact hb b hb2
  refine ⟨⟨fun p q x y hp hq hx hy => ?_, fun p q x y hp hq hx hy => h.gt p q x y (by omega) hq hx hy⟩, hasE_not.2 fun e he => ?_⟩
  · rcases Nat.lt_or_ge p i with h1 | h1
    · exact h.lt p q x y h1 hq hx hy
    · have : p = i := by omega
      subst this
      rw [ha] at hx; cases hx
      exact key q y hq hy
  · obtain ⟨q, hq⟩ := List.mem_iff_getElem?.1 he
    rcases Nat.lt_or_ge q k with h1 | h1
    · have := h.gt i q a e (Nat.le_refl _) h1 ha hq; omega
    · have := key q e h1 hq; omega
theorem Side.right (h : Side was now i k) (hw : was.Pairwise fun a b => a.1 < b.1) (_hn : now.Pairwise fun a b => a.1 < b.1) {b : Ent} (hb : now[k]? = some b) (ha : ∀ a, was[i]? = some a → b.1 < a.1) : Side was now i (k + 1) ∧ hasE was b.1 = false := by
  have key : ∀ (p : Nat) a, i ≤ p → was[p]? = some a → b.1 < a.1 := fun p a hp ha2 => by
    rcases Nat.lt_or_ge i p with h1 | h1
    · obtain ⟨c, hc⟩ : ∃ c, was[i]? = some c := ⟨_, List.getElem?_eq_getElem (by have := (List.getElem?_eq_some_iff.1 ha2).1; omega)⟩
      have := ha c hc
      have := ids_lt hw h1 hc ha2
      omega
    · have : p = i := by omega
      subst this
      exact ha a ha2
  refine ⟨⟨fun p q x y hp hq hx hy => h.lt p q x y hp (by omega) hx hy, fun p q x y hp hq hx hy => ?_⟩, hasE_not.2 fun e he => ?_⟩
  · rcases Nat.lt_or_ge q k with h1 | h1
    · exact h.gt p q x y hp h1 hx hy
    · have : q = k := by omega
      subst this
      rw [hb] at hy; cases hy
      exact key p x hp hx
  · obtain ⟨p, hp⟩ := List.mem_iff_getElem?.1 he
    rcases Nat.lt_or_ge p i with h1 | h1
    · have := h.lt p k e b h1 (Nat.le_refl _) hp hb; omega
    · have := key p e h1 hp; omega
theorem Side.both (h : Side was now i k) (hw : was.Pairwise fun a b => a.1 < b.1) (hn : now.Pairwise fun a b => a.1 < b.1) {a b : Ent} (ha : was[i]? = some a) (hb : now[k]? = some b) (hab : a.1 = b.1) : Side was now (i + 1) (k + 1) ∧ hasE now a.1 = true ∧ hasE was b.1 = true ∧ chgOne was b = if nothingM (changeM a b) = true then none else some (changeM a b) := by
  refine ⟨⟨fun p q x y hp hq hx hy => ?_, fun p q x y hp hq hx hy => ?_⟩, hasE_iff.2 ⟨b, List.mem_of_getElem? hb, hab.symm⟩, hasE_iff.2 ⟨a, List.mem_of_getElem? ha, hab⟩, ?_⟩
  · have h1 := ids_lt hn (show k < q by omega) hb hy
    rcases Nat.lt_or_ge p i with h2 | h2
    · have := ids_lt hw h2 hx ha; omega
    · have : p = i := by omega
      subst this
      rw [ha] at hx; cases hx
      omega
  · have h1 := ids_lt hw (show i < p by omega) ha hx
    rcases Nat.lt_or_ge q k with h2 | h2
    · have := ids_lt hn h2 hy hb; omega
    · have : q = k := by omega
      subst this
      rw [hb] at hy; cases hy
      omega
  · unfold chgOne
    rw [← hab, find_at hw ha]
end

end Go.Proofs.YtchhhjlpnecjkaaGreat
