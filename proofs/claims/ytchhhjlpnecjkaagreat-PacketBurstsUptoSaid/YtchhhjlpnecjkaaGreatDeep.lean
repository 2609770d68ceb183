/-
  Lists of things that have lists of their own.
-/
import Derived.Test.YtchhhjlpnecjkaaGreatSl2
namespace Go.Proofs.YtchhhjlpnecjkaaGreat.Den
open Go Go.RowKit
variable {R : Type} {Q : R → World → Prop} {w : World} {α β : Type}

/-- two lists, place by place. -/
structure All2 (p : α → β → Prop) (l : List α) (k : List β) : Prop where
  len : l.length = k.length
  at_ : ∀ (i : Nat) (a : α) (b : β), l[i]? = some a → k[i]? = some b → p a b
theorem All2.nil (p : α → β → Prop) : All2 p [] [] := ⟨rfl, fun i a b h => by simp at h⟩
theorem All2.imp {p q : α → β → Prop} {l : List α} {k : List β} (h : All2 p l k) (hi : ∀ a b, p a b → q a b) : All2 q l k := ⟨h.len, fun i a b h1 h2 => hi a b (h.at_ i a b h1 h2)⟩
theorem All2.snoc {p : α → β → Prop} {l : List α} {k : List β} {a : α} {b : β} (h : All2 p l k) (hp : p a b) : All2 p (l ++ [a]) (k ++ [b]) := by
  refine ⟨by simp [h.len], fun i x y h1 h2 => ?_⟩
  have hl := h.len
  by_cases hi : i < l.length
  · rw [List.getElem?_append_left hi] at h1
    rw [List.getElem?_append_left (by omega)] at h2
    exact h.at_ i x y h1 h2
  · rw [List.getElem?_append_right (by omega)] at h1 h2
    have hz : i - l.length = 0 := by have := (List.getElem?_eq_some_iff.1 h1).1; simp at this; omega
    rw [hz] at h1
    rw [show i - k.length = 0 by omega] at h2
    simp at h1 h2
    subst h1; subst h2
    exact hp
theorem All2.get {p : α → β → Prop} {l : List α} {k : List β} (h : All2 p l k) {i : Nat} {b : β} (hb : k[i]? = some b) : ∃ a, l[i]? = some a ∧ p a b := by
  obtain ⟨hl, _⟩ := List.getElem?_eq_some_iff.1 hb
  have ha := List.getElem?_eq_getElem (l := l) (i := i) (by rw [h.len]; exact hl)
  exact ⟨_, ha, h.at_ i _ b ha hb⟩
theorem All2.getL {p : α → β → Prop} {l : List α} {k : List β} (h : All2 p l k) {i : Nat} {a : α} (ha : l[i]? = some a) : ∃ b, k[i]? = some b ∧ p a b := by
  obtain ⟨hl, _⟩ := List.getElem?_eq_some_iff.1 ha
  have hb := List.getElem?_eq_getElem (l := k) (i := i) (by rw [← h.len]; exact hl)
  exact ⟨_, hb, h.at_ i a _ ha hb⟩
theorem All2.take {p : α → β → Prop} {l : List α} {k : List β} (h : All2 p l k) (n : Nat) : All2 p (l.take n) (k.take n) := by
  refine ⟨by simp [h.len], fun i a b h1 h2 => ?_⟩
  rw [List.getElem?_take] at h1 h2
  split at h1
  · rename_i hi; rw [if_pos hi] at h2; exact h.at_ i a b h1 h2
  · cases h1
theorem All2.drop {p : α → β → Prop} {l : List α} {k : List β} (h : All2 p l k) (n : Nat) : All2 p (l.drop n) (k.drop n) := by
  refine ⟨by simp [h.len], fun i a b h1 h2 => ?_⟩
  rw [List.getElem?_drop] at h1 h2
  exact h.at_ _ a b h1 h2

/-- how a thing of a list lies, in blocks of F. -/
abbrev Rel (α β : Type) := (Nat → Prop) → World → α → β → Prop
def Rel.st (ρ : Rel α β) : Prop := ∀ a b, St fun F w => ρ F w a b
/-- a list that is read. -/
structure DR {t : Ty} (ρ : Rel t.T β) (ok : Nat → Prop) (w : World) (s : Sl) (raws : List t.T) (L : List β) : Prop where
  sl : SlT ok w t s raws
  all : All2 (fun a b => ρ ok w a b) raws L
theorem DR.st {t : Ty} {ρ : Rel t.T β} (hρ : ρ.st) {s : Sl} {raws : List t.T} {L : List β} : St fun F w => DR ρ F w s raws L := fun {_F _F' _S _w _w'} h f hs =>
  ⟨SlT.st h.sl f hs, h.all.imp fun a b hab => hρ a b hab f hs⟩
/-- a list of one's own: each thing has its own blocks. -/
structure DO {t : Ty} (ρ : Rel t.T β) (E : TypeId) (S : Nat → Prop) (w : World) (s : Sl) (raws : List t.T) (L : List β) (lab : Nat → Nat) : Prop where
  own : Own (fun k => S k ∧ lab k = 0) w E t s raws
  len : raws.length = L.length
  at_ : ∀ (i : Nat) (a : t.T) (b : β), raws[i]? = some a → L[i]? = some b → ρ (fun k => S k ∧ lab k = i + 1) w a b
section
variable {t : Ty} {ρ : Rel t.T β} {E : TypeId} {S : Nat → Prop} {s : Sl} {raws : List t.T} {L : List β} {lab : Nat → Nat}
theorem DO.nil (S : Nat → Prop) (w : World) : DO ρ E S w ⟨none, 0, 0⟩ [] [] (fun _ => 0) := ⟨Own.nil _ _ _ _, rfl, fun i a b h => by simp at h⟩
theorem DO.read (hρ : ρ.st) (h : DO ρ E S w s raws L lab) : DR ρ S w s raws L := ⟨SlT.st.mono h.own.sl fun _ _ e => e.1, h.len, fun i a b h1 h2 => St.mono (A := fun F w => ρ F w a b) (hρ a b) (h.at_ i a b h1 h2) fun _ _ e => e.1⟩
theorem DO.fr (hρ : ρ.st) (h : DO ρ E S w s raws L lab) {S' T : Nat → Prop} {w' : World} (f : Fr T w w') (hs : ∀ k, k < w.heap.size → S k → ¬ T k ∧ S' k) : DO ρ E S' w' s raws L lab :=
  ⟨Own.st h.own f fun k hk e => ⟨(hs k hk e.1).1, (hs k hk e.1).2, e.2⟩, h.len, fun i a b h1 h2 => hρ a b (h.at_ i a b h1 h2) f fun k hk e => ⟨(hs k hk e.1).1, (hs k hk e.1).2, e.2⟩⟩
theorem DO.fr0 (hρ : ρ.st) (h : DO ρ E S w s raws L lab) {w' : World} (f : Fr None w w') : DO ρ E S w' s raws L lab := h.fr hρ f fun _ _ e => ⟨fun h => h, e⟩
/-- one more: a, b lie in what is new since w1. -/
theorem DO.app {P : Program} {T ty : TypeId} {bytes : Nat} (H : SlTy P T E t bytes) (hρ : ρ.st) {w1 : World} (h : DO ρ E S w1 s raws L lab) (f : Fr None w1 w) (hS : ∀ k, w1.heap.size ≤ k → S k) {a : t.T} {b : β} (hab : ρ (fun k => w1.heap.size ≤ k) w a b)
    {cs : List Value} (hc : cs = t.cells a) (hb : (L.length + 1) * bytes ≤ 140737488355328) (hm : L.length + 1 ≤ 9223372036854775807) {K : Sl → W R}
    (hk : ∀ r lab' w', DO ρ E S w' r (raws ++ [a]) (L ++ [b]) lab' → Fr (fun k => s.v.ownBlock = some k) w w' → K r Q w') :
    newW E cs (fun x => rawW P (Builtin.append_ #[T, T] ty #[.slice s.a s.n s.c, .slice (some x) 1 1]) [.sc .sl] K) Q w := by
  have hfs := f.size
  have hl := h.len
  have o1 : Own (fun k => (S k ∧ lab k = 0 ∧ k < w1.heap.size) ∨ w.heap.size ≤ k) w E t s raws := Own.st h.own f fun k hk e => ⟨fun h => h, .inl ⟨e.1, e.2, hk⟩⟩
  have own0 : ∀ k, s.v.ownBlock = some k → lab k = 0 ∧ k < w1.heap.size := fun k e => ⟨(h.own.own k e).2, h.own.lt e⟩
  refine appP H hc o1 (fun k e => .inr e) (by rw [hl]; exact hb) (by rw [hl]; exact hm) fun r w' o' f' => ?_
  have hfs' := f'.size
  refine hk r (fun k => if k < w1.heap.size then lab k else if k < w.heap.size then L.length + 1 else 0) w' ⟨?_, by simp [hl], fun i x y h1 h2 => ?_⟩ f'
  · refine o'.mono fun k _ e => ?_
    rcases e with e | e
    · exact ⟨e.1, by simp only [if_pos e.2.2]; exact e.2.1⟩
    · exact ⟨hS k (by omega), by simp only [if_neg (show ¬ k < w1.heap.size by omega), if_neg (show ¬ k < w.heap.size by omega)]⟩
  · by_cases hi : i < raws.length
    · rw [List.getElem?_append_left hi] at h1
      rw [List.getElem?_append_left (by omega)] at h2
      have h3 := h.at_ i x y h1 h2
      refine hρ x y h3 (f.any.then f') fun k hk e => ⟨fun e2 => ?_, e.1, ?_⟩
      · have := (own0 k e2).1; omega
      · simp only [if_pos hk]; exact e.2
    · rw [List.getElem?_append_right (by omega)] at h1 h2
      have hz : i - raws.length = 0 := by have := (List.getElem?_eq_some_iff.1 h1).1; simp at this; omega
      rw [hz] at h1
      rw [show i - L.length = 0 by omega] at h2
      simp at h1 h2
      subst h1; subst h2
      refine hρ a b hab f' fun k hk e => ⟨fun e2 => ?_, hS k e, ?_⟩
      · have := (own0 k e2).2; omega
      · have e : w1.heap.size ≤ k := e
        simp only [if_neg (show ¬ k < w1.heap.size by omega), if_pos hk]
        omega
end

end Go.Proofs.YtchhhjlpnecjkaaGreat.Den
