/-
  schema: a field's range.
-/
import Derived.Test.YtchhhjlpnecjkaaGreatComp
import Derived.Test.YtchhhjlpnecjkaaGreatObj
namespace Go.Proofs.YtchhhjlpnecjkaaGreat
open Go Go.RowKit Go.Proofs.YtchhhjlpnecjkaaGreat.Den
variable {R : Type} {Q : R → World → Prop} {w : World}

/-- x[i] of a component's fields, in a block of its own. -/
theorem fIdx {b : Nat} {i : Int} {j : Nat} (hi : i = (j : Int)) (hj : j < 3) {K : Addr → W R} (hk : K ⟨b, 1 + j, none⟩ Q w) : idxW (some (Addr.add ⟨b, 0, none⟩ 1)) 3 1 i K Q w := by
  subst hi
  refine idxA (by omega) (by omega) ?_
  rw [addA, add_lit]
  simpa using hk
/-! ### a field's range -/
theorem spec_schema_at {k i : Int} {K : Res [.agg [.str, .int .i32, .int .i32], .sc .bool] → W R} (h0 : (i < 0 ∨ ((fieldsM k).length : Int) ≤ i) → ∀ w', Fr None w w' → K ((⟨#[]⟩, 0, 0), false) Q w')
    (hk : ∀ p w', 0 ≤ i → (fieldsM k)[i.toNat]? = some p → Fr None w w' → K (p, true) Q w') : callW Tryz.prog k_schema_at [.int .u8 k, .int .i64 i] [.agg [.str, .int .i32, .int .i32], .sc .bool] K Q w := by
  refine C_schema_at _ _ K Q w ?_
  unfold F_schema_at
  refine newI fun w1 B1 f1 s1 => spec_schema_of fun s w2 hS f2 => ?_
  have B2 := B1.fr f2 fun h => h
  have hn : s.n = (fieldsM k).length := hS.len
  have f02 := f1.then0 f2
  refine joinI (fun z w' => z = decide (i < 0 ∨ ((fieldsM k).length : Int) ≤ i) ∧ w' = w2) ?_ ?_
  · refine condD (fun h => ⟨by simp [h], rfl⟩) fun h => ⟨?_, rfl⟩
    rw [hn]
    simp [h]
  · rintro z w' ⟨rfl, rfl⟩
    refine condD (fun h => ?_) fun h => ?_
    · refine stoAll B2 rfl rfl fun w3 B3 f3 s3 => aggI B3 (x := ((⟨#[]⟩ : ByteArray), (0 : Int), (0 : Int))) rfl ?_
      exact h0 h w3 (f02.newer f3 fun k e => by omega)
    · have hi0 : 0 ≤ i := by omega
      have hi1 : i < ((fieldsM k).length : Int) := by omega
      refine hS.get (j := i.toNat) rfl (by omega) (by omega) fun y hy => ?_
      refine stoAll B2 rfl rfl fun w3 B3 f3 s3 => aggI B3 (x := y) rfl ?_
      exact hk y w3 hi0 hy (f02.newer f3 fun k e => by omega)
theorem spec_schema_Range {k i : Int} {K : Res [.sc (.int .i32), .sc (.int .i32), .sc (.int .i64)] → W R} (hk : ∀ w', Fr None w w' → K (rangeM k i) Q w') :
    callW Tryz.prog k_schema_Range [.int .u8 k, .int .i64 i] [.sc (.int .i32), .sc (.int .i32), .sc (.int .i64)] K Q w := by
  refine C_schema_Range _ _ K Q w ?_
  unfold F_schema_Range
  refine spec_schema_at (fun h w1 f1 => ?_) fun p w1 h0 hp f1 => ?_
  · refine newI fun w2 B2 f2 s2 => stoAll B2 rfl rfl fun w3 B3 f3 s3 => condT rfl ?_
    have e : rangeM k i = (0, 0, 1) := by
      unfold rangeM
      split
      · rw [List.getElem?_eq_none (by omega)]
      · rfl
    have := hk w3 (f1.then0 (f2.newer f3 fun k e => by omega))
    rw [e] at this
    exact this
  · refine newI fun w2 B2 f2 s2 => stoAll B2 rfl rfl fun w3 B3 f3 s3 => condF rfl ?_
    have fd : Fr None w3 w3.drew := (Fr.refl _ _).drew
    have B3 := B3.fr fd fun h => h
    refine fldI B3 (i := 1) (x := p.2.1) rfl (fldI B3 (i := 2) (x := p.2.2) rfl ?_)
    have e : rangeM k i = (p.2.1, p.2.2, 0) := by
      unfold rangeM
      rw [if_pos h0, hp]
    have := hk _ ((f1.then0 (f2.newer f3 fun k e => by omega)).then0 fd)
    rw [e] at this
    exact this
theorem rangeM_in {k i : Int} (h : (rangeM k i).2.2 = 0) : 0 ≤ i ∧ i.toNat < 3 ∧ 0 ≤ k ∧ k ≤ 5 := by
  unfold rangeM at h
  split at h
  · rename_i h0
    refine ⟨h0, ?_⟩
    split at h
    · rename_i p hp
      have hlt := (List.getElem?_eq_some_iff.1 hp).1
      unfold fieldsM at hlt
      repeat' split at hlt
      all_goals first
        | (refine ⟨by simp only [List.length_cons, List.length_nil] at hlt; omega, by omega, by omega⟩)
        | simp at hlt
    · cases h
  · cases h

/-! ### reading -/
/-- a thing of a list: its place, and that it is read there as long as the list reads so. -/
theorem Den.SlT.readK {ok : Nat → Prop} {t : Ty} {s : Sl} {l : List t.T} (h : SlT ok w t s l) {sz : Nat} (hsz : sz = t.size) {i : Int} {j : Nat} (hi : i = j) {x : t.T} (hj : l[j]? = some x) {K : Addr → W R} (hk : ∀ a, (∀ w', SlT ok w' t s l → Rd w' a t x) → K a Q w) :
    (idxW s.a s.n sz i K) Q w := by
  subst hi; subst hsz
  have hjl := (List.getElem?_eq_some_iff.1 hj).1
  have hn := h.len
  rcases h.at_ with e | ⟨b, o, ha, _, _, hrd⟩
  · rw [e] at hjl; simp at hjl
  · rw [ha]
    refine ⟨_, rfl, by omega, by omega, hk _ fun w' h' => ?_⟩
    rw [add_lit, Int.toNat_natCast]
    rcases h'.at_ with e | ⟨b', o', ha', _, _, hrd'⟩
    · rw [e] at hjl; simp at hjl
    · rw [ha] at ha'
      cases ha'
      exact hrd' j x hj
/-- a field of a component that is read. -/
theorem rIdx {a : Addr} {c : Comp} (hrd : Rd w a compT c) {i : Int} {j : Nat} (hi : i = (j : Int)) (hj : j < 3) {K : Int → W R} (hk : K (fl c j) Q w) : (idxW (some (Addr.add a 1)) 3 1 i fun x => ld (.sc (.int .i32)) x K) Q w := by
  subst hi
  refine idxA (by omega) (by omega) ?_
  rw [addA, Int.toNat_natCast, Nat.mul_one]
  exact hrd.fld (i := 1 + j) (s := .int .i32) (y := fl c j) (compC_fl c hj) hk

end Go.Proofs.YtchhhjlpnecjkaaGreat
