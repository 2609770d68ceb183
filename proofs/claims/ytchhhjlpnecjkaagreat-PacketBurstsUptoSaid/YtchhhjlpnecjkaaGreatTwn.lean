/-
  ref10: entities of their own.
-/
import Derived.Test.YtchhhjlpnecjkaaGreatRef10
import Derived.Test.YtchhhjlpnecjkaaGreatF2
namespace Go.Proofs.YtchhhjlpnecjkaaGreat
open Go Go.RowKit Go.Proofs.YtchhhjlpnecjkaaGreat.Den
variable {R : Type} {Q : R → World → Prop} {w : World}

theorem spec_r10_Twins {ok : Nat → Prop} {s : Sl} {raws : List (Int × Sl)} {L : List Ent} (hS : SlT ok w entT s raws) (hE : EntsR ok w raws L) (hm : L.length ≤ 1048576) (hL : ∀ e ∈ L, Small e.2) {K : Res [.sc .sl] → W R}
    (hk : ∀ r raws' w', Own (Up w.heap.size) w' 57 entT r raws' → EntsR (Up w.heap.size) w' raws' L → Fr None w w' → K r Q w') :
    callW Tryz.prog k_pinnaceref10_Twins [.slice s.a s.n s.c] [.sc .sl] K Q w := by
  refine C_pinnaceref10_Twins s K Q w ?_
  unfold F_pinnaceref10_Twins
  have hlen := hS.len
  have hel := hE.len
  refine forI (N := s.n) (fun s : Sl × Int => s.2) (fun j st w' => st.2 = (j : Int) ∧ (∃ rs, rs.length = j ∧ Own (fun k => w.heap.size ≤ k) w' 57 entT st.1 rs ∧ EntsR (fun k => w.heap.size ≤ k ∧ st.1.v.ownBlock ≠ some k) w' rs (L.take j)) ∧ Fr None w w') ⟨rfl, ⟨[], rfl, Own.nil _ _ _ _, by rw [List.take_zero]; exact EntsR.nil _ _⟩, Fr.refl _ _⟩ (fun j s w' h => h.1) ?_ ?_
  · rintro j ⟨z, _⟩ w1 K' hj ⟨rfl, ⟨rs, hrs, o1, E1⟩, f1⟩ - hK
    have hs1 := f1.size
    obtain ⟨e, he⟩ : ∃ e, L[j]? = some e := ⟨_, List.getElem?_eq_getElem (by omega)⟩
    obtain ⟨r1, hr1, ha1, ha2⟩ := hE.get he
    refine (hS.fr0 f1).get rfl rfl (by omega) fun y hy => ?_
    rw [hr1] at hy
    cases hy
    refine newI fun w2 B2 f2 s2 => stoAll B2 rfl rfl fun w3 B3 f3 s3 => ?_
    have f13 : Fr None w1 w3 := f2.newer f3 fun k e => by omega
    have fd : Fr None w3 w3.drew := (Fr.refl _ _).drew
    have f1d := f13.then0 fd
    have Bd := B3.fr fd fun h => h
    have hs3 := f1d.size
    refine fldI Bd (i := 0) (x := r1.1) rfl (fldI Bd (i := 1) (x := r1.2) rfl ?_)
    refine spec_r5_Twin (ha2.fr0 (f1.then0 f1d)) (hL e (List.mem_of_getElem? he)) fun t w4 o4 f4 => ?_
    refine andI ((Bd.fr f4 fun h => h).rd (s := .int .u32) (i := 0) (x := r1.1) rfl) ?_
    have f14 := f1d.then0 f4
    have hs4 := f4.size
    have oz : Own (fun k => w.heap.size ≤ k ∧ (z.v.ownBlock = some k ∨ w4.heap.size ≤ k)) w4 57 entT z rs := ⟨(o1.none f14).row, fun k e => ⟨o1.own k e, .inl e⟩⟩
    refine appP (x := ((r1.1, t) : Int × Sl)) ents_ty rfl oz (fun k e => ⟨by omega, .inr e⟩) (by omega) (by omega) fun r w5 o5 f5 => ?_
    have hzl : ∀ k, z.v.ownBlock = some k → k < w1.heap.size := fun k e => (o1.row.lt k e).2
    have E4 : EntsR (fun k => (w.heap.size ≤ k ∧ z.v.ownBlock ≠ some k) ∧ k < w1.heap.size) w5 rs (L.take j) := ((E1.mono (ok' := fun k => (w.heap.size ≤ k ∧ z.v.ownBlock ≠ some k) ∧ k < w1.heap.size) fun k hk e => ⟨e, hk⟩).fr f14 fun _ _ h => h).fr f5 fun k e e2 => e.1.2 e2
    have t5 : SlT (fun k => w3.drew.heap.size ≤ k ∧ k < w4.heap.size) w5 compT t e.2 := (o4.mono (S' := fun k => w3.drew.heap.size ≤ k ∧ k < w4.heap.size) fun k hk e => ⟨e, hk⟩).sl.fr f5 fun k e e2 => by have := hzl k e2; omega
    refine hK _ _ ⟨wsucc hj (by omega), ⟨rs ++ [(r1.1, t)], by simp [hrs], o5.mono fun k _ e => e.1, ?_⟩, (f1.then0 f14).newer f5 fun k e => o1.own k e⟩
    have ro : ∀ k, r.v.ownBlock = some k → z.v.ownBlock = some k ∨ w4.heap.size ≤ k := fun k e => (o5.own k e).2
    refine ⟨by simp [hrs]; omega, fun q rq eq h1 h2 => ?_⟩
    rw [take_at he] at h2
    rcases Nat.lt_or_ge q j with hq | hq
    · rw [List.getElem?_append_left (by omega)] at h1
      rw [List.getElem?_append_left (by simp; omega)] at h2
      obtain ⟨x1, x2⟩ := E4.at_ q rq eq h1 h2
      refine ⟨x1, x2.mono fun k _ e => ⟨e.1.1, fun e2 => ?_⟩⟩
      rcases ro k e2 with h | h
      · exact e.1.2 h
      · have := e.2; omega
    · have hlt := (List.getElem?_eq_some_iff.1 h1).1
      have : q = j := by simp [hrs] at hlt; omega
      subst this
      rw [List.getElem?_append_right (by omega)] at h1
      rw [List.getElem?_append_right (by simp; omega)] at h2
      simp [hrs] at h1
      have h2 : eq = e := by
        have : q - (L.take q).length = 0 := by simp; omega
        rw [this] at h2
        simpa using h2.symm
      subst h1; subst h2
      refine ⟨ha1, t5.mono fun k _ e => ⟨by omega, fun e2 => ?_⟩⟩
      rcases ro k e2 with h | h
      · have := hzl k h; omega
      · omega
  · rintro ⟨z, _⟩ w1 ⟨_, ⟨rs, hrs, o1, E1⟩, f1⟩
    rw [List.take_of_length_le (by omega)] at E1
    exact hk z rs w1 o1 (E1.mono fun k _ e => e.1) f1

end Go.Proofs.YtchhhjlpnecjkaaGreat
