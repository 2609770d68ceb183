/-
  packet.Check: is a head right?
-/
import Derived.Test.YtchhhjlpnecjkaaGreatCod
namespace Go.Proofs.YtchhhjlpnecjkaaGreat
open Go Go.RowKit Go.Proofs.YtchhhjlpnecjkaaGreat.Den
variable {R : Type} {Q : R → World → Prop} {w : World}

/-- the error of a head, or 0. -/
def headE (h : Head) : Int :=
  if h.1 < 1 ∨ 5 < h.1 ∨ 16 ≤ h.2.1 then 1
  else if h.2.2.1 = 0 ∨ (3 < h.1 ∧ h.2.2.2.1 ≠ 0) ∨ (h.1 ≠ 2 ∧ h.2.2.2.2 ≠ 0) ∨ (h.1 = 2 ∧ h.2.2.2.1 ≤ h.2.2.2.2) then 4
  else 0
theorem bne_dec (x : Int) : (x != 0) = decide (x ≠ 0) := by by_cases h : x = 0 <;> simp [h]
theorem spec_packet_Check {h : Head} {K : Res [.sc (.int .i64)] → W R} (hk : ∀ w', Fr None w w' → K (headE h) Q w') :
    callW Tryz.prog k_packet_Check [.agg ⟨[.int .u8 h.1, .int .u8 h.2.1, .int .u32 h.2.2.1, .int .u32 h.2.2.2.1, .int .u32 h.2.2.2.2]⟩] [.sc (.int .i64)] K Q w := by
  refine C_packet_Check h K Q w ?_
  unfold F_packet_Check
  unfold headE at hk
  refine newI fun w1 B f1 s1 => ?_
  refine joinI (fun z w' => z = decide (h.1 < 1 ∨ 5 < h.1 ∨ 16 ≤ h.2.1) ∧ w' = w1) ?_ ?_
  · refine fldI B (i := 0) (x := h.1) rfl (condD (fun a => ⟨(decide_eq_true (.inl a)).symm, rfl⟩) fun a => ?_)
    refine fldI B (i := 0) (x := h.1) rfl (condD (fun b => ⟨(decide_eq_true (.inr (.inl b))).symm, rfl⟩) fun b => ?_)
    refine fldI B (i := 1) (x := h.2.1) rfl ⟨?_, rfl⟩
    have b : ¬ 5 < h.1 := b
    simp [a, b]
  rintro z w2 ⟨rfl, rfl⟩
  refine condD (fun a => ?_) fun a => ?_
  · rw [if_pos a] at hk
    exact hk w2 f1
  rw [if_neg a] at hk
  refine fldI B (i := 0) (x := h.1) rfl (fldI B (i := 2) (x := h.2.2.1) rfl ?_)
  refine joinI (fun z w' => z = decide (h.2.2.1 = 0 ∨ (3 < h.1 ∧ h.2.2.2.1 ≠ 0) ∨ (h.1 ≠ 2 ∧ h.2.2.2.2 ≠ 0) ∨ (h.1 = 2 ∧ h.2.2.2.1 ≤ h.2.2.2.2)) ∧ w' = w2) ?_ ?_
  · refine condE (fun b => ⟨by simp [b], rfl⟩) fun b => ?_
    refine joinI (fun z w' => z = decide (3 < h.1 ∧ h.2.2.2.1 ≠ 0) ∧ w' = w2) ?_ ?_
    · refine condI (fun c => fldI B (i := 3) (x := h.2.2.2.1) rfl ⟨?_, rfl⟩) fun c => ⟨?_, rfl⟩
      · have c : ¬ h.1 ≤ 3 := by simpa using c
        have c2 : 3 < h.1 := by omega
        rw [bne_dec]
        simp [c2]
      · have c : h.1 ≤ 3 := by simpa using c
        have c2 : ¬ 3 < h.1 := by omega
        simp [c2]
    rintro z w3 ⟨rfl, rfl⟩
    refine joinI (fun z w' => z = decide ((3 < h.1 ∧ h.2.2.2.1 ≠ 0) ∨ (h.1 ≠ 2 ∧ h.2.2.2.2 ≠ 0) ∨ (h.1 = 2 ∧ h.2.2.2.1 ≤ h.2.2.2.2)) ∧ w' = w3) ?_ ?_
    · refine condD (fun c => ⟨by rw [decide_eq_true c, decide_eq_true (.inl c)], rfl⟩) fun c => ?_
      refine joinI (fun z w' => z = decide (h.1 ≠ 2 ∧ h.2.2.2.2 ≠ 0) ∧ w' = w3) ?_ ?_
      · refine fldI B (i := 0) (x := h.1) rfl (condN (fun d => fldI B (i := 4) (x := h.2.2.2.2) rfl ⟨by rw [bne_dec]; simp [d], rfl⟩) fun d => ⟨by simp [d], rfl⟩)
      rintro z w4 ⟨rfl, rfl⟩
      refine joinI (fun z w' => z = decide ((h.1 ≠ 2 ∧ h.2.2.2.2 ≠ 0) ∨ (h.1 = 2 ∧ h.2.2.2.1 ≤ h.2.2.2.2)) ∧ w' = w4) ?_ ?_
      · refine condD (fun d => ⟨by rw [decide_eq_true d, decide_eq_true (.inl d)], rfl⟩) fun d => ?_
        refine joinI (fun z w' => z = decide (h.1 = 2 ∧ h.2.2.2.1 ≤ h.2.2.2.2) ∧ w' = w4) ?_ ?_
        · refine fldI B (i := 0) (x := h.1) rfl (condE (fun e => fldI B (i := 4) (x := h.2.2.2.2) rfl (fldI B (i := 3) (x := h.2.2.2.1) rfl ⟨by simp [e], rfl⟩)) fun e => ⟨by simp [e], rfl⟩)
        rintro z w5 ⟨rfl, rfl⟩
        exact ⟨by simp only [d, false_or], rfl⟩
      rintro z w5 ⟨rfl, rfl⟩
      exact ⟨by simp only [c, false_or], rfl⟩
    rintro z w4 ⟨rfl, rfl⟩
    exact ⟨by simp only [b, false_or], rfl⟩
  rintro z w3 ⟨rfl, rfl⟩
  refine condD (fun b => ?_) fun b => ?_
  · rw [if_pos b] at hk
    exact hk w3 f1
  · rw [if_neg b] at hk
    exact hk w3 f1

end Go.Proofs.YtchhhjlpnecjkaaGreat
