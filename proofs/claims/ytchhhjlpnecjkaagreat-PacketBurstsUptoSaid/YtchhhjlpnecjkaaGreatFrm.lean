/-
  frame: bytes with a sum behind them.
-/
import Derived.Test.YtchhhjlpnecjkaaGreatBitM
namespace Go.Proofs.YtchhhjlpnecjkaaGreat
open Go Go.RowKit Go.Proofs.YtchhhjlpnecjkaaGreat.Den
variable {R : Type} {Q : R → World → Prop} {w : World}

theorem spec_bytes_Clone {ok : Nat → Prop} {s : Sl} {l : List Int} (hS : SlT ok w u8T s l) (hm : l.length ≤ 140737488355328) {K : Res [.sc .sl] → W R} (hk : ∀ r w', Own (Up w.heap.size) w' 5 u8T r l → Fr None w w' → K r Q w') :
    callW Tryz.prog k_bytes_Clone [.slice s.a s.n s.c] [.sc .sl] K Q w := by
  refine C_bytes_Clone s K Q w ?_
  unfold F_bytes_Clone
  refine condI (fun hn => ?_) fun _ => cloneI bytes_ty hS (by omega) (by omega) hk
  have : l = [] := by
    rcases hS.at_ with e | ⟨b, o, e, _⟩
    · exact e
    · rw [e] at hn; cases hn
  subst this
  exact hk ⟨none, 0, 0⟩ w (Own.nil _ _ _ _) (Fr.refl _ _)
theorem spec_bits_Bytes {b : Nat} {L : List Bool} {F : Nat → Prop} (h : Wr b L F w) {K : Res [.sc .sl] → W R} (hk : ∀ r w', Own (Up w.heap.size) w' 5 u8T r (packM L) → Fr None w w' → K r Q w') :
    callW Tryz.prog k_bits_Writer_Bytes [.pointer (some ⟨b, 0, none⟩)] [.sc .sl] K Q w := by
  refine C_bits_Writer_Bytes _ K Q w ?_
  unfold F_bits_Writer_Bytes
  obtain ⟨hl, _, s, B, o⟩ := h
  refine condF rfl (ptrI (fldI B (i := 0) (x := s) rfl (spec_bytes_Clone o.sl (by rw [packM_len]; omega) fun r w1 o1 f1 => hk r w1 o1 f1)))

/-! ### the sum -/
def stepF (c : Int) : Int := if bAnd .u32 c 1 ≠ 0 then bXor .u32 (shR .u32 c 1) 3988292384 else shR .u32 c 1
theorem spec_frame_step {c : Int} {K : Res [.sc (.int .u32)] → W R} (hk : K (stepF c) Q w) : callW Tryz.prog k_frame_step [.int .u32 c] [.sc (.int .u32)] K Q w := by
  refine C_frame_step _ K Q w ?_
  unfold F_frame_step
  unfold stepF at hk
  refine condN (fun h => ?_) fun h => ?_
  · rw [if_pos h] at hk; exact hk
  · rw [if_neg (by omega)] at hk; exact hk
def stepsF : Nat → Int → Int
  | 0, c => c
  | n + 1, c => stepF (stepsF n c)
def byteF (c x : Int) : Int := stepsF 8 (bXor .u32 c (IntKind.wrap .u32 x))
def sumF (l : List Int) : Int := bXor .u32 4294967295 (l.foldl byteF 4294967295)
theorem spec_frame_Sum {ok : Nat → Prop} {s : Sl} {l : List Int} (hS : SlT ok w u8T s l) (hm : l.length ≤ 9223372036854775807) {K : Res [.sc (.int .u32)] → W R} (hk : K (sumF l) Q w) : callW Tryz.prog k_frame_Sum [.slice s.a s.n s.c] [.sc (.int .u32)] K Q w := by
  refine C_frame_Sum s K Q w ?_
  unfold F_frame_Sum
  have hlen := hS.len
  refine forI (N := s.n) (fun s : Int × Int => s.2) (fun j s w' => s = ((l.take j).foldl byteF 4294967295, (j : Int)) ∧ w' = w) ⟨rfl, rfl⟩ (fun j s w' h => by rw [h.1]) ?_ ?_
  · rintro j s1 w1 K' hj ⟨rfl, rfl⟩ - hK
    refine hS.get rfl rfl (by omega) fun x hx => ?_
    have e : (l.take (j + 1)).foldl byteF 4294967295 = byteF ((l.take j).foldl byteF 4294967295) x := by rw [take_at hx, List.foldl_append]; rfl
    generalize (l.take j).foldl byteF 4294967295 = c at e
    refine forI (N := 8) (fun s : Int × Int => s.2) (fun i s w' => s = (stepsF i (bXor .u32 c (IntKind.wrap .u32 x)), (i : Int)) ∧ w' = w1) ⟨rfl, rfl⟩ (fun j s w' h => by rw [h.1]) ?_ ?_
    · rintro i s2 w2 K2 hi ⟨rfl, rfl⟩ - hK2
      exact spec_frame_step (hK2 _ _ ⟨by rw [wsucc hi (by omega)]; rfl, rfl⟩)
    · rintro s2 w2 ⟨rfl, rfl⟩
      exact hK _ _ ⟨by rw [wsucc hj (by omega), e]; rfl, rfl⟩
  · rintro s1 w1 ⟨rfl, rfl⟩
    rw [List.take_of_length_le (by omega)]
    exact hk
theorem set_end {α : Type} (a : List α) (x y : α) (r : List α) {j : Nat} (h : j = a.length) : (a ++ x :: r).set j y = a ++ [y] ++ r := by
  subst h
  simp
def tailF (s : Int) : List Int := (List.range 4).map fun i : Nat => IntKind.wrap .u8 (shR .u32 s (8 * (i : Int)))
theorem spec_frame_tail {x : Int} {K : Res [.sc .sl] → W R} (hk : ∀ r w', Own (Up w.heap.size) w' 5 u8T r (tailF x) → Fr None w w' → K r Q w') :
    callW Tryz.prog k_frame_tail [.int .u32 x] [.sc .sl] K Q w := by
  refine C_frame_tail _ K Q w ?_
  unfold F_frame_tail
  refine makeI bytes_ty (z := (0 : Int)) (zv := .int .u8 0) (by kernel_rfl) rfl (n := 4) rfl (by decide) (by decide) fun w1 o1 f1 s1 => ?_
  refine forI (N := 4) (fun s : Int => s) (fun j i w' => i = (j : Int) ∧ Own (Up w.heap.size) w' 5 u8T ⟨some ⟨w.heap.size, 0, none⟩, 4, 4⟩ (((List.range j).map fun i : Nat => IntKind.wrap .u8 (shR .u32 x (8 * (i : Int)))) ++ List.replicate (4 - j) 0) ∧ Fr None w w') ⟨rfl, o1.mono fun k _ e => by show w.heap.size ≤ k; omega, f1⟩ (fun j s w' h => h.1) ?_ ?_
  · rintro j i w2 K' hj ⟨rfl, o2, f2⟩ - hK
    rw [w64 (x := 8 * (j : Int)) (by omega)]
    refine chkI (by omega) (o2.idx rfl (by omega) (by simp; omega) fun g y hg _ _ => ?_)
    rw [Int.toNat_natCast]
    refine o2.set rfl (i := j) (by simp; omega) hg _ fun w3 o3 f3 s3 => ?_
    refine hK _ _ ⟨wsucc hj (by decide), ?_, f2.newer f3 fun k e => o2.own k e⟩
    have e : ((List.range j).map (fun i : Nat => IntKind.wrap .u8 (shR .u32 x (8 * (i : Int)))) ++ List.replicate (4 - j) 0).set j (IntKind.wrap .u8 (shR .u32 x (8 * (j : Int)))) = (List.range (j + 1)).map (fun i : Nat => IntKind.wrap .u8 (shR .u32 x (8 * (i : Int)))) ++ List.replicate (4 - (j + 1)) 0 := by
      have : 4 - j = (4 - (j + 1)) + 1 := by omega
      rw [this, List.replicate_succ, List.range_succ, List.map_append]
      exact set_end _ _ _ _ (by simp)
    rw [e] at o3
    exact o3
  · rintro i w2 ⟨_, o2, f2⟩
    have e : ((List.range 4).map (fun i : Nat => IntKind.wrap .u8 (shR .u32 x (8 * (i : Int)))) ++ List.replicate (4 - 4) 0) = tailF x := by simp [tailF]
    rw [e] at o2
    exact hk _ w2 o2 f2
def sealF (l : List Int) : List Int := l ++ tailF (sumF l)
theorem spec_frame_Seal {ok : Nat → Prop} {s : Sl} {l : List Int} (hS : SlT ok w u8T s l) (hm : l.length ≤ 140737488355000) {K : Res [.sc .sl, .sc (.int .i64)] → W R} (h1 : 4096 < l.length → K (⟨none, 0, 0⟩, 3) Q w) (hk : l.length ≤ 4096 → ∀ r w', Own (Up w.heap.size) w' 5 u8T r (sealF l) → Fr None w w' → K (r, 0) Q w') :
    callW Tryz.prog k_frame_Seal [.slice s.a s.n s.c] [.sc .sl, .sc (.int .i64)] K Q w := by
  refine C_frame_Seal s K Q w ?_
  unfold F_frame_Seal
  have hlen := hS.len
  refine condD (fun h => h1 (by omega)) fun h => ?_
  refine spec_bytes_Clone hS (by omega) fun r w2 o2 f2 => spec_frame_Sum (hS.fr0 f2) (by omega) (spec_frame_tail fun t w3 o3 f3 => ?_)
  have hs2 := f2.size
  have hs3 := f3.size
  refine appI bytes_ty (S' := Up w.heap.size) (o2.none f3) o3.sl (by simp [tailF]; omega) (by rw [maxLen_eq]; simp [tailF]; omega) (fun _ h => h) (by show w.heap.size ≤ _; omega) fun r2 w4 o4 f4 _ => ?_
  exact hk (by omega) r2 w4 o4 ((f2.then0 f3).newer f4 fun k e => o2.own k e)

end Go.Proofs.YtchhhjlpnecjkaaGreat
