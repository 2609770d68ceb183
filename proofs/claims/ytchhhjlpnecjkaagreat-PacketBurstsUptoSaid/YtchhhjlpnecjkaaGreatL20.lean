/-
  PacketShort: its Go text answers true, whatever the input.
-/
import Derived.Test.YtchhhjlpnecjkaaGreatPkM
import Derived.Test.YtchhhjlpnecjkaaGreatCrc
import Derived.Test.YtchhhjlpnecjkaaGreatArg0
import Derived.Test.YtchhhjlpnecjkaaGreatTwn
import Derived.Test.YtchhhjlpnecjkaaGreatFL20
import Derived.Test.YtchhhjlpnecjkaaGreatShut
namespace Go.Proofs.YtchhhjlpnecjkaaGreat
open Go Go.RowKit Go.ChangeShapes Go.WideShapes Go.ChangeAt Go.Proofs.YtchhhjlpnecjkaaGreat.Den
variable {R : Type} {Q : R → World → Prop} {w : World}

abbrev awH : Head := (3, 2, 1, 5, 0)
theorem aw_err : sealE awH [] [] = 0 := by decide +kernel
theorem aw_body : packM (sealW awH [] []).1 = [146, 80, 0, 0, 0, 0] := by decide +kernel
theorem spec_l20_awake {K : Res [.sc .bool] → W R} (hk : ∀ w', Fr None w w' → K true Q w') : callW Tryz.prog k_pinnacelaw20_awake [] [.sc .bool] K Q w := by
  refine C_pinnacelaw20_awake K Q w ?_
  unfold F_pinnacelaw20_awake
  refine spec_packet_Seal (ok1 := None) (ok2 := None) (h := awH) (by unfold HeadOk; decide) (s1 := ⟨none, 0, 0⟩) (s2 := ⟨none, 0, 0⟩) (SlT.nil _) (EntsR.nil _ _) (SlT.nil _) (EntsR.nil _ _) (by decide) (by decide) (fun e h => by cases h) (fun e h => by cases h) (fun h => absurd aw_err h) fun _ r w1 o1 f1 => ?_
  unfold sealB at o1
  rw [aw_body] at o1
  have ok : BytesOk [146, 80, 0, 0, 0, 0] := by decide
  have hl : (sealF [146, 80, 0, 0, 0, 0]).length = 10 := by rw [sealF_len]; rfl
  have ht : (sealF [146, 80, 0, 0, 0, 0]).take ((sealF [146, 80, 0, 0, 0, 0]).length - 4) = [146, 80, 0, 0, 0, 0] := by
    rw [hl]
    exact List.take_left (l₁ := [146, 80, 0, 0, 0, 0])
  refine spec_r3_Open o1.sl (sealF_ok ok) (by omega) (fun w' _ => ⟨fun h => by omega, fun h => by omega, fun _ _ h => absurd (by rw [ht]) h⟩) fun _ _ _ r2 w2 o2 f2 => ?_
  rw [ht] at o2
  refine joinI (fun z v => z = true ∧ Fr None w v) ?_ fun z v ⟨hz, f⟩ => by subst hz; exact hk v f
  refine condT rfl (condT rfl ?_)
  refine newI fun w3 B3 f3 t3 => ?_
  have hS3 := blkSl (t := u8T) (l := [146, 80, 0, 0, 0, 0]) (n := 6) B3 rfl rfl
  refine spec_r1_Same (o2.none f3).sl hS3 ok ok ?_
  exact ⟨by decide, (f1.then0 f2).then0 f3⟩

/-! ### the law -/
def shH (t : Int) : Head := (2, 0, 1, t, IntKind.wrap .u32 (t - 1))
theorem short_head {t : Int} (ht : 1 ≤ t ∧ t ≤ 4294967295) : headE (shH t) = 0 ∧ (headM ([], 0) (shH t)).2 = 0 ∧ (headM ([], 0) (shH t)).1.length = 49 := by
  have hw : IntKind.wrap .u32 (t - 1) = t - 1 := wu32 (by omega)
  refine ⟨?_, ?_⟩
  · unfold headE shH
    dsimp only
    rw [if_neg (by omega), if_neg (by rw [hw]; omega)]
  · have h3 : varM (inM (inM ([], 0) 2 1 5) 0 0 15) (Int.toNat 1) = ([true, false, false, false, false, false, false, true, false, false, false, false], 0) := by decide +kernel
    have hi : idD (IntKind.wrap .u32 (t - 1)) t = 0 := by rw [hw]; unfold idD; omega
    unfold headM shH
    dsimp only
    rw [if_pos (show (2 : Int) = 2 from rfl), if_pos (show (2 : Int) ≤ 3 by decide), h3, hi]
    rw [plain_fwd rfl (by omega) (by show t.toNat < 2 ^ 32; omega) (by simp)]
    have hg : groupsM 0 = 1 := by decide +kernel
    rw [var_fwd rfl (by rw [hg]; simp [bitsOf_len])]
    refine ⟨rfl, ?_⟩
    simp [bitsOf_len, varB_len, hg]
theorem var0 {s : WS} (hs : s.2 = 0) (hl : s.1.length ≤ 1000000) : (varM s 0).2 = 0 ∧ (varM s 0).1.length = s.1.length + 5 := by
  have hg : groupsM 0 = 1 := by decide +kernel
  rw [var_fwd hs (by rw [hg]; omega)]
  exact ⟨rfl, by rw [List.length_append, varB_len, hg]⟩
theorem short_self {was : List Ent} (h : FormOk was) (hL : ∀ e ∈ was, e.2.length ≤ 1048576) {t : Int} (ht : 1 ≤ t ∧ t ≤ 4294967295) :
    sealE (shH t) was was = 0 ∧ sealW (shH t) was was = sealW (shH t) [] [] ∧ (packM (sealW (shH t) was was).1).length ≤ 12 := by
  obtain ⟨d0, d1, d2, d3⟩ := diff_self h hL
  obtain ⟨e0, e1, e2⟩ := short_head ht
  have hd : ∀ l : List Ent, diffE l l = 0 → goneM l l = [] → comeM l l = [] → chgsM l l = [] → sealW (shH t) l l = varM (varM (varM (headM ([], 0) (shH t)) 0) 0) 0 := by
    intro l a0 a1 a2 a3
    unfold sealW
    dsimp only
    rw [if_neg (show ¬ (shH t).1 = 1 from by show ¬ (2 : Int) = 1; decide), if_pos (show (shH t).1 = 2 from rfl), if_pos a0, a0, a1, a2, a3, delta_nil]
    have : ((headM ([], 0) (shH t)).1, keepM (headM ([], 0) (shH t)).2 0) = headM ([], 0) (shH t) := by
      unfold keepM
      rw [if_pos e1]
      exact Prod.ext rfl e1.symm
    rw [this]
  have hw := hd was d0 d1 d2 d3
  have hn := hd [] rfl rfl rfl rfl
  have v1 := var0 e1 (by omega)
  have v2 := var0 v1.1 (by omega)
  have v3 := var0 v2.1 (by omega)
  refine ⟨?_, by rw [hw, hn], ?_⟩
  · unfold sealE
    rw [if_neg (by rw [e0]; simp), hw, if_neg (by rw [v3.1]; simp), if_neg (by rw [packM_len]; omega)]
  · rw [hw, packM_len]
    omega
theorem EntIn.later {W : World} {raws : List (Int × Sl)} {L : List Ent} (h : All2 (EntIn W) raws L) (f : Fr None W w) : EntsR (Old W) w raws L := (EntIn.ents h).fr f fun _ _ h => h
/-! ### the row -/
end Go.Proofs.YtchhhjlpnecjkaaGreat
