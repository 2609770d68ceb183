/-
  PacketShort: its Go text answers true, whatever the input.
-/
import Derived.Test.YtcahnbflfehonaaPkM
import Derived.Test.YtcahnbflfehonaaCrc
import Derived.Test.YtcahnbflfehonaaEntA
import Derived.Test.YtcahnbflfehonaaTwn
import Derived.Test.YtcahnbflfehonaaFL20
import Derived.Test.YtcahnbflfehonaaShut
namespace Go.Proofs.Ytcahnbflfehonaa
open Go Go.RowKit Go.ChangeShapes Go.WideShapes Go.ChangeAt Go.Proofs.Ytcahnbflfehonaa.Den
variable {R : Type} {Q : R → World → Prop} {w : World}

abbrev awH : Head := (3, 2, 1, 5, 0)
theorem aw_err : sealE awH [] [] = 0 := by decide +kernel
theorem aw_body : packM (sealW awH [] []).1 = [146, 80, 0, 0, 0, 0] := by decide +kernel
theorem spec_l20_awake {K : Res [.sc .bool] → W R} (hk : ∀ w', Fr None w w' → K true Q w') : callW Try.prog k_pinnacelaw20_awake [] [.sc .bool] K Q w := by
  refine C_pinnacelaw20_awake K Q w ?_
  unfold F_pinnacelaw20_awake
  refine spec_packet_Seal (ok1 := None) (ok2 := None) (h := awH) (by unfold HeadOk; decide) (s1 := ⟨none, 0, 0⟩) (s2 := ⟨none, 0, 0⟩) (SlT.nil _) (EntsR.nil _ _) (SlT.nil _) (EntsR.nil _ _) (by decide) (by decide) (fun e h => by cases h) (fun e h => by cases h) (fun h => absurd aw_err h) fun _ r w1 o1 f1 => ?_
  unfold sealB at o1
  rw [aw_body] at o1
  have ok : BytesOk [146, 80, 0, 0, 0, 0] := by decide
  have hl : (sealF [146, 80, 0, 0, 0, 0]).length = 10 := by rw [sealF_len]; rfl
  have ht : (sealF [146, 80, 0, 0, 0, 0]).take ((sealF [146, 80, 0, 0, 0, 0]).length - 4) = [146, 80, 0, 0, 0, 0] := by
    rw [hl]
    exact List.take_left (l₁ := [146, 80, 0, 0, 0, 0])
  refine spec_r3_Open o1.sl (sealF_ok ok) (by omega) (fun w' _ => ⟨fun h => by omega, fun h => by omega, fun _ _ h => absurd (by rw [ht]) h⟩) fun _ _ _ r2 w2 o2 f2 => ?_
  rw [ht] at o2
  refine joinI (fun z v => z = true ∧ Fr None w v) ?_ fun z v ⟨hz, f⟩ => by subst hz; exact hk v f
  refine condT rfl (condT rfl ?_)
  refine newI fun w3 B3 f3 t3 => ?_
  have hS3 := blkSl (t := u8T) (l := [146, 80, 0, 0, 0, 0]) (n := 6) B3 rfl rfl
  refine spec_r1_Same (o2.none f3).sl hS3 ok ok ?_
  exact ⟨by decide, (f1.then0 f2).then0 f3⟩

/-! ### few -/
theorem rise_at {L : List Ent} (h : L.Pairwise fun a b => a.1 < b.1) (h0 : ∀ e ∈ L, 0 ≤ e.1) : ∀ (i : Nat) e, L[i]? = some e → (i : Int) ≤ e.1
  | 0, e, he => h0 e (List.mem_of_getElem? he)
  | i + 1, e, he => by
    have hl := (List.getElem?_eq_some_iff.1 he).1
    have := rise_at h h0 i _ (List.getElem?_eq_getElem (by omega))
    have := ids_lt h (Nat.lt_succ_self i) (List.getElem?_eq_getElem (by omega)) he
    omega
theorem rise_len {L : List Ent} (h : L.Pairwise fun a b => a.1 < b.1) (h0 : ∀ e ∈ L, IdOk e.1) : L.length ≤ 4294967296 := by
  rcases Nat.eq_zero_or_pos L.length with hz | hp
  · omega
  · have hl := List.getElem?_eq_getElem (l := L) (i := L.length - 1) (by omega)
    have h1 := rise_at h (fun e he => (h0 e he).1) _ _ hl
    have h2 := (h0 _ (List.mem_of_getElem? hl)).2
    omega
theorem few_ge : ∀ (L : List Ent) (n : Int), 0 ≤ n → (∀ e ∈ L, e.2.length ≤ 6) → n + 6 * (L.length : Int) ≤ 9223372036854775807 → n ≤ L.foldl (fun n e => IntKind.wrap .i64 (n + (e.2.length : Int))) n
  | [], _, _, _, _ => Int.le_refl _
  | e :: r, n, h0, h6, hb => by
    have he := h6 e List.mem_cons_self
    rw [List.length_cons] at hb
    rw [List.foldl_cons, w64 (by omega)]
    have := few_ge r (n + (e.2.length : Int)) (by omega) (fun x hx => h6 x (List.mem_cons_of_mem _ hx)) (by omega)
    omega
theorem FormOk.six {L : List Ent} (h : FormOk L) {e : Ent} (he : e ∈ L) : e.2.length ≤ 6 := (Valid.mk (h.list he) rfl : Valid (maskN e.2) e.2).small
theorem FormOk.few {L : List Ent} (h : FormOk L) (h0 : ∀ e ∈ L, IdOk e.1) (hf : fewM L ≤ 400) : L.length ≤ 400 := by
  have hl := rise_len h.rise h0
  have := few_ge L (L.length : Int) (by omega) (fun e he => h.six he) (by omega)
  unfold fewM at hf
  omega

/-! ### the law -/
def shH (t : Int) : Head := (2, 0, 1, t, IntKind.wrap .u32 (t - 1))
theorem short_head {t : Int} (ht : 1 ≤ t ∧ t ≤ 4294967295) : headE (shH t) = 0 ∧ (headM ([], 0) (shH t)).2 = 0 ∧ (headM ([], 0) (shH t)).1.length = 49 := by
  have hw : IntKind.wrap .u32 (t - 1) = t - 1 := wu32 (by omega)
  refine ⟨?_, ?_⟩
  · unfold headE shH
    dsimp only
    rw [if_neg (by omega), if_neg (by rw [hw]; omega)]
  · have h3 : varM (inM (inM ([], 0) 2 1 5) 0 0 15) (Int.toNat 1) = ([true, false, false, false, false, false, false, true, false, false, false, false], 0) := by decide +kernel
    have hi : idD (IntKind.wrap .u32 (t - 1)) t = 0 := by rw [hw]; unfold idD; omega
    unfold headM shH
    dsimp only
    rw [if_pos (show (2 : Int) = 2 from rfl), if_pos (show (2 : Int) ≤ 3 by decide), h3, hi]
    rw [plain_fwd rfl (by omega) (by show t.toNat < 2 ^ 32; omega) (by simp)]
    have hg : groupsM 0 = 1 := by decide +kernel
    rw [var_fwd rfl (by rw [hg]; simp [bitsOf_len])]
    refine ⟨rfl, ?_⟩
    simp [bitsOf_len, varB_len, hg]
theorem var0 {s : WS} (hs : s.2 = 0) (hl : s.1.length ≤ 1000000) : (varM s 0).2 = 0 ∧ (varM s 0).1.length = s.1.length + 5 := by
  have hg : groupsM 0 = 1 := by decide +kernel
  rw [var_fwd hs (by rw [hg]; omega)]
  exact ⟨rfl, by rw [List.length_append, varB_len, hg]⟩
theorem short_self {was : List Ent} (h : FormOk was) (hL : ∀ e ∈ was, e.2.length ≤ 1048576) {t : Int} (ht : 1 ≤ t ∧ t ≤ 4294967295) :
    sealE (shH t) was was = 0 ∧ sealW (shH t) was was = sealW (shH t) [] [] ∧ (packM (sealW (shH t) was was).1).length ≤ 12 := by
  obtain ⟨d0, d1, d2, d3⟩ := diff_self h hL
  obtain ⟨e0, e1, e2⟩ := short_head ht
  have hd : ∀ l : List Ent, diffE l l = 0 → goneM l l = [] → comeM l l = [] → chgsM l l = [] → sealW (shH t) l l = varM (varM (varM (headM ([], 0) (shH t)) 0) 0) 0 := by
    intro l a0 a1 a2 a3
    unfold sealW
    dsimp only
    rw [if_neg (show ¬ (shH t).1 = 1 from by show ¬ (2 : Int) = 1; decide), if_pos (show (shH t).1 = 2 from rfl), if_pos a0, a0, a1, a2, a3, delta_nil]
    have : ((headM ([], 0) (shH t)).1, keepM (headM ([], 0) (shH t)).2 0) = headM ([], 0) (shH t) := by
      unfold keepM
      rw [if_pos e1]
      exact Prod.ext rfl e1.symm
    rw [this]
  have hw := hd was d0 d1 d2 d3
  have hn := hd [] rfl rfl rfl rfl
  have v1 := var0 e1 (by omega)
  have v2 := var0 v1.1 (by omega)
  have v3 := var0 v2.1 (by omega)
  refine ⟨?_, by rw [hw, hn], ?_⟩
  · unfold sealE
    rw [if_neg (by rw [e0]; simp), hw, if_neg (by rw [v3.1]; simp), if_neg (by rw [packM_len]; omega)]
  · rw [hw, packM_len]
    omega
theorem EntIn.later {W : World} {raws : List (Int × Sl)} {L : List Ent} (h : All2 (EntIn W) raws L) (f : Fr None W w) : EntsR (Old W) w raws L := (EntIn.ents h).fr f fun _ _ h => h
theorem law_PacketShort {W : World} {s : Sl} {raws : List (Int × Sl)} {L : List Ent} {t : Int} (hS : SlT (Old W) W entT s raws) (hL : All2 (EntIn W) raws L) (hcap : s.c ≤ maxLen) (ht : 0 ≤ t ∧ t ≤ 4294967295) :
    Calls Try.prog 3 #[.slice s.a s.n s.c, .int .u32 t] W (fun e w' => e = .returned (.bool true) ∧ Fr None W w') := by
  refine calls_of (C_pinnacelaw20_PacketShort s t _ _ W ?_)
  unfold F_pinnacelaw20_PacketShort
  have hlen := hS.len
  have hcap2 := hS.cap
  have hel := hL.len
  rw [maxLen_eq] at hcap
  have each : ∀ e ∈ L, IdOk e.1 ∧ e.2.length ≤ 9223372036854775807 ∧ ∀ c ∈ e.2, CompOk c := fun e he => by
    obtain ⟨i, hi⟩ := List.mem_iff_getElem?.1 he
    obtain ⟨r, _, hr⟩ := hL.get hi
    have a1 := hr.sl.len
    have a2 := hr.sl.cap
    have a3 := hr.cap
    rw [maxLen_eq] at a3
    exact ⟨hr.ok, by omega, hr.comps⟩
  refine spec_l20_awake fun w1 f1 => condF rfl ?_
  refine joinI (fun z v => Fr None W v ∧ (z = false → fewM L ≤ 400 ∧ FormOk L ∧ t ≠ 0)) ?_ ?_
  · refine spec_r18_Few (hS.fr0 f1) (EntIn.later hL f1) (by omega) fun w2 f2 => ?_
    have f02 := f1.then0 f2
    refine condI (fun h => ⟨f02, fun h => (by cases h)⟩) fun h => ?_
    have h1 : fewM L ≤ 400 := by simpa using h
    refine spec_r18_Form (hS.fr0 f02) (EntIn.later hL f02) (by omega) each fun w3 f3 => ?_
    have f03 := f02.then0 f3
    refine condN (fun h => ⟨f03, fun h => (by cases h)⟩) fun h => ⟨f03, fun hz => ⟨h1, ?_, by simpa using hz⟩⟩
    exact formOk.1 (by rw [form_same L 0 true fun _ => rfl]; exact h)
  rintro z v ⟨fv, hz⟩
  refine condI (fun h => ⟨rfl, fv⟩) fun h => ?_
  obtain ⟨hf, hF, ht0⟩ := hz h
  have hle := hF.few (fun e he => (each e he).1) hf
  have fit : ∀ e ∈ L, EntFit e := fun e he => ⟨(each e he).1, by have := hF.six he; omega, (each e he).2.2⟩
  have ht1 : 1 ≤ t ∧ t ≤ 4294967295 := by omega
  obtain ⟨k1, k2, k3⟩ := short_self hF (fun e he => by have := hF.six he; omega) ht1
  have k4 : sealE (shH t) [] [] = 0 := by
    have := k1
    unfold sealE at this ⊢
    rw [← k2]
    exact this
  refine newI fun w1 B1 f1 t1 => stoAll B1 rfl rfl fun w2 B2 f2 t2 => ?_
  have f02 : Fr None W w2 := fv.then0 (f1.newer f2 fun k e => by omega)
  have fd : Fr None w2 w2.drew := (Fr.refl _ _).drew
  have f0d := f02.then0 fd
  have Bd := B2.fr fd fun h => h
  have rd : ∀ {u : World}, Blk u v.heap.size 28 [.int .u8 2, .int .u8 0, .int .u32 1, .int .u32 t, .int .u32 (IntKind.wrap .u32 (t - 1))] → Rd u ⟨v.heap.size, 0, none⟩ (.agg [.int .u8, .int .u8, .int .u32, .int .u32, .int .u32]) (shH t) := fun B => fun j u hj => by
    rw [add_lit, B.cell, Nat.zero_add]
    exact hj
  refine aggI Bd (x := shH t) rfl ?_
  refine spec_r10_Twins (hS.fr0 f0d) (EntIn.later hL f0d) (by omega) (fun e he => (fit e he).2.1) fun r1 q1 w3 o3 E3 f3 => ?_
  have f03 := f0d.then0 f3
  have B3 := Bd.fr f3 fun h => h
  refine andI (rd B3) ?_
  refine spec_r10_Twins (hS.fr0 f03) (EntIn.later hL f03) (by omega) (fun e he => (fit e he).2.1) fun r2 q2 w4 o4 E4 f4 => ?_
  have f04 := f03.then0 f4
  have B4 := B3.fr f4 fun h => h
  refine andI (rd B4) ?_
  refine spec_packet_Seal (h := shH t) ?_ (o3.none f4).sl (E3.fr f4 fun _ _ h => h) o4.sl E4 (by omega) (by omega) fit fit (fun h => absurd k1 h) fun _ p w5 o5 f5 => ?_
  · unfold HeadOk shH
    have hw : IntKind.wrap .u32 (t - 1) = t - 1 := wu32 (by omega)
    dsimp only
    rw [hw]
    omega
  have f05 := f04.then0 f5
  refine aggI (B4.fr f5 fun h => h) (x := shH t) rfl ?_
  refine spec_packet_Seal (ok1 := None) (ok2 := None) (h := shH t) ?_ (s1 := ⟨none, 0, 0⟩) (s2 := ⟨none, 0, 0⟩) (SlT.nil _) (EntsR.nil _ _) (SlT.nil _) (EntsR.nil _ _) (by decide) (by decide) (fun e h => by cases h) (fun e h => by cases h) (fun h => absurd k4 h) fun _ p2 w6 o6 f6 => ?_
  · unfold HeadOk shH
    have hw : IntKind.wrap .u32 (t - 1) = t - 1 := wu32 (by omega)
    dsimp only
    rw [hw]
    omega
  have f06 := f05.then0 f6
  have eB : sealB (shH t) [] [] = sealB (shH t) L L := by unfold sealB; rw [k2]
  rw [eB] at o6
  have hbo : BytesOk (sealB (shH t) L L) := sealF_ok (packM_ok _)
  refine joinI (fun z v => z = true ∧ Fr None W v) ?_ fun z v ⟨hz, f⟩ => by subst hz; exact ⟨rfl, f⟩
  refine condT rfl (condT rfl ?_)
  refine spec_r1_Same (o5.none f6).sl o6.sl hbo hbo ?_
  refine condT (by simp) ⟨?_, f06⟩
  have := o5.len
  unfold sealB at this
  rw [sealF_len] at this
  exact decide_eq_true (by show (p.n : Int) ≤ 16; omega)

/-! ### the row -/
set_option maxRecDepth 100000 in
theorem packetShort_lifted (os : Os) (started : os.Started) (H : Type) (enc : TypeId × Value → H) :
    ReturnsInHanded {} Try.checked os 3 .any (Rows.packetShortSpec.pre6 enc Try.prog Try.f3 Rows.packetShortRow.domain false) (Rows.packetShortSpec.post enc Try.prog Try.f3 false true false false) := by
  refine returnsInHanded_of_change (C := Try.checked) own_knob started (by kernel_rfl) Try.func3
    (ChangeSpec.witness6 (enc := enc) (C := Try.checked) false ⟨#[], #[.slice none 0 0, .int .u32 0], []⟩ 8 (by kernel_rfl) (by kernel_rfl) (by kernel_rfl) (by kernel_rfl)) ?_
  intro W base args ds gs before hval0 hW hcnd _
  have hval : ∀ (j : Nat) t v, Try.f3.params[j]? = some t → args[j]? = some v → Value.okWide Try.prog W .any base t v := hval0
  have hW' := hW
  obtain ⟨p, q, hA0, hV, rfl, hfz, hnd⟩ := hW
  have hA : DataW.TrodAll enc Try.prog W 0 (fun _ => true) true Try.f3.params.toList args.toList ds p := hA0
  rw [Try.params3] at hA hval
  obtain ⟨v0, v1, d0, d1, p0, p1, rfl, rfl, rfl, h0, h1⟩ := trodAll_two hA
  obtain ⟨s0, l0, rfl, S0, c0, e0⟩ := arg_slice ents_arg (hval 0 _ v0 rfl rfl) h0
  obtain ⟨L0, O0⟩ := ents_in fun r hr => e0 r hr
  obtain ⟨a1, rfl, w1⟩ := arg_int u32_und (hval 1 _ v1 rfl rfl) h1
  refine (law_PacketShort S0 O0 c0 (wf_u32 w1)).mono fun e W' ⟨he, hf⟩ => ?_
  subst he
  exact ⟨_, rfl, law_post laid_out bool_und (by kernel_rfl) (by rw [Try.params3]; decide +kernel) rfl ⟨rfl, rfl, rfl⟩ hW' hf⟩

set_option maxHeartbeats 4000000 in
theorem packetShort_holds : Rows.PacketShortSaid :=
  OpenClaim.holds_of_wide 3 Try.f3 rfl rfl rfl rfl rfl rfl rfl ⟨rfl, rfl, rfl, rfl, rfl⟩ rfl rfl rfl rfl rfl (by kernel_rfl) Try.func3
    (by unfold joinedFacts; repeat' (with_reducible refine band ?_ ?_)
        all_goals first | with_reducible exact laid_out | with_reducible exact maps_rowed | with_reducible exact may_enter | (as_aux_lemma => kernel_rfl))
    (of_decide_eq_true (by kernel_rfl)) (by unfold Func.isWrapper; first | (rw [if_pos (by decide +kernel)]; kernel_rfl) | (rw [if_neg (by decide +kernel)]; exact ⟨rfl, rfl⟩))
    (fun os started H enc _ => packetShort_lifted os started H enc)

end Go.Proofs.Ytcahnbflfehonaa
