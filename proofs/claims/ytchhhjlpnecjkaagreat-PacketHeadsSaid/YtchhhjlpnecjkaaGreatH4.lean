/-
  What the proof of packetHeads_holds leans on, laid together by a program of this session (wip/pack.py) out of its own texts; the last of these texts holds packetHeads_holds.
-/
import Derived.Test.YtchhhjlpnecjkaaGreatH3
set_option linter.unusedVariables false
namespace Go.Proofs.YtchhhjlpnecjkaaGreat
open Go Go.RowKit Go.Proofs.YtchhhjlpnecjkaaGreat.Den
variable {R : Type} {Q : R → World → Prop} {w : World}
def sealW (h : Head) (was now : List Ent) : WS :=
  let s := headM ([], 0) h
  if h.1 = 1 then
    let s1 := (s.1, keepM s.2 (formM 0 now))
    if s1.2 = 0 then entsW s1 now else s1
  else if h.1 = 2 then
    let s1 := (s.1, keepM s.2 (diffE was now))
    if diffE was now = 0 then deltaW was s1 (goneM was now) (comeM was now) (chgsM was now) else s1
  else if 0 < now.length then (s.1, keepM s.2 4) else s
def sealE (h : Head) (was now : List Ent) : Int :=
  if headE h ≠ 0 then headE h else if (sealW h was now).2 ≠ 0 then (sealW h was now).2 else if 4096 < (packM (sealW h was now).1).length then 3 else 0
def sealB (h : Head) (was now : List Ent) : List Int := sealF (packM (sealW h was now).1)
section
variable {n : Nat} {F : Nat → Prop} {bw b : Nat} {s : WS} {nots : List Nat} {v : World}
theorem PX.keep (h : PX n F bw b s nots v) (hn : n ≤ v.heap.size) {x : Int} {K : Res [] → W R} (hk : ∀ v', PX n F bw b (s.1, keepM s.2 x) nots v' → Fr (PS n F nots) v v' → K () Q v') :
    callW Tryz.prog k_packet_writer_keep [.pointer (some ⟨bw, 0, none⟩), .int .i64 x] [] K Q v := by
  obtain ⟨G, hp, up, uf, un, us⟩ := h.use hn
  refine spec_packet_keep hp fun v' hp' f' s' => hk v' (up _ _ ?_ (by omega)) (uf _ f')
  exact hp'.mono (fun k _ e => .inl e) fun k e => by
    rcases e with e | e
    · exact hp'.2.1 k e
    · omega
theorem PX.head (h : PX n F bw b s nots v) (hn : n ≤ v.heap.size) {hd : Head} (hok : HeadOk hd) {K : Res [] → W R} (hk : ∀ v', PX n F bw b (headM s hd) nots v' → Fr (PS n F nots) v v' → K () Q v') :
    callW Tryz.prog k_packet_writer_head [.pointer (some ⟨bw, 0, none⟩), .agg ⟨[.int .u8 hd.1, .int .u8 hd.2.1, .int .u32 hd.2.2.1, .int .u32 hd.2.2.2.1, .int .u32 hd.2.2.2.2]⟩] [] K Q v := by
  obtain ⟨G, hp, up, uf, un, us⟩ := h.use hn
  exact spec_packet_head hp hok fun v' hp' f' => hk v' (up _ _ hp' f'.size) (uf _ f')
theorem PX.err (h : PX n F bw b s nots v) {K : Int → W R} (hk : K s.2 Q v) : ld (.sc (.int .i64)) (Addr.add ⟨bw, 0, none⟩ 1) K Q v := by
  obtain ⟨G, h1, _⟩ := h
  exact h1.err hk
end
theorem lostM_range (a b : List Comp) : 0 ≤ lostM a b ∧ lostM a b ≤ 255 := by
  unfold lostM bNot
  rw [IntKind.wrap_u8]
  omega
theorem newM_mem {a l : List Comp} {c : Comp} (h : c ∈ newM a l) : c ∈ l := (List.mem_filter.1 h).1
theorem chM_mem {a l : List Comp} {c : Comp} (h : c ∈ chM a l) : c ∈ l := (List.mem_filter.1 h).1
theorem changeM_fit (a : Ent) {e : Ent} (h : EntFit e) : ChgFit (changeM a e) :=
  ⟨h.1, lostM_range _ _, ⟨Nat.le_trans (newM_le _ _) h.2.1, fun c hc => h.2.2 c (newM_mem hc)⟩, ⟨Nat.le_trans (chM_le _ _) h.2.1, fun c hc => h.2.2 c (chM_mem hc)⟩⟩
section
variable {was now : List Ent} (hL1 : ∀ e ∈ was, EntFit e) (hL2 : ∀ e ∈ now, EntFit e) (hm1 : was.length ≤ 1048576) (hm2 : now.length ≤ 1048576)
include hL1 hm1 in
theorem goneM_fit : (goneM was now).length ≤ 1048576 ∧ ∀ x ∈ goneM was now, 0 ≤ x ∧ x ≤ 4294967295 := by
  refine ⟨by unfold goneM; rw [List.length_map]; exact Nat.le_trans (List.length_filter_le _ _) hm1, fun x hx => ?_⟩
  obtain ⟨e, he, rfl⟩ := List.mem_map.1 hx
  exact (hL1 e (List.mem_filter.1 he).1).1
include hL2 hm2 in
theorem comeM_fit : (comeM was now).length ≤ 1048576 ∧ ∀ e ∈ comeM was now, EntFit e :=
  ⟨Nat.le_trans (List.length_filter_le _ _) hm2, fun e he => hL2 e (List.mem_filter.1 he).1⟩
include hL2 hm2 in
theorem chgsM_fit : (chgsM was now).length ≤ 1048576 ∧ ∀ c ∈ chgsM was now, ChgFit c := by
  refine ⟨Nat.le_trans (filterMap_le _ _) hm2, fun c hc => ?_⟩
  obtain ⟨e, he, hc⟩ := List.mem_filterMap.1 hc
  unfold chgOne at hc
  split at hc
  · cases hc
  · split at hc
    · cases hc
    · cases hc
      exact changeM_fit _ (hL2 e he)
end
theorem spec_packet_Seal {ok1 ok2 : Nat → Prop} {h : Head} (hok : HeadOk h) {s1 s2 : Sl} {raws1 raws2 : List (Int × Sl)} {was now : List Ent} (hS1 : SlT ok1 w entT s1 raws1) (hE1 : EntsR ok1 w raws1 was) (hS2 : SlT ok2 w entT s2 raws2) (hE2 : EntsR ok2 w raws2 now)
    (hm1 : was.length ≤ 1048576) (hm2 : now.length ≤ 1048576) (hL1 : ∀ e ∈ was, EntFit e) (hL2 : ∀ e ∈ now, EntFit e) {K : Res [.sc .sl, .sc (.int .i64)] → W R}
    (hbad : sealE h was now ≠ 0 → ∀ w', Fr None w w' → K (⟨none, 0, 0⟩, sealE h was now) Q w')
    (hk : sealE h was now = 0 → ∀ r w', Own (Up w.heap.size) w' 5 u8T r (sealB h was now) → Fr None w w' → K (r, 0) Q w') :
    callW Tryz.prog k_packet_Seal [.agg ⟨[.int .u8 h.1, .int .u8 h.2.1, .int .u32 h.2.2.1, .int .u32 h.2.2.2.1, .int .u32 h.2.2.2.2]⟩, .slice s1.a s1.n s1.c, .slice s2.a s2.n s2.c] [.sc .sl, .sc (.int .i64)] K Q w := by
  refine C_packet_Seal h s1 s2 K Q w ?_
  unfold F_packet_Seal
  have hS10 : SlT (fun k => ok1 k ∧ k < w.heap.size) w entT s1 raws1 := hS1.mono fun k hk e => ⟨e, hk⟩
  have hE10 : EntsR (fun k => ok1 k ∧ k < w.heap.size) w raws1 was := hE1.mono fun k hk e => ⟨e, hk⟩
  have hS20 : SlT (fun k => ok2 k ∧ k < w.heap.size) w entT s2 raws2 := hS2.mono fun k hk e => ⟨e, hk⟩
  have hE20 : EntsR (fun k => ok2 k ∧ k < w.heap.size) w raws2 now := hE2.mono fun k hk e => ⟨e, hk⟩
  have l2 := hS2.len.trans hE2.len
  refine newI fun w1 B1 f1 t1 => aggI B1 (x := h) rfl (spec_packet_Check fun w2 f2 => ?_)
  have f02 := f1.then0 f2
  have B2 := B1.fr f2 fun h => h
  refine condN (fun hne => ?_) fun heq => ?_
  · have e : sealE h was now = headE h := by unfold sealE; rw [if_pos hne]
    rw [← e]
    exact hbad (by rw [e]; exact hne) w2 f02
  have eS : sealE h was now = if (sealW h was now).2 ≠ 0 then (sealW h was now).2 else if 4096 < (packM (sealW h was now).1).length then 3 else 0 := by unfold sealE; rw [if_neg (by omega)]
  have z2 := f02.size
  refine spec_bits_New fun b w3 hw3 f3 => newI fun w4 B4 f4 t4 => ?_
  have z3 := f3.size
  have hbl : b < w3.heap.size := by obtain ⟨_, _, s, hB, _⟩ := hw3; exact hB.lt
  have hbu : w2.heap.size ≤ b := hw3.2.1
  have P4 : PW w3.heap.size b ([], 0) (fun k => w2.heap.size ≤ k ∧ k < w4.heap.size) w4 := ⟨by omega, fun k e => e.2, B4, Wr.st hw3 f4 fun k hk e => ⟨fun h => h, ⟨e, by omega⟩, by omega⟩⟩
  have X4 : PX w2.heap.size None w3.heap.size b ([], 0) [w.heap.size] w4 := ⟨_, P4, fun k e => .inr e.1, fun x hx => by
    rcases List.mem_cons.1 hx with rfl | hx
    · have := B2.lt; exact ⟨fun e => by omega, by omega⟩
    · cases hx⟩
  have f24 := f3.then0 f4
  have B4' := B2.fr f24 fun h => h
  have f04 := f02.then0 f24
  refine aggI B4' (x := h) rfl ?_
  generalize hbw : w3.heap.size = bw at X4 P4
  have hz24 := f24.size
  refine X4.head (by omega) hok fun w5 X5 f5 => ?_
  have g5 : Fr None w2 w5 := f24.newer f5 fun k e => e.1.elim (fun h => h.elim) fun h => h
  have B5 := B4'.fr f5 fun e => e.2 (by simp)
  have hz5 := g5.size
  have dis1 : ∀ {ok : Nat → Prop} k, ok k ∧ k < w.heap.size → ¬ (None k ∨ w2.heap.size ≤ k) := fun k e e2 => by
    rcases e2 with e2 | e2
    · exact e2
    · omega
  refine fldI B5 (i := 0) (x := h.1) rfl ?_
  have fnew : ∀ {a b : World} {l : List Nat}, Fr None w2 a → Fr (PS w2.heap.size None l) a b → Fr None w2 b := fun f g => f.newer g fun k e => e.1.elim (fun h => h.elim) fun h => h
  refine joinI (fun (_ : Unit) v => PX w2.heap.size None bw b (sealW h was now) [w.heap.size] v ∧ Fr None w2 v) ?_ ?_
  · refine condE (fun k1 => ?_) fun k1 => ?_
    ·
      refine spec_snap_Form ((hS20.fr0 f02).fr0 g5) ((hE20.fr f02 fun _ _ h => h).fr g5 fun _ _ h => h) (by omega) (fun e he => (hL2 e he).idOk) fun w6 f6 => ?_
      have X6 := X5.fr0 f6
      have g6 := g5.then0 f6
      have hz6 := g6.size
      refine X6.keep (by omega) fun w7 X7 f7 => ?_
      have g7 := fnew g6 f7
      have hz7 := g7.size
      refine X7.err ?_
      have eW : sealW h was now = if keepM (headM ([], 0) h).2 (formM 0 now) = 0 then entsW ((headM ([], 0) h).1, keepM (headM ([], 0) h).2 (formM 0 now)) now else ((headM ([], 0) h).1, keepM (headM ([], 0) h).2 (formM 0 now)) := by unfold sealW; rw [if_pos k1]
      refine joinI (fun (_ : Unit) v => PX w2.heap.size None bw b (sealW h was now) [w.heap.size] v ∧ Fr None w2 v) ?_ fun _ v h => h
      refine condE (fun k0 => ?_) fun k0 => ?_
      · have f27 := f02.then0 g7
        refine X7.ents (by omega) (hS20.fr0 f27) (hE20.fr f27 fun _ _ h => h) dis1 hL2 hm2 fun w8 X8 f8 => ⟨?_, fnew g7 f8⟩
        rw [eW, if_pos k0]
        exact X8
      · rw [eW, if_neg k0]
        exact ⟨X7, g7⟩
    · refine joinI (fun (_ : Unit) v => PX w2.heap.size None bw b (sealW h was now) [w.heap.size] v ∧ Fr None w2 v) ?_ fun _ v h => h
      refine condE (fun k2 => ?_) fun k2 => ?_
      ·
        have eW : sealW h was now = if diffE was now = 0 then deltaW was ((headM ([], 0) h).1, keepM (headM ([], 0) h).2 (diffE was now)) (goneM was now) (comeM was now) (chgsM was now) else ((headM ([], 0) h).1, keepM (headM ([], 0) h).2 (diffE was now)) := by unfold sealW; rw [if_neg k1, if_pos k2]
        obtain ⟨G, hp, hG, hno⟩ := X5
        have f05 := f02.then0 g5
        have fin : ∀ {e : Int} {r : DRaw} {w6 : World}, e = diffE was now → (diffE was now = 0 → DltR (Up w5.heap.size) w6 r (goneM was now) (comeM was now) (chgsM was now)) → Fr None w5 w6 →
            newW 80 [.slice none 0 0, .slice none 0 0, .slice none 0 0] (fun x_18 => stoL x_18 [.slice r.1.a r.1.n r.1.c, .slice r.2.1.a r.2.1.n r.2.1.c, .slice r.2.2.a r.2.2.n r.2.2.c] 0 <|
              callW Tryz.prog k_packet_writer_keep [.pointer (some ⟨bw, 0, none⟩), .int .i64 e] [] fun (_ : Unit) =>
              joinW (σ := Unit) (fun J_20 => cond (e == 0)
                (ld (.agg [.sl, .sl, .sl]) x_18 fun (x_21 : DRaw) =>
                callW Tryz.prog k_packet_writer_delta [.pointer (some ⟨bw, 0, none⟩), .slice s1.a s1.n s1.c, .agg ⟨[.slice x_21.1.a x_21.1.n x_21.1.c, .slice x_21.2.1.a x_21.2.1.n x_21.2.1.c, .slice x_21.2.2.a x_21.2.2.n x_21.2.2.c]⟩] [] fun (_ : Unit) => J_20 ())
                (J_20 ())) (fun _ => fun (_ : (Sl × Int) → World → Prop) v => PX w2.heap.size None bw b (sealW h was now) [w.heap.size] v ∧ Fr None w2 v)) (fun r w => K r Q w) w6 := by
          intro e r w6 he hD f56
          subst he
          have hz6 := f56.size
          refine newI fun w7 B7 f7 t7 => stoAll B7 rfl rfl fun w8 B8 f8 t8 => ?_
          have f68 : Fr None w6 w8 := f7.newer f8 fun k e => by omega
          have f58 := f56.then0 f68
          have nG : ∀ k, w5.heap.size ≤ k → ¬ G k := fun k e e2 => by have := hp.2.1 k e2; omega
          refine spec_packet_keep (hp.fr0 f58) fun w9 hp9 f9 t9 => ?_
          have g9 : Fr None w2 w9 := (g5.then0 f58).newer f9 fun k e => (hG k e).elim (fun h => h.elim) fun h => h
          have X9 : PX w2.heap.size None bw b ((headM ([], 0) h).1, keepM (headM ([], 0) h).2 (diffE was now)) [w.heap.size] w9 := ⟨G, hp9, hG, fun x hx => ⟨(hno x hx).1, by have := (hno x hx).2; have := f58.size; omega⟩⟩
          refine joinI (fun (_ : Unit) v => PX w2.heap.size None bw b (sealW h was now) [w.heap.size] v ∧ Fr None w2 v) ?_ fun _ v h => h
          refine condE (fun k0 => ?_) fun k0 => ?_
          · have D6 := hD k0
            have D8 : DltR (fun k => w5.heap.size ≤ k ∧ k < w6.heap.size) w9 r (goneM was now) (comeM was now) (chgsM was now) :=
              DltR.st (DltR.st D6 f68 (F' := fun k => w5.heap.size ≤ k ∧ k < w6.heap.size) fun k hk e => ⟨fun h => h, e, hk⟩) f9 fun k hk e => ⟨nG k e.1, e⟩
            have B9 := B8.fr f9 (nG _ hz6)
            refine aggI B9 (x := r) rfl ?_
            have f09 := f02.then0 g9
            have fw : FormOk was := formOk.1 (by
              unfold diffE at k0
              refine Classical.byContradiction fun hc => ?_
              rw [if_pos hc] at k0
              exact hc k0)
            have hz9 := g9.size
            refine spec_packet_delta hp9 (hS10.fr0 f09) (hE10.fr f09 fun _ _ h => h) fw.rise hm1 hL1 (fun k _ e e2 => dis1 k e (hG k e2)) D8 (fun k _ e => nG k e.1) (goneM_fit hL1 hm1) (comeM_fit hL2 hm2) (chgsM_fit hL2 hm2) fun w10 hp10 f10 => ⟨?_, g9.newer f10 fun k e => (hG k e).elim (fun h => h.elim) fun h => h⟩
            rw [eW, if_pos k0]
            have hz10 := f10.size
            refine ⟨_, hp10, fun k e => ?_, fun x hx => ⟨fun e => ?_, ?_⟩⟩
            · rcases e with e | e
              · exact hG k e
              · exact .inr (by omega)
            · rcases e with e | e
              · exact (hno x hx).1 e
              · have := (hno x hx).2; have := f58.size; omega
            · have := (hno x hx).2; have := f58.size; omega
          · rw [eW, if_neg k0]
            exact ⟨X9, g9⟩
        refine spec_diff_Diff (hS10.fr0 f05) (hE10.fr f05 fun _ _ h => h) (hS20.fr0 f05) (hE20.fr f05 fun _ _ h => h) hm1 hm2 hL1 hL2 (fun hne w6 f6 => ?_) fun he r w6 hD f6 => ?_
        · exact fin (r := (⟨none, 0, 0⟩, ⟨none, 0, 0⟩, ⟨none, 0, 0⟩)) rfl (fun h => absurd h hne) f6
        · exact fin (e := 0) he.symm (fun _ => hD) f6
      ·
        have eW : sealW h was now = if 0 < now.length then ((headM ([], 0) h).1, keepM (headM ([], 0) h).2 4) else headM ([], 0) h := by unfold sealW; rw [if_neg k1, if_neg k2]
        refine joinI (fun (_ : Unit) v => PX w2.heap.size None bw b (sealW h was now) [w.heap.size] v ∧ Fr None w2 v) ?_ fun _ v h => h
        refine condD (fun k3 => ?_) fun k3 => ?_
        · refine X5.keep (by omega) fun w7 X7 f7 => ⟨?_, fnew g5 f7⟩
          rw [eW, if_pos (by omega)]
          exact X7
        · rw [eW, if_neg (by omega)]
          exact ⟨X5, g5⟩
  rintro _ w6 ⟨X6, g6⟩
  refine X6.err ?_
  have f06 := f02.then0 g6
  refine condN (fun hne => ?_) fun heq2 => ?_
  · have X6 := X6.fr0 (Fr.refl _ _).drew
    refine X6.err ?_
    have e : sealE h was now = (sealW h was now).2 := by rw [eS, if_pos hne]
    rw [← e]
    exact hbad (by rw [e]; exact hne) _ (f06.then0 (Fr.refl _ _).drew)
  have e1 : sealE h was now = if 4096 < (packM (sealW h was now).1).length then 3 else 0 := by rw [eS, if_neg (by omega)]
  refine X6.ptr ?_
  obtain ⟨G, hp, _⟩ := X6
  refine spec_bits_Bytes hp.2.2.2 fun r w7 o7 f7 => ?_
  have hlen : (packM (sealW h was now).1).length ≤ 140737488355000 := by
    have := hp.2.2.2.1
    rw [packM_len]
    omega
  have f07 := f06.then0 f7
  have hz7 := f07.size
  refine spec_frame_Seal o7.sl hlen (fun hl => ?_) fun hl r2 w8 o8 f8 => ?_
  · have e : sealE h was now = 3 := by rw [e1, if_pos hl]
    have := hbad (by rw [e]; decide) w7 f07
    rw [e] at this
    exact this
  · have e : sealE h was now = 0 := by rw [e1, if_neg (by omega)]
    exact hk e r2 w8 (o8.up hz7) (f07.then0 f8)
end Go.Proofs.YtchhhjlpnecjkaaGreat
namespace Go.Proofs.YtchhhjlpnecjkaaGreat
open Go Go.RowKit Go.Proofs.YtchhhjlpnecjkaaGreat.Den
theorem doM_ok {s : WS} {p : Int × List Bool} (h : (doM s p).2 = 0) : s.2 = 0 ∧ p.1 = 0 := by
  unfold doM keepM at h
  dsimp only at h
  split at h
  · exact ⟨by assumption, h⟩
  · exact absurd h (by assumption)
theorem plain_fwd {s : WS} {v n : Int} (hs : s.2 = 0) (hn : 0 ≤ n ∧ n ≤ 64) (hv : v.toNat < 2 ^ n.toNat) (hl : (s.1.length : Int) + n ≤ 1048576) : plainM s v n = (s.1 ++ bitsOf v.toNat n.toNat, 0) := by
  unfold plainM doM putB keepM
  rw [if_neg (by omega), if_neg (by rw [Nat.div_eq_of_lt hv]; simp), if_neg (by omega), if_pos hs]
theorem var_fwd {s : WS} {v : Nat} (hs : s.2 = 0) (hl : s.1.length + 5 * groupsM v ≤ 1048576) : varM s v = (s.1 ++ varB v, 0) := by
  unfold varM doM putVarM keepM
  rw [if_neg (by omega), if_pos hs]
theorem packM_ok (L : List Bool) : ∀ x ∈ packM L, 0 ≤ x ∧ x ≤ 255 := fun x hx => by
  unfold packM at hx
  obtain ⟨j, _, rfl⟩ := List.mem_map.1 hx
  have := byteAt_le L j
  omega
theorem rising_lt {l : List Comp} (h : Rising (l.map (·.1))) {p q : Nat} {a b : Comp} (hpq : p < q) (ha : l[p]? = some a) (hb : l[q]? = some b) : a.1 < b.1 := by
  have h : (l.map (·.1)).Pairwise (· < ·) := h
  obtain ⟨h1, rfl⟩ := List.getElem?_eq_some_iff.1 ha
  obtain ⟨h2, rfl⟩ := List.getElem?_eq_some_iff.1 hb
  have := List.pairwise_iff_getElem.1 h p q (by simpa using h1) (by simpa using h2) hpq
  simpa using this
end Go.Proofs.YtchhhjlpnecjkaaGreat
namespace Go.Proofs.YtchhhjlpnecjkaaGreat
open Go Go.RowKit Go.Proofs.YtchhhjlpnecjkaaGreat.Den
def valB : List Bool → Nat
  | [] => 0
  | b :: r => bitN b + 2 * valB r
def getN (n : Nat) (L : List Bool) : Option (Nat × List Bool) := if n ≤ L.length then some (valB (L.take n), L.drop n) else none
theorem front_bits (v : Nat) : ∀ n, bitsOf v (n + 1) = v.testBit 0 :: bitsOf (v / 2) n
  | 0 => rfl
  | n + 1 => by
    rw [bitsOf, front_bits v n, bitsOf, List.cons_append]
    congr 3
    rw [Nat.testBit_succ]
theorem valB_bits : ∀ (n v : Nat), v < 2 ^ n → valB (bitsOf v n) = v
  | 0, v, h => by simp [bitsOf, valB]; omega
  | n + 1, v, h => by
    rw [front_bits, valB, valB_bits n (v / 2) (by omega), Nat.testBit_zero]
    unfold bitN
    by_cases h1 : v % 2 = 1
    · simp [h1]; omega
    · simp [h1]; omega
theorem getN_put {v n : Nat} (h : v < 2 ^ n) (s : List Bool) : getN n (bitsOf v n ++ s) = some (v, s) := by
  have hl := bitsOf_len v n
  unfold getN
  rw [if_pos (by rw [List.length_append]; omega), List.take_left' hl, List.drop_left' hl, valB_bits n v h]
def varD : Nat → Nat → Nat → List Bool → Option (Nat × List Bool)
  | 0, _, _, _ => none
  | k + 1, i, v, L => match getN 5 L with
    | none => none
    | some (x, r) => if x / 16 = 0 then (if groupsM (v + x % 16 * 2 ^ (4 * i)) = i + 1 then some (v + x % 16 * 2 ^ (4 * i), r) else none) else varD k (i + 1) (v + x % 16 * 2 ^ (4 * i)) r
def getVar (L : List Bool) : Option (Nat × List Bool) := varD 16 0 0 L
def varR (v n : Nat) : Nat → List Bool
  | 0 => []
  | k + 1 => bitsOf (grpV v n (n - (k + 1))) 5 ++ varR v n k
theorem varL_R (v n : Nat) : ∀ k, k ≤ n → varL v n (n - k) ++ varR v n k = varL v n n
  | 0, _ => by simp [varR]
  | k + 1, h => by
    rw [varR, ← List.append_assoc]
    have : varL v n (n - (k + 1)) ++ bitsOf (grpV v n (n - (k + 1))) 5 = varL v n (n - k) := by
      rw [show n - k = (n - (k + 1)) + 1 by omega, varL]
    rw [this]
    exact varL_R v n k (by omega)
theorem bitLen_lt {v : Nat} (h : v < 18446744073709551616) : v < 2 ^ Lib.bitLen v := by
  rcases Nat.eq_zero_or_pos v with rfl | hp
  · exact Nat.two_pow_pos _
  · exact (Lib.bitLenAux_bounds 64 v h (by omega)).2.2
theorem groups_lt {v : Nat} (h : v < 18446744073709551616) : v < 2 ^ (4 * groupsM v) := by
  refine Nat.lt_of_lt_of_le (bitLen_lt h) (Nat.pow_le_pow_right (by decide) ?_)
  unfold groupsM
  omega
theorem varD_put {v n : Nat} (hn : groupsM v = n) (hv : v < 2 ^ (4 * n)) (s : List Bool) : ∀ (k i f : Nat), 1 ≤ k → i + k = n → k ≤ f → varD f i (v % 2 ^ (4 * i)) (varR v n k ++ s) = some (v, s)
  | 0, _, _, h, _, _ => by omega
  | k + 1, i, f, _, hi, hf => by
    obtain ⟨f, rfl⟩ : ∃ g, f = g + 1 := ⟨f - 1, by omega⟩
    rw [varR, List.append_assoc, varD, show n - (k + 1) = i by omega, getN_put (grpV_lt v n i)]
    have hg : grpV v n i % 16 = v / 2 ^ (4 * i) % 16 := by unfold grpV; split <;> omega
    have hq : grpV v n i / 16 = if i + 1 < n then 1 else 0 := by unfold grpV; split <;> omega
    have hacc : v % 2 ^ (4 * i) + v / 2 ^ (4 * i) % 16 * 2 ^ (4 * i) = v % 2 ^ (4 * (i + 1)) := by
      rw [show 4 * (i + 1) = 4 * i + 4 by omega, Nat.pow_add, Nat.mod_mul, Nat.mul_comm (v / 2 ^ (4 * i) % 16)]
    simp only
    rw [hg, hq, hacc]
    by_cases h1 : i + 1 < n
    · rw [if_pos h1, if_neg (by decide)]
      exact varD_put hn hv s k (i + 1) f (by omega) (by omega) (by omega)
    · have : i + 1 = n := by omega
      rw [if_neg h1, if_pos rfl, this, Nat.mod_eq_of_lt hv, if_pos hn]
      have : k = 0 := by omega
      subst this
      rfl
theorem getVar_put {v : Nat} (h : v < 18446744073709551616) (s : List Bool) : getVar (varB v ++ s) = some (v, s) := by
  have hg := groupsM_le (v := (v : Int)) (by omega) (by omega)
  rw [Int.toNat_natCast] at hg
  have := varD_put rfl (groups_lt h) s (groupsM v) 0 16 (by omega) (by omega) (by omega)
  rw [Nat.mul_zero, Nat.pow_zero, Nat.mod_one] at this
  have e := varL_R v (groupsM v) (groupsM v) (Nat.le_refl _)
  rw [Nat.sub_self] at e
  have e : varR v (groupsM v) (groupsM v) = varB v := e
  rw [← e]
  exact this
def getIn (lo hi : Int) (L : List Bool) : Option (Int × List Bool) := match getN (widthM lo hi) L with
  | none => none
  | some (v, r) => if (v : Int) ≤ hi - lo then some (lo + (v : Int), r) else none
def inB (n lo hi : Int) : List Bool := bitsOf (n - lo).toNat (widthM lo hi)
theorem getIn_put {n lo hi : Int} (h1 : lo ≤ n) (h2 : n ≤ hi) (h3 : hi - lo ≤ 18446744073709551615) (s : List Bool) : getIn lo hi (inB n lo hi ++ s) = some (n, s) := by
  unfold getIn inB
  rw [getN_put (width_lt h1 h2 h3)]
  simp only
  rw [if_pos (by omega)]
  congr 2
  omega
def partB (p : Part) : List Bool := bitsOf p.1.toNat p.2.toNat
theorem fieldB {c : Comp} {i : Nat} (h1 : (rangeM c.1 (i : Int)).1 ≤ fl c i) (h2 : fl c i ≤ (rangeM c.1 (i : Int)).2.1) : partB (fieldP c i) = inB (fl c i) (rangeM c.1 (i : Int)).1 (rangeM c.1 (i : Int)).2.1 := by
  obtain ⟨r1, r2⟩ := rangeM_i32 c.1 (i : Int)
  unfold partB fieldP inB
  rw [wU64 (by omega), Int.toNat_natCast]
def readF (k : Int) : List Nat → List Bool → Option (List Int × List Bool)
  | [], L => some ([], L)
  | i :: r, L => match getIn (rangeM k (i : Int)).1 (rangeM k (i : Int)).2.1 L with
    | none => none
    | some (v, L2) => match readF k r L2 with
      | none => none
      | some (vs, L3) => some (v :: vs, L3)
theorem readF_put {c : Comp} (h : checkM c = 0) (s : List Bool) : ∀ is : List Nat, (∀ i ∈ is, i < cntM c.1) → readF c.1 is (is.flatMap (fun i => partB (fieldP c i)) ++ s) = some (is.map (fl c), s)
  | [], _ => rfl
  | i :: r, hi => by
    obtain ⟨h1, h2⟩ := check_at h (hi i List.mem_cons_self)
    obtain ⟨r1, r2⟩ := rangeM_i32 c.1 (i : Int)
    rw [List.flatMap_cons, List.append_assoc, readF, fieldB h1 h2, getIn_put h1 h2 (by omega)]
    simp only
    rw [readF_put h s r fun j hj => hi j (List.mem_cons_of_mem _ hj)]
    rfl
def mkC (k : Int) (vs : List Int) : Comp := (k, vs.getD 0 0, vs.getD 1 0, vs.getD 2 0)
def compD (k : Int) (L : List Bool) : Option (Comp × List Bool) := if cntM k = 0 then none else match readF k (List.range (cntM k)) L with
  | none => none
  | some (vs, r) => some (mkC k vs, r)
theorem fl_zero {c : Comp} (h : checkM c = 0) {i : Nat} (hi : i < 3) (hc : cntM c.1 ≤ i) : fl c i = 0 := by
  have hall : (List.range 3).all (inR c) = true := by
    unfold checkM at h
    split at h
    · cases h
    · split at h
      · cases h
      · split at h
        · assumption
        · cases h
  have := List.all_eq_true.1 hall i (List.mem_range.2 hi)
  unfold inR at this
  rw [List.getElem?_eq_none (by exact hc)] at this
  simpa using this
theorem mkC_fl {c : Comp} (h : checkM c = 0) : mkC c.1 ((List.range (cntM c.1)).map (fl c)) = c := by
  have hg : ∀ i, i < 3 → ((List.range (cntM c.1)).map (fl c)).getD i 0 = fl c i := fun i hi => by
    by_cases hc : i < cntM c.1
    · simp [List.getD, hc]
    · rw [fl_zero h hi (by omega)]
      simp [List.getD, hc]
  unfold mkC
  rw [hg 0 (by decide), hg 1 (by decide), hg 2 (by decide)]
  rfl
theorem cnt_pos {c : Comp} (h : checkM c = 0) : cntM c.1 ≠ 0 := fun hc => by
  unfold checkM at h
  rw [if_pos hc] at h
  cases h
def compB (c : Comp) : List Bool := partsB (wholeP c)
theorem compB_eq (c : Comp) : compB c = (List.range (cntM c.1)).flatMap fun i => partB (fieldP c i) := by
  unfold compB partsB wholeP
  rw [List.flatMap_map]
  rfl
theorem compD_put {c : Comp} (h : checkM c = 0) (s : List Bool) : compD c.1 (compB c ++ s) = some (c, s) := by
  unfold compD
  rw [if_neg (cnt_pos h), compB_eq, readF_put h s _ fun i hi => List.mem_range.1 hi]
  simp only
  rw [mkC_fl h]
def zagM (v : Int) : Int := if v % 2 = 1 then -1 - v / 2 else v / 2
theorem zag_zig (n : Int) : zagM (zigM n) = n := by
  unfold zagM zigM
  split <;> split <;> omega
theorem zigM_0 {n : Int} : zigM n = 0 ↔ n = 0 := by unfold zigM; split <;> omega
theorem zigM_nn (n : Int) : 0 ≤ zigM n := by unfold zigM; split <;> omega
def movedD (was : Comp) (i : Nat) (L : List Bool) : Option (Int × List Bool) := match getN 1 L with
  | none => none
  | some (b, L1) => if b = 0 then some (fl was i, L1) else match getN 1 L1 with
    | none => none
    | some (b2, L2) => if b2 = 0 then (match getIn (rangeM was.1 (i : Int)).1 (rangeM was.1 (i : Int)).2.1 L2 with
        | none => none
        | some (n, L3) => if zigM (n - fl was i) ≤ 16 then none else some (n, L3))
      else match getN 4 L2 with
        | none => none
        | some (z, L3) => if fl was i + zagM ((z : Int) + 1) < (rangeM was.1 (i : Int)).1 ∨ (rangeM was.1 (i : Int)).2.1 < fl was i + zagM ((z : Int) + 1) then none else some (fl was i + zagM ((z : Int) + 1), L3)
theorem movedD_put {was c : Comp} (hk : was.1 = c.1) (h : checkM c = 0) {i : Nat} (hi : i < cntM c.1) (s : List Bool) : movedD was i ((oneP was c i).flatMap partB ++ s) = some (fl c i, s) := by
  obtain ⟨h1, h2⟩ := check_at h hi
  obtain ⟨r1, r2⟩ := rangeM_i32 c.1 (i : Int)
  have hzn := zigM_nn (fl c i - fl was i)
  have e1 : ∀ s, getN 1 (partB (1, 1) ++ s) = some (1, s) := fun s => getN_put (v := 1) (n := 1) (by decide) s
  have e0 : ∀ s, getN 1 (partB (0, 1) ++ s) = some (0, s) := fun s => getN_put (v := 0) (n := 1) (by decide) s
  unfold oneP movedD
  by_cases hz : zigM (fl c i - fl was i) = 0
  · rw [if_pos hz]
    have := zigM_0.1 hz
    rw [List.flatMap_cons, List.flatMap_nil, List.append_nil, e0]
    simp only
    rw [if_pos trivial]
    congr 2
    omega
  · rw [if_neg hz]
    by_cases hn : zigM (fl c i - fl was i) ≤ 16
    · rw [if_pos hn]
      simp only [List.flatMap_cons, List.flatMap_nil, List.append_nil, List.append_assoc]
      rw [e1]
      simp only
      rw [if_neg (by decide), e1]
      simp only
      rw [if_neg (by decide)]
      have e4 : getN 4 (partB (zigM (fl c i - fl was i) - 1, 4) ++ s) = some ((zigM (fl c i - fl was i) - 1).toNat, s) := getN_put (n := 4) (by show _ < 16; omega) s
      rw [e4]
      simp only
      have ez : (((zigM (fl c i - fl was i) - 1).toNat : Nat) : Int) + 1 = zigM (fl c i - fl was i) := by omega
      rw [ez, zag_zig, hk, if_neg (by omega)]
      congr 2
      omega
    · rw [if_neg hn]
      simp only [List.flatMap_cons, List.flatMap_nil, List.append_nil, List.append_assoc]
      rw [e1]
      simp only
      rw [if_neg (by decide), e0]
      simp only
      rw [if_pos trivial, hk, fieldB h1 h2, getIn_put h1 h2 (by omega)]
      simp only
      rw [if_neg hn]
def readS (was : Comp) : List Nat → List Bool → Option (List Int × List Bool)
  | [], L => some ([], L)
  | i :: r, L => match movedD was i L with
    | none => none
    | some (v, L2) => match readS was r L2 with
      | none => none
      | some (vs, L3) => some (v :: vs, L3)
theorem readS_put {was c : Comp} (hk : was.1 = c.1) (h : checkM c = 0) (s : List Bool) : ∀ is : List Nat, (∀ i ∈ is, i < cntM c.1) → readS was is (is.flatMap (fun i => (oneP was c i).flatMap partB) ++ s) = some (is.map (fl c), s)
  | [], _ => rfl
  | i :: r, hi => by
    rw [List.flatMap_cons, List.append_assoc, readS, movedD_put hk h (hi i List.mem_cons_self)]
    simp only
    rw [readS_put hk h s r fun j hj => hi j (List.mem_cons_of_mem _ hj)]
    rfl
def stepDec (was : Comp) (L : List Bool) : Option (Comp × List Bool) := if checkM was ≠ 0 then none else match readS was (List.range (cntM was.1)) L with
  | none => none
  | some (vs, r) => some (mkC was.1 vs, r)
def stepB2 (was c : Comp) : List Bool := partsB (stepP was c)
theorem stepDec_put {was c : Comp} (h : pairM was c = 0) (s : List Bool) : stepDec was (stepB2 was c ++ s) = some (c, s) := by
  have hw : checkM was = 0 := by unfold pairM at h; split at h <;> omega
  have hc : checkM c = 0 := by
    unfold pairM at h
    rw [if_neg (by omega)] at h
    split at h <;> omega
  have hk : was.1 = c.1 := by
    unfold pairM at h
    rw [if_neg (by omega), if_neg (by omega)] at h
    split at h
    · assumption
    · omega
  have e : stepB2 was c = (List.range (cntM c.1)).flatMap fun i => (oneP was c i).flatMap partB := by
    unfold stepB2 partsB stepP
    rw [List.flatMap_assoc]
    rfl
  unfold stepDec
  rw [if_neg (by omega), e, hk, readS_put hk hc s _ fun i hi => List.mem_range.1 hi]
  simp only
  rw [mkC_fl hc]
end Go.Proofs.YtchhhjlpnecjkaaGreat
namespace Go.Proofs.YtchhhjlpnecjkaaGreat
open Go Go.RowKit Go.Proofs.YtchhhjlpnecjkaaGreat.Den
theorem plain_bits {s : WS} {v n : Int} (h : (plainM s v n).2 = 0) : s.2 = 0 ∧ (plainM s v n).1 = s.1 ++ bitsOf v.toNat n.toNat ∧ (n < 64 → v.toNat < 2 ^ n.toNat) := by
  obtain ⟨h1, h2⟩ := doM_ok h
  unfold plainM doM
  unfold putB at h2 ⊢
  split at h2
  · cases h2
  · split at h2
    · cases h2
    · rename_i hn
      split at h2
      · cases h2
      · rename_i a b
        rw [if_neg a, if_neg hn, if_neg b]
        refine ⟨h1, rfl, fun h64 => ?_⟩
        have : v.toNat / 2 ^ n.toNat = 0 := Classical.byContradiction fun hc => hn ⟨h64, hc⟩
        rcases Nat.div_eq_zero_iff.1 this with hz | hz
        · have := Nat.two_pow_pos n.toNat; omega
        · exact hz
theorem var_bits {s : WS} {v : Nat} (h : (varM s v).2 = 0) : s.2 = 0 ∧ (varM s v).1 = s.1 ++ varB v := by
  obtain ⟨h1, h2⟩ := doM_ok h
  unfold varM doM
  unfold putVarM at h2 ⊢
  split at h2
  · cases h2
  · rename_i a
    rw [if_neg a]
    exact ⟨h1, rfl⟩
theorem in_bits {s : WS} {n lo hi : Int} (h : (inM s n lo hi).2 = 0) : s.2 = 0 ∧ (inM s n lo hi).1 = s.1 ++ inB n lo hi ∧ lo ≤ n ∧ n ≤ hi := by
  have h' : (doM s (putInM s.1 n lo hi)).2 = 0 := h
  obtain ⟨h1, h2⟩ := doM_ok h'
  unfold putInM at h2
  split at h2
  · cases h2
  · rename_i a
    split at h2
    · cases h2
    · rename_i b
      have e : inM s n lo hi = plainM s (n - lo) (widthM lo hi) := by
        unfold inM plainM putInM
        rw [if_neg a, if_neg b]
      have := plain_bits (s := s) (v := n - lo) (n := (widthM lo hi : Int)) (by rw [← e]; exact h)
      rw [e]
      refine ⟨h1, ?_, by omega, by omega⟩
      rw [this.2.1]
      unfold inB
      rw [Int.toNat_natCast]
theorem putP_bits {s : WS} {l : List Part} (h : (doM s (putP s.1 l)).2 = 0) : s.2 = 0 ∧ (doM s (putP s.1 l)).1 = s.1 ++ partsB l := by
  obtain ⟨h1, h2⟩ := doM_ok h
  unfold doM
  unfold putP at h2 ⊢
  split at h2
  · cases h2
  · rename_i a
    rw [if_neg a]
    exact ⟨h1, rfl⟩
theorem putC_bits {s : WS} {c : Comp} (h : (doM s (putC s.1 c)).2 = 0) : s.2 = 0 ∧ (doM s (putC s.1 c)).1 = s.1 ++ compB c ∧ checkM c = 0 := by
  have h2 := (doM_ok h).2
  unfold putC at h h2 ⊢
  by_cases hc : checkM c = 0
  · rw [if_neg (by omega)] at h ⊢
    obtain ⟨a, b⟩ := putP_bits h
    exact ⟨a, b, hc⟩
  · rw [if_pos hc] at h2
    exact absurd h2 hc
theorem putS_bits {s : WS} {was c : Comp} (h : (doM s (putS s.1 was c)).2 = 0) : s.2 = 0 ∧ (doM s (putS s.1 was c)).1 = s.1 ++ stepB2 was c ∧ pairM was c = 0 := by
  have h2 := (doM_ok h).2
  unfold putS at h h2 ⊢
  by_cases hc : pairM was c = 0
  · rw [if_neg (by omega)] at h ⊢
    obtain ⟨a, b⟩ := putP_bits h
    exact ⟨a, b, hc⟩
  · rw [if_pos hc] at h2
    exact absurd h2 hc
theorem fold_bits {α : Type} (f : WS → α → WS) (enc : α → List Bool) (P : α → Prop) (hf : ∀ s a, (f s a).2 = 0 → s.2 = 0 ∧ (f s a).1 = s.1 ++ enc a ∧ P a) : ∀ (l : List α) (s : WS), (l.foldl f s).2 = 0 → s.2 = 0 ∧ (l.foldl f s).1 = s.1 ++ l.flatMap enc ∧ ∀ a ∈ l, P a
  | [], s, h => ⟨h, by simp, fun a ha => by cases ha⟩
  | a :: r, s, h => by
    rw [List.foldl_cons] at h ⊢
    obtain ⟨h1, h2, h3⟩ := fold_bits f enc P hf r (f s a) h
    obtain ⟨g1, g2, g3⟩ := hf s a h1
    refine ⟨g1, by rw [h2, g2, List.flatMap_cons, List.append_assoc], fun x hx => ?_⟩
    rcases List.mem_cons.1 hx with rfl | hx
    · exact g3
    · exact h3 x hx
def encs {α : Type} (enc : Int → α → List Bool) (id : α → Int) : Int → List α → List Bool
  | _, [] => []
  | last, a :: r => enc last a ++ encs enc id (id a) r
theorem fold_last {α : Type} (f : WS × Int → α → WS × Int) (enc : Int → α → List Bool) (id : α → Int) (P : Int → α → Prop) (hid : ∀ p a, (f p a).2 = id a) (hf : ∀ p a, (f p a).1.2 = 0 → p.1.2 = 0 ∧ (f p a).1.1 = p.1.1 ++ enc p.2 a ∧ P p.2 a) :
    ∀ (l : List α) (p : WS × Int), (l.foldl f p).1.2 = 0 → p.1.2 = 0 ∧ (l.foldl f p).1.1 = p.1.1 ++ encs enc id p.2 l ∧ ∀ a ∈ l, ∃ last, P last a
  | [], p, h => ⟨h, by simp [encs], fun a ha => by cases ha⟩
  | a :: r, p, h => by
    rw [List.foldl_cons] at h ⊢
    obtain ⟨h1, h2, h3⟩ := fold_last f enc id P hid hf r (f p a) h
    obtain ⟨g1, g2, g3⟩ := hf p a h1
    refine ⟨g1, by rw [h2, g2, hid, encs, List.append_assoc], fun x hx => ?_⟩
    rcases List.mem_cons.1 hx with rfl | hx
    · exact ⟨_, g3⟩
    · exact h3 x hx
def repD {β : Type} (f : Int → List Bool → Option (β × List Bool)) (id : β → Int) : Nat → Int → List Bool → Option (List β × List Bool)
  | 0, _, L => some ([], L)
  | n + 1, last, L => match f last L with
    | none => none
    | some (b, r) => match repD f id n (id b) r with
      | none => none
      | some (bs, r2) => some (b :: bs, r2)
theorem repD_put {β : Type} {f : Int → List Bool → Option (β × List Bool)} {id : β → Int} {enc : Int → β → List Bool} {ok : Int → β → Prop} (hf : ∀ last b s, ok last b → f last (enc last b ++ s) = some (b, s)) (s : List Bool) :
    ∀ (l : List β) (last : Int), (∀ (i : Nat) b, l[i]? = some b → ok (if i = 0 then last else ((l[i - 1]?).map id).getD 0) b) → repD f id l.length last (encs enc id last l ++ s) = some (l, s)
  | [], _, _ => rfl
  | b :: r, last, h => by
    rw [List.length_cons, encs, List.append_assoc, repD, hf last b _ (h 0 b rfl)]
    simp only
    rw [repD_put hf s r (id b) fun i x hx => ?_]
    have := h (i + 1) x (by simpa using hx)
    rw [if_neg (by omega)] at this
    rcases i with _ | i
    · simpa using this
    · rw [if_neg (by omega)]
      simpa using this
def headB (h : Head) : List Bool :=
  inB h.1 1 5 ++ (inB h.2.1 0 15 ++ (varB h.2.2.1.toNat ++ ((if h.1 ≤ 3 then bitsOf h.2.2.2.1.toNat 32 else []) ++ (if h.1 = 2 then varB (idD h.2.2.2.2 h.2.2.2.1) else []))))
def headD (L : List Bool) : Option (Head × List Bool) := match getIn 1 5 L with
  | none => none
  | some (k, L) => match getIn 0 15 L with
    | none => none
    | some (c, L) => match getVar L with
      | none => none
      | some (e, L) => match (if k ≤ 3 then getN 32 L else some (0, L)) with
        | none => none
        | some (t, L) => match (if k = 2 then (match getVar L with
            | none => none
            | some (b, L) => if t ≤ b then none else some (((t - b - 1 : Nat) : Int), L)) else some (0, L)) with
          | none => none
          | some (b, L) => if e ≤ 4294967295 ∧ headE (k, c, (e : Int), (t : Int), b) = 0 then some ((k, c, (e : Int), (t : Int), b), L) else none
theorem headD_put {h : Head} (hok : HeadOk h) (he : headE h = 0) (s : List Bool) : headD (headB h ++ s) = some (h, s) := by
  obtain ⟨k, c, e, t, b⟩ := h
  obtain ⟨⟨k0, k1⟩, ⟨c0, c1⟩, ⟨e0, e1⟩, ⟨t0, t1⟩, ⟨b0, b1⟩⟩ := hok
  have he' := he
  unfold headE at he
  dsimp only at k0 k1 c0 c1 e0 e1 t0 t1 b0 b1 he
  split at he
  · cases he
  rename_i g1
  split at he
  · cases he
  rename_i g2
  have z1 : e ≠ 0 := fun x => g2 (.inl x)
  have z2 : ¬ (3 < k ∧ t ≠ 0) := fun x => g2 (.inr (.inl x))
  have z3 : ¬ (k ≠ 2 ∧ b ≠ 0) := fun x => g2 (.inr (.inr (.inl x)))
  have z4 : ¬ (k = 2 ∧ t ≤ b) := fun x => g2 (.inr (.inr (.inr x)))
  unfold headB headD
  dsimp only
  rw [List.append_assoc, getIn_put (by omega) (by omega) (by omega)]
  simp only
  rw [List.append_assoc, getIn_put (by omega) (by omega) (by omega)]
  simp only
  rw [List.append_assoc, getVar_put (by omega)]
  simp only
  have ht : (if k ≤ 3 then getN 32 (((if k ≤ 3 then bitsOf t.toNat 32 else []) ++ (if k = 2 then varB (idD b t) else [])) ++ s) else some (0, ((if k ≤ 3 then bitsOf t.toNat 32 else []) ++ (if k = 2 then varB (idD b t) else [])) ++ s)) = some (t.toNat, (if k = 2 then varB (idD b t) else []) ++ s) := by
    by_cases h3 : k ≤ 3
    · rw [if_pos h3, if_pos h3, List.append_assoc, getN_put (by omega)]
    · have : t = 0 := Classical.byContradiction fun x => z2 ⟨by omega, x⟩
      rw [if_neg h3, if_neg h3, this]
      rfl
  rw [ht]
  simp only
  have hb : (if k = 2 then (match getVar ((if k = 2 then varB (idD b t) else []) ++ s) with
            | none => none
            | some (b, L) => if t.toNat ≤ b then none else some (((t.toNat - b - 1 : Nat) : Int), L)) else some (0, (if k = 2 then varB (idD b t) else []) ++ s)) = some (b, s) := by
    by_cases h2 : k = 2
    · have hlt : b < t := by
        refine Classical.byContradiction fun x => z4 ⟨h2, by omega⟩
      have hi : idD b t = (t - b - 1).toNat := by unfold idD; rw [Int.emod_eq_of_lt (by omega) (by omega)]
      rw [if_pos h2, if_pos h2, hi, getVar_put (by omega)]
      simp only
      rw [if_neg (by omega)]
      congr 2
      omega
    · have : b = 0 := Classical.byContradiction fun x => z3 ⟨h2, x⟩
      rw [if_neg h2, if_neg h2, this]
      rfl
  rw [hb]
  simp only
  have e1' : ((e.toNat : Nat) : Int) = e := by omega
  have e2' : ((t.toNat : Nat) : Int) = t := by omega
  rw [e1', e2', if_pos ⟨by omega, he'⟩]
theorem head_bits {s : WS} {h : Head} (hh : (headM s h).2 = 0) : s.2 = 0 ∧ (headM s h).1 = s.1 ++ headB h := by
  unfold headM at hh ⊢
  dsimp only at hh ⊢
  have key : ∀ (s3 : WS), (if h.1 = 2 then varM (if h.1 ≤ 3 then plainM s3 h.2.2.2.1 32 else s3) (idD h.2.2.2.2 h.2.2.2.1) else (if h.1 ≤ 3 then plainM s3 h.2.2.2.1 32 else s3)).2 = 0 →
      s3.2 = 0 ∧ (if h.1 = 2 then varM (if h.1 ≤ 3 then plainM s3 h.2.2.2.1 32 else s3) (idD h.2.2.2.2 h.2.2.2.1) else (if h.1 ≤ 3 then plainM s3 h.2.2.2.1 32 else s3)).1 = s3.1 ++ ((if h.1 ≤ 3 then bitsOf h.2.2.2.1.toNat 32 else []) ++ (if h.1 = 2 then varB (idD h.2.2.2.2 h.2.2.2.1) else [])) := by
    intro s3 hs
    have k1 : ∀ (s4 : WS), (if h.1 = 2 then varM s4 (idD h.2.2.2.2 h.2.2.2.1) else s4).2 = 0 → s4.2 = 0 ∧ (if h.1 = 2 then varM s4 (idD h.2.2.2.2 h.2.2.2.1) else s4).1 = s4.1 ++ (if h.1 = 2 then varB (idD h.2.2.2.2 h.2.2.2.1) else []) := by
      intro s4 h4
      split at h4
      · rename_i h2
        rw [if_pos h2, if_pos h2]
        exact var_bits h4
      · rename_i h2
        rw [if_neg h2, if_neg h2]
        exact ⟨h4, by simp⟩
    obtain ⟨a, b⟩ := k1 _ hs
    rw [b]
    split at a
    · rename_i h3
      rw [if_pos h3]
      obtain ⟨c, d, _⟩ := plain_bits a
      rw [if_pos h3, d, List.append_assoc]
      exact ⟨c, rfl⟩
    · rename_i h3
      rw [if_neg h3, if_neg h3]
      exact ⟨a, by simp⟩
  obtain ⟨a, b⟩ := key _ hh
  rw [b]
  obtain ⟨c, d⟩ := var_bits a
  obtain ⟨e, f, _⟩ := in_bits c
  obtain ⟨i, j, _⟩ := in_bits e
  rw [d, f, j]
  refine ⟨i, ?_⟩
  unfold headB
  simp only [List.append_assoc]
end Go.Proofs.YtchhhjlpnecjkaaGreat
namespace Go.Proofs.YtchhhjlpnecjkaaGreat
open Go Go.RowKit Go.Proofs.YtchhhjlpnecjkaaGreat.Den
def compsB (l : List Comp) : List Bool := l.flatMap compB
def compsD : List Int → List Bool → Option (List Comp × List Bool)
  | [], L => some ([], L)
  | k :: r, L => match compD k L with
    | none => none
    | some (c, L2) => match compsD r L2 with
      | none => none
      | some (cs, L3) => some (c :: cs, L3)
theorem compsD_put (s : List Bool) : ∀ l : List Comp, (∀ c ∈ l, checkM c = 0) → compsD (l.map (·.1)) (compsB l ++ s) = some (l, s)
  | [], _ => rfl
  | c :: r, h => by
    have e : compsB (c :: r) = compB c ++ compsB r := rfl
    rw [List.map_cons, e, List.append_assoc, compsD, compD_put (h c List.mem_cons_self)]
    simp only
    rw [compsD_put s r fun x hx => h x (List.mem_cons_of_mem _ hx)]
theorem comps_bits {s : WS} {l : List Comp} (h : (compsM s l).2 = 0) : s.2 = 0 ∧ (compsM s l).1 = s.1 ++ compsB l ∧ ∀ c ∈ l, checkM c = 0 :=
  fold_bits (fun s c => doM s (putC s.1 c)) compB (fun c => checkM c = 0) (fun _ _ h => putC_bits h) l s h
structure Masked (l : List Comp) : Prop where
  list : listE l = 0
  mask : maskN l < 32
theorem Masked.kinds {l : List Comp} (h : Masked l) : kindsOf (maskN l) = l.map (·.1) := (Valid.kinds ⟨h.list, rfl⟩).symm
theorem Masked.check {l : List Comp} (h : Masked l) : ∀ c ∈ l, checkM c = 0 := (listE_0.1 h.list).1
def idBits (last id : Int) : List Bool := varB (idD last id)
def idDec (last : Int) (L : List Bool) : Option (Int × List Bool) := match getVar L with
  | none => none
  | some (v, r) => if 4294967296 ≤ v then none else some ((last + (v : Int) + 1) % 4294967296, r)
theorem idDec_put {last id : Int} (hid : IdOk id) (s : List Bool) : idDec last (idBits last id ++ s) = some (id, s) := by
  obtain ⟨h0, h1⟩ := hid
  have hv : idD last id < 4294967296 := by unfold idD; omega
  unfold idDec idBits
  rw [getVar_put (by omega)]
  simp only
  rw [if_neg (by omega)]
  congr 2
  unfold idD
  omega
def entB (last : Int) (e : Ent) : List Bool := idBits last e.1 ++ (bitsOf (maskN e.2) 5 ++ compsB e.2)
def entD (last : Int) (L : List Bool) : Option (Ent × List Bool) := match idDec last L with
  | none => none
  | some (id, L) => match getN 5 L with
    | none => none
    | some (m, L) => match compsD (kindsOf m) L with
      | none => none
      | some (cs, L) => some ((id, cs), L)
theorem entD_put {last : Int} {e : Ent} (hid : IdOk e.1) (h : Masked e.2) (s : List Bool) : entD last (entB last e ++ s) = some (e, s) := by
  unfold entD entB
  rw [List.append_assoc, idDec_put hid]
  simp only
  rw [List.append_assoc, getN_put (by have := h.mask; omega)]
  simp only
  rw [h.kinds, compsD_put s _ h.check]
def entsB (l : List Ent) : List Bool := varB l.length ++ encs entB (fun e : Ent => e.1) 0 l
def entsD (L : List Bool) : Option (List Ent × List Bool) := match getVar L with
  | none => none
  | some (n, L) => repD entD (fun e : Ent => e.1) n 0 L
theorem entsD_put {l : List Ent} (hl : l.length < 18446744073709551616) (h : ∀ e ∈ l, IdOk e.1 ∧ Masked e.2) (s : List Bool) : entsD (entsB l ++ s) = some (l, s) := by
  unfold entsD entsB
  rw [List.append_assoc, getVar_put hl]
  simp only
  exact repD_put (f := entD) (id := fun e : Ent => e.1) (enc := entB) (ok := fun _ e => IdOk e.1 ∧ Masked e.2) (fun last b s hb => entD_put hb.1 hb.2 s) s l 0 fun i b hb => h b (List.mem_of_getElem? hb)
theorem ents_bits {s : WS} {l : List Ent} (h : (entsW s l).2 = 0) : s.2 = 0 ∧ (entsW s l).1 = s.1 ++ entsB l ∧ ∀ e ∈ l, maskN e.2 < 32 ∧ ∀ c ∈ e.2, checkM c = 0 := by
  unfold entsW at h ⊢
  obtain ⟨h1, h2, h3⟩ := fold_last entM entB (fun e => e.1) (fun _ e => maskN e.2 < 32 ∧ ∀ c ∈ e.2, checkM c = 0) (fun _ _ => rfl) (fun p e h => by
    unfold entM at h ⊢
    dsimp only at h ⊢
    obtain ⟨a1, a2, a3⟩ := comps_bits h
    obtain ⟨b1, b2, b3⟩ := plain_bits a1
    obtain ⟨c1, c2⟩ := var_bits b1
    refine ⟨c1, ?_, ?_, a3⟩
    · rw [a2, b2, c2]
      unfold entB idBits
      rw [Int.toNat_natCast, show Int.toNat 5 = 5 from rfl]
      simp only [List.append_assoc]
    · have := b3 (by decide)
      rw [Int.toNat_natCast] at this
      exact this) l (varM s l.length, 0) h
  obtain ⟨g1, g2⟩ := var_bits h1
  refine ⟨g1, ?_, fun e he => ?_⟩
  · rw [h2, g2]
    unfold entsB
    simp only [List.append_assoc]
  · obtain ⟨_, h⟩ := h3 e he
    exact h
def goneB (l : List Int) : List Bool := varB l.length ++ encs idBits (fun i : Int => i) 0 l
def goneD (L : List Bool) : Option (List Int × List Bool) := match getVar L with
  | none => none
  | some (n, L) => repD idDec (fun i : Int => i) n 0 L
theorem goneD_put {l : List Int} (hl : l.length < 18446744073709551616) (h : ∀ i ∈ l, IdOk i) (s : List Bool) : goneD (goneB l ++ s) = some (l, s) := by
  unfold goneD goneB
  rw [List.append_assoc, getVar_put hl]
  simp only
  exact repD_put (f := idDec) (id := fun i : Int => i) (enc := idBits) (ok := fun _ e => IdOk e) (fun last b s hb => idDec_put hb s) s l 0 fun i b hb => h b (List.mem_of_getElem? hb)
theorem gone_bits {s : WS} {l : List Int} (h : (goneW s l).2 = 0) : s.2 = 0 ∧ (goneW s l).1 = s.1 ++ goneB l := by
  unfold goneW at h ⊢
  obtain ⟨h1, h2, _⟩ := fold_last idM idBits (fun i => i) (fun _ _ => True) (fun _ _ => rfl) (fun p e h => by
    unfold idM at h ⊢
    obtain ⟨c1, c2⟩ := var_bits h
    exact ⟨c1, c2, trivial⟩) l (varM s l.length, 0) h
  obtain ⟨g1, g2⟩ := var_bits h1
  refine ⟨g1, ?_⟩
  rw [h2, g2]
  unfold goneB
  simp only [List.append_assoc]
def setsB (was : List Ent) (id : Int) (l : List Comp) : List Bool := l.flatMap fun c => stepB2 (oldM was id c.1) c
def setsD (was : List Ent) (id : Int) : List Int → List Bool → Option (List Comp × List Bool)
  | [], L => some ([], L)
  | k :: r, L => if (oldM was id k).1 ≠ k then none else match stepDec (oldM was id k) L with
    | none => none
    | some (c, L2) => match setsD was id r L2 with
      | none => none
      | some (cs, L3) => some (c :: cs, L3)
theorem pair_kind {was c : Comp} (h : pairM was c = 0) : was.1 = c.1 ∧ checkM c = 0 := by
  unfold pairM at h
  split at h
  · omega
  · split at h
    · omega
    · split at h
      · exact ⟨by assumption, by omega⟩
      · omega
theorem setsD_put (was : List Ent) (id : Int) (s : List Bool) : ∀ l : List Comp, (∀ c ∈ l, pairM (oldM was id c.1) c = 0) → setsD was id (l.map (·.1)) (setsB was id l ++ s) = some (l, s)
  | [], _ => rfl
  | c :: r, h => by
    have hc := h c List.mem_cons_self
    have e : setsB was id (c :: r) = stepB2 (oldM was id c.1) c ++ setsB was id r := rfl
    rw [List.map_cons, e, List.append_assoc, setsD, if_neg (fun x => x (pair_kind hc).1), stepDec_put hc]
    simp only
    rw [setsD_put was id s r fun x hx => h x (List.mem_cons_of_mem _ hx)]
theorem sets_bits {was : List Ent} {id : Int} : ∀ {l : List Comp} {s : WS}, (setsM was id s l).2 = 0 → s.2 = 0 ∧ (setsM was id s l).1 = s.1 ++ setsB was id l ∧ ∀ c ∈ l, pairM (oldM was id c.1) c = 0
  | [], s, h => ⟨h, (List.append_nil _).symm, fun a ha => by cases ha⟩
  | a :: r, s, h => by
    have e : setsM was id s (a :: r) = setsM was id (doM s (putS s.1 (oldM was id a.1) a)) r := by unfold setsM; rw [List.foldl_cons]
    have e2 : setsB was id (a :: r) = stepB2 (oldM was id a.1) a ++ setsB was id r := by unfold setsB; rw [List.flatMap_cons]
    rw [e] at h
    obtain ⟨h1, h2, h3⟩ := sets_bits h
    obtain ⟨g1, g2, g3⟩ := putS_bits h1
    rw [e]
    refine ⟨g1, by rw [h2, g2, e2, List.append_assoc], fun x hx => ?_⟩
    rcases List.mem_cons.1 hx with rfl | hx
    · exact g3
    · exact h3 x hx
def chgB (was : List Ent) (last : Int) (d : Chg) : List Bool :=
  idBits last d.1 ++ (bitsOf d.2.1.toNat 5 ++ (bitsOf (maskN d.2.2.1) 5 ++ (bitsOf (maskN d.2.2.2) 5 ++ (compsB d.2.2.1 ++ setsB was d.1 d.2.2.2))))
def chgD (was : List Ent) (last : Int) (L : List Bool) : Option (Chg × List Bool) := match idDec last L with
  | none => none
  | some (id, L) => match getN 5 L with
    | none => none
    | some (lost, L) => match getN 5 L with
      | none => none
      | some (fresh, L) => match getN 5 L with
        | none => none
        | some (set, L) => match compsD (kindsOf fresh) L with
          | none => none
          | some (ns, L) => match setsD was id (kindsOf set) L with
            | none => none
            | some (ss, L) => some ((id, (lost : Int), ns, ss), L)
structure ChgMk (was : List Ent) (d : Chg) : Prop where
  id : IdOk d.1
  lost : 0 ≤ d.2.1 ∧ d.2.1.toNat < 32
  new : Masked d.2.2.1
  set : Masked d.2.2.2
  pair : ∀ c ∈ d.2.2.2, pairM (oldM was d.1 c.1) c = 0
theorem chgD_put {was : List Ent} {last : Int} {d : Chg} (h : ChgMk was d) (s : List Bool) : chgD was last (chgB was last d ++ s) = some (d, s) := by
  obtain ⟨h1, ⟨h2, h3⟩, h4, h5, h6⟩ := h
  unfold chgD chgB
  rw [List.append_assoc, idDec_put h1]
  simp only
  rw [List.append_assoc, getN_put (by omega)]
  simp only
  rw [List.append_assoc, getN_put (by have := h4.mask; omega)]
  simp only
  rw [List.append_assoc, getN_put (by have := h5.mask; omega)]
  simp only
  rw [List.append_assoc, h4.kinds, compsD_put _ _ h4.check]
  simp only
  rw [h5.kinds, setsD_put was d.1 s _ h6]
  simp only
  have : ((d.2.1.toNat : Nat) : Int) = d.2.1 := by omega
  rw [this]
def chgsB (was : List Ent) (l : List Chg) : List Bool := varB l.length ++ encs (chgB was) (fun d : Chg => d.1) 0 l
def chgsD (was : List Ent) (L : List Bool) : Option (List Chg × List Bool) := match getVar L with
  | none => none
  | some (n, L) => repD (chgD was) (fun d : Chg => d.1) n 0 L
theorem chgsD_put {was : List Ent} {l : List Chg} (hl : l.length < 18446744073709551616) (h : ∀ d ∈ l, ChgMk was d) (s : List Bool) : chgsD was (chgsB was l ++ s) = some (l, s) := by
  unfold chgsD chgsB
  rw [List.append_assoc, getVar_put hl]
  simp only
  exact repD_put (f := chgD was) (id := fun d : Chg => d.1) (enc := chgB was) (ok := fun _ d => ChgMk was d) (fun last b s hb => chgD_put hb s) s l 0 fun i b hb => h b (List.mem_of_getElem? hb)
theorem chgs_bits {was : List Ent} {s : WS} {l : List Chg} (h : (chgsW was s l).2 = 0) : s.2 = 0 ∧ (chgsW was s l).1 = s.1 ++ chgsB was l ∧ ∀ d ∈ l, d.2.1.toNat < 32 ∧ maskN d.2.2.1 < 32 ∧ maskN d.2.2.2 < 32 ∧ (∀ c ∈ d.2.2.1, checkM c = 0) ∧ ∀ c ∈ d.2.2.2, pairM (oldM was d.1 c.1) c = 0 := by
  unfold chgsW at h ⊢
  obtain ⟨h1, h2, h3⟩ := fold_last (chgM1 was) (chgB was) (fun d => d.1) (fun _ d => d.2.1.toNat < 32 ∧ maskN d.2.2.1 < 32 ∧ maskN d.2.2.2 < 32 ∧ (∀ c ∈ d.2.2.1, checkM c = 0) ∧ ∀ c ∈ d.2.2.2, pairM (oldM was d.1 c.1) c = 0) (fun _ _ => rfl) (fun p d h => by
    unfold chgM1 at h ⊢
    dsimp only at h ⊢
    obtain ⟨a1, a2, a3⟩ := sets_bits h
    obtain ⟨b1, b2, b3⟩ := comps_bits a1
    obtain ⟨c1, c2, c3⟩ := plain_bits b1
    obtain ⟨d1, d2, d3⟩ := plain_bits c1
    obtain ⟨e1, e2, e3⟩ := plain_bits d1
    obtain ⟨f1, f2⟩ := var_bits e1
    have c3 := c3 (by decide)
    have d3 := d3 (by decide)
    have e3 := e3 (by decide)
    rw [Int.toNat_natCast] at c3 d3
    refine ⟨f1, ?_, e3, d3, c3, b3, a3⟩
    rw [a2, b2, c2, d2, e2, f2]
    unfold chgB idBits
    rw [Int.toNat_natCast, Int.toNat_natCast, show Int.toNat 5 = 5 from rfl]
    simp only [List.append_assoc]) l (varM s l.length, 0) h
  obtain ⟨g1, g2⟩ := var_bits h1
  refine ⟨g1, ?_, fun e he => ?_⟩
  · rw [h2, g2]
    unfold chgsB
    simp only [List.append_assoc]
  · obtain ⟨_, h⟩ := h3 e he
    exact h
def deltaB (was : List Ent) (gone : List Int) (come : List Ent) (chg : List Chg) : List Bool := goneB gone ++ (entsB come ++ chgsB was chg)
abbrev Delta := List Int × List Ent × List Chg
def deltaD (was : List Ent) (L : List Bool) : Option (Delta × List Bool) := match goneD L with
  | none => none
  | some (g, L) => match entsD L with
    | none => none
    | some (c, L) => match chgsD was L with
      | none => none
      | some (d, L) => some ((g, c, d), L)
theorem deltaD_put {was : List Ent} {gone : List Int} {come : List Ent} {chg : List Chg} (hg : gone.length < 18446744073709551616 ∧ ∀ i ∈ gone, IdOk i) (hc : come.length < 18446744073709551616 ∧ ∀ e ∈ come, IdOk e.1 ∧ Masked e.2) (hd : chg.length < 18446744073709551616 ∧ ∀ d ∈ chg, ChgMk was d) (s : List Bool) :
    deltaD was (deltaB was gone come chg ++ s) = some ((gone, come, chg), s) := by
  unfold deltaD deltaB
  rw [List.append_assoc, goneD_put hg.1 hg.2]
  simp only
  rw [List.append_assoc, entsD_put hc.1 hc.2]
  simp only
  rw [chgsD_put hd.1 hd.2]
end Go.Proofs.YtchhhjlpnecjkaaGreat
namespace Go.Proofs.YtchhhjlpnecjkaaGreat
open Go Go.RowKit Go.Proofs.YtchhhjlpnecjkaaGreat.Den
theorem FormOk.six {L : List Ent} (h : FormOk L) {e : Ent} (he : e ∈ L) : e.2.length ≤ 6 := (Valid.mk (h.list he) rfl : Valid (maskN e.2) e.2).small
end Go.Proofs.YtchhhjlpnecjkaaGreat
namespace Go.Proofs.YtchhhjlpnecjkaaGreat
open Go Go.RowKit Go.Proofs.YtchhhjlpnecjkaaGreat.Den
def polyB : BitVec 32 := 3988292384#32
def stepB (c : BitVec 32) : BitVec 32 := if c.getLsbD 0 = true then (c >>> 1) ^^^ polyB else c >>> 1
def oneB (b : Bool) : BitVec 32 := if b = true then 1#32 else 0#32
def bitB (c : BitVec 32) (m : Bool) : BitVec 32 := stepB (c ^^^ oneB m)
def stepsB : Nat → BitVec 32 → BitVec 32
  | 0, c => c
  | n + 1, c => stepB (stepsB n c)
def toI (c : BitVec 32) : Int := (c.toNat : Int)
theorem toI_ofInt (c : BitVec 32) : BitVec.ofInt 32 (toI c) = c := by
  apply BitVec.eq_of_toNat_eq
  have := c.isLt
  simp [toI]
theorem wrap_toNat (c : BitVec 32) : IntKind.wrap .u32 (c.toNat : Int) = toI c := by
  have := c.isLt
  rw [wu32 (by omega)]
  rfl
theorem bXor_toI (c d : BitVec 32) : bXor .u32 (toI c) (toI d) = toI (c ^^^ d) := by
  unfold bXor
  show IntKind.wrap .u32 (((BitVec.ofInt 32 (toI c)) ^^^ (BitVec.ofInt 32 (toI d))).toNat : Int) = _
  rw [toI_ofInt, toI_ofInt, wrap_toNat]
theorem stepF_toI (c : BitVec 32) : stepF (toI c) = toI (stepB c) := by
  unfold stepF stepB
  have h1 : bAnd .u32 (toI c) 1 = toI (c &&& 1#32) := by
    unfold bAnd
    show IntKind.wrap .u32 (((BitVec.ofInt 32 (toI c)) &&& (BitVec.ofInt 32 1)).toNat : Int) = _
    rw [toI_ofInt, wrap_toNat]
    rfl
  have h2 : shR .u32 (toI c) 1 = toI (c >>> 1) := by
    unfold shR
    rw [show min (Int.toNat 1) (IntKind.bits .u32) = 1 from rfl, Int.fdiv_eq_ediv_of_nonneg _ (by decide)]
    unfold toI
    rw [BitVec.toNat_ushiftRight, Nat.shiftRight_eq_div_pow]
    simp
  have h3 : toI (c &&& 1#32) ≠ 0 ↔ c.getLsbD 0 = true := by
    have e : (c &&& 1#32).toNat = c.toNat % 2 := by
      rw [BitVec.toNat_and]
      show c.toNat &&& 1 = _
      rw [Nat.and_one_is_mod]
    unfold toI
    rw [e, BitVec.getLsbD, Nat.testBit_zero]
    simp only [decide_eq_true_eq]
    omega
  rw [h1, h2]
  by_cases h : c.getLsbD 0 = true
  · rw [if_pos (h3.2 h), if_pos h]
    exact bXor_toI (c >>> 1) polyB
  · rw [if_neg (fun x => h (h3.1 x)), if_neg h]
theorem stepsF_toI (n : Nat) (c : BitVec 32) : stepsF n (toI c) = toI (stepsB n c) := by
  induction n with
  | zero => rfl
  | succ n ih => rw [stepsF, stepsB, ih, stepF_toI]
theorem stepsB_front (n : Nat) (c : BitVec 32) : stepsB (n + 1) c = stepsB n (stepB c) := by
  induction n with
  | zero => rfl
  | succ n ih => rw [stepsB, ih, stepsB]
theorem stepB_at (c : BitVec 32) (p : Nat) : (stepB c).getLsbD p = (c.getLsbD (p + 1) ^^ (c.getLsbD 0 && polyB.getLsbD p)) := by
  unfold stepB
  split
  · rename_i h
    rw [BitVec.getLsbD_xor, BitVec.getLsbD_ushiftRight, h, Nat.add_comm]
    simp
  · rename_i h
    have h : c.getLsbD 0 = false := by simpa using h
    rw [BitVec.getLsbD_ushiftRight, h, Nat.add_comm]
    simp
theorem oneB_at (b : Bool) (p : Nat) : (oneB b).getLsbD p = (decide (p = 0) && b) := by
  unfold oneB
  cases b
  · simp
  · rw [if_pos rfl]
    rcases p with _ | p
    · rfl
    · simp [BitVec.getLsbD, Nat.testBit_succ]
theorem stepB_xor (c d : BitVec 32) : stepB (c ^^^ d) = bitB c (d.getLsbD 0) ^^^ (d >>> 1) := by
  apply BitVec.eq_of_getLsbD_eq
  intro p _
  rw [bitB, BitVec.getLsbD_xor, stepB_at, stepB_at, BitVec.getLsbD_ushiftRight, BitVec.getLsbD_xor, BitVec.getLsbD_xor, BitVec.getLsbD_xor, BitVec.getLsbD_xor, oneB_at, oneB_at, Nat.add_comm 1 p]
  simp only [Nat.add_eq_zero_iff, Nat.one_ne_zero, and_false, decide_false, Bool.false_and, Bool.xor_false, decide_true, Bool.true_and]
  cases c.getLsbD (p + 1) <;> cases d.getLsbD (p + 1) <;> simp
theorem bitsOf_front (v : Nat) : ∀ n, bitsOf v (n + 1) = v.testBit 0 :: bitsOf (v / 2) n
  | 0 => rfl
  | n + 1 => by
    rw [bitsOf, bitsOf_front v n, bitsOf, List.cons_append]
    congr 3
    rw [Nat.testBit_succ]
theorem stepsB_bits : ∀ (n : Nat) (c d : BitVec 32), d.toNat < 2 ^ n → stepsB n (c ^^^ d) = (bitsOf d.toNat n).foldl bitB c
  | 0, c, d, h => by
    have : d = 0#32 := BitVec.eq_of_toNat_eq (by simp at h ⊢; omega)
    subst this
    show c ^^^ 0#32 = c
    simp
  | n + 1, c, d, h => by
    have hd : (d >>> 1).toNat = d.toNat / 2 := by rw [BitVec.toNat_ushiftRight, Nat.shiftRight_eq_div_pow]
    rw [stepsB_front, stepB_xor, stepsB_bits n _ _ (by rw [hd]; omega), hd, bitsOf_front, List.foldl_cons]
    rfl
theorem byteF_toI (c : BitVec 32) {x : Int} (hx : 0 ≤ x ∧ x ≤ 255) : byteF (toI c) x = toI ((bitsOf x.toNat 8).foldl bitB c) := by
  have hw : IntKind.wrap .u32 x = toI (BitVec.ofNat 32 x.toNat) := by
    rw [wu32 (by omega)]
    unfold toI
    rw [BitVec.toNat_ofNat, Nat.mod_eq_of_lt (by omega)]
    omega
  have hn : (BitVec.ofNat 32 x.toNat).toNat = x.toNat := by rw [BitVec.toNat_ofNat, Nat.mod_eq_of_lt (by omega)]
  unfold byteF
  rw [hw, bXor_toI, stepsF_toI, stepsB_bits 8 _ _ (by rw [hn]; omega), hn]
def regB (m : List Bool) : BitVec 32 := m.foldl bitB 4294967295#32
theorem regF : ∀ (l : List Int) (c : BitVec 32), BytesOk l → l.foldl byteF (toI c) = toI ((bitsU l).foldl bitB c)
  | [], _, _ => rfl
  | x :: r, c, h => by
    have e : bitsU (x :: r) = bitsOf x.toNat 8 ++ bitsU r := rfl
    rw [List.foldl_cons, byteF_toI c (h x List.mem_cons_self), regF r _ fun y hy => h y (List.mem_cons_of_mem _ hy), e, List.foldl_append]
theorem sumF_reg {l : List Int} (h : BytesOk l) : sumF l = toI (4294967295#32 ^^^ regB (bitsU l)) := by
  unfold sumF
  have e : (4294967295 : Int) = toI 4294967295#32 := rfl
  rw [e, regF l _ h, bXor_toI]
  rfl
theorem flipAt_at (L : List Bool) (i k : Nat) : bitAt (flipAt L i) k = if k = i ∧ i < L.length then !bitAt L k else bitAt L k := by
  unfold bitAt flipAt
  rw [List.getElem?_set]
  by_cases h : i = k
  · subst h
    by_cases hl : i < L.length
    · rw [if_pos rfl, if_pos hl, if_pos ⟨rfl, hl⟩]; rfl
    · rw [if_pos rfl, if_neg hl, if_neg (fun x => hl x.2), List.getElem?_eq_none (by omega)]
  · rw [if_neg h, if_neg (fun x => h x.1.symm)]
theorem taps_at (j : Nat) : ∀ (ks : List Nat) (L : List Bool), ks.Nodup → (∀ k ∈ ks, k ≤ 32) → j + 32 < L.length → ∀ q, bitAt (ks.foldl (tapD j) L) q = (bitAt L q ^^ decide (∃ k ∈ ks, q = j + 32 - k))
  | [], L, _, _, _, q => by simp
  | k :: ks, L, hn, hk, hl, q => by
    have hn' := List.nodup_cons.1 hn
    have hk0 := hk k List.mem_cons_self
    rw [List.foldl_cons, taps_at j ks (tapD j L k) hn'.2 (fun x hx => hk x (List.mem_cons_of_mem _ hx)) (by unfold tapD; rw [flipAt_len]; exact hl) q]
    unfold tapD
    rw [flipAt_at]
    by_cases hq : q = j + 32 - k
    · rw [if_pos ⟨hq, by omega⟩]
      have h1 : ¬ ∃ k' ∈ ks, q = j + 32 - k' := by
        rintro ⟨k', hk', e⟩
        have := hk k' (List.mem_cons_of_mem _ hk')
        have : k' = k := by omega
        subst this
        exact hn'.1 hk'
      have h2 : ∃ k' ∈ k :: ks, q = j + 32 - k' := ⟨k, List.mem_cons_self, hq⟩
      rw [decide_eq_false h1, decide_eq_true h2]
      simp
    · rw [if_neg (fun x => hq x.1)]
      congr 1
      rw [decide_eq_decide]
      constructor
      · rintro ⟨k', hk', e⟩; exact ⟨k', List.mem_cons_of_mem _ hk', e⟩
      · rintro ⟨k', hk', e⟩
        rcases List.mem_cons.1 hk' with rfl | hk'
        · exact absurd e hq
        · exact ⟨k', hk', e⟩
theorem poly_at : ∀ p : Fin 32, polyB.getLsbD p.val = decide (∃ k ∈ tapsD, p.val + k = 31) := by decide +kernel
theorem stepD_at {L : List Bool} {j : Nat} (hl : j + 32 < L.length) (q : Nat) : bitAt (stepD L j) q = (bitAt L q ^^ (bitAt L j && decide (∃ k ∈ tapsD, q = j + 32 - k))) := by
  unfold stepD
  show bitAt (if bitAt L j = true then _ else _) q = _
  by_cases h : bitAt L j = true
  · rw [if_pos h, taps_at j tapsD L (by decide) (by decide) hl, h, Bool.true_and]
  · rw [if_neg h]
    have h : bitAt L j = false := by simpa using h
    rw [h]; simp
theorem range_flips (m : List Bool) : ∀ (n : Nat), n ≤ m.length → ∀ q, bitAt ((List.range n).foldl flipAt m) q = (bitAt m q ^^ decide (q < n))
  | 0, _, q => by simp
  | n + 1, h, q => by
    rw [List.range_succ, List.foldl_append]
    show bitAt (flipAt _ n) q = _
    have hl : ((List.range n).foldl flipAt m).length = m.length := foldl_len _ flipAt_len _ _
    rw [flipAt_at, range_flips m n (by omega) q, hl]
    by_cases hq : q = n
    · subst hq
      rw [if_pos ⟨rfl, by omega⟩]
      simp
    · rw [if_neg (fun x => hq x.1)]
      congr 1
      rw [decide_eq_decide]
      omega
theorem bitAt_append (m r : List Bool) (q : Nat) : bitAt (m ++ r) q = if q < m.length then bitAt m q else bitAt r (q - m.length) := by
  unfold bitAt
  split
  · rename_i h; rw [List.getElem?_append_left h]
  · rename_i h; rw [List.getElem?_append_right (by omega)]
theorem bitAt_false (n q : Nat) : bitAt (List.replicate n false) q = false := by
  unfold bitAt
  rw [List.getElem?_replicate]
  split <;> rfl
theorem initD_at (m : List Bool) (q : Nat) : bitAt (initD m) q = (bitAt m q ^^ decide (q < 32)) := by
  unfold initD
  rw [range_flips _ 32 (by simp), bitAt_append, bitAt_false]
  congr 1
  split
  · rfl
  · rw [bitAt_ge (by omega)]
theorem regB_take {m : List Bool} {j : Nat} (h : j < m.length) : regB (m.take (j + 1)) = bitB (regB (m.take j)) (bitAt m j) := by
  have hj : m[j]? = some (bitAt m j) := by unfold bitAt; rw [List.getElem?_eq_getElem h]; rfl
  unfold regB
  rw [take_at hj, List.foldl_append]
  rfl
theorem ones_at : ∀ p : Fin 32, (4294967295#32).getLsbD p.val = true := by decide +kernel
theorem div_reg (m : List Bool) : ∀ j, j ≤ m.length → ∀ p, bitAt (divD m j) (j + p) = ((regB (m.take j)).getLsbD p ^^ bitAt m (j + p))
  | 0, _, p => by
    have e : divD m 0 = initD m := by unfold divD; rw [List.range_zero, List.foldl_nil]
    have hr : (regB (m.take 0)).getLsbD p = decide (p < 32) := by
      have : regB (m.take 0) = 4294967295#32 := by unfold regB; rw [List.take_zero, List.foldl_nil]
      rw [this]
      by_cases hp : p < 32
      · rw [ones_at ⟨p, hp⟩]; simp [hp]
      · rw [BitVec.getLsbD_of_ge _ _ (by omega)]; simp [hp]
    rw [e, initD_at, Nat.zero_add, hr, Bool.xor_comm]
  | j + 1, hj, p => by
    have ih := div_reg m j (by omega)
    have e : divD m (j + 1) = stepD (divD m j) j := by unfold divD; rw [List.range_succ, List.foldl_append]; rfl
    have hb : bitAt (divD m j) j = ((regB (m.take j)).getLsbD 0 ^^ bitAt m j) := ih 0
    rw [e, stepD_at (by rw [divD_len]; omega), show j + 1 + p = j + (p + 1) by omega, ih (p + 1), regB_take (by omega), bitB, stepB_at, BitVec.getLsbD_xor, BitVec.getLsbD_xor, oneB_at, oneB_at, hb]
    have ht : decide (∃ k ∈ tapsD, j + (p + 1) = j + 32 - k) = polyB.getLsbD p := by
      by_cases hp : p < 32
      · rw [poly_at ⟨p, hp⟩, decide_eq_decide]
        constructor
        · rintro ⟨k, hk, e⟩; exact ⟨k, hk, by have := tapsD_le k hk; show p + k = 31; omega⟩
        · rintro ⟨k, hk, e⟩; exact ⟨k, hk, by have : p + k = 31 := e; omega⟩
      · rw [BitVec.getLsbD_of_ge _ _ (by omega)]
        apply decide_eq_false
        rintro ⟨k, hk, e⟩
        omega
    rw [ht]
    simp only [Nat.add_eq_zero_iff, Nat.one_ne_zero, and_false, decide_false, Bool.false_and, Bool.xor_false, decide_true, Bool.true_and]
    cases (regB (List.take j m)).getLsbD (p + 1) <;> cases bitAt m (j + (p + 1)) <;> simp
theorem numD_reg (c : BitVec 32) {left : List Bool} (hl : left.length = 32) (h : ∀ p, p < 32 → bitAt left p = !c.getLsbD p) : ∀ k, k ≤ 32 → numD left k = ((c.toNat / 2 ^ (32 - k) : Nat) : Int)
  | 0, _ => by
    have := c.isLt
    show (0 : Int) = _
    rw [Nat.div_eq_of_lt (by simpa using this)]
    rfl
  | k + 1, hk => by
    have ih := numD_reg c hl h k (by omega)
    have hb : (left[31 - k]?).getD false = !c.getLsbD (31 - k) := h (31 - k) (by omega)
    rw [numD, ih, hb]
    have hlt := c.isLt
    have e1 : 32 - k = (31 - k) + 1 := by omega
    have e2 : 32 - (k + 1) = 31 - k := by omega
    rw [e1, e2, Nat.pow_succ, ← Nat.div_div_eq_div_mul]
    have ht : c.getLsbD (31 - k) = decide (c.toNat / 2 ^ (31 - k) % 2 = 1) := by rw [BitVec.getLsbD, Nat.testBit_eq_decide_div_mod_eq]
    rw [ht]
    have hv : c.toNat / 2 ^ (31 - k) ≤ 4294967295 := Nat.le_trans (Nat.div_le_self _ _) (by omega)
    generalize c.toNat / 2 ^ (31 - k) = v at hv ⊢
    have ew : IntKind.wrap .u32 (((v / 2 : Nat) : Int) * 2) = ((v / 2 * 2 : Nat) : Int) := by rw [wu32 (by omega)]; omega
    rw [ew]
    by_cases h1 : v % 2 = 1
    · rw [if_pos (by simp [h1]), wu32 (by omega)]
      omega
    · rw [if_neg (by simp [h1])]
      omega
theorem sum_same {l : List Int} (h : BytesOk l) : sumD l = sumF l := by
  rw [sumF_reg h]
  unfold sumD
  have hlen := bitsU_len l
  generalize bitsU l = m
  have hd := divD_len m m.length
  rw [numD_reg (4294967295#32 ^^^ regB m) (by rw [List.length_drop, hd]; omega) (fun p hp => ?_) 32 (Nat.le_refl _)]
  · simp [toI]
  · have := div_reg m m.length (Nat.le_refl _) p
    rw [List.take_length, bitAt_ge (L := m) (by omega), Bool.xor_false] at this
    have e : bitAt ((divD m m.length).drop m.length) p = bitAt (divD m m.length) (m.length + p) := by unfold bitAt; rw [List.getElem?_drop]
    rw [e, this, BitVec.getLsbD_xor]
    rw [ones_at ⟨p, hp⟩]
    simp
end Go.Proofs.YtchhhjlpnecjkaaGreat
namespace Go.Proofs.YtchhhjlpnecjkaaGreat
open Go Go.RowKit Go.Proofs.YtchhhjlpnecjkaaGreat.Den
variable {R : Type} {Q : R → World → Prop} {w : World}
theorem sumF_range {l : List Int} (h : BytesOk l) : 0 ≤ sumF l ∧ sumF l ≤ 4294967295 := by
  rw [sumF_reg h]
  have := (4294967295#32 ^^^ regB (bitsU l)).isLt
  unfold toI
  omega
theorem tailF_eq {s : Int} (h : 0 ≤ s ∧ s ≤ 4294967295) : tailF s = [IntKind.wrap .u8 s, IntKind.wrap .u8 (IntKind.wrap .u32 (Int.tdiv s 256)), IntKind.wrap .u8 (IntKind.wrap .u32 (Int.tdiv s 65536)), IntKind.wrap .u8 (IntKind.wrap .u32 (Int.tdiv s 16777216))] := by
  have sh : ∀ i : Nat, i < 4 → shR .u32 s (8 * (i : Int)) = s / 2 ^ (8 * i) := fun i hi => by
    unfold shR
    have : min (8 * (i : Int)).toNat (IntKind.bits .u32) = 8 * i := by
      show min (8 * (i : Int)).toNat 32 = 8 * i
      omega
    rw [this, Int.fdiv_eq_ediv_of_nonneg _ (by exact_mod_cast Nat.zero_le (2 ^ (8 * i)))]
  unfold tailF
  show [IntKind.wrap .u8 (shR .u32 s (8 * ((0 : Nat) : Int))), IntKind.wrap .u8 (shR .u32 s (8 * ((1 : Nat) : Int))), IntKind.wrap .u8 (shR .u32 s (8 * ((2 : Nat) : Int))), IntKind.wrap .u8 (shR .u32 s (8 * ((3 : Nat) : Int)))] = _
  rw [sh 0 (by decide), sh 1 (by decide), sh 2 (by decide), sh 3 (by decide), Int.tdiv_eq_ediv_of_nonneg h.1, Int.tdiv_eq_ediv_of_nonneg h.1, Int.tdiv_eq_ediv_of_nonneg h.1, wu32 (x := s / 256) (by omega), wu32 (x := s / 65536) (by omega), wu32 (x := s / 16777216) (by omega)]
  simp
theorem tailF_ok (s : Int) : BytesOk (tailF s) := fun x hx => by
  unfold tailF at hx
  obtain ⟨i, _, rfl⟩ := List.mem_map.1 hx
  rw [IntKind.wrap_u8]
  omega
theorem tailF_len (s : Int) : (tailF s).length = 4 := by simp [tailF]
theorem sealF_ok {l : List Int} (h : BytesOk l) : BytesOk (sealF l) := fun x hx => by
  rcases List.mem_append.1 hx with hx | hx
  · exact h x hx
  · exact tailF_ok _ x hx
theorem sealF_len (l : List Int) : (sealF l).length = l.length + 4 := by unfold sealF; rw [List.length_append, tailF_len]
theorem blkSl {b : Nat} {T : TypeId} {cs : List Value} {t : Ty} {l : List t.T} (B : Blk w b T cs) (hc : cs = l.flatMap t.cells) {n : Nat} (hn : n = l.length) : SlT (fun k => k = b) w t ⟨some ⟨b, 0, none⟩, n, n⟩ l :=
  ⟨hn, Nat.le_refl _, .inr ⟨b, 0, rfl, rfl, B.lt, fun i x hx => Rd.cells.2 (B.cells _ _ fun j u hj => by rw [hc, Nat.zero_add]; exact flat_at hx j u hj)⟩⟩
theorem freshB {ok : Nat → Prop} {s : Sl} {l : List Int} (hS : SlT ok w u8T s l) (hm : l.length ≤ 140737488355328) {K : Sl → W R} (hk : ∀ r w', Own (Up w.heap.size) w' 5 u8T r l → Fr None w w' → K r Q w') :
    newW 5 [] (fun x => rawW Tryz.prog (Builtin.append_ #[22, 22] 22 #[.slice (some x) 0 0, .slice s.a s.n s.c]) [.sc .sl] K) Q w := by
  refine newI fun w1 B1 f1 s1 => ?_
  have own := Own.mk' (S := Up w.heap.size) (w := w1) (E := 5) (t := u8T) (l := []) (g := w.heap.size) (c := 0) (cur := ⟨[]⟩) (Nat.le_refl _) B1 (Nat.le_refl _) (Nat.zero_le _) (by simp) (by simp)
  refine appI (s := ⟨some ⟨w.heap.size, 0, none⟩, 0, 0⟩) (s2 := s) (S' := Up w.heap.size) bytes_ty own (hS.fr0 f1) (by simp; omega) (by rw [maxLen_eq]; simp; omega) (fun _ h => h) (by show _ ≤ _; omega) fun r w2 o2 f2 s2 => hk r w2 (by simpa using o2) (f1.newer f2 (fun x e => own.own x e))
theorem spec_r3_Seal {ok : Nat → Prop} {s : Sl} {l : List Int} (hS : SlT ok w u8T s l) (hb : BytesOk l) (hm : l.length ≤ 140737488355000) {K : Res [.sc .sl, .sc (.int .i64)] → W R} (h1 : 4096 < l.length → K (⟨none, 0, 0⟩, 3) Q w) (hk : l.length ≤ 4096 → ∀ r w', Own (Up w.heap.size) w' 5 u8T r (sealF l) → Fr None w w' → K (r, 0) Q w') :
    callW Tryz.prog k_pinnaceref03_Seal [.slice s.a s.n s.c] [.sc .sl, .sc (.int .i64)] K Q w := by
  refine C_pinnaceref03_Seal s K Q w ?_
  unfold F_pinnaceref03_Seal
  have hlen := hS.len
  refine condD (fun h => h1 (by omega)) fun h => ?_
  refine spec_r3_Sum hS hb (by omega) fun w1 f1 => ?_
  rw [sum_same hb]
  have hr := sumF_range hb
  refine freshB (hS.fr0 f1) (by omega) fun x w2 o2 f2 => ?_
  have z1 := f1.size
  have z2 := f2.size
  refine newI fun w3 B3 f3 t3 => ?_
  have hS3 := blkSl (t := u8T) (l := tailF (sumF l)) (n := 4) B3 (by rw [tailF_eq hr]; rfl) (by rw [tailF_len])
  refine appI bytes_ty (S' := Up w.heap.size) (s2 := ⟨some ⟨w2.heap.size, 0, none⟩, 4, 4⟩) (o2.none f3) hS3 (by rw [tailF_len]; omega) (by rw [maxLen_eq, tailF_len]; omega) (fun k h => by have h : w1.heap.size ≤ k := h; show w.heap.size ≤ k; omega) (by show w.heap.size ≤ _; omega) fun r w4 o4 f4 _ => ?_
  exact hk (by omega) r w4 o4 (((f1.then0 f2).then0 f3).newer f4 fun k e => by have := o2.own k e; have : w1.heap.size ≤ k := this; omega)
theorem spec_r3_Open {ok : Nat → Prop} {s : Sl} {l : List Int} (hS : SlT ok w u8T s l) (hb : BytesOk l) (hm : l.length ≤ 140737488355000) {K : Res [.sc .sl, .sc (.int .i64)] → W R} (h1 : ∀ w', Fr None w w' → (l.length < 4 → K (⟨none, 0, 0⟩, 2) Q w') ∧ (4100 < l.length → K (⟨none, 0, 0⟩, 3) Q w') ∧ (4 ≤ l.length → l.length ≤ 4100 → sealF (l.take (l.length - 4)) ≠ l → K (⟨none, 0, 0⟩, 6) Q w'))
    (hk : 4 ≤ l.length → l.length ≤ 4100 → sealF (l.take (l.length - 4)) = l → ∀ r w', Own (Up w.heap.size) w' 5 u8T r (l.take (l.length - 4)) → Fr None w w' → K (r, 0) Q w') :
    callW Tryz.prog k_pinnaceref03_Open [.slice s.a s.n s.c] [.sc .sl, .sc (.int .i64)] K Q w := by
  refine C_pinnaceref03_Open s K Q w ?_
  unfold F_pinnaceref03_Open
  have hlen := hS.len
  refine condD (fun h => (h1 w (Fr.refl _ _)).1 (by omega)) fun ha => ?_
  refine condD (fun h => (h1 w (Fr.refl _ _)).2.1 (by omega)) fun hc => ?_
  refine hS.cutI (n := l.length - 4) (by rw [w64 (by omega)]; omega) (by omega) fun s' _ hs' => ?_
  have hS' := hs' ok w hS
  have hbt : BytesOk (l.take (l.length - 4)) := fun x hx => hb x (List.mem_of_mem_take hx)
  have hlt : (l.take (l.length - 4)).length = l.length - 4 := by rw [List.length_take]; omega
  refine spec_r3_Seal hS' hbt (by omega) (fun h => by omega) fun _ r w1 o1 f1 => ?_
  refine spec_r1_Same o1.sl (hS.fr0 f1) (sealF_ok hbt) hb ?_
  refine condI (fun h => ?_) fun h => ?_
  · exact (h1 w1 f1).2.2 (by omega) (by omega) (by simpa using h)
  · refine freshB (hS'.fr0 f1) (by omega) fun r2 w2 o2 f2 => ?_
    exact hk (by omega) (by omega) (by simpa using h) r2 w2 (o2.up f1.size) (f1.then0 f2)
end Go.Proofs.YtchhhjlpnecjkaaGreat
namespace Go.Proofs.YtchhhjlpnecjkaaGreat
open Go Go.RowKit Go.Proofs.YtchhhjlpnecjkaaGreat.Den
theorem bitAt_bits (v : Nat) : ∀ n i, bitAt (bitsOf v n) i = (decide (i < n) && v.testBit i)
  | 0, i => by simp [bitsOf, bitAt]
  | n + 1, i => by
    rw [bitsOf, bitAt_snoc, bitsOf_len, bitAt_bits v n i]
    by_cases h : i = n
    · subst h; simp
    · rw [if_neg h]
      congr 1
      rw [decide_eq_decide]
      omega
theorem bitAt_bitsU : ∀ (l : List Int) (j i : Nat) (x : Int), l[j]? = some x → i < 8 → bitAt (bitsU l) (8 * j + i) = x.toNat.testBit i
  | [], j, i, x, h, _ => by simp at h
  | y :: r, j, i, x, h, hi => by
    have e : bitsU (y :: r) = bitsOf y.toNat 8 ++ bitsU r := rfl
    rw [e, bitAt_append, bitsOf_len]
    rcases j with _ | j
    · simp at h
      subst h
      rw [if_pos (by omega), bitAt_bits, Nat.mul_zero, Nat.zero_add]
      simp [hi]
    · rw [if_neg (by omega), show 8 * (j + 1) + i - 8 = 8 * j + i by omega]
      exact bitAt_bitsU r j i x (by simpa using h) hi
theorem byte8 : ∀ b0 b1 b2 b3 b4 b5 b6 b7 : Bool, ∀ i : Fin 8, (bitN b0 + 2 * bitN b1 + 4 * bitN b2 + 8 * bitN b3 + 16 * bitN b4 + 32 * bitN b5 + 64 * bitN b6 + 128 * bitN b7).testBit i.val = [b0, b1, b2, b3, b4, b5, b6, b7].getD i.val false := by decide +kernel
theorem byteAt_bit (L : List Bool) (j i : Nat) (hi : i < 8) : (byteAt L j).testBit i = bitAt L (8 * j + i) := by
  unfold byteAt
  rw [byte8 _ _ _ _ _ _ _ _ ⟨i, hi⟩]
  rcases (show i = 0 ∨ i = 1 ∨ i = 2 ∨ i = 3 ∨ i = 4 ∨ i = 5 ∨ i = 6 ∨ i = 7 by omega) with rfl | rfl | rfl | rfl | rfl | rfl | rfl | rfl <;> rfl
theorem list_bits {A B : List Bool} (hl : A.length = B.length) (h : ∀ k, k < A.length → bitAt A k = bitAt B k) : A = B := by
  apply List.ext_getElem hl
  intro k h1 h2
  have := h k h1
  unfold bitAt at this
  rw [List.getElem?_eq_getElem h1, List.getElem?_eq_getElem h2] at this
  simpa using this
theorem bits_pack (L : List Bool) : bitsU (packM L) = L ++ List.replicate (8 * ((L.length + 7) / 8) - L.length) false := by
  have hlen : (bitsU (packM L)).length = 8 * ((L.length + 7) / 8) := by rw [bitsU_len, packM_len]
  refine list_bits (by rw [hlen, List.length_append, List.length_replicate]; omega) fun k hk => ?_
  rw [hlen] at hk
  have hj : k / 8 < (packM L).length := by rw [packM_len]; omega
  have hx : (packM L)[k / 8]? = some (byteAt L (k / 8) : Int) := by
    unfold packM
    rw [List.getElem?_map, List.getElem?_range (by rw [packM_len] at hj; exact hj)]
    rfl
  have := bitAt_bitsU (packM L) (k / 8) (k % 8) _ hx (Nat.mod_lt _ (by decide))
  rw [show 8 * (k / 8) + k % 8 = k by omega, Int.toNat_natCast, byteAt_bit L _ _ (Nat.mod_lt _ (by decide)), show 8 * (k / 8) + k % 8 = k by omega] at this
  rw [this, bitAt_append, bitAt_false]
  split
  · rfl
  · exact bitAt_ge (by omega)
theorem lost_bit (a b : List Comp) {k : Nat} (hk : k < 6) : (lostM a b).toNat.testBit k = (has a k && !has b k) := by
  have h1 := maskN_lt a
  have h2 := maskN_lt b
  have e : (lostM a b).toNat = (BitVec.ofInt 8 (maskN a : Int) &&& ~~~BitVec.ofInt 8 (maskN b : Int)).toNat := by
    unfold lostM bNot
    have := (BitVec.ofInt 8 (maskN a : Int) &&& ~~~BitVec.ofInt 8 (maskN b : Int)).isLt
    show (IntKind.wrap .u8 ((BitVec.ofInt 8 (maskN a : Int) &&& ~~~BitVec.ofInt 8 (maskN b : Int)).toNat : Int)).toNat = _
    rw [wu8 (by omega), Int.toNat_natCast]
  have e2 : ∀ m : Nat, m < 64 → (BitVec.ofInt 8 (m : Int)).getLsbD k = m.testBit k := fun m hm => by
    rw [BitVec.getLsbD, BitVec.toNat_ofInt]
    congr 1
    omega
  rw [e]
  show (BitVec.ofInt 8 (maskN a : Int) &&& ~~~BitVec.ofInt 8 (maskN b : Int)).getLsbD k = _
  rw [BitVec.getLsbD_and, BitVec.getLsbD_not, e2 _ h1, e2 _ h2, maskN_bit a hk, maskN_bit b hk]
  simp [show k < 8 by omega]
theorem has_mem {l : List Comp} {k : Nat} : has l k = true ↔ ∃ c ∈ l, c.1 = (k : Int) := by simp [has]
theorem findC_none {l : List Comp} {k : Int} (h : (findC l k).2 = false) : ∀ c ∈ l, c.1 ≠ k := by
  unfold findC at h
  split at h
  · cases h
  · rename_i hn
    rw [List.findIdx?_eq_none_iff] at hn
    intro c hc
    simpa using hn c hc
theorem findC_some {l : List Comp} {k : Int} (h : (findC l k).2 = true) : (findC l k).1 ∈ l ∧ (findC l k).1.1 = k := by
  unfold findC at h ⊢
  split at h
  · rename_i i hi
    rw [List.findIdx?_eq_some_iff_getElem] at hi
    obtain ⟨hl, he, _⟩ := hi
    simp only
    rw [List.getElem?_eq_getElem hl]
    exact ⟨List.getElem_mem hl, by simpa using he⟩
  · cases h
theorem kind_one {l : List Comp} (h : listE l = 0) {a b : Comp} (ha : a ∈ l) (hb : b ∈ l) (e : a.1 = b.1) : a = b := by
  have hr := (listE_0.1 h).2
  obtain ⟨i, hi⟩ := List.mem_iff_getElem?.1 ha
  obtain ⟨j, hj⟩ := List.mem_iff_getElem?.1 hb
  rcases Nat.lt_trichotomy i j with h1 | h1 | h1
  · have := rising_lt hr h1 hi hj; omega
  · subst h1; rw [hi] at hj; cases hj; rfl
  · have := rising_lt hr h1 hj hi; omega
theorem change_mem {a b : Ent} (ha : listE a.2 = 0) (hb : listE b.2 = 0) (c : Comp) : c ∈ b.2 ↔ (c ∈ newM a.2 b.2 ∨ c ∈ chM a.2 b.2 ∨ (c ∈ a.2 ∧ (lostM a.2 b.2).toNat.testBit c.1.toNat = false ∧ ∀ d ∈ chM a.2 b.2, d.1 ≠ c.1)) := by
  have kr : ∀ {l : List Comp}, listE l = 0 → ∀ x ∈ l, 0 ≤ x.1 ∧ x.1 < 6 := fun hl x hx => by have := checkM_kind ((listE_0.1 hl).1 x hx); omega
  constructor
  · intro hc
    by_cases hf : (findC a.2 c.1).2 = true
    · by_cases he : (findC a.2 c.1).1 = c
      · obtain ⟨h1, h2⟩ := findC_some hf
        rw [he] at h1
        refine .inr (.inr ⟨h1, ?_, fun d hd e => ?_⟩)
        · have := kr hb c hc
          rw [lost_bit _ _ (by omega)]
          have : has b.2 c.1.toNat = true := has_mem.2 ⟨c, hc, by omega⟩
          rw [this]; simp
        · obtain ⟨h3, h4⟩ := List.mem_filter.1 hd
          have hdc := kind_one hb h3 hc e
          subst hdc
          rw [he] at h4
          simp at h4
      · exact .inr (.inl (List.mem_filter.2 ⟨hc, by simp [hf, he]⟩))
    · exact .inl (List.mem_filter.2 ⟨hc, by simpa using hf⟩)
  · rintro (hc | hc | ⟨hc, hl, hs⟩)
    · exact (List.mem_filter.1 hc).1
    · exact (List.mem_filter.1 hc).1
    · have hk := kr ha c hc
      rw [lost_bit _ _ (by omega)] at hl
      have h1 : has a.2 c.1.toNat = true := has_mem.2 ⟨c, hc, by omega⟩
      rw [h1] at hl
      have h2 : has b.2 c.1.toNat = true := by simpa using hl
      obtain ⟨d, hd, e⟩ := has_mem.1 h2
      have e : d.1 = c.1 := by omega
      have hf : (findC a.2 d.1).2 = true := by
        refine Classical.byContradiction fun hn => ?_
        have hn : (findC a.2 d.1).2 = false := by simpa using hn
        exact findC_none hn c hc e.symm
      obtain ⟨g1, g2⟩ := findC_some hf
      have hx := kind_one ha g1 hc (by rw [g2, e])
      by_cases hcd : c = d
      · rw [hcd]; exact hd
      · refine absurd e (hs d (List.mem_filter.2 ⟨hd, ?_⟩))
        rw [hf, hx]
        simp [hcd]
theorem comps_ext {l k : List Comp} (hl : listE l = 0) (hk : listE k = 0) (h : ∀ c, c ∈ l ↔ c ∈ k) : l = k := by
  have hr := rising_ext (listE_0.1 hl).2 (listE_0.1 hk).2 fun x => by
    simp only [List.mem_map]
    exact ⟨fun ⟨c, hc, e⟩ => ⟨c, (h c).1 hc, e⟩, fun ⟨c, hc, e⟩ => ⟨c, (h c).2 hc, e⟩⟩
  have hlen : l.length = k.length := by have := congrArg List.length hr; simpa using this
  apply List.ext_getElem hlen
  intro i h1 h2
  have e : (l.map (·.1))[i]? = (k.map (·.1))[i]? := by rw [hr]
  rw [List.getElem?_map, List.getElem?_map, List.getElem?_eq_getElem h1, List.getElem?_eq_getElem h2] at e
  have e : l[i].1 = k[i].1 := by simpa using e
  exact kind_one hk ((h _).1 (List.getElem_mem h1)) (List.getElem_mem h2) e
theorem change_inj {a b b' : Ent} (ha : listE a.2 = 0) (hb : listE b.2 = 0) (hb' : listE b'.2 = 0) (h : (changeM a b).2 = (changeM a b').2) : b.2 = b'.2 := by
  have h1 : lostM a.2 b.2 = lostM a.2 b'.2 := congrArg (·.1) h
  have h2 : newM a.2 b.2 = newM a.2 b'.2 := congrArg (·.2.1) h
  have h3 : chM a.2 b.2 = chM a.2 b'.2 := congrArg (·.2.2) h
  refine comps_ext hb hb' fun c => ?_
  rw [change_mem ha hb, change_mem ha hb', h1, h2, h3]
theorem ids_ext : ∀ {l k : List Ent}, (l.Pairwise fun a b => a.1 < b.1) → (k.Pairwise fun a b => a.1 < b.1) → (∀ x, x ∈ l ↔ x ∈ k) → l = k
  | [], [], _, _, _ => rfl
  | [], y :: k, _, _, h => by have := (h y).2 List.mem_cons_self; cases this
  | x :: l, [], _, _, h => by have := (h x).1 List.mem_cons_self; cases this
  | x :: l, y :: k, hl, hk, h => by
    obtain ⟨l1, l2⟩ := List.pairwise_cons.1 hl
    obtain ⟨k1, k2⟩ := List.pairwise_cons.1 hk
    have hxy : x = y := by
      rcases List.mem_cons.1 ((h x).1 List.mem_cons_self) with e | e
      · exact e
      · rcases List.mem_cons.1 ((h y).2 List.mem_cons_self) with e2 | e2
        · exact e2.symm
        · have := k1 x e; have := l1 y e2; omega
    subst hxy
    rw [ids_ext l2 k2 fun z => ?_]
    constructor
    · intro hz
      rcases List.mem_cons.1 ((h z).1 (List.mem_cons_of_mem _ hz)) with e | e
      · subst e; have := l1 z hz; omega
      · exact e
    · intro hz
      rcases List.mem_cons.1 ((h z).2 (List.mem_cons_of_mem _ hz)) with e | e
      · subst e; have := k1 z hz; omega
      · exact e
theorem id_one {L : List Ent} (h : L.Pairwise fun a b => a.1 < b.1) {a b : Ent} (ha : a ∈ L) (hb : b ∈ L) (e : a.1 = b.1) : a = b := by
  obtain ⟨i, hi⟩ := List.mem_iff_getElem?.1 ha
  obtain ⟨j, hj⟩ := List.mem_iff_getElem?.1 hb
  rcases Nat.lt_trichotomy i j with h1 | h1 | h1
  · have := ids_lt h h1 hi hj; omega
  · subst h1; rw [hi] at hj; cases hj; rfl
  · have := ids_lt h h1 hj hi; omega
theorem chgOne_some {was : List Ent} (hw : was.Pairwise fun a b => a.1 < b.1) {a e : Ent} (ha : a ∈ was) (he : a.1 = e.1) : chgOne was e = if nothingM (changeM a e) = true then none else some (changeM a e) := by
  obtain ⟨i, hi⟩ := List.mem_iff_getElem?.1 ha
  unfold chgOne
  rw [← he, find_at hw hi]
theorem chgOne_id {was : List Ent} {e : Ent} {d : Chg} (h : chgOne was e = some d) : d.1 = e.1 ∧ ∃ a ∈ was, a.1 = e.1 ∧ d = changeM a e ∧ nothingM (changeM a e) = false := by
  unfold chgOne at h
  split at h
  · cases h
  · rename_i a ha
    split at h
    · cases h
    · rename_i hn
      cases h
      exact ⟨rfl, a, List.mem_of_find?_eq_some ha, by have := List.find?_some ha; simpa using this, rfl, by simpa using hn⟩
theorem nothing_eq {d : Chg} (h : nothingM d = true) : d.2 = (0, [], []) := by
  unfold nothingM at h
  obtain ⟨a, b, c⟩ := of_decide_eq_true h
  exact Prod.ext a (Prod.ext (List.length_eq_zero_iff.1 b) (List.length_eq_zero_iff.1 c))
theorem delta_sub {was x y : List Ent} (hw : FormOk was) (hx : FormOk x) (hy : FormOk y) (hg : goneM was x = goneM was y) (hc : comeM was x = comeM was y) (hd : chgsM was x = chgsM was y) : ∀ e ∈ x, e ∈ y := by
  intro e he
  by_cases hh : hasE was e.1 = true
  · obtain ⟨a, ha, hae⟩ := hasE_iff.1 hh
    have hny : hasE y a.1 = true := by
      refine Classical.byContradiction fun hn => ?_
      have hn : hasE y a.1 = false := by simpa using hn
      have : a.1 ∈ goneM was y := List.mem_map.2 ⟨a, List.mem_filter.2 ⟨ha, by rw [hn]; rfl⟩, rfl⟩
      rw [← hg] at this
      obtain ⟨a2, ha2, e2⟩ := List.mem_map.1 this
      have h3 := (List.mem_filter.1 ha2).2
      have : hasE x a2.1 = true := hasE_iff.2 ⟨e, he, by rw [e2, hae]⟩
      rw [this] at h3
      cases h3
    obtain ⟨e', he', hid⟩ := hasE_iff.1 hny
    have hee : e.1 = e'.1 := by rw [hid, hae]
    have o1 := chgOne_some hw.rise ha hae
    have o2 := chgOne_some hw.rise ha hid.symm
    have key : (changeM a e).2 = (changeM a e').2 := by
      by_cases hn : nothingM (changeM a e) = true
      · by_cases hn' : nothingM (changeM a e') = true
        · rw [nothing_eq hn, nothing_eq hn']
        · rw [if_neg hn'] at o2
          have : changeM a e' ∈ chgsM was y := List.mem_filterMap.2 ⟨e', he', o2⟩
          rw [← hd] at this
          obtain ⟨e2, h2, h3⟩ := List.mem_filterMap.1 this
          have h4 := (chgOne_id h3).1
          have : e2 = e := id_one hx.rise h2 he (by rw [← h4, hee]; rfl)
          subst this
          rw [o1, if_pos hn] at h3
          cases h3
      · rw [if_neg hn] at o1
        have : changeM a e ∈ chgsM was x := List.mem_filterMap.2 ⟨e, he, o1⟩
        rw [hd] at this
        obtain ⟨e2, h2, h3⟩ := List.mem_filterMap.1 this
        have h4 := (chgOne_id h3).1
        have : e2 = e' := id_one hy.rise h2 he' (by rw [← h4, ← hee]; rfl)
        subst this
        rw [o2] at h3
        split at h3
        · cases h3
        · injection h3 with h3
          rw [h3]
    have := change_inj (hw.list ha) (hx.list he) (hy.list he') key
    have : e = e' := Prod.ext hee this
    rw [this]
    exact he'
  · have hh : hasE was e.1 = false := by simpa using hh
    have : e ∈ comeM was x := List.mem_filter.2 ⟨he, by rw [hh]; rfl⟩
    rw [hc] at this
    exact (List.mem_filter.1 this).1
theorem delta_inj {was x y : List Ent} (hw : FormOk was) (hx : FormOk x) (hy : FormOk y) (hg : goneM was x = goneM was y) (hc : comeM was x = comeM was y) (hd : chgsM was x = chgsM was y) : x = y :=
  ids_ext hx.rise hy.rise fun e => ⟨delta_sub hw hx hy hg hc hd e, delta_sub hw hy hx hg.symm hc.symm hd.symm e⟩
end Go.Proofs.YtchhhjlpnecjkaaGreat
namespace Go.Proofs.YtchhhjlpnecjkaaGreat
open Go Go.RowKit Go.Proofs.YtchhhjlpnecjkaaGreat.Den
theorem keepM_0 {e x : Int} (h : keepM e x = 0) : e = 0 ∧ x = 0 := by
  unfold keepM at h
  split at h
  · exact ⟨by assumption, h⟩
  · exact absurd h (by assumption)
theorem masked_of {L : List Ent} (h : FormOk L) {e : Ent} (he : e ∈ L) (hm : maskN e.2 < 32) : Masked e.2 := ⟨h.list he, hm⟩
theorem sub_list {l k : List Comp} (hl : listE l = 0) (hs : ∀ c ∈ k, c ∈ l) (hr : Rising (k.map (·.1))) : listE k = 0 := listE_0.2 ⟨fun c hc => (listE_0.1 hl).1 c (hs c hc), hr⟩
theorem filter_list {l : List Comp} (hl : listE l = 0) (p : Comp → Bool) : listE (l.filter p) = 0 := by
  refine sub_list hl (fun c hc => (List.mem_filter.1 hc).1) ?_
  have := (listE_0.1 hl).2
  unfold Rising at this ⊢
  rw [List.pairwise_map] at this ⊢
  exact this.filter p
abbrev Res2 := List Ent × Delta
def resM (h : Head) (was now : List Ent) : Res2 := if h.1 = 1 then (now, ([], [], [])) else if h.1 = 2 then ([], (goneM was now, comeM was now, chgsM was now)) else ([], ([], [], []))
def resD (k : Int) (was : List Ent) (L : List Bool) : Option (Res2 × List Bool) := if k = 1 then (match entsD L with
    | none => none
    | some (l, L) => some ((l, ([], [], [])), L))
  else if k = 2 then (match deltaD was L with
    | none => none
    | some (d, L) => some (([], d), L))
  else some (([], ([], [], [])), L)
def bodyD (was : List Ent) (L : List Bool) : Option (Head × Res2) := match headD L with
  | none => none
  | some (h, L) => match resD h.1 was L with
    | none => none
    | some (r, _) => some (h, r)
structure SealOk (h : Head) (was now : List Ent) : Prop where
  head : headE h = 0
  one : h.1 = 1 → FormOk now
  two : h.1 = 2 → FormOk was ∧ FormOk now
  rest : h.1 ≠ 1 → h.1 ≠ 2 → now = []
theorem seal_put {h : Head} {was now : List Ent} (hok : HeadOk h) (hm1 : was.length ≤ 1048576) (hm2 : now.length ≤ 1048576) (hL1 : ∀ e ∈ was, EntFit e) (hL2 : ∀ e ∈ now, EntFit e) (he : sealE h was now = 0) :
    SealOk h was now ∧ ∀ s, bodyD was ((sealW h was now).1 ++ s) = some (h, resM h was now) := by
  have h0 : headE h = 0 := by
    unfold sealE at he
    split at he
    · exact absurd he (by assumption)
    · omega
  have hw : (sealW h was now).2 = 0 := by
    unfold sealE at he
    rw [if_neg (by omega)] at he
    split at he
    · exact absurd he (by assumption)
    · omega
  have idok : ∀ e ∈ now, IdOk e.1 := fun e he => (hL2 e he).1
  by_cases k1 : h.1 = 1
  · have eW : sealW h was now = if keepM (headM ([], 0) h).2 (formM 0 now) = 0 then entsW ((headM ([], 0) h).1, keepM (headM ([], 0) h).2 (formM 0 now)) now else ((headM ([], 0) h).1, keepM (headM ([], 0) h).2 (formM 0 now)) := by unfold sealW; rw [if_pos k1]
    rw [eW] at hw ⊢
    split at hw
    · rename_i hk
      rw [if_pos hk]
      obtain ⟨a, b⟩ := keepM_0 hk
      have fm := formOk.1 b
      obtain ⟨_, c, d⟩ := ents_bits hw
      obtain ⟨_, e⟩ := head_bits a
      refine ⟨⟨h0, fun _ => fm, fun k => absurd k (by omega), fun k => absurd k1 k⟩, fun s => ?_⟩
      rw [c, e]
      unfold bodyD
      simp only [List.nil_append, List.append_assoc]
      rw [headD_put hok h0]
      simp only
      unfold resD resM
      rw [if_pos k1, if_pos k1, entsD_put (by omega) fun e he => ⟨idok e he, masked_of fm he (d e he).1⟩]
    · exact absurd hw (by assumption)
  · by_cases k2 : h.1 = 2
    · have eW : sealW h was now = if diffE was now = 0 then deltaW was ((headM ([], 0) h).1, keepM (headM ([], 0) h).2 (diffE was now)) (goneM was now) (comeM was now) (chgsM was now) else ((headM ([], 0) h).1, keepM (headM ([], 0) h).2 (diffE was now)) := by unfold sealW; rw [if_neg k1, if_pos k2]
      rw [eW] at hw ⊢
      split at hw
      · rename_i hd
        rw [if_pos hd]
        have fw : FormOk was := formOk.1 (by
          unfold diffE at hd
          refine Classical.byContradiction fun hc => ?_
          rw [if_pos hc] at hd
          exact hc hd)
        have fn : FormOk now := formOk.1 (by
          unfold diffE at hd
          rw [if_neg (by rw [formOk.2 fw]; simp)] at hd
          exact hd)
        unfold deltaW at hw ⊢
        obtain ⟨a, b, c⟩ := chgs_bits hw
        obtain ⟨d, e, f⟩ := ents_bits a
        obtain ⟨g, i⟩ := gone_bits d
        obtain ⟨j, _⟩ := keepM_0 g
        obtain ⟨_, k⟩ := head_bits j
        refine ⟨⟨h0, fun k => absurd k k1, fun _ => ⟨fw, fn⟩, fun _ k => absurd k2 k⟩, fun s => ?_⟩
        rw [b, e, i, k]
        unfold bodyD
        simp only [List.nil_append, List.append_assoc]
        rw [headD_put hok h0]
        simp only
        unfold resD resM
        rw [if_neg k1, if_pos k2, if_neg k1, if_pos k2]
        have hg := goneM_fit (now := now) hL1 hm1
        have hc := comeM_fit (was := was) hL2 hm2
        have hh := chgsM_fit (was := was) hL2 hm2
        have := deltaD_put (was := was) (gone := goneM was now) (come := comeM was now) (chg := chgsM was now) ⟨by omega, hg.2⟩ ⟨by omega, fun e he => ⟨idok e (List.mem_filter.1 he).1, masked_of fn (List.mem_filter.1 he).1 (f e he).1⟩⟩ ⟨by omega, fun d hd => ?_⟩ s
        · unfold deltaB at this
          simp only [List.append_assoc] at this
          rw [this]
        · obtain ⟨c1, c2, c3, c4, c5⟩ := c d hd
          obtain ⟨e, he, hx⟩ := List.mem_filterMap.1 hd
          obtain ⟨_, a, ha, _, rfl, _⟩ := chgOne_id hx
          exact ⟨idok e he, ⟨(lostM_range _ _).1, c1⟩, ⟨filter_list (fn.list he) _, c2⟩, ⟨filter_list (fn.list he) _, c3⟩, c5⟩
      · exact absurd (keepM_0 hw).2 (by assumption)
    · have eW : sealW h was now = if 0 < now.length then ((headM ([], 0) h).1, keepM (headM ([], 0) h).2 4) else headM ([], 0) h := by unfold sealW; rw [if_neg k1, if_neg k2]
      rw [eW] at hw ⊢
      split at hw
      · exact absurd (keepM_0 hw).2 (by decide)
      · rename_i hl
        rw [if_neg hl]
        have hn : now = [] := List.length_eq_zero_iff.1 (by omega)
        obtain ⟨_, b⟩ := head_bits hw
        refine ⟨⟨h0, fun k => absurd k k1, fun k => absurd k k2, fun _ _ => hn⟩, fun s => ?_⟩
        rw [b]
        unfold bodyD
        rw [List.nil_append, headD_put hok h0]
        simp only
        unfold resD resM
        rw [if_neg k1, if_neg k2, if_neg k1, if_neg k2]
end Go.Proofs.YtchhhjlpnecjkaaGreat
namespace Go.Proofs.YtchhhjlpnecjkaaGreat
open Go Go.RowKit Go.Proofs.YtchhhjlpnecjkaaGreat.Den
variable {R : Type} {Q : R → World → Prop} {w : World}
end Go.Proofs.YtchhhjlpnecjkaaGreat
namespace Go.Proofs.YtchhhjlpnecjkaaGreat
open Go Go.RowKit Go.Proofs.YtchhhjlpnecjkaaGreat.Den
variable {R : Type} {Q : R → World → Prop} {w : World}
theorem inB_len (n lo hi : Int) : (inB n lo hi).length = widthM lo hi := bitsOf_len _ _
theorem partB_len (p : Part) : (partB p).length = p.2.toNat := bitsOf_len _ _
theorem flat_le {α β : Type} (f : α → List β) (m : Nat) : ∀ l : List α, (∀ a ∈ l, (f a).length ≤ m) → (l.flatMap f).length ≤ m * l.length
  | [], _ => by simp
  | a :: r, h => by
    have h1 := h a List.mem_cons_self
    have h2 := flat_le f m r fun x hx => h x (List.mem_cons_of_mem _ hx)
    rw [List.flatMap_cons, List.length_append, List.length_cons, Nat.mul_succ]
    omega
end Go.Proofs.YtchhhjlpnecjkaaGreat
namespace Go.Proofs.YtchhhjlpnecjkaaGreat
open Go Go.RowKit Go.Proofs.YtchhhjlpnecjkaaGreat.Den
variable {R : Type} {Q : R → World → Prop} {w : World}
theorem spec_r20_Check {h : Head} (hok : HeadOk h) {K : Res [.sc (.int .i64)] → W R} (hk : ∀ w', Fr None w w' → K (headE h) Q w') :
    callW Tryz.prog k_pinnaceref20_Check [.agg ⟨[.int .u8 h.1, .int .u8 h.2.1, .int .u32 h.2.2.1, .int .u32 h.2.2.2.1, .int .u32 h.2.2.2.2]⟩] [.sc (.int .i64)] K Q w := by
  refine C_pinnaceref20_Check h K Q w ?_
  unfold F_pinnaceref20_Check
  obtain ⟨⟨k0, k1⟩, ⟨c0, c1⟩, ⟨e0, e1⟩, ⟨t0, t1⟩, ⟨b0, b1⟩⟩ := hok
  unfold headE at hk
  refine newI fun w1 B f1 s1 => ?_
  have r0 : ∀ {σ : Type} {K : Int → W σ} {Q : σ → World → Prop}, K h.1 Q w1 → ld (.sc (.int .u8)) (Addr.add ⟨w.heap.size, 0, none⟩ 0) K Q w1 := fun hk => fldI B (i := 0) (x := h.1) rfl hk
  have r1 : ∀ {σ : Type} {K : Int → W σ} {Q : σ → World → Prop}, K h.2.1 Q w1 → ld (.sc (.int .u8)) (Addr.add ⟨w.heap.size, 0, none⟩ 1) K Q w1 := fun hk => fldI B (i := 1) (x := h.2.1) rfl hk
  have r2 : ∀ {σ : Type} {K : Int → W σ} {Q : σ → World → Prop}, K h.2.2.1 Q w1 → ld (.sc (.int .u32)) (Addr.add ⟨w.heap.size, 0, none⟩ 2) K Q w1 := fun hk => fldI B (i := 2) (x := h.2.2.1) rfl hk
  have r3 : ∀ {σ : Type} {K : Int → W σ} {Q : σ → World → Prop}, K h.2.2.2.1 Q w1 → ld (.sc (.int .u32)) (Addr.add ⟨w.heap.size, 0, none⟩ 3) K Q w1 := fun hk => fldI B (i := 3) (x := h.2.2.2.1) rfl hk
  have r4 : ∀ {σ : Type} {K : Int → W σ} {Q : σ → World → Prop}, K h.2.2.2.2 Q w1 → ld (.sc (.int .u32)) (Addr.add ⟨w.heap.size, 0, none⟩ 4) K Q w1 := fun hk => fldI B (i := 4) (x := h.2.2.2.2) rfl hk
  refine joinI (fun z w' => z = decide (h.1 < 1 ∨ 5 < h.1 ∨ 16 ≤ h.2.1) ∧ w1 = w') ?_ ?_
  · refine r0 (condD (fun a => ⟨(decide_eq_true (.inl a)).symm, rfl⟩) fun a => r0 (condD (fun b => ⟨(decide_eq_true (.inr (.inl b))).symm, rfl⟩) fun b => r1 ⟨decide_eq_decide.2 (by omega), rfl⟩))
  rintro z w2 ⟨rfl, rfl⟩
  refine condD (fun a => ?_) fun a => ?_
  · rw [if_pos a] at hk
    exact hk _ f1
  rw [if_neg a] at hk
  refine joinI (fun z w' => z = decide (h.2.2.1 = 0 ∨ (3 < h.1 ∧ h.2.2.2.1 ≠ 0) ∨ (h.1 ≠ 2 ∧ h.2.2.2.2 ≠ 0) ∨ (h.1 = 2 ∧ h.2.2.2.1 ≤ h.2.2.2.2)) ∧ w1 = w') ?_ ?_
  · have last : ∀ (_ : h.2.2.1 ≠ 0) (_ : ¬ (3 < h.1 ∧ h.2.2.2.1 ≠ 0)), ld (.sc (.int .u8)) (Addr.add ⟨w.heap.size, 0, none⟩ 0) (fun x_19 => cond (x_19 != 2)
        (ld (.sc (.int .u32)) (Addr.add ⟨w.heap.size, 0, none⟩ 4) fun (x_20 : Int) => cond (decide (x_20 > 0)) (fun (_ : Int → World → Prop) w' => true = decide (h.2.2.1 = 0 ∨ (3 < h.1 ∧ h.2.2.2.1 ≠ 0) ∨ (h.1 ≠ 2 ∧ h.2.2.2.2 ≠ 0) ∨ (h.1 = 2 ∧ h.2.2.2.1 ≤ h.2.2.2.2)) ∧ w1 = w')
          (ld (.sc (.int .u8)) (Addr.add ⟨w.heap.size, 0, none⟩ 0) fun (x_21 : Int) => cond (x_21 == 2)
            (ld (.sc (.int .u32)) (Addr.add ⟨w.heap.size, 0, none⟩ 4) fun (x_22 : Int) => ld (.sc (.int .u32)) (Addr.add ⟨w.heap.size, 0, none⟩ 3) fun (x_23 : Int) => fun (_ : Int → World → Prop) w' => decide (x_22 ≥ x_23) = decide (h.2.2.1 = 0 ∨ (3 < h.1 ∧ h.2.2.2.1 ≠ 0) ∨ (h.1 ≠ 2 ∧ h.2.2.2.2 ≠ 0) ∨ (h.1 = 2 ∧ h.2.2.2.1 ≤ h.2.2.2.2)) ∧ w1 = w')
            (fun (_ : Int → World → Prop) w' => false = decide (h.2.2.1 = 0 ∨ (3 < h.1 ∧ h.2.2.2.1 ≠ 0) ∨ (h.1 ≠ 2 ∧ h.2.2.2.2 ≠ 0) ∨ (h.1 = 2 ∧ h.2.2.2.1 ≤ h.2.2.2.2)) ∧ w1 = w')))
        (ld (.sc (.int .u8)) (Addr.add ⟨w.heap.size, 0, none⟩ 0) fun (x_24 : Int) => cond (x_24 == 2)
            (ld (.sc (.int .u32)) (Addr.add ⟨w.heap.size, 0, none⟩ 4) fun (x_25 : Int) => ld (.sc (.int .u32)) (Addr.add ⟨w.heap.size, 0, none⟩ 3) fun (x_26 : Int) => fun (_ : Int → World → Prop) w' => decide (x_25 ≥ x_26) = decide (h.2.2.1 = 0 ∨ (3 < h.1 ∧ h.2.2.2.1 ≠ 0) ∨ (h.1 ≠ 2 ∧ h.2.2.2.2 ≠ 0) ∨ (h.1 = 2 ∧ h.2.2.2.1 ≤ h.2.2.2.2)) ∧ w1 = w')
            (fun (_ : Int → World → Prop) w' => false = decide (h.2.2.1 = 0 ∨ (3 < h.1 ∧ h.2.2.2.1 ≠ 0) ∨ (h.1 ≠ 2 ∧ h.2.2.2.2 ≠ 0) ∨ (h.1 = 2 ∧ h.2.2.2.1 ≤ h.2.2.2.2)) ∧ w1 = w'))) (fun r w => K r Q w) w1 := by
      intro q1 q2
      refine r0 (condN (fun a2 => r4 (condD (fun a3 => ⟨(decide_eq_true (by omega)).symm, rfl⟩) fun a3 => r0 (condE (fun a4 => absurd a4 a2) fun a4 => ⟨(decide_eq_false (by omega)).symm, rfl⟩))) fun a2 => ?_)
      exact r0 (condE (fun a4 => r4 (r3 ⟨decide_eq_decide.2 (by omega), rfl⟩)) fun a4 => absurd a2 a4)
    refine r2 (condE (fun q => ⟨(decide_eq_true (.inl q)).symm, rfl⟩) fun q1 => r0 (condD (fun q2 => r3 (condD (fun q3 => ⟨(decide_eq_true (by omega)).symm, rfl⟩) fun q3 => ?_)) fun q2 => ?_))
    · exact last q1 (by omega)
    · exact last q1 (by omega)
  rintro z w2 ⟨rfl, rfl⟩
  refine condD (fun a => ?_) fun a => ?_
  · rw [if_pos a] at hk
    exact hk _ f1
  · rw [if_neg a] at hk
    exact hk _ f1
theorem idBits_le (last id : Int) : (idBits last id).length ≤ 80 := by
  have hi : idD last id < 4294967296 := by unfold idD; omega
  have lg2 := groupsM_le (v := (idD last id : Int)) (by omega) (by omega)
  rw [Int.toNat_natCast] at lg2
  unfold idBits
  rw [varB_len]
  omega
theorem compB_le {c : Comp} : (compB c).length ≤ 192 := by
  rw [compB_eq]
  have h3 := cntM_le c.1
  have := flat_le (fun i => partB (fieldP c i)) 64 (List.range (cntM c.1)) fun i _ => by
    obtain ⟨q1, q2⟩ := rangeM_i32 c.1 (i : Int)
    have := width_le (lo := (rangeM c.1 (i : Int)).1) (hi := (rangeM c.1 (i : Int)).2.1) (by omega)
    show (partB (fieldP c i)).length ≤ 64
    rw [partB_len]
    unfold fieldP
    rw [Int.toNat_natCast]
    exact this
  rw [List.length_range] at this
  omega
end Go.Proofs.YtchhhjlpnecjkaaGreat
namespace Go.Proofs.YtchhhjlpnecjkaaGreat
open Go Go.RowKit Go.Proofs.YtchhhjlpnecjkaaGreat.Den
variable {R : Type} {Q : R → World → Prop} {w : World}
def EntTold (e : Ent) : Prop := EntFit e ∧ (∀ c ∈ e.2, checkM c = 0) ∧ maskN e.2 < 32 ∧ e.2.length ≤ 6
theorem entB_le {last : Int} {e : Ent} (h : e.2.length ≤ 6) : (entB last e).length ≤ 1300 := by
  have h1 := idBits_le last e.1
  have h2 : (compsB e.2).length ≤ 192 * e.2.length := flat_le _ 192 _ fun c _ => compB_le
  unfold entB
  rw [List.length_append, List.length_append, bitsOf_len]
  omega
end Go.Proofs.YtchhhjlpnecjkaaGreat
namespace Go.Proofs.YtchhhjlpnecjkaaGreat
open Go Go.RowKit Go.Proofs.YtchhhjlpnecjkaaGreat.Den
variable {R : Type} {Q : R → World → Prop} {w : World}
end Go.Proofs.YtchhhjlpnecjkaaGreat
namespace Go.Proofs.YtchhhjlpnecjkaaGreat
open Go Go.RowKit Go.Proofs.YtchhhjlpnecjkaaGreat.Den
variable {R : Type} {Q : R → World → Prop} {w : World}
def RD (b : Nat) (L : List Bool) : OB := fun F w => F b ∧ ∃ (s : Sl) (body : List Int) (n : Nat), Blk w b 173 [.slice s.a s.n s.c, .int .i64 (n : Int)] ∧ SlT (fun k => F k ∧ k ≠ b) w u8T s body ∧ BytesOk body ∧ body.length ≤ 1048576 ∧ n ≤ 8 * body.length ∧ L = (bitsU body).drop n
theorem RD.st {b : Nat} {L : List Bool} : St (RD b L) := fun {F F' S w w'} h f hs => by
  obtain ⟨hb, s, body, n, B, hS, h1, h2, h3, h4⟩ := h
  have hb' := hs b B.lt hb
  exact ⟨hb'.2, s, body, n, B.fr f hb'.1, SlT.st hS f fun k hk e => ⟨(hs k hk e.1).1, (hs k hk e.1).2, e.2⟩, h1, h2, h3, h4⟩
theorem get_bit8 : ∀ x : Fin 256, ∀ r : Fin 8, IntKind.wrap .u64 (bAnd .u8 (shR .u8 ((x.val : Nat) : Int) ((r.val : Nat) : Int)) 1) = ((bitN (x.val.testBit r.val) : Nat) : Int) := by decide +kernel
theorem or_bit64 {v i : Nat} (hi : i < 64) (hv : v < 2 ^ i) (b : Bool) : bOr .u64 (v : Int) (shL .u64 ((bitN b : Nat) : Int) (i : Int)) = ((v + bitN b * 2 ^ i : Nat) : Int) := by
  have hb := bitN_lt b
  have h2 : 2 ^ i * 2 ≤ 2 ^ 64 := by rw [← Nat.pow_succ]; exact Nat.pow_le_pow_right (by decide) hi
  have hm : bitN b * 2 ^ i ≤ 2 ^ i := by rcases (show bitN b = 0 ∨ bitN b = 1 by omega) with e | e <;> rw [e] <;> omega
  have e1 : shL .u64 ((bitN b : Nat) : Int) (i : Int) = ((bitN b * 2 ^ i : Nat) : Int) := by
    unfold shL
    have hmin : min (i : Int).toNat (IntKind.bits .u64) = i := by
      show min (i : Int).toNat 64 = i
      omega
    have hM : (2 : Int) ^ i = ((2 ^ i : Nat) : Int) := by rw [Int.natCast_pow]; rfl
    rw [hmin, hM, ← Int.natCast_mul, wU64 (by omega)]
  rw [e1]
  unfold bOr
  have o1 : ∀ m : Nat, m < 18446744073709551616 → (BitVec.ofInt 64 (m : Int)).toNat = m := fun m hm => by
    rw [BitVec.toNat_ofInt]
    omega
  have hor : v ||| bitN b * 2 ^ i = v + bitN b * 2 ^ i := by
    have := Nat.two_pow_add_eq_or_of_lt (a := bitN b) hv
    rw [Nat.or_comm, Nat.mul_comm, ← this, Nat.add_comm]
  show IntKind.wrap .u64 (((BitVec.ofInt 64 (v : Int) ||| BitVec.ofInt 64 ((bitN b * 2 ^ i : Nat) : Int)).toNat : Nat) : Int) = _
  rw [BitVec.toNat_or, o1 v (by omega), o1 _ (by omega), hor, wU64 (by omega)]
theorem valB_snoc : ∀ (l : List Bool) (b : Bool), valB (l ++ [b]) = valB l + bitN b * 2 ^ l.length
  | [], b => by simp [valB]
  | a :: r, b => by
    rw [List.cons_append, valB, valB_snoc r b, valB, List.length_cons, Nat.pow_succ, Nat.mul_add]
    have : 2 * (bitN b * 2 ^ r.length) = bitN b * (2 ^ r.length * 2) := by rw [Nat.mul_comm (2 ^ r.length) 2, ← Nat.mul_assoc, Nat.mul_comm 2, Nat.mul_assoc]
    omega
theorem valB_lt' (l : List Bool) : valB l < 2 ^ l.length := by
  induction l with
  | nil => simp [valB]
  | cons b r ih =>
    have := bitN_lt b
    rw [valB, List.length_cons, Nat.pow_succ]
    omega
theorem spec_bits_Read {ok : Nat → Prop} {s : Sl} {l : List Int} (hS : SlT ok w u8T s l) (hb : BytesOk l) (hm : l.length ≤ 1048576) {K : Res [.sc .ptr] → W R} (hk : ∀ b w', RD b (bitsU l) (Up w.heap.size) w' → Fr None w w' → K (some ⟨b, 0, none⟩) Q w') :
    callW Tryz.prog k_bits_Read [.slice s.a s.n s.c] [.sc .ptr] K Q w := by
  refine C_bits_Read s K Q w ?_
  unfold F_bits_Read
  refine spec_bytes_Clone hS (by omega) fun r w1 o1 f1 => newI fun w2 B2 f2 z2 => ?_
  have z1 := f1.size
  refine hk _ w2 ⟨z1, r, l, 0, B2, ?_, hb, hm, by omega, rfl⟩ (f1.then0 f2)
  exact SlT.st o1.sl f2 fun k hk e => ⟨fun h => h, e, by omega⟩
theorem spec_Rd_Left {b : Nat} {L : List Bool} {F : Nat → Prop} (h : RD b L F w) {K : Res [.sc (.int .i64)] → W R} (hk : ∀ w', Fr None w w' → K (L.length : Int) Q w') : callW Tryz.prog k_bits_Reader_Left [.pointer (some ⟨b, 0, none⟩)] [.sc (.int .i64)] K Q w := by
  refine C_bits_Reader_Left _ K Q w ?_
  unfold F_bits_Reader_Left
  obtain ⟨hb, s, body, n, B, hS, h1, h2, h3, rfl⟩ := h
  have fd : Fr None w w.drew := (Fr.refl _ _).drew
  have Bd := B.fr fd fun h => h
  have hl := hS.len
  refine condF rfl (ptrI (fldI Bd (i := 0) (x := s) rfl (ptrI (fldI Bd (i := 1) (x := (n : Int)) rfl ?_))))
  have := hk w.drew fd
  rw [List.length_drop, bitsU_len] at this
  rw [w64 (x := 8 * (s.n : Int)) (by omega), w64 (by omega), show 8 * (s.n : Int) - (n : Int) = ((8 * body.length - n : Nat) : Int) by omega]
  exact this
theorem spec_Rd_Get {b : Nat} {L : List Bool} {F : Nat → Prop} (h : RD b L F w) {n : Nat} (hn : n ≤ 64) {K : Res [.sc (.int .u64), .sc (.int .i64)] → W R} (h0 : L.length < n → ∀ w', RD b L F w' → Fr None w w' → K (0, 2) Q w') (hk : n ≤ L.length → ∀ w', RD b (L.drop n) F w' → Fr (fun k => k = b) w w' → K ((valB (L.take n) : Nat), 0) Q w') :
    callW Tryz.prog k_bits_Reader_Get [.pointer (some ⟨b, 0, none⟩), .int .i64 (n : Int)] [.sc (.int .u64), .sc (.int .i64)] K Q w := by
  refine C_bits_Reader_Get _ _ K Q w ?_
  unfold F_bits_Reader_Get
  refine condF rfl (joinI (fun z v => z = false ∧ v = w) (condF (decide_eq_false (by omega)) ⟨decide_eq_false (by omega), rfl⟩) ?_)
  rintro z v ⟨rfl, rfl⟩
  refine condF rfl (spec_Rd_Left h fun w1 f1 => condD (fun hlt => h0 (by omega) w1 (RD.st.fr0 h f1) f1) fun hge => ?_)
  have hge : n ≤ L.length := by omega
  have hbl : ∀ {F : Nat → Prop} {u : World}, RD b L F u → F b := fun h => h.1
  refine forI (N := n) (fun s : Int × Int => s.2) (fun j st u => st.2 = (j : Int) ∧ st.1 = ((valB (L.take j) : Nat) : Int) ∧ RD b (L.drop j) F u ∧ Fr (fun k => k = b) v u) ⟨rfl, by simp [valB], RD.st.fr0 h f1, f1.any⟩ (fun j s w' h => h.1) ?_ ?_
  · rintro j ⟨x, _⟩ u K' hj ⟨rfl, rfl, hr, fu⟩ - hK
    obtain ⟨hb, s, body, m, B, hS, b1, b2, b3, b4⟩ := hr
    have fd : Fr None u u.drew := (Fr.refl _ _).drew
    have Bd := B.fr fd fun h => h
    have hSd := hS.fr0 fd
    have hll : (L.drop j).length = 8 * body.length - m := by rw [b4, List.length_drop, bitsU_len]
    rw [List.length_drop] at hll
    have hmlt : m < 8 * body.length := by omega
    have hq : m / 8 < body.length := by omega
    have hx := List.getElem?_eq_getElem hq
    have hxb := b1 _ (List.getElem_mem hq)
    refine ptrI (fldI Bd (i := 0) (x := s) rfl (ptrI (fldI Bd (i := 1) (x := (m : Int)) rfl ?_)))
    have ed : IntKind.wrap .i64 (Int.tdiv (m : Int) 8) = ((m / 8 : Nat) : Int) := by
      rw [Int.tdiv_eq_ediv_of_nonneg (by omega), w64 (by omega)]
      omega
    have em : Int.tmod (m : Int) 8 = ((m % 8 : Nat) : Int) := by
      rw [Int.tmod_eq_emod_of_nonneg (by omega)]
      omega
    rw [ed]
    refine hSd.get rfl rfl hq fun y hy => ?_
    rw [hx] at hy
    cases hy
    refine ptrI (fldI Bd (i := 1) (x := (m : Int)) rfl ?_)
    rw [em]
    refine chkI (by omega) (chkI (by omega) (ptrI (fldI Bd (i := 1) (x := (m : Int)) rfl (ptrI ?_))))
    rw [add_lit]
    refine setI (i := 1) Bd (by simp) rfl fun u2 B2 f2 z2 => ?_
    obtain ⟨bit, hbit⟩ : ∃ bit, bit = (body[m / 8]).toNat.testBit (m % 8) := ⟨_, rfl⟩
    have hLj : L[j]? = some bit := by
      have e1 : (L.drop j)[0]? = some bit := by
        rw [b4, List.getElem?_drop, Nat.add_zero]
        have := bitAt_bitsU body (m / 8) (m % 8) _ hx (Nat.mod_lt _ (by decide))
        rw [show 8 * (m / 8) + m % 8 = m by omega, ← hbit] at this
        unfold bitAt at this
        have hml : m < (bitsU body).length := by rw [bitsU_len]; exact hmlt
        rw [List.getElem?_eq_getElem hml, Option.getD_some] at this
        rw [List.getElem?_eq_getElem hml, this]
      rw [List.getElem?_drop, Nat.add_zero] at e1
      exact e1
    have hv := valB_lt' (L.take j)
    have htl : (L.take j).length = j := by rw [List.length_take]; omega
    rw [htl] at hv
    refine hK _ _ ⟨wsucc hj (by omega), ?_, ⟨hb, s, body, m + 1, ?_, hSd.fr f2 fun k e => e.2, b1, b2, by omega, ?_⟩, (fu.then0 fd).then f2⟩
    · have hg := get_bit8 ⟨(body[m / 8]).toNat, by omega⟩ ⟨m % 8, Nat.mod_lt _ (by decide)⟩
      dsimp only at hg
      rw [show ((body[m / 8]).toNat : Int) = body[m / 8] by omega, ← hbit] at hg
      show bOr .u64 _ (shL .u64 (IntKind.wrap .u64 (bAnd .u8 (shR .u8 body[m / 8] ((m % 8 : Nat) : Int)) 1)) (j : Int)) = _
      rw [hg, or_bit64 (by omega) hv, take_at hLj, valB_snoc, htl]
    · have e : IntKind.wrap .i64 ((m : Int) + 1) = ((m + 1 : Nat) : Int) := by rw [w64 (by omega)]; omega
      rw [e] at B2
      exact B2
    · have : L.drop (j + 1) = (L.drop j).drop 1 := by rw [List.drop_drop]
      rw [this, b4, List.drop_drop]
  · rintro ⟨x, _⟩ u ⟨_, rfl, hr, fu⟩
    exact hk hge u hr fu
end Go.Proofs.YtchhhjlpnecjkaaGreat
namespace Go.Proofs.YtchhhjlpnecjkaaGreat
open Go Go.RowKit Go.Proofs.YtchhhjlpnecjkaaGreat.Den
variable {R : Type} {Q : R → World → Prop} {w : World}
theorem or_sh64 {v y s : Nat} (hs : s < 64) (hv : v < 2 ^ s) (hy : y * 2 ^ s + 2 ^ s ≤ 2 ^ 64) : bOr .u64 (v : Int) (shL .u64 (y : Int) (s : Int)) = ((v + y * 2 ^ s : Nat) : Int) := by
  have e1 : shL .u64 (y : Int) (s : Int) = ((y * 2 ^ s : Nat) : Int) := by
    unfold shL
    have hmin : min (s : Int).toNat (IntKind.bits .u64) = s := by
      show min (s : Int).toNat 64 = s
      omega
    have hM : (2 : Int) ^ s = ((2 ^ s : Nat) : Int) := by rw [Int.natCast_pow]; rfl
    rw [hmin, hM, ← Int.natCast_mul, wU64 (by omega)]
  rw [e1]
  unfold bOr
  have o1 : ∀ m : Nat, m < 18446744073709551616 → (BitVec.ofInt 64 (m : Int)).toNat = m := fun m hm => by
    rw [BitVec.toNat_ofInt]
    omega
  have hor : v ||| y * 2 ^ s = v + y * 2 ^ s := by
    have := Nat.two_pow_add_eq_or_of_lt (a := y) hv
    rw [Nat.or_comm, Nat.mul_comm, ← this, Nat.add_comm]
  show IntKind.wrap .u64 (((BitVec.ofInt 64 (v : Int) ||| BitVec.ofInt 64 ((y * 2 ^ s : Nat) : Int)).toNat : Nat) : Int) = _
  rw [BitVec.toNat_or, o1 v (by omega), o1 _ (by omega), hor, wU64 (by omega)]
theorem low4 : ∀ x : Fin 32, bAnd .u64 ((x.val : Nat) : Int) 15 = ((x.val % 16 : Nat) : Int) ∧ shR .u64 ((x.val : Nat) : Int) 4 = ((x.val / 16 : Nat) : Int) := by decide +kernel
theorem spec_Rd_number {b : Nat} {L : List Bool} {F : Nat → Prop} (h : RD b L F w) {K : Res [.sc (.int .u64), .sc (.int .i64)] → W R} (h0 : getVar L = none → ∀ x e L' w', e ≠ 0 → RD b L' F w' → Fr (fun k => k = b) w w' → K (x, e) Q w') (hk : ∀ v L', getVar L = some (v, L') → v < 18446744073709551616 → ∀ w', RD b L' F w' → Fr (fun k => k = b) w w' → K ((v : Int), 0) Q w') :
    callW Tryz.prog k_nums_number [.pointer (some ⟨b, 0, none⟩)] [.sc (.int .u64), .sc (.int .i64)] K Q w := by
  refine C_nums_number _ K Q w ?_
  unfold F_nums_number
  refine forI (N := 16) (fun s : Int × Int => s.2) (fun j st u => st.2 = (j : Int) ∧ (∃ (v : Nat) (L' : List Bool), st.1 = (v : Int) ∧ v < 2 ^ (4 * j) ∧ RD b L' F u ∧ getVar L = varD (16 - j) j v L') ∧ Fr (fun k => k = b) w u) ⟨rfl, ⟨0, L, rfl, by decide, h, rfl⟩, Fr.refl _ _⟩ (fun j s w' h => h.1) ?_ ?_
  · rintro j ⟨_, _⟩ u K' hj ⟨rfl, ⟨v, L', rfl, hv, hr, hg⟩, fu⟩ - hK
    obtain ⟨q, hq⟩ : ∃ q, 16 - j = q + 1 := ⟨15 - j, by omega⟩
    rw [hq, varD] at hg
    refine spec_Rd_Get hr (n := 5) (by decide) (fun hlt u2 hr2 f2 => ?_) fun hge u2 hr2 f2 => ?_
    · rw [getN, if_neg (by omega)] at hg
      exact condT rfl (h0 hg _ _ _ u2 (by decide) hr2 (fu.then f2.any))
    · rw [getN, if_pos hge] at hg
      dsimp only at hg
      have hx := valB_lt' (L'.take 5)
      rw [List.length_take, Nat.min_eq_left hge] at hx
      obtain ⟨x, hxe⟩ : ∃ x, x = valB (L'.take 5) := ⟨_, rfl⟩
      rw [← hxe] at hg hx ⊢
      obtain ⟨a1, a2⟩ := low4 ⟨x, hx⟩
      dsimp only at a1 a2
      have fu2 := fu.then f2
      have e4 : IntKind.wrap .i64 (4 * (j : Int)) = ((4 * j : Nat) : Int) := by rw [w64 (by omega)]; omega
      have hp2 : 2 ^ (4 * j) * 16 ≤ 2 ^ 64 := by
        rw [show (16 : Nat) = 2 ^ 4 from rfl, ← Nat.pow_add]
        exact Nat.pow_le_pow_right (by decide) (by omega)
      have hm : x % 16 * 2 ^ (4 * j) + 2 ^ (4 * j) ≤ 2 ^ (4 * j) * 16 := by
        have : x % 16 + 1 ≤ 16 := by omega
        calc x % 16 * 2 ^ (4 * j) + 2 ^ (4 * j) = (x % 16 + 1) * 2 ^ (4 * j) := by rw [Nat.add_mul, Nat.one_mul]
          _ ≤ 16 * 2 ^ (4 * j) := Nat.mul_le_mul_right _ this
          _ = 2 ^ (4 * j) * 16 := Nat.mul_comm _ _
      have eo : bOr .u64 (v : Int) (shL .u64 (bAnd .u64 (x : Int) 15) (IntKind.wrap .i64 (4 * (j : Int)))) = ((v + x % 16 * 2 ^ (4 * j) : Nat) : Int) := by
        rw [a1, e4]
        exact or_sh64 (by omega) hv (Nat.le_trans hm hp2)
      have hnv : v + x % 16 * 2 ^ (4 * j) < 2 ^ (4 * (j + 1)) := by
        rw [Nat.mul_add, Nat.pow_add]
        show _ < 2 ^ (4 * j) * 16
        omega
      have hn64 : v + x % 16 * 2 ^ (4 * j) < 18446744073709551616 := by omega
      obtain ⟨v2, hv2⟩ : ∃ v2, v2 = v + x % 16 * 2 ^ (4 * j) := ⟨_, rfl⟩
      rw [← hv2] at eo hnv hn64 hg
      refine condF rfl (chkI (by rw [e4]; omega) ?_)
      dsimp only
      rw [eo, a2]
      refine condE (fun hz => ?_) fun hz => ?_
      · rw [if_pos (by omega)] at hg
        refine spec_nums_groups (by omega) (by omega) ?_
        rw [Int.toNat_natCast]
        have ej : IntKind.wrap .i64 ((j : Int) + 1) = ((j + 1 : Nat) : Int) := wsucc (N := 16) hj (by decide)
        rw [ej]
        refine condN (fun hne => ?_) fun heq => ?_
        · rw [if_neg (by omega)] at hg
          exact h0 hg _ _ _ u2 (by decide) hr2 fu2
        · rw [if_pos (by omega)] at hg
          exact hk _ _ hg hn64 u2 hr2 fu2
      · rw [if_neg (by omega)] at hg
        refine hK _ _ ⟨wsucc hj (by decide), ⟨v2, _, rfl, hnv, hr2, ?_⟩, fu2⟩
        rw [hg, show 16 - (j + 1) = q by omega]
  · rintro ⟨_, _⟩ u ⟨_, ⟨v, L', rfl, hv, hr, hg⟩, fu⟩
    exact h0 hg _ _ _ u (by decide) hr fu
theorem RD.back {b : Nat} {L : List Bool} {F : Nat → Prop} (h : RD b L F w) : ∃ (s : Sl) (n : Int), Blk w b 173 [.slice s.a s.n s.c, .int .i64 n] ∧ ∀ w', Fr (fun k => k = b) w w' → Blk w' b 173 [.slice s.a s.n s.c, .int .i64 n] → RD b L F w' := by
  obtain ⟨hb, s, body, n, B, hS, h1, h2, h3, h4⟩ := h
  exact ⟨s, n, B, fun w' f B' => ⟨hb, s, body, n, B', hS.fr f fun k e => e.2, h1, h2, h3, h4⟩⟩
theorem RD.blk {b : Nat} {L : List Bool} {F : Nat → Prop} (h : RD b L F w) : ∃ cs, Blk w b 173 cs ∧ cs.length = 2 := by
  obtain ⟨hb, s, body, n, B, _⟩ := h
  exact ⟨_, B, rfl⟩
theorem spec_Rd_GetVar {b : Nat} {L : List Bool} {F : Nat → Prop} (h : RD b L F w) {K : Res [.sc (.int .u64), .sc (.int .i64)] → W R} (h0 : getVar L = none → ∀ e w', e ≠ 0 → RD b L F w' → Fr (fun k => k = b) w w' → K (0, e) Q w') (hk : ∀ v L', getVar L = some (v, L') → v < 18446744073709551616 → ∀ w', RD b L' F w' → Fr (fun k => k = b) w w' → K ((v : Int), 0) Q w') :
    callW Tryz.prog k_nums_GetVar [.pointer (some ⟨b, 0, none⟩)] [.sc (.int .u64), .sc (.int .i64)] K Q w := by
  refine C_nums_GetVar _ K Q w ?_
  unfold F_nums_GetVar
  refine C_nums_try_uint64__nums_number _ _ _ _ ?_
  unfold F_nums_try_uint64__nums_number
  obtain ⟨s, n, B, hback⟩ := h.back
  have hb := B.lt
  refine condF rfl (ptrI (aggI B (x := ((s, n) : Sl × Int)) rfl (newI fun w1 B1 f1 z1 => stoAll B1 rfl rfl fun w2 B2 f2 z2 => ?_)))
  have f02 : Fr None w w2 := f1.newer f2 fun k e => by omega
  refine spec_Rd_number (RD.st.fr0 h f02) (fun hg x e L' w3 he hr f3 => ?_) fun v L' hg hv w3 hr f3 => ?_
  · refine condT (by simpa using he) ?_
    obtain ⟨cs, B3, hl⟩ := hr.blk
    refine aggI (B2.fr f3 fun e => by omega) (x := ((s, n) : Sl × Int)) rfl (ptrI (stoAll B3 hl.symm rfl fun w4 B4 f4 z4 => ?_))
    have f04 := (f02.any.then f3).then f4
    exact h0 hg e w4 he (hback w4 f04 B4) f04
  · exact condF rfl (hk v L' hg hv w3 hr (f02.any.then f3))
theorem spec_Rd_GetIn {b : Nat} {L : List Bool} {F : Nat → Prop} (h : RD b L F w) {lo hi : Int} (h1 : -4611686018427387904 ≤ lo) (h2 : lo ≤ hi) (h3 : hi ≤ 4611686018427387904) {K : Res [.sc (.int .i64), .sc (.int .i64)] → W R} (h0 : getIn lo hi L = none → ∀ e w', e ≠ 0 → RD b L F w' → Fr (fun k => k = b) w w' → K (0, e) Q w') (hk : ∀ v L', getIn lo hi L = some (v, L') → lo ≤ v ∧ v ≤ hi → ∀ w', RD b L' F w' → Fr (fun k => k = b) w w' → K (v, 0) Q w') :
    callW Tryz.prog k_nums_GetIn [.pointer (some ⟨b, 0, none⟩), .int .i64 lo, .int .i64 hi] [.sc (.int .i64), .sc (.int .i64)] K Q w := by
  refine C_nums_GetIn _ _ _ K Q w ?_
  unfold F_nums_GetIn
  refine newI fun w1 B1 f1 z1 => newI fun w2 B2 f2 z2 => ?_
  have Blo := B1.fr f2 fun h => h
  have f02 := f1.then0 f2
  obtain ⟨s, n, B, hback⟩ := h.back
  have hb := B.lt
  refine joinI (fun z v => z = false ∧ v = w2) ?_ ?_
  · refine fld0 B2 (i := 0) (x := hi) rfl (fld0 Blo (i := 0) (x := lo) rfl (condF (decide_eq_false (by omega)) ⟨rfl, rfl⟩))
  rintro z v ⟨rfl, rfl⟩
  refine condF rfl ?_
  refine C_nums_try_int64__nums_GetIn_c1 _ _ _ _ _ _ ?_
  unfold F_nums_try_int64__nums_GetIn_c1
  refine condF rfl (ptrI (aggI (B.fr f02 fun h => h) (x := ((s, n) : Sl × Int)) rfl (newI fun w3 B3 f3 z3 => stoAll B3 rfl rfl fun w4 B4 f4 z4 => ?_)))
  have f24 : Fr None v w4 := f3.newer f4 fun k e => by omega
  have f04 := f02.then0 f24
  have Blo := Blo.fr f24 fun h => h
  have Bhi := B2.fr f24 fun h => h
  have hr4 := RD.st.fr0 h f04
  have hw : widthM lo hi ≤ 64 := width_le (by omega)
  refine C_nums_GetIn_c1 _ _ _ _ _ _ ?_
  unfold F_nums_GetIn_c1
  refine ptrI (fld0 Blo (i := 0) (x := lo) rfl (ptrI (fld0 Bhi (i := 0) (x := hi) rfl ?_)))
  refine spec_nums_Width (by omega) (by omega) ?_
  have bad : getIn lo hi L = none → ∀ x e L' w5, e ≠ 0 → RD b L' F w5 → Fr (fun k => k = b) w4 w5 →
      cond (e != 0)
        (ld (.agg [.sl, .int .i64]) ⟨v.heap.size, 0, none⟩ fun (x_5 : (Sl × Int)) => ptrW (some ⟨b, 0, none⟩) fun x_6 =>
        stoL x_6 [.slice x_5.1.a x_5.1.n x_5.1.c, .int .i64 x_5.2] 0 <|
        K (0, e))
        (K (x, 0)) Q w5 := by
    intro hg x e L' w5 he hr f5
    refine condT (by simpa using he) ?_
    obtain ⟨cs, B5, hl⟩ := hr.blk
    refine aggI (B4.fr f5 fun e => by omega) (x := ((s, n) : Sl × Int)) rfl (ptrI (stoAll B5 hl.symm rfl fun w6 B6 f6 z6 => ?_))
    have f06 := (f04.any.then f5).then f6
    exact h0 hg e w6 he (hback w6 f06 B6) f06
  refine spec_Rd_Get hr4 hw (fun hlt w5 hr5 f5 => ?_) fun hge w5 hr5 f5 => ?_
  · refine condT rfl ?_
    exact bad (by unfold getIn; rw [getN, if_neg (by omega)]) 0 2 L w5 (by decide) hr5 f5.any
  · refine condF rfl ?_
    have Blo5 := Blo.fr f5 fun e => by omega
    have Bhi5 := Bhi.fr f5 fun e => by omega
    have hg : getIn lo hi L = if ((valB (L.take (widthM lo hi)) : Nat) : Int) ≤ hi - lo then some (lo + ((valB (L.take (widthM lo hi)) : Nat) : Int), L.drop (widthM lo hi)) else none := by
      unfold getIn
      rw [getN, if_pos hge]
    have hx := valB_lt' (L.take (widthM lo hi))
    rw [List.length_take, Nat.min_eq_left hge] at hx
    have hx64 : 2 ^ widthM lo hi ≤ 2 ^ 64 := Nat.pow_le_pow_right (by decide) hw
    generalize valB (L.take (widthM lo hi)) = x at hx hg
    refine ptrI (fld0 Bhi5 (i := 0) (x := hi) rfl (ptrI (fld0 Blo5 (i := 0) (x := lo) rfl ?_)))
    have ed : IntKind.wrap .u64 (IntKind.wrap .u64 hi - IntKind.wrap .u64 lo) = hi - lo := by
      rw [IntKind.wrap_u64, IntKind.wrap_u64, IntKind.wrap_u64]
      omega
    rw [ed]
    refine condD (fun hgt => ?_) fun hle => ?_
    · have hgt : (x : Int) > hi - lo := hgt
      rw [if_neg (by omega)] at hg
      exact bad hg 0 5 _ w5 (by decide) hr5 f5
    · have hle : ¬ (x : Int) > hi - lo := hle
      rw [if_pos (by omega)] at hg
      refine ptrI (fld0 Blo5 (i := 0) (x := lo) rfl ?_)
      have es : IntKind.wrap .i64 (IntKind.wrap .u64 (IntKind.wrap .u64 lo + (x : Int))) = lo + (x : Int) := by
        have e1 : IntKind.wrap .u64 (IntKind.wrap .u64 lo + (x : Int)) = (lo + (x : Int)) % 18446744073709551616 := by
          rw [IntKind.wrap_u64, IntKind.wrap_u64]
          omega
        rw [e1, IntKind.wrap_i64]
        omega
      show K (IntKind.wrap .i64 (IntKind.wrap .u64 (IntKind.wrap .u64 lo + (x : Int))), 0) Q w5
      rw [es]
      exact hk _ _ hg (by omega) w5 hr5 (f04.any.then f5)
end Go.Proofs.YtchhhjlpnecjkaaGreat
namespace Go.Proofs.YtchhhjlpnecjkaaGreat
open Go Go.RowKit Go.Proofs.YtchhhjlpnecjkaaGreat.Den
variable {R : Type} {Q : R → World → Prop} {w : World}
abbrev giveUp : List PanicEntry := [{ v := .iface 171 (.agg ⟨[]⟩), recovered := false }]
section
variable [Pan R]
theorem spec_must_uint64 {v e : Int} {K : Res [.sc (.int .u64)] → W R} (h0 : e ≠ 0 → Pan.pan Q giveUp w) (hk : e = 0 → K v Q w) : callP Tryz.prog k_packet_must_uint64 [.int .u64 v, .int .i64 e] [.sc (.int .u64)] K Q w := by
  refine C_packet_must_uint64 v e K Q w ?_
  unfold F_packet_must_uint64
  refine joinI (fun _ w' => e = 0 ∧ w' = w) (condN (fun h => h0 h) fun h => ⟨h, rfl⟩) ?_
  rintro _ w' ⟨h, rfl⟩
  exact hk h
theorem spec_must_int64 {v e : Int} {K : Res [.sc (.int .i64)] → W R} (h0 : e ≠ 0 → Pan.pan Q giveUp w) (hk : e = 0 → K v Q w) : callP Tryz.prog k_packet_must_int64 [.int .i64 v, .int .i64 e] [.sc (.int .i64)] K Q w := by
  refine C_packet_must_int64 v e K Q w ?_
  unfold F_packet_must_int64
  refine joinI (fun _ w' => e = 0 ∧ w' = w) (condN (fun h => h0 h) fun h => ⟨h, rfl⟩) ?_
  rintro _ w' ⟨h, rfl⟩
  exact hk h
theorem spec_rd_plain {b : Nat} {L : List Bool} {F : Nat → Prop} (h : RD b L F w) {n : Nat} (hn : n ≤ 64) {K : Res [.sc (.int .u64)] → W R} (h0 : getN n L = none → ∀ w', Fr (fun k => k = b) w w' → Pan.pan Q giveUp w') (hk : ∀ v L', getN n L = some (v, L') → v < 2 ^ n → ∀ w', RD b L' F w' → Fr (fun k => k = b) w w' → K (v : Int) Q w') :
    callP Tryz.prog k_packet_reader_plain [.agg ⟨[.pointer (some ⟨b, 0, none⟩)]⟩, .int .i64 (n : Int)] [.sc (.int .u64)] K Q w := by
  refine C_packet_reader_plain _ _ K Q w ?_
  unfold F_packet_reader_plain
  refine newI fun w1 B1 f1 z1 => fldI B1 (i := 0) (x := some ⟨b, 0, none⟩) rfl ?_
  refine spec_Rd_Get (RD.st.fr0 h f1) hn (fun hlt w2 hr f2 => ?_) fun hge w2 hr f2 => ?_
  · exact spec_must_uint64 (fun _ => h0 (by rw [getN, if_neg (by omega)]) w2 (f1.then0 f2).any) fun h => absurd h (by decide)
  · refine spec_must_uint64 (fun h => absurd rfl h) fun _ => ?_
    have hx := valB_lt' (L.take n)
    rw [List.length_take, Nat.min_eq_left hge] at hx
    exact hk _ _ (by rw [getN, if_pos hge]) hx w2 hr (f1.any.then f2)
theorem spec_rd_count {b : Nat} {L : List Bool} {F : Nat → Prop} (h : RD b L F w) {K : Res [.sc (.int .u64)] → W R} (h0 : getVar L = none → ∀ w', Fr (fun k => k = b) w w' → Pan.pan Q giveUp w') (hk : ∀ v L', getVar L = some (v, L') → v < 18446744073709551616 → ∀ w', RD b L' F w' → Fr (fun k => k = b) w w' → K (v : Int) Q w') :
    callP Tryz.prog k_packet_reader_count [.agg ⟨[.pointer (some ⟨b, 0, none⟩)]⟩] [.sc (.int .u64)] K Q w := by
  refine C_packet_reader_count _ K Q w ?_
  unfold F_packet_reader_count
  refine newI fun w1 B1 f1 z1 => fldI B1 (i := 0) (x := some ⟨b, 0, none⟩) rfl ?_
  refine spec_Rd_GetVar (RD.st.fr0 h f1) (fun hg e w2 he hr f2 => ?_) fun v L' hg hv w2 hr f2 => ?_
  · exact spec_must_uint64 (fun _ => h0 hg w2 (f1.any.then f2)) fun h => absurd h he
  · exact spec_must_uint64 (fun h => absurd rfl h) fun _ => hk v L' hg hv w2 hr (f1.any.then f2)
theorem spec_rd_id {b bl : Nat} {L : List Bool} {F : Nat → Prop} {T : TypeId} {last : Int} (h : RD b L F w) (B : Blk w bl T [.int .u32 last]) (hbl : ¬ F bl) {K : Res [.sc (.int .u32)] → W R} (h0 : idDec last L = none → ∀ w', Fr (fun k => k = b ∨ k = bl) w w' → Pan.pan Q giveUp w')
    (hk : ∀ id L', idDec last L = some (id, L') → IdOk id → ∀ w', RD b L' F w' → Blk w' bl T [.int .u32 id] → Fr (fun k => k = b ∨ k = bl) w w' → K id Q w') :
    callP Tryz.prog k_packet_reader_id [.agg ⟨[.pointer (some ⟨b, 0, none⟩)]⟩, .pointer (some ⟨bl, 0, none⟩)] [.sc (.int .u32)] K Q w := by
  refine C_packet_reader_id _ _ K Q w ?_
  unfold F_packet_reader_id
  have hbb : b ≠ bl := fun e => hbl (e ▸ h.1)
  refine newI fun w1 B1 f1 z1 => aggI B1 (x := some ⟨b, 0, none⟩) rfl ?_
  have or1 : ∀ {u v : World}, Fr (fun k => k = b) u v → Fr (fun k => k = b ∨ k = bl) u v := fun f => f.sub fun k e => .inl e
  refine spec_rd_count (RD.st.fr0 h f1) (fun hg w2 f2 => ?_) fun v L' hg hv w2 hr f2 => ?_
  · exact h0 (by unfold idDec; rw [hg]) w2 (or1 (f1.any.then f2))
  have f02 := or1 (f1.any.then f2)
  have hid : idDec last L = if 4294967296 ≤ v then none else some ((last + (v : Int) + 1) % 4294967296, L') := by unfold idDec; rw [hg]
  refine joinI (fun _ w' => v < 4294967296 ∧ w' = w2) ?_ ?_
  · refine condD (fun hge => ?_) fun hlt => ⟨by omega, rfl⟩
    exact h0 (by rw [hid, if_pos (by omega)]) w2 f02
  rintro _ w3 ⟨hlt, rfl⟩
  rw [if_neg (by omega)] at hid
  have Bl := (B.fr f1 fun h => h).fr f2 fun e => hbb e.symm
  refine ptrI (fld0 Bl (i := 0) (x := last) rfl (ptrI ?_))
  have e : IntKind.wrap .u32 (last + IntKind.wrap .u32 (IntKind.wrap .u32 (v : Int) + 1)) = (last + (v : Int) + 1) % 4294967296 := by
    have a : ∀ x : Int, IntKind.wrap .u32 x = x % 4294967296 := fun x => by rw [IntKind.wrap_u32]
    rw [a, a, a]
    omega
  rw [e]
  refine stoAll Bl rfl rfl fun w4 B4 f4 z4 => ptrI (fld0 B4 (i := 0) (x := (last + (v : Int) + 1) % 4294967296) rfl ?_)
  refine hk _ L' hid ⟨by omega, by omega⟩ w4 (RD.st.fr hr f4 fun k e e2 => hbl (e2 ▸ e)) B4 (f02.then (f4.sub fun k e => .inr e))
end
end Go.Proofs.YtchhhjlpnecjkaaGreat
namespace Go.Proofs.YtchhhjlpnecjkaaGreat
open Go Go.RowKit Go.Proofs.YtchhhjlpnecjkaaGreat.Den
variable {R : Type} {Q : R → World → Prop} {w : World} [Pan R]
theorem spec_rd_head {b : Nat} {L : List Bool} {F : Nat → Prop} (h : RD b L F w) (hF : ∀ k, F k → k < w.heap.size) {K : Res [.agg [.int .u8, .int .u8, .int .u32, .int .u32, .int .u32]] → W R} (h0 : headD L = none → ∀ w', Fr (fun k => k = b) w w' → Pan.pan Q giveUp w') (hk : ∀ hd L', headD L = some (hd, L') → HeadOk hd → headE hd = 0 → ∀ w', RD b L' F w' → Fr (fun k => k = b) w w' → K hd Q w') :
    callP Tryz.prog k_packet_reader_head [.agg ⟨[.pointer (some ⟨b, 0, none⟩)]⟩] [.agg [.int .u8, .int .u8, .int .u32, .int .u32, .int .u32]] K Q w := by
  refine C_packet_reader_head _ K Q w ?_
  unfold F_packet_reader_head
  have hbb := hF b h.1
  refine newI fun w1 Bo f1 z1 => newI fun w2 Bx f2 z2 => ?_
  have Bo := Bo.fr f2 fun h => h
  have f02 := f1.then0 f2
  refine joinI (fun (s : Option Addr) v => ∃ bh k c L1 L2, s = some ⟨bh, 0, none⟩ ∧ getIn 1 5 L = some (k, L1) ∧ (1 ≤ k ∧ k ≤ 5) ∧ getIn 0 15 L1 = some (c, L2) ∧ (0 ≤ c ∧ c ≤ 15) ∧ w2.heap.size ≤ bh ∧ Blk v bh 30 [.int .u8 k, .int .u8 c, .int .u32 0, .int .u32 0, .int .u32 0] ∧ RD b L2 F v ∧ Fr (fun k => k = b) w2 v) ?_ ?_
  · have fd : Fr None w2 w2.drew := (Fr.refl _ _).drew
    have f0d := f02.then0 fd
    have Bd := Bo.fr fd fun h => h
    have hr := RD.st.fr0 h f0d
    have hx : ∀ {u v : World}, Fr (fun k => k = b) u v → Blk u w.heap.size 62 [.pointer (some ⟨b, 0, none⟩)] → Blk v w.heap.size 62 [.pointer (some ⟨b, 0, none⟩)] := fun f B => B.fr f fun e => by omega
    have hz : w2.drew.heap.size = w2.heap.size := rfl
    have n1 : getIn 1 5 L = none → headD L = none := fun e => by unfold headD; rw [e]
    have n2 : ∀ {k L1}, getIn 1 5 L = some (k, L1) → getIn 0 15 L1 = none → headD L = none := fun e e2 => by unfold headD; rw [e]; dsimp only; rw [e2]
    have bad : ∀ {u : World}, headD L = none → Fr (fun k => k = b) w2.drew u → Pan.pan Q giveUp u := fun e f => h0 e _ (f0d.any.then f)
    refine bothI ?_ (bothI ?_ (bothI ?_ (bothI ?_ ?_)))
    · refine fldI Bd (i := 0) (x := some ⟨b, 0, none⟩) rfl (fldI Bd (i := 0) (x := some ⟨b, 0, none⟩) rfl ?_)
      refine spec_Rd_GetIn hr (by decide) (by decide) (by decide) (fun hg e u1 he hr1 g1 => ?_) fun k L1 hg hkr u1 hr1 g1 => ?_
      · exact andI ((hx g1 Bd).rd (s := .ptr) (i := 0) (x := some ⟨b, 0, none⟩) rfl) (spec_must_int64 (fun _ => bad (n1 hg) g1) fun h => absurd h he)
      refine andI ((hx g1 Bd).rd (s := .ptr) (i := 0) (x := some ⟨b, 0, none⟩) rfl) (spec_must_int64 (fun h => absurd rfl h) fun _ => ?_)
      refine andI ((hx g1 Bd).rd (s := .ptr) (i := 0) (x := some ⟨b, 0, none⟩) rfl) ?_
      refine spec_Rd_GetIn hr1 (by decide) (by decide) (by decide) (fun hg2 e u2 he hr2 g2 => ?_) fun c L2 hg2 hcr u2 hr2 g2 => ?_
      · exact spec_must_int64 (fun _ => bad (n2 hg hg2) (g1.then g2)) fun h => absurd h he
      refine spec_must_int64 (fun h => absurd rfl h) fun _ => ?_
      refine newI fun u3 B3 g3 y3 => stoAll B3 rfl rfl fun u4 B4 g4 y4 => ?_
      have g34 : Fr None u2 u4 := g3.newer g4 fun k e => by omega
      rw [wu8 (by omega), wu8 (by omega)] at B4
      have s2 := (g1.then g2).size
      exact ⟨_, k, c, L1, L2, rfl, hg, hkr, hg2, hcr, by omega, B4, RD.st.fr0 hr2 g34, fd.any.then ((g1.then g2).then g34.any)⟩
    · refine fldI Bd (i := 0) (x := some ⟨b, 0, none⟩) rfl (fldI Bd (i := 0) (x := some ⟨b, 0, none⟩) rfl ?_)
      refine spec_Rd_GetIn hr (by decide) (by decide) (by decide) (fun hg e u1 he hr1 g1 => ?_) fun k L1 hg hkr u1 hr1 g1 => ?_
      · exact andI ((hx g1 Bd).rd (s := .ptr) (i := 0) (x := some ⟨b, 0, none⟩) rfl) (spec_must_int64 (fun _ => bad (n1 hg) g1) fun h => absurd h he)
      refine andI ((hx g1 Bd).rd (s := .ptr) (i := 0) (x := some ⟨b, 0, none⟩) rfl) (spec_must_int64 (fun h => absurd rfl h) fun _ => ?_)
      refine andI ((hx g1 Bd).rd (s := .ptr) (i := 0) (x := some ⟨b, 0, none⟩) rfl) ?_
      refine spec_Rd_GetIn hr1 (by decide) (by decide) (by decide) (fun hg2 e u2 he hr2 g2 => ?_) fun c L2 hg2 hcr u2 hr2 g2 => ?_
      · exact newI fun u3 B3 g3 y3 => spec_must_int64 (fun _ => bad (n2 hg hg2) ((g1.then g2).then g3.any)) fun h => absurd h he
      refine newI fun u3 B3 g3 y3 => spec_must_int64 (fun h => absurd rfl h) fun _ => stoAll B3 rfl rfl fun u4 B4 g4 y4 => ?_
      have g34 : Fr None u2 u4 := g3.newer g4 fun k e => by omega
      rw [wu8 (by omega), wu8 (by omega)] at B4
      have s2 := (g1.then g2).size
      exact ⟨_, k, c, L1, L2, rfl, hg, hkr, hg2, hcr, by omega, B4, RD.st.fr0 hr2 g34, fd.any.then ((g1.then g2).then g34.any)⟩
    · refine fldI Bd (i := 0) (x := some ⟨b, 0, none⟩) rfl (fldI Bd (i := 0) (x := some ⟨b, 0, none⟩) rfl ?_)
      refine spec_Rd_GetIn hr (by decide) (by decide) (by decide) (fun hg e u1 he hr1 g1 => ?_) fun k L1 hg hkr u1 hr1 g1 => ?_
      · exact andI ((hx g1 Bd).rd (s := .ptr) (i := 0) (x := some ⟨b, 0, none⟩) rfl) (spec_must_int64 (fun _ => bad (n1 hg) g1) fun h => absurd h he)
      refine andI ((hx g1 Bd).rd (s := .ptr) (i := 0) (x := some ⟨b, 0, none⟩) rfl) (spec_must_int64 (fun h => absurd rfl h) fun _ => ?_)
      refine andI ((hx g1 Bd).rd (s := .ptr) (i := 0) (x := some ⟨b, 0, none⟩) rfl) (newI fun u3 B3 g3 y3 => ?_)
      have s1 := g1.size
      refine spec_Rd_GetIn (RD.st.fr0 hr1 g3) (by decide) (by decide) (by decide) (fun hg2 e u2 he hr2 g2 => ?_) fun c L2 hg2 hcr u2 hr2 g2 => ?_
      · exact spec_must_int64 (fun _ => bad (n2 hg hg2) ((g1.then g3.any).then g2)) fun h => absurd h he
      refine spec_must_int64 (fun h => absurd rfl h) fun _ => stoAll (B3.fr g2 fun e => by omega) rfl rfl fun u4 B4 g4 y4 => ?_
      rw [wu8 (by omega), wu8 (by omega)] at B4
      have g34 : Fr (fun k => k = b) u1 u4 := ((g3.any.then g2).thenNew g4 fun k e => by omega)
      exact ⟨_, k, c, L1, L2, rfl, hg, hkr, hg2, hcr, by omega, B4, RD.st.fr hr2 g4 fun k e e2 => by have := hF k e; omega, fd.any.then (g1.then g34)⟩
    · refine fldI Bd (i := 0) (x := some ⟨b, 0, none⟩) rfl (fldI Bd (i := 0) (x := some ⟨b, 0, none⟩) rfl ?_)
      refine spec_Rd_GetIn hr (by decide) (by decide) (by decide) (fun hg e u1 he hr1 g1 => ?_) fun k L1 hg hkr u1 hr1 g1 => ?_
      · refine andI ((hx g1 Bd).rd (s := .ptr) (i := 0) (x := some ⟨b, 0, none⟩) rfl) (newI fun u3 B3 g3 y3 => ?_)
        exact spec_must_int64 (fun _ => bad (n1 hg) (g1.then g3.any)) fun h => absurd h he
      refine andI ((hx g1 Bd).rd (s := .ptr) (i := 0) (x := some ⟨b, 0, none⟩) rfl) (newI fun u3 B3 g3 y3 => spec_must_int64 (fun h => absurd rfl h) fun _ => ?_)
      have s1 := g1.size
      refine andI (((hx g1 Bd).fr g3 fun h => h).rd (s := .ptr) (i := 0) (x := some ⟨b, 0, none⟩) rfl) ?_
      refine spec_Rd_GetIn (RD.st.fr0 hr1 g3) (by decide) (by decide) (by decide) (fun hg2 e u2 he hr2 g2 => ?_) fun c L2 hg2 hcr u2 hr2 g2 => ?_
      · exact spec_must_int64 (fun _ => bad (n2 hg hg2) ((g1.then g3.any).then g2)) fun h => absurd h he
      refine spec_must_int64 (fun h => absurd rfl h) fun _ => stoAll (B3.fr g2 fun e => by omega) rfl rfl fun u4 B4 g4 y4 => ?_
      rw [wu8 (by omega), wu8 (by omega)] at B4
      have g34 : Fr (fun k => k = b) u1 u4 := ((g3.any.then g2).thenNew g4 fun k e => by omega)
      exact ⟨_, k, c, L1, L2, rfl, hg, hkr, hg2, hcr, by omega, B4, RD.st.fr hr2 g4 fun k e e2 => by have := hF k e; omega, fd.any.then (g1.then g34)⟩
    · refine fldI Bd (i := 0) (x := some ⟨b, 0, none⟩) rfl (fldI Bd (i := 0) (x := some ⟨b, 0, none⟩) rfl (newI fun u3 B3 g3 y3 => ?_))
      refine spec_Rd_GetIn (RD.st.fr0 hr g3) (by decide) (by decide) (by decide) (fun hg e u1 he hr1 g1 => ?_) fun k L1 hg hkr u1 hr1 g1 => ?_
      · exact andI ((hx (g3.any.then g1) Bd).rd (s := .ptr) (i := 0) (x := some ⟨b, 0, none⟩) rfl) (spec_must_int64 (fun _ => bad (n1 hg) (g3.any.then g1)) fun h => absurd h he)
      refine andI ((hx (g3.any.then g1) Bd).rd (s := .ptr) (i := 0) (x := some ⟨b, 0, none⟩) rfl) (spec_must_int64 (fun h => absurd rfl h) fun _ => ?_)
      refine andI ((hx (g3.any.then g1) Bd).rd (s := .ptr) (i := 0) (x := some ⟨b, 0, none⟩) rfl) ?_
      have s1 := g1.size
      refine spec_Rd_GetIn hr1 (by decide) (by decide) (by decide) (fun hg2 e u2 he hr2 g2 => ?_) fun c L2 hg2 hcr u2 hr2 g2 => ?_
      · exact spec_must_int64 (fun _ => bad (n2 hg hg2) ((g3.any.then g1).then g2)) fun h => absurd h he
      refine spec_must_int64 (fun h => absurd rfl h) fun _ => stoAll ((B3.fr g1 fun e => by omega).fr g2 fun e => by omega) rfl rfl fun u4 B4 g4 y4 => ?_
      rw [wu8 (by omega), wu8 (by omega)] at B4
      have g34 : Fr (fun k => k = b) w2.drew u4 := (((g3.any.then g1).then g2).thenNew g4 fun k e => by omega)
      exact ⟨_, k, c, L1, L2, rfl, hg, hkr, hg2, hcr, by omega, B4, RD.st.fr hr2 g4 fun k e e2 => by have := hF k e; omega, fd.any.then g34⟩
  rintro s v ⟨bh, k, c, L1, L2, rfl, hg1, hkr, hg2, hcr, hbh, Bh, hr, fv⟩
  have hnb : ∀ {x : Nat}, w.heap.size ≤ x → ¬ x = b := fun hx e => by omega
  have f0v : Fr (fun k => k = b) w v := f02.any.then fv
  have Bo := Bo.fr fv (hnb (Nat.le_refl _))
  have Bx := Bx.fr fv (hnb (by omega))
  refine aggI Bo (x := some ⟨b, 0, none⟩) rfl ?_
  have hD1 : headD L = match getVar L2 with
      | none => none
      | some (e, L) => match (if k ≤ 3 then getN 32 L else some (0, L)) with
        | none => none
        | some (t, L) => match (if k = 2 then (match getVar L with
            | none => none
            | some (b, L) => if t ≤ b then none else some (((t - b - 1 : Nat) : Int), L)) else some (0, L)) with
          | none => none
          | some (b, L) => if e ≤ 4294967295 ∧ headE (k, c, (e : Int), (t : Int), b) = 0 then some ((k, c, (e : Int), (t : Int), b), L) else none := by
    unfold headD
    rw [hg1]
    dsimp only
    rw [hg2] <;> rfl
  refine spec_rd_count hr (fun hg w3 f3 => h0 (by rw [hD1, hg]) w3 (f0v.then f3)) fun e L3 hg3 he w3 hr3 f3 => ?_
  rw [hg3] at hD1
  dsimp only at hD1
  have f03 := f0v.then f3
  have Bh3 := Bh.fr f3 (hnb (by omega))
  refine ptrI ?_
  rw [add_lit]
  refine setI (i := 2) Bh3 (by simp) rfl fun w4 Bh4 f4 z4 => ?_
  have hFh : ∀ k, F k → ¬ k = bh := fun k e e2 => by have := hF k e; omega
  have hr4 := RD.st.fr hr3 f4 hFh
  have f04 := f03.thenNew f4 fun k e => by omega
  obtain ⟨e', he'⟩ : ∃ e', e' = IntKind.wrap .u32 (e : Int) := ⟨_, rfl⟩
  have er : e' = (e : Int) % 4294967296 := by rw [he', IntKind.wrap_u32]
  rw [← he'] at Bh4
  have Bh4 : Blk w4 bh 30 [.int .u8 k, .int .u8 c, .int .u32 e', .int .u32 0, .int .u32 0] := Bh4
  have Bo4 := (Bo.fr f3 (hnb (Nat.le_refl _))).fr f4 fun e => by omega
  have Bx4 := (Bx.fr f3 (hnb (by omega))).fr f4 fun e => by omega
  refine ptrI (fldI Bh4 (i := 0) (x := k) rfl ?_)
  refine joinI (fun (_ : Unit) v => ∃ (t : Nat) (L4 : List Bool), (if k ≤ 3 then getN 32 L3 else some (0, L3)) = some (t, L4) ∧ t < 4294967296 ∧ Blk v bh 30 [.int .u8 k, .int .u8 c, .int .u32 e', .int .u32 (t : Int), .int .u32 0] ∧ RD b L4 F v ∧ Fr (fun k => k = b) w v ∧ Blk v w.heap.size 62 [.pointer (some ⟨b, 0, none⟩)] ∧ Blk v w1.heap.size 30 [.int .u8 0, .int .u8 0, .int .u32 0, .int .u32 0, .int .u32 0]) ?_ ?_
  · refine condD (fun k3 => ?_) fun k3 => ⟨0, L3, if_neg k3, by decide, Bh4, hr4, f04, Bo4, Bx4⟩
    rw [if_pos k3] at hD1
    refine aggI Bo4 (x := some ⟨b, 0, none⟩) rfl (spec_rd_plain hr4 (n := 32) (by decide) (fun hg w5 f5 => h0 (by rw [hD1, hg]) w5 (f04.then f5)) fun t L4 hg ht w5 hr5 f5 => ?_)
    have Bh5 := Bh4.fr f5 (hnb (by omega))
    refine ptrI ?_
    rw [add_lit]
    refine setI (i := 3) Bh5 (by simp) rfl fun w6 Bh6 f6 z6 => ?_
    have ew : IntKind.wrap .u32 (t : Int) = (t : Int) := wu32 (by omega)
    rw [ew] at Bh6
    have s5 := f5.size
    refine ⟨t, L4, by rw [if_pos k3]; exact hg, by omega, Bh6, RD.st.fr hr5 f6 hFh, (f04.then f5).thenNew f6 fun k e => by omega, (Bo4.fr f5 (hnb (Nat.le_refl _))).fr f6 fun e => by omega, (Bx4.fr f5 (hnb (by omega))).fr f6 fun e => by omega⟩
  rintro _ w5 ⟨t, L4, ht, htl, Bh5, hr5, f05, Bo5, Bx5⟩
  rw [ht] at hD1
  dsimp only at hD1
  refine ptrI (fldI Bh5 (i := 0) (x := k) rfl ?_)
  refine joinI (fun (_ : Unit) v => ∃ (bb : Int) (L5 : List Bool), (if k = 2 then (match getVar L4 with
            | none => none
            | some (b, L) => if t ≤ b then none else some (((t - b - 1 : Nat) : Int), L)) else some (0, L4)) = some (bb, L5) ∧ (0 ≤ bb ∧ bb ≤ 4294967295) ∧ Blk v bh 30 [.int .u8 k, .int .u8 c, .int .u32 e', .int .u32 (t : Int), .int .u32 bb] ∧ RD b L5 F v ∧ Fr (fun k => k = b) w v ∧ Blk v w1.heap.size 30 [.int .u8 0, .int .u8 0, .int .u32 0, .int .u32 0, .int .u32 0]) ?_ ?_
  · refine condE (fun k2 => ?_) fun k2 => ⟨0, L4, if_neg k2, by decide, Bh5, hr5, f05, Bx5⟩
    rw [if_pos k2] at hD1
    refine aggI Bo5 (x := some ⟨b, 0, none⟩) rfl (spec_rd_count hr5 (fun hg w6 f6 => h0 (by rw [hD1, hg]) w6 (f05.then f6)) fun b2 L5 hg hb2 w6 hr6 f6 => ?_)
    rw [hg] at hD1
    dsimp only at hD1
    have Bh6 := Bh5.fr f6 (hnb (by omega))
    have f06 := f05.then f6
    have s6 := f6.size
    refine ptrI (fldI Bh6 (i := 3) (x := (t : Int)) rfl ?_)
    have et : IntKind.wrap .u64 (t : Int) = (t : Int) := wU64 (by omega)
    rw [et]
    refine joinI (fun (_ : Unit) v => b2 < t ∧ v = w6) ?_ ?_
    · refine condD (fun hge => ?_) fun hlt => ⟨by omega, rfl⟩
      exact h0 (by rw [hD1, if_pos (by omega)]) w6 f06
    rintro _ w7 ⟨hlt, rfl⟩
    refine ptrI (fldI Bh6 (i := 3) (x := (t : Int)) rfl (ptrI ?_))
    rw [add_lit]
    refine setI (i := 4) Bh6 (by simp) rfl fun w8 Bh8 f8 z8 => ?_
    have ew : IntKind.wrap .u32 (IntKind.wrap .u32 ((t : Int) - IntKind.wrap .u32 (b2 : Int)) - 1) = ((t - b2 - 1 : Nat) : Int) := by
      rw [wu32 (x := (b2 : Int)) (by omega), wu32 (x := (t : Int) - (b2 : Int)) (by omega), wu32 (by omega)]
      omega
    rw [ew] at Bh8
    refine ⟨((t - b2 - 1 : Nat) : Int), L5, by rw [if_pos k2, hg]; dsimp only; rw [if_neg (by omega)], by omega, Bh8, RD.st.fr hr6 f8 hFh, f06.thenNew f8 fun k e => by omega, (Bx5.fr f6 (hnb (by omega))).fr f8 fun e => by omega⟩
  rintro _ w6 ⟨bb, L5, hbb5, hbr, Bh6, hr6, f06, Bx6⟩
  rw [hbb5] at hD1
  dsimp only at hD1
  refine joinI (fun z v => z = !decide (e ≤ 4294967295 ∧ headE (k, c, (e : Int), (t : Int), bb) = 0) ∧ Fr None w6 v) ?_ ?_
  · refine ptrI (fldI Bh6 (i := 2) (x := e') rfl ?_)
    rw [wU64 (x := e') (by omega)]
    refine condN (fun hne => ⟨?_, Fr.refl _ _⟩) fun heq => ptrI (aggI Bh6 (x := ((k, c, e', (t : Int), bb) : Head)) rfl (spec_packet_Check fun w7 f7 => ⟨?_, f7⟩))
    · rw [decide_eq_false (fun hc => hne (by omega))]
      rfl
    · have heq : e' = (e : Int) := heq
      rw [heq]
      have hle : e ≤ 4294967295 := by omega
      by_cases hz : headE (k, c, (e : Int), (t : Int), bb) = 0
      · rw [decide_eq_true ⟨hle, hz⟩, hz]
        rfl
      · rw [decide_eq_false fun hc => hz hc.2]
        simpa using hz
  rintro z w7 ⟨rfl, f7⟩
  have f07 := f06.then f7.any
  refine joinI (fun (_ : Unit) v => (e ≤ 4294967295 ∧ headE (k, c, (e : Int), (t : Int), bb) = 0) ∧ v = w7) ?_ ?_
  · refine condI (fun hz => ?_) fun hz => ⟨by simpa using hz, rfl⟩
    have hz : ¬ (e ≤ 4294967295 ∧ headE (k, c, (e : Int), (t : Int), bb) = 0) := fun hc => by rw [decide_eq_true hc] at hz; cases hz
    exact h0 (by rw [hD1, if_neg hz]) w7 f07
  rintro _ w8 ⟨hok, rfl⟩
  rw [if_pos hok] at hD1
  have ee : e' = (e : Int) := by have := hok.1; omega
  rw [ee] at Bh6
  have Bh8 := Bh6.fr f7 fun h => h
  have Bx8 := Bx6.fr f7 fun h => h
  refine ptrI (aggI Bh8 (x := ((k, c, (e : Int), (t : Int), bb) : Head)) rfl (stoAll Bx8 rfl rfl fun w9 B9 f9 z9 => aggI B9 (x := ((k, c, (e : Int), (t : Int), bb) : Head)) rfl ?_))
  refine hk (k, c, (e : Int), (t : Int), bb) L5 hD1 (by unfold HeadOk; dsimp only; have := hok.1; omega) hok.2 w9 (RD.st.fr (RD.st.fr0 hr6 f7) f9 fun k e e2 => by have := hF k e; omega) (f07.thenNew f9 fun k e => by omega)
end Go.Proofs.YtchhhjlpnecjkaaGreat
namespace Go.Proofs.YtchhhjlpnecjkaaGreat
open Go Go.RowKit Go.Proofs.YtchhhjlpnecjkaaGreat.Den
theorem caught_idle (p : Addr) (w : World) : CallsD Tryz.prog k_packet_caught #[.pointer (some p)] .returning w fun e u' w' => e = .returned (.tuple #[]) ∧ u' = .returning ∧ w' = w := by
  refine callsD_of_wpS Tryz.func66 rfl fun c₀ cs hu => ?_
  apply wpS_seq
  apply wpS_region
  simp [wpOpsS, go_sem, recoverD, hu, Tryz.ntmps66, Exit.thenS]
  refine wpS_of_wp ?_
  go_wp2
  cases c₀
  simp_all [bodyPostS, results, Tryz.results66]
set_option maxRecDepth 100000 in
theorem caught_gave {b : Nat} {x : Int} {T : TypeId} {older : List PanicEntry} {w : World} (B : Blk w b T [.int .i64 x]) : CallsD Tryz.prog k_packet_caught #[.pointer (some ⟨b, 0, none⟩)] (.panicking ({ v := .iface 171 (.agg ⟨[]⟩), recovered := false } :: older)) w fun e u' w' =>
    e = .returned (.tuple #[]) ∧ u' = .panicking ({ v := .iface 171 (.agg ⟨[]⟩), recovered := true } :: older) ∧ w' = (w.alloc (.cells #[] 171)).setCell ⟨b, 0, none⟩ (.int .i64 4) := by
  have hc : w.cell? ⟨b, 0, none⟩ = some (.int .i64 x) := B.cell 0
  have hz : w.frozen? ⟨b, 0, none⟩ = false := B.frozen 0
  have B1 := B.fr ((Fr.refl None w).alloc (.cells #[] 171)) fun h => h
  have hc2 : (w.alloc (.cells #[] 171)).cell? ⟨b, 0, none⟩ = some (.int .i64 x) := B1.cell 0
  have hz2 : (w.alloc (.cells #[] 171)).frozen? ⟨b, 0, none⟩ = false := B1.frozen 0
  have hta : ∀ (t : TypeId) (w : World), (Instr.typeAssert (.iface 171 (.agg ⟨[]⟩)) t 171 true).run Tryz.prog w = .ok (.tuple #[.agg ⟨[]⟩, .bool true]) w := fun t w => by kernel_rfl
  refine callsD_of_wpS Tryz.func66 rfl fun c₀ cs hu => ?_
  apply wpS_seq
  apply wpS_region
  simp [wpOpsS, go_sem, recoverD, hu, Tryz.ntmps66, Exit.thenS]
  refine wpS_of_wp ?_
  go_wp2
  cases c₀
  simp_all [bodyPostS, results, Tryz.results66]
end Go.Proofs.YtchhhjlpnecjkaaGreat
namespace Go.Proofs.YtchhhjlpnecjkaaGreat.Den
open Go
variable {R : Type} {P : Program}
def envL : List (Nat × Value) → Env
  | [], _ => none
  | (j, v) :: r, i => bif Nat.beq i j then some v else envL r i
theorem envL_some : ∀ {l : List (Nat × Value)} {i : Nat} {v : Value}, envL l i = some v → (i, v) ∈ l
  | (j, u) :: r, i, v, h => by
    rw [envL] at h
    cases hb : Nat.beq i j with
    | true => rw [hb] at h; cases h; rw [nbeq.1 hb]; exact List.mem_cons_self
    | false => rw [hb] at h; exact List.mem_cons_of_mem _ (envL_some h)
def doorOf (fn : Func) : Code := match fn.body with
  | some (.seq _ (.seq _ c)) => c
  | _ => .skip
def denDoor (P : Program) (h : Hints) (fn : Func) (ts : List Ty) (env : Env) : W (Res ts ⊕ List PanicEntry) :=
  den P fn.ntmps h 0 (doorOf fn) (fun e => resVars e fn.results.toList ts fun r => retW (.inl r)) (fun _ _ => failW) (fun e => resVars e fn.results.toList ts fun r => retW (.inl r)) env
theorem door_sound (hmix : P.follows .mixedOrders = true) {fn : Func} {h : Hints} {ts : List Ty} (hres : ResOk P fn.results.toList ts) {D : List Deferred} {env : Env} {a : Act} {w : World} {post : Res ts ⊕ List PanicEntry → World → Prop} {QX : Exit → Act → World → Prop}
    (ha : Ag D fn.ntmps env a) (hd : denDoor P h fn ts env post w) (hret : ∀ a w z, a.defers = D → (results fn a.tmps).run P w = .ok (resE ts z) w → post (.inl z) w → QX .normal a w ∧ QX .ret a w) (hp : ∀ ch a w, Ag D fn.ntmps (lim env (dsts (doorOf fn))) a → post (.inr ch) w → QX (.panic ch) a w) : (doorOf fn).wp P QX a w := by
  have hfin : ∀ (env' : Env) (a : Act) (w : World), Ag D fn.ntmps env' a → resVars env' fn.results.toList ts (fun r => retW (.inl r)) post w → QX .normal a w ∧ QX .ret a w := by
    intro env' a w ha hr
    obtain ⟨z, hz, hk⟩ := res_vars ha _ _ _ _ _ hres hr
    have := results_rv fn a.tmps hz
    rw [resE_vs] at this
    exact hret a w z ha.defers this hk
  refine den_sound hmix (h := h) (doorOf fn) 0 _ _ _ env a w post QX ha hd ?_ ?_ ?_ hp
  · rintro a w' ⟨e, h1, _, h3⟩
    exact (hfin e a w' h1 h3).1
  · rintro id a w' ⟨e, _, _, h3⟩
    exact h3.elim
  · intro e a w' h1 h3
    exact (hfin e a w' h1 h3).2
end Go.Proofs.YtchhhjlpnecjkaaGreat.Den
set_option linter.unusedVariables false
namespace Go.Proofs.YtchhhjlpnecjkaaGreat
open Go Go.Proofs.YtchhhjlpnecjkaaGreat.Den
def F_packet_front_door (body0 : Sl) (t2 : Addr) (t3 : Addr) (t4 : Addr) : W (((Int × Int × Int × Int × Int) × (Option Addr) × Int) ⊕ List PanicEntry) :=
  callW Tryz.prog k_bits_Read [.slice body0.a body0.n body0.c] [.sc .ptr] fun (x_1 : (Option Addr)) =>
  stoL t3 [.pointer x_1] 0 <|
  drawW <|
  ld (.agg [.ptr]) t3 fun (x_2 : (Option Addr)) =>
  ld (.agg [.ptr]) t3 fun (x_3 : (Option Addr)) =>
  callP Tryz.prog k_packet_reader_head [.agg ⟨[.pointer x_2]⟩] [.agg [.int .u8, .int .u8, .int .u32, .int .u32, .int .u32]] fun (x_4 : (Int × Int × Int × Int × Int)) =>
  andW (fun w => Rd w t3 (.agg [.ptr]) x_3) <|
  stoL t2 [.int .u8 x_4.1, .int .u8 x_4.2.1, .int .u32 x_4.2.2.1, .int .u32 x_4.2.2.2.1, .int .u32 x_4.2.2.2.2] 0 <|
  andW (fun w => Rd w t3 (.agg [.ptr]) x_3) <|
  stoL t3 [.pointer x_3] 0 <|
  stoL t4 [.int .i64 0] 0 <|
  ld (.agg [.int .u8, .int .u8, .int .u32, .int .u32, .int .u32]) t2 fun (x_5 : (Int × Int × Int × Int × Int)) =>
  ld (.agg [.ptr]) t3 fun (x_6 : (Option Addr)) =>
  ld (.sc (.int .i64)) t4 fun (x_7 : Int) =>
  retW (.inl (x_5, x_6, x_7))
def H_packet_front_door : Hints := { dr := [(3, ([], [[(0, []), (2, []), (1, [2]), (3, [2]), (4, []), (5, [])]]))], mp := [68] }
theorem E_packet_front_door (body0 : Sl) (t2 : Addr) (t3 : Addr) (t4 : Addr) : denDoor Tryz.prog H_packet_front_door Tryz.f27 [.agg [.int .u8, .int .u8, .int .u32, .int .u32, .int .u32], .agg [.ptr], .sc (.int .i64)] (envL [(0, .slice body0.a body0.n body0.c), (2, .pointer (some t2)), (3, .pointer (some t3)), (4, .pointer (some t4))]) = F_packet_front_door body0 t2 t3 t4 := by kernel_rfl
end Go.Proofs.YtchhhjlpnecjkaaGreat
namespace Go.Proofs.YtchhhjlpnecjkaaGreat
open Go Go.RowKit Go.Proofs.YtchhhjlpnecjkaaGreat.Den
variable {R : Type} {Q : R → World → Prop} {w : World}
theorem caught_ret {fn : Func} {tmps : Array Value} {RR : Ending → World → Prop} {p : Addr} {v : Value} (hrun : (results fn tmps).run Tryz.prog w = .ok v w) (hR : RR (.returned v) w) : Leaves Tryz.prog fn tmps RR [{ target := .fn (.func 66) #[], args := #[.pointer (some p)] }] .returning w := by
  refine leaves_cons (f := 66) (args := #[.pointer (some p)]) (by simp) (by simp [go_sem]) ?_
  refine (caught_idle p w).mono ?_
  rintro e u' w'' ⟨rfl, rfl, rfl⟩
  exact ⟨v, hrun, hR⟩
theorem caught_bad {fn : Func} {tmps : Array Value} {RR : Ending → World → Prop} {b : Nat} {x : Int} {T : TypeId} (B : Blk w b T [.int .i64 x]) {v : Value} (h : ∀ w', Blk w' b T [.int .i64 4] → Fr (fun k => k = b) w w' → ((results fn tmps).run Tryz.prog w' = .ok v w') ∧ RR (.returned v) w') : Leaves Tryz.prog fn tmps RR [{ target := .fn (.func 66) #[], args := #[.pointer (some ⟨b, 0, none⟩)] }] (.panicking giveUp) w := by
  refine leaves_cons (f := 66) (args := #[.pointer (some ⟨b, 0, none⟩)]) (by simp) (by simp [go_sem]) ?_
  refine (caught_gave (older := []) B).mono ?_
  rintro e u' w'' ⟨rfl, rfl, rfl⟩
  have f1 : Fr None w (w.alloc (.cells #[] 171)) := (Fr.refl None w).alloc _
  have B1 := B.fr f1 fun h => h
  obtain ⟨h1, h2⟩ := h _ (B1.set 0 (.int .i64 4)) (Fr.setCell (S := fun k => k = b) f1.any (p := ⟨b, 0, none⟩) (.inl rfl) _)
  simp only [settle, List.dropWhile_nil]
  exact ⟨v, h1, h2⟩
abbrev headT : List Sc := [.int .u8, .int .u8, .int .u32, .int .u32, .int .u32]
set_option maxRecDepth 100000 in
theorem spec_packet_front {ok : Nat → Prop} {s : Sl} {l : List Int} (hS : SlT ok w u8T s l) (hb : BytesOk l) (hm : l.length ≤ 1048576) {K : Res [.agg headT, .agg [.ptr], .sc (.int .i64)] → W R} (h0 : headD (bitsU l) = none → ∀ p w', Fr None w w' → K ((0, 0, 0, 0, 0), p, 4) Q w')
    (hk : ∀ hd L', headD (bitsU l) = some (hd, L') → HeadOk hd → headE hd = 0 → ∀ b w', RD b L' (Up w.heap.size) w' → Fr None w w' → K (hd, some ⟨b, 0, none⟩, 0) Q w') :
    callW Tryz.prog k_packet_front [.slice s.a s.n s.c] [.agg headT, .agg [.ptr], .sc (.int .i64)] K Q w := by
  unfold callW
  go_enter_defers Tryz.func27, Tryz.ntmps27
  generalize hc : Code.seq (Code.region 2 _ _) _ = c
  go_wp2
  have hc : c = doorOf Tryz.f27 := hc.symm
  subst hc
  obtain ⟨w3, hw3⟩ : ∃ w3, w3 = ((w.alloc (.cells #[.int .u8 0, .int .u8 0, .int .u32 0, .int .u32 0, .int .u32 0] 30)).alloc (.cells #[.pointer none] 62)).alloc (.cells #[.int .i64 0] 31) := ⟨_, rfl⟩
  have f1 : Fr None w (w.alloc (.cells #[.int .u8 0, .int .u8 0, .int .u32 0, .int .u32 0, .int .u32 0] 30)) := (Fr.refl None w).alloc _
  have f2 := f1.alloc (.cells #[.pointer none] 62)
  have f3 := f2.alloc (.cells #[.int .i64 0] 31)
  have Bh : Blk w3 w.heap.size 30 [.int .u8 0, .int .u8 0, .int .u32 0, .int .u32 0, .int .u32 0] := by rw [hw3]; exact ((Blk.new w _ _).alloc _).alloc _
  have Br : Blk w3 (w.heap.size + 1) 62 [.pointer none] := by
    rw [hw3]
    refine Blk.alloc ?_ _
    have := Blk.new (w.alloc (.cells #[.int .u8 0, .int .u8 0, .int .u32 0, .int .u32 0, .int .u32 0] 30)) 62 [.pointer none]
    simpa using this
  have Be : Blk w3 (w.heap.size + 2) 31 [.int .i64 0] := by
    rw [hw3]
    have := Blk.new ((w.alloc (.cells #[.int .u8 0, .int .u8 0, .int .u32 0, .int .u32 0, .int .u32 0] 30)).alloc (.cells #[.pointer none] 62)) 31 [.int .i64 0]
    simpa using this
  have fw : Fr None w w3 := by rw [hw3]; exact f3
  have z3 : w3.heap.size = w.heap.size + 3 := by rw [hw3]; simp
  rw [← hw3]
  clear hw3 f1 f2 f3
  refine door_sound mix (fn := Tryz.f27) (D := [{ target := .fn (.func 66) #[], args := #[.pointer (some ⟨w.heap.size + 2, 0, none⟩)] }]) (h := H_packet_front_door) (ts := [.agg headT, .agg [.ptr], .sc (.int .i64)]) ⟨by kernel_rfl, by kernel_rfl, by kernel_rfl, trivial⟩ (env := envL [(0, .slice s.a s.n s.c), (2, .pointer (some ⟨w.heap.size, 0, none⟩)), (3, .pointer (some ⟨w.heap.size + 1, 0, none⟩)), (4, .pointer (some ⟨w.heap.size + 2, 0, none⟩))])
    (post := fun r w' => match r with
      | .inl z => K z Q w'
      | .inr ch => headD (bitsU l) = none ∧ ch = giveUp ∧ Fr None w w' ∧ Blk w' w.heap.size 30 [.int .u8 0, .int .u8 0, .int .u32 0, .int .u32 0, .int .u32 0] ∧ (∃ p, Blk w' (w.heap.size + 1) 62 [.pointer p]) ∧ Blk w' (w.heap.size + 2) 31 [.int .i64 0]) ?_ ?_ ?_ ?_
  · refine ⟨rfl, rfl, fun i v hv => ?_⟩
    have := envL_some hv
    simp only [List.mem_cons, Prod.mk.injEq, List.not_mem_nil, or_false] at this
    rcases this with ⟨rfl, rfl⟩ | ⟨rfl, rfl⟩ | ⟨rfl, rfl⟩ | ⟨rfl, rfl⟩ <;> rfl
  · rw [E_packet_front_door]
    unfold F_packet_front_door
    refine spec_bits_Read (hS.fr0 fw) hb hm fun b w4 hr f4 => ?_
    have z4 := f4.size
    refine stoAll (Br.fr f4 fun h => h) rfl rfl fun w5 B5 f5 z5 => ?_
    have fd : Fr None w5 w5.drew := (Fr.refl _ _).drew
    have Bd := B5.fr fd fun h => h
    have g4 : Fr (fun k => k = w.heap.size + 1) w4 w5.drew := f5.then0 fd
    have hb3 : w3.heap.size ≤ b := hr.1
    have hrd : RD b (bitsU l) (fun k => w3.heap.size ≤ k ∧ k < w4.heap.size) w5.drew := RD.st hr g4 fun k hk (e : w3.heap.size ≤ k) => ⟨by omega, e, hk⟩
    have zd : w5.drew.heap.size = w4.heap.size := by show w5.heap.size = _; omega
    have Bhd := (Bh.fr f4 fun h => h).fr g4 (show ¬ w.heap.size = w.heap.size + 1 by omega)
    have Bed := (Be.fr f4 fun h => h).fr g4 (show ¬ w.heap.size + 2 = w.heap.size + 1 by omega)
    refine aggI Bd (x := some ⟨b, 0, none⟩) rfl (aggI Bd (x := some ⟨b, 0, none⟩) rfl ?_)
    have f0d : Fr None w w5.drew := (fw.then0 f4).newer g4 fun k e => by omega
    refine spec_rd_head hrd (fun k e => by omega) (fun hn w6 f6 => ?_) fun hd L' hh hok he w6 hr6 f6 => ?_
    · exact ⟨hn, rfl, f0d.newer f6 fun k e => by omega, Bhd.fr f6 fun e => by omega, ⟨_, Bd.fr f6 fun e => by omega⟩, Bed.fr f6 fun e => by omega⟩
    · have B6 := Bd.fr f6 (show ¬ w.heap.size + 1 = b by omega)
      have rdr : ∀ {u : World}, Blk u (w.heap.size + 1) 62 [.pointer (some ⟨b, 0, none⟩)] → Rd u ⟨w.heap.size + 1, 0, none⟩ (.agg [.ptr]) (some ⟨b, 0, none⟩) := fun B j u hj => B.cells 0 [.pointer (some ⟨b, 0, none⟩)] (fun j u hj => by simpa using hj) j u hj
      refine andI (rdr B6) (stoAll (Bhd.fr f6 fun e => by omega) rfl rfl fun w7 B7 f7 z7 => andI (rdr (B6.fr f7 fun e => by omega)) (stoAll (B6.fr f7 fun e => by omega) rfl rfl fun w8 B8 f8 z8 => ?_))
      refine stoAll (((Bed.fr f6 fun e => by omega).fr f7 fun e => by omega).fr f8 fun e => by omega) rfl rfl fun w9 B9 f9 z9 => ?_
      refine aggI ((B7.fr f8 fun e => by omega).fr f9 fun e => by omega) (x := hd) rfl (aggI (B8.fr f9 fun e => by omega) (x := some ⟨b, 0, none⟩) rfl (fld0 B9 (i := 0) (x := (0 : Int)) rfl ?_))
      have f69 : Fr (fun k => w.heap.size ≤ k ∧ k < w3.heap.size) w6 w9 := ((f7.sub fun k e => ⟨by omega, by omega⟩).then (f8.sub fun k e => ⟨by omega, by omega⟩)).then (f9.sub fun k e => ⟨by omega, by omega⟩)
      refine hk hd L' hh hok he b w9 (RD.st hr6 f69 fun k _ e => ⟨by omega, show w.heap.size ≤ k by omega⟩) ((f0d.newer f6 fun k e => by omega).newer f69 fun k e => e.1)
  · intro a w' z hD hrun hz
    have : Leaves Tryz.prog Tryz.f27 a.tmps (fun e w' => ∃ r, e = .returned (resE [.agg headT, .agg [.ptr], .sc (.int .i64)] r) ∧ K r Q w') a.defers .returning w' := by
      rw [hD]
      exact caught_ret hrun ⟨z, rfl, hz⟩
    exact ⟨this, this⟩
  · rintro ch a w' ha ⟨hn, rfl, f0, Bh', ⟨p, Br'⟩, Be'⟩
    show Leaves Tryz.prog Tryz.f27 a.tmps _ a.defers (.panicking giveUp) w'
    rw [ha.defers]
    refine caught_bad Be' (v := resE [.agg headT, .agg [.ptr], .sc (.int .i64)] ((0, 0, 0, 0, 0), p, 4)) fun w2 B2 g2 => ⟨?_, _, rfl, h0 hn p w2 (f0.newer g2 fun k e => by omega)⟩
    have lm : ∀ i v, memB (dsts (doorOf Tryz.f27)) i = false → envL [(0, .slice s.a s.n s.c), (2, .pointer (some ⟨w.heap.size, 0, none⟩)), (3, .pointer (some ⟨w.heap.size + 1, 0, none⟩)), (4, .pointer (some ⟨w.heap.size + 2, 0, none⟩))] i = some v → lim (envL [(0, .slice s.a s.n s.c), (2, .pointer (some ⟨w.heap.size, 0, none⟩)), (3, .pointer (some ⟨w.heap.size + 1, 0, none⟩)), (4, .pointer (some ⟨w.heap.size + 2, 0, none⟩))]) (dsts (doorOf Tryz.f27)) i = some v := fun i v h1 h2 => by
      unfold lim
      rw [h1]
      exact h2
    have c2 := rv_cell (P := Tryz.prog) ha (t := 2) (T := 30) (lm 2 _ (by kernel_rfl) rfl) (y := .agg headT) (by kernel_rfl) (x := (0, 0, 0, 0, 0)) (w := w2) (fun j u hj => (Bh'.fr g2 (show ¬ w.heap.size = w.heap.size + 2 by omega)).cells 0 (Tup.e Sc.e headT (0, 0, 0, 0, 0)) (fun j u hj => by rw [Nat.zero_add]; exact hj) j u hj)
    have c3 := rv_cell (P := Tryz.prog) ha (t := 3) (T := 62) (lm 3 _ (by kernel_rfl) rfl) (y := .agg [.ptr]) (by kernel_rfl) (x := p) (w := w2) (fun j u hj => (Br'.fr g2 (show ¬ w.heap.size + 1 = w.heap.size + 2 by omega)).cells 0 [.pointer p] (fun j u hj => by simpa using hj) j u hj)
    have c4 := rv_cell (P := Tryz.prog) ha (t := 4) (T := 31) (lm 4 _ (by kernel_rfl) rfl) (y := .sc (.int .i64)) (by kernel_rfl) (x := (4 : Int)) (w := w2) (B2.cell 0)
    have := results_rv Tryz.f27 a.tmps (mapM_rv_cons c2 (mapM_rv_cons c3 (mapM_rv_cons c4 rfl)))
    exact this
end Go.Proofs.YtchhhjlpnecjkaaGreat
namespace Go.Proofs.YtchhhjlpnecjkaaGreat
open Go Go.RowKit Go.Proofs.YtchhhjlpnecjkaaGreat.Den
variable {R : Type} {Q : R → World → Prop} {w : World}
theorem spec_comp_in {b : Nat} {L : List Bool} {F : Nat → Prop} (h : RD b L F w) {k i : Int} (hr : (rangeM k i).1 ≤ (rangeM k i).2.1) {K : Res [.sc (.int .i32), .sc (.int .i64)] → W R} (h0 : getIn (rangeM k i).1 (rangeM k i).2.1 L = none → ∀ e w', e ≠ 0 → RD b L F w' → Fr (fun k => k = b) w w' → K (0, e) Q w') (hk : ∀ v L', getIn (rangeM k i).1 (rangeM k i).2.1 L = some (v, L') → (rangeM k i).1 ≤ v ∧ v ≤ (rangeM k i).2.1 → ∀ w', RD b L' F w' → Fr (fun k => k = b) w w' → K (v, 0) Q w') :
    callW Tryz.prog k_comp_in [.pointer (some ⟨b, 0, none⟩), .int .u8 k, .int .i64 i] [.sc (.int .i32), .sc (.int .i64)] K Q w := by
  refine C_comp_in _ _ _ K Q w ?_
  unfold F_comp_in
  refine spec_schema_Range fun w1 f1 => ?_
  obtain ⟨r1, r2⟩ := rangeM_i32 k i
  rw [w64 (x := (rangeM k i).1) (by omega), w64 (x := (rangeM k i).2.1) (by omega)]
  refine spec_Rd_GetIn (RD.st.fr0 h f1) (by omega) hr (by omega) (fun hg e w2 he hr2 f2 => ?_) fun v L' hg hv w2 hr2 f2 => ?_
  · exact h0 hg e w2 he hr2 (f1.any.then f2)
  · have ew : IntKind.wrap .i32 v = v := by rw [IntKind.wrap_i32]; omega
    show K (IntKind.wrap .i32 v, 0) Q w2
    rw [ew]
    exact hk v L' hg hv w2 hr2 (f1.any.then f2)
theorem readF_app (k : Int) : ∀ (is js : List Nat) (L : List Bool), readF k (is ++ js) L = match readF k is L with
    | none => none
    | some (vs, L2) => match readF k js L2 with
      | none => none
      | some (vs2, L3) => some (vs ++ vs2, L3)
  | [], js, L => by
    rw [List.nil_append, readF]
    dsimp only
    cases readF k js L with
    | none => rfl
    | some p => rfl
  | i :: r, js, L => by
    rw [List.cons_append, readF, readF]
    cases getIn (rangeM k (i : Int)).1 (rangeM k (i : Int)).2.1 L with
    | none => rfl
    | some p =>
      obtain ⟨v, L2⟩ := p
      dsimp only
      rw [readF_app k r js L2]
      cases readF k r L2 with
      | none => rfl
      | some q =>
        obtain ⟨vs, L3⟩ := q
        dsimp only
        cases readF k js L3 with
        | none => rfl
        | some t => rfl
theorem mkC_snoc {k : Int} {vs : List Int} {v : Int} (h : vs.length < 3) : (compC (mkC k vs)).set (1 + vs.length) (.int .i32 v) = compC (mkC k (vs ++ [v])) := by
  rcases vs with _ | ⟨a, _ | ⟨b, _ | ⟨c, r⟩⟩⟩
  · rfl
  · rfl
  · rfl
  · simp at h; omega
theorem range_le (k : Int) {i : Nat} (h : i < cntM k) : (rangeM k (i : Int)).1 ≤ (rangeM k (i : Int)).2.1 := by
  have h3 := cntM_le k
  rcases fieldsM_cases k with rfl | rfl | rfl | rfl | rfl | rfl | hk
  · rcases (show i = 0 ∨ i = 1 ∨ i = 2 by omega) with rfl | rfl | rfl <;> first | decide +kernel | exact absurd h (by decide +kernel)
  · rcases (show i = 0 ∨ i = 1 ∨ i = 2 by omega) with rfl | rfl | rfl <;> first | decide +kernel | exact absurd h (by decide +kernel)
  · rcases (show i = 0 ∨ i = 1 ∨ i = 2 by omega) with rfl | rfl | rfl <;> first | decide +kernel | exact absurd h (by decide +kernel)
  · rcases (show i = 0 ∨ i = 1 ∨ i = 2 by omega) with rfl | rfl | rfl <;> first | decide +kernel | exact absurd h (by decide +kernel)
  · rcases (show i = 0 ∨ i = 1 ∨ i = 2 by omega) with rfl | rfl | rfl <;> first | decide +kernel | exact absurd h (by decide +kernel)
  · rcases (show i = 0 ∨ i = 1 ∨ i = 2 by omega) with rfl | rfl | rfl <;> first | decide +kernel | exact absurd h (by decide +kernel)
  · have : cntM k = 0 := by unfold cntM fieldsM; simp [hk]
    omega
theorem spec_comp_Get {b : Nat} {L : List Bool} {F : Nat → Prop} (h : RD b L F w) (hF : ∀ k, F k → k < w.heap.size) {k : Int} {K : Res [.agg [.int .u8, .int .i32, .int .i32, .int .i32], .sc (.int .i64)] → W R} (h0 : compD k L = none → ∀ e w', e ≠ 0 → RD b L F w' → Fr (fun k => k = b) w w' → K ((0, 0, 0, 0), e) Q w') (hk : ∀ c L', compD k L = some (c, L') → ∀ w', RD b L' F w' → Fr (fun k => k = b) w w' → K (c, 0) Q w') :
    callW Tryz.prog k_comp_Get [.pointer (some ⟨b, 0, none⟩), .int .u8 k] [.agg [.int .u8, .int .i32, .int .i32, .int .i32], .sc (.int .i64)] K Q w := by
  refine C_comp_Get _ _ K Q w ?_
  unfold F_comp_Get
  have hbb := hF b h.1
  have hcn := cntM_le k
  refine newI fun w1 Br f1 z1 => newI fun w2 Bk f2 z2 => newI fun w3 Bx f3 z3 => ?_
  have Br := (Br.fr f2 fun h => h).fr f3 fun h => h
  have Bk := Bk.fr f3 fun h => h
  have f03 := (f1.then0 f2).then0 f3
  refine fld0 Br (i := 0) (x := some ⟨b, 0, none⟩) rfl (condF rfl (fld0 Bk (i := 0) (x := k) rfl (spec_schema_Count fun w4 f4 => ?_)))
  have f04 := f03.then0 f4
  have Br := Br.fr f4 fun h => h
  have Bk := Bk.fr f4 fun h => h
  have Bx := Bx.fr f4 fun h => h
  have s4 := f4.size
  refine condE (fun hz => ?_) fun hz => ?_
  · refine stoAll Bx rfl rfl fun w5 B5 f5 z5 => aggI B5 (x := ((0, 0, 0, 0) : Comp)) rfl ?_
    exact h0 (by unfold compD; rw [if_pos (by omega)]) 1 w5 (by decide) (RD.st.fr (RD.st.fr0 h f04) f5 fun k e e2 => by have := hF k e; omega) (f04.newer f5 fun k e => by omega).any
  have hD : compD k L = match readF k (List.range (cntM k)) L with
      | none => none
      | some (vs, r) => some (mkC k vs, r) := by unfold compD; rw [if_neg (by omega)] <;> rfl
  refine fld0 Br (i := 0) (x := some ⟨b, 0, none⟩) rfl (fld0 Bk (i := 0) (x := k) rfl ?_)
  refine C_comp_back__comp_Get_c1 (some ⟨b, 0, none⟩) (k, 0, 0, 0) _ _ _ _ _ ?_
  unfold F_comp_back__comp_Get_c1
  have hr4 := RD.st.fr0 h f04
  obtain ⟨s, n, B, hback⟩ := hr4.back
  refine newI fun w5 Bc f5 z5 => newI fun w6 By f6 z6 => ?_
  have Bc := Bc.fr f6 fun h => h
  have f46 := f5.then0 f6
  refine ptrI (aggI (B.fr f46 fun h => h) (x := ((s, n) : Sl × Int)) rfl (newI fun w7 Bw f7 z7 => stoAll Bw rfl rfl fun w8 Bw f8 z8 => ?_))
  have f68 : Fr None w6 w8 := f7.newer f8 fun k e => by omega
  have f48 := f46.then0 f68
  have Bc := Bc.fr f68 fun h => h
  have By := By.fr f68 fun h => h
  refine fldI Bc (i := 0) (x := k) rfl (spec_schema_Count fun w9 f9 => ?_)
  have f49 := f48.then0 f9
  have s9 := f49.size
  have hw4 : w.heap.size ≤ w4.heap.size := f04.size
  have hFn : ∀ {x : Nat}, w.heap.size ≤ x → ∀ k, F k → ¬ k = x := fun hx k e e2 => by have := hF k e; omega
  refine forI (N := cntM k) (fun s : Int => s) (fun j i u => i = (j : Int) ∧ (∃ vs L', vs.length = j ∧ readF k (List.range j) L = some (vs, L') ∧ Blk u w4.heap.size 92 (compC (mkC k vs)) ∧ RD b L' F u) ∧ Fr (fun k => k = b) w4 u ∧ Blk u w5.heap.size 92 (compC (0, 0, 0, 0)) ∧ Blk u w6.heap.size 173 [.slice s.a s.n s.c, .int .i64 n] ∧ Blk u w.heap.size 60 [.pointer (some ⟨b, 0, none⟩)] ∧ Blk u w1.heap.size 5 [.int .u8 k] ∧ Blk u w2.heap.size 92 (compC (0, 0, 0, 0)))
    ⟨rfl, ⟨[], L, rfl, rfl, Bc.fr f9 fun h => h, RD.st.fr0 hr4 f49⟩, f49.any, By.fr f9 fun h => h, Bw.fr f9 fun h => h, Br.fr f49 fun h => h, Bk.fr f49 fun h => h, Bx.fr f49 fun h => h⟩ (fun j s w' h => h.1) ?_ ?_
  · rintro j i u K' hj ⟨rfl, ⟨vs, L', hvl, hrd, Bc, hr⟩, fu, By, Bw, Br, Bk, Bx⟩ - hK
    refine C_comp_Get_c1 _ _ _ _ _ _ ?_
    unfold F_comp_Get_c1
    have nb : ∀ {x : Nat}, w.heap.size ≤ x → ¬ x = b := fun hx e => by omega
    have f0u : Fr (fun k => k = b) w u := f04.any.then fu
    refine ptrI (fld0 Br (i := 0) (x := some ⟨b, 0, none⟩) rfl (ptrI (fld0 Bk (i := 0) (x := k) rfl ?_)))
    refine spec_comp_in hr (range_le k hj) (fun hg e u2 he hr2 f2 => ?_) fun v L2 hg hv u2 hr2 f2 => ?_
    · have hnone : compD k L = none := by
        rw [hD]
        have e1 : List.range (cntM k) = List.range j ++ (j :: List.range' (j + 1) (cntM k - j - 1)) := by
          have : cntM k = j + ((cntM k - j - 1) + 1) := by omega
          rw [this, List.range_eq_range', List.range_eq_range', ← List.range'_append_1, Nat.zero_add, List.range'_succ]
          congr 4
          omega
        rw [e1, readF_app, hrd]
        dsimp only
        rw [readF, hg]
      refine condT (by simpa using he) ?_
      obtain ⟨cs, B2, hl⟩ := hr2.blk
      refine aggI (Bw.fr f2 (nb (by omega))) (x := ((s, n) : Sl × Int)) rfl (ptrI (stoAll B2 hl.symm rfl fun u3 B3 f3 y3 => ?_))
      have By3 := (By.fr f2 (nb (by omega))).fr f3 (nb (by omega))
      have f43 : Fr (fun k => k = b) w4 u3 := (fu.then f2).then f3
      have hr3 := hback u3 f43 B3
      have s3 := f43.size
      refine stoAll By3 rfl rfl fun u4 B4 f4 y4 => aggI B4 (x := ((0, 0, 0, 0) : Comp)) rfl ?_
      have Bx4 := (((Bx.fr f2 (nb (by omega))).fr f3 (nb (by omega))).fr f4 fun e => by omega)
      refine stoAll Bx4 rfl rfl fun u5 B5 f5 y5 => aggI B5 (x := ((0, 0, 0, 0) : Comp)) rfl ?_
      exact h0 hnone e u5 he (RD.st.fr (RD.st.fr hr3 f4 (hFn (by omega))) f5 (hFn (by omega))) (((f04.any.then f43).thenNew f4 fun k e => by omega).thenNew f5 fun k e => by omega)
    · show idxW (some (Addr.add ⟨w4.heap.size, 0, none⟩ 1)) 3 1 (j : Int) (fun x => stoL x [.int .i32 v] 0 (K' (IntKind.wrap .i64 ((j : Int) + 1)))) _ _
      refine fIdx rfl (by omega) ?_
      refine setI (i := 1 + j) (Bc.fr f2 (nb (by omega))) (by simp; omega) rfl fun u3 B3 f3 y3 => ?_
      subst hvl
      rw [mkC_snoc (by omega)] at B3
      have ne : ∀ {x : Nat}, x ≠ w4.heap.size → ¬ x = w4.heap.size := fun h => h
      refine hK _ _ ⟨wsucc hj (by omega), ⟨vs ++ [v], L2, by simp, ?_, B3, RD.st.fr hr2 f3 (hFn (by omega))⟩, (fu.then f2).thenNew f3 fun k e => by omega, (By.fr f2 (nb (by omega))).fr f3 (ne (by omega)), (Bw.fr f2 (nb (by omega))).fr f3 (ne (by omega)), (Br.fr f2 (nb (by omega))).fr f3 (ne (by omega)), (Bk.fr f2 (nb (by omega))).fr f3 (ne (by omega)), (Bx.fr f2 (nb (by omega))).fr f3 (ne (by omega))⟩
      rw [List.range_succ, readF_app, hrd]
      dsimp only
      rw [readF, hg]
      rfl
  · rintro i u ⟨_, ⟨vs, L', hvl, hrd, Bc, hr⟩, fu, By, Bw, Br, Bk, Bx⟩
    rw [hrd] at hD
    dsimp only at hD
    refine aggI Bc (x := mkC k vs) rfl (stoAll By rfl rfl fun u2 B2 f2 y2 => aggI B2 (x := mkC k vs) rfl ?_)
    have Bx2 := Bx.fr f2 fun e => by omega
    refine stoAll Bx2 rfl rfl fun u3 B3 f3 y3 => aggI B3 (x := mkC k vs) rfl ?_
    exact hk _ L' hD u3 (RD.st.fr (RD.st.fr hr f2 (hFn (by omega))) f3 (hFn (by omega))) (((f04.any.then fu).thenNew f2 fun k e => by omega).thenNew f3 fun k e => by omega)
end Go.Proofs.YtchhhjlpnecjkaaGreat
namespace Go.Proofs.YtchhhjlpnecjkaaGreat
open Go Go.RowKit Go.Proofs.YtchhhjlpnecjkaaGreat.Den
variable {R : Type} {Q : R → World → Prop} {w : World}
theorem mask_bit : ∀ m : Fin 32, ∀ j : Fin 5, (bAnd .u64 (shR .u64 ((m.val : Nat) : Int) ((j.val : Nat) : Int)) 1 == 1) = m.val.testBit j.val := by decide +kernel
def kindsB (m j : Nat) : List Int := ((List.range j).filter (Nat.testBit m)).map fun (k : Nat) => (k : Int)
theorem kindsB_succ (m j : Nat) : kindsB m (j + 1) = kindsB m j ++ if m.testBit j = true then [(j : Int)] else [] := by
  unfold kindsB
  rw [List.range_succ, List.filter_append, List.map_append]
  congr 1
  by_cases h : m.testBit j = true
  · simp [List.filter, h]
  · simp [List.filter, h]
theorem kindsB_all {m : Nat} (h : m < 32) : kindsB m 5 = kindsOf m := by
  have e : kindsOf m = kindsB m 6 := rfl
  have h5 : m.testBit 5 = false := by
    rw [Nat.testBit_eq_decide_div_mod_eq]
    simp
    omega
  rw [e, show (6 : Nat) = 5 + 1 from rfl, kindsB_succ m 5, h5]
  simp
theorem kindsB_le (m j : Nat) : (kindsB m j).length ≤ j := by
  unfold kindsB
  rw [List.length_map]
  exact Nat.le_trans (List.length_filter_le _ _) (by simp)
theorem spec_packet_kinds {m : Nat} (hm : m < 32) {K : Res [.sc .sl] → W R} (hk : ∀ r w', Own (Up w.heap.size) w' 5 u8T r (kindsOf m) → Fr None w w' → K r Q w') :
    callW Tryz.prog k_packet_kinds [.int .u64 (m : Int)] [.sc .sl] K Q w := by
  refine C_packet_kinds _ K Q w ?_
  unfold F_packet_kinds
  refine forI (N := 5) (fun s : Sl × Int => s.2) (fun j st u => st.2 = (j : Int) ∧ Own (Up w.heap.size) u 5 u8T st.1 (kindsB m j) ∧ Fr None w u) ⟨rfl, Own.nil _ _ _ _, Fr.refl _ _⟩ (fun j s w' h => h.1) ?_ ?_
  · rintro j ⟨z, _⟩ u K' hj ⟨rfl, o, fu⟩ - hK
    have zu := fu.size
    have lb := kindsB_le m j
    refine chkI (by omega) ?_
    have hb := mask_bit ⟨m, hm⟩ ⟨j, hj⟩
    dsimp only at hb ⊢
    rw [hb]
    refine joinI (fun z u' => Own (Up w.heap.size) u' 5 u8T z (kindsB m (j + 1)) ∧ Fr None w u') ?_ fun z u' ⟨h1, h2⟩ => hK _ _ ⟨by rw [wu8 (by omega)]; rfl, h1, h2⟩
    rw [kindsB_succ]
    refine condI (fun h => ?_) fun h => ?_
    · rw [if_pos h]
      exact appP (x := (j : Int)) bytes_ty rfl o (fun k e => by show w.heap.size ≤ k; omega) (by omega) (by omega) fun r u2 o2 f2 => ⟨o2, fu.newer f2 fun k e => o.own k e⟩
    · rw [if_neg (by rw [h]; decide), List.append_nil]
      exact ⟨o, fu⟩
  · rintro ⟨z, _⟩ u ⟨_, o, fu⟩
    rw [kindsB_all hm] at o
    exact hk z u o fu
theorem spec_must_Comp [Pan R] {v : Comp} {e : Int} {K : Res [.agg [.int .u8, .int .i32, .int .i32, .int .i32]] → W R} (h0 : e ≠ 0 → ∀ w', Fr None w w' → Pan.pan Q giveUp w') (hk : e = 0 → ∀ w', Fr None w w' → K v Q w') : callP Tryz.prog k_packet_must_Comp [.agg ⟨[.int .u8 v.1, .int .i32 v.2.1, .int .i32 v.2.2.1, .int .i32 v.2.2.2]⟩, .int .i64 e] [.agg [.int .u8, .int .i32, .int .i32, .int .i32]] K Q w := by
  refine C_packet_must_Comp v e K Q w ?_
  unfold F_packet_must_Comp
  refine newI fun w1 B1 f1 z1 => newI fun w2 B2 f2 z2 => ?_
  have f02 := f1.then0 f2
  refine joinI (fun _ w' => e = 0 ∧ w' = w2) (condN (fun h => h0 h w2 f02) fun h => ⟨h, rfl⟩) ?_
  rintro _ w' ⟨h, rfl⟩
  refine aggI (B1.fr f2 fun h => h) (x := v) rfl (stoAll B2 rfl rfl fun w3 B3 f3 z3 => aggI B3 (x := v) rfl ?_)
  exact hk h w3 (f02.newer f3 fun k e => by omega)
theorem spec_rd_comps [Pan R] {b : Nat} {L : List Bool} {F : Nat → Prop} (h : RD b L F w) (hF : ∀ k, F k → k < w.heap.size) {m : Nat} (hm : m < 32) {K : Res [.sc .sl] → W R} (h0 : compsD (kindsOf m) L = none → ∀ w', Fr (fun k => k = b) w w' → Pan.pan Q giveUp w') (hk : ∀ cs L', compsD (kindsOf m) L = some (cs, L') → ∀ r w', Own (Up w.heap.size) w' 92 compT r cs → RD b L' F w' → Fr (fun k => k = b) w w' → K r Q w') :
    callP Tryz.prog k_packet_reader_comps [.agg ⟨[.pointer (some ⟨b, 0, none⟩)]⟩, .int .u64 (m : Int)] [.sc .sl] K Q w := by
  refine C_packet_reader_comps _ _ K Q w ?_
  unfold F_packet_reader_comps
  have hbb := hF b h.1
  refine newI fun w1 B1 f1 z1 => spec_packet_kinds hm fun r w2 o2 f2 => ?_
  have f02 := f1.then0 f2
  have z2 := f02.size
  have B2 := B1.fr f2 fun h => h
  have hlen := o2.len
  have hkl : (kindsOf m).length ≤ 5 := by rw [← kindsB_all hm]; exact kindsB_le m 5
  have app : ∀ (is js : List Int) (L : List Bool) cs L2, compsD is L = some (cs, L2) → compsD (is ++ js) L = match compsD js L2 with
      | none => none
      | some (cs2, L3) => some (cs ++ cs2, L3) := by
    intro is
    induction is with
    | nil =>
      intro js L cs L2 e
      rw [compsD] at e
      cases e
      rw [List.nil_append]
      cases compsD js L with
      | none => rfl
      | some p => rfl
    | cons i is ih =>
      intro js L cs L2 e
      rw [compsD] at e
      rw [List.cons_append, compsD]
      cases hi : compD i L with
      | none => rw [hi] at e; cases e
      | some p =>
        obtain ⟨c, L1⟩ := p
        rw [hi] at e
        dsimp only at e ⊢
        cases hj : compsD is L1 with
        | none => rw [hj] at e; cases e
        | some q =>
          obtain ⟨cs1, L3⟩ := q
          rw [hj] at e
          dsimp only at e
          cases e
          rw [ih js L1 _ _ hj]
          cases compsD js _ with
          | none => rfl
          | some t => rfl
  refine forI (N := r.n) (fun s : Sl × Int => s.2) (fun j st u => st.2 = (j : Int) ∧ (∃ cs L', compsD ((kindsOf m).take j) L = some (cs, L') ∧ cs.length = j ∧ Own (fun k => w2.heap.size ≤ k) u 92 compT st.1 cs ∧ RD b L' F u) ∧ Fr (fun k => k = b) w2 u) ⟨rfl, ⟨[], L, rfl, rfl, Own.nil _ _ _ _, RD.st.fr0 h f02⟩, Fr.refl _ _⟩ (fun j s w' h => h.1) ?_ ?_
  · rintro j ⟨z, _⟩ u K' hj ⟨rfl, ⟨cs, L', e, hl, o, hr⟩, fu⟩ - hK
    have zu := fu.size
    have nbo : ∀ k, Up w1.heap.size k → ¬ k = b := fun k e e2 => by have e : w1.heap.size ≤ k := e; omega
    refine (o2.sl.fr fu nbo).get rfl rfl (by omega) fun k hkj => ?_
    have e1 := app _ [k] L cs L' e
    rw [← take_at hkj] at e1
    refine fldI (B2.fr fu fun e => by omega) (i := 0) (x := some ⟨b, 0, none⟩) rfl ?_
    refine spec_comp_Get hr (fun k e => by have := hF k e; omega) (fun hg e' u2 he hr2 f2' => ?_) fun c L2 hg u2 hr2 f2' => ?_
    · refine spec_must_Comp (v := (0, 0, 0, 0)) (fun _ w' f' => h0 ?_ w' (((f02.any.then fu).then f2').then f'.any)) fun h => absurd h he
      have : kindsOf m = (kindsOf m).take (j + 1) ++ (kindsOf m).drop (j + 1) := (List.take_append_drop _ _).symm
      rw [compsD, hg] at e1
      have none_app : ∀ (is js : List Int) (L : List Bool), compsD is L = none → compsD (is ++ js) L = none := by
        intro is
        induction is with
        | nil => intro js L e; rw [compsD] at e; cases e
        | cons i is ih =>
          intro js L e
          rw [compsD] at e
          rw [List.cons_append, compsD]
          cases hi : compD i L with
          | none => rfl
          | some p =>
            obtain ⟨c, L1⟩ := p
            rw [hi] at e
            dsimp only at e ⊢
            cases hj : compsD is L1 with
            | none => rw [ih js L1 hj]
            | some q => rw [hj] at e; cases e
      rw [this]
      exact none_app _ _ _ e1
    · simp only [compsD, hg] at e1
      refine spec_must_Comp (v := c) (fun h => absurd rfl h) fun _ u3 f3 => ?_
      have s2 := f2'.size
      have s3 := f3.size
      have o3 : Own (fun k => w2.heap.size ≤ k) u3 92 compT z cs := (o.fr f2' fun k e e2 => by omega).none f3
      refine appP (x := c) comps_ty rfl o3 (fun k e => by show w2.heap.size ≤ k; omega) (by omega) (by omega) fun r2 u4 o4 f4 => ?_
      exact hK _ _ ⟨wsucc hj (by omega), ⟨cs ++ [c], L2, e1, by simp [hl], o4, RD.st.fr (RD.st.fr0 hr2 f3) f4 fun k e e2 => by have := o3.own k e2; have := hF k e; omega⟩, ((fu.then f2').then f3.any).thenNew f4 fun k e => by have := o3.own k e; omega⟩
  · rintro ⟨z, _⟩ u ⟨_, ⟨cs, L', e, hl, o, hr⟩, fu⟩
    rw [List.take_of_length_le (by omega)] at e
    exact hk cs L' e z u (o.mono fun k _ e => by show w.heap.size ≤ k; omega) hr (f02.any.then fu)
end Go.Proofs.YtchhhjlpnecjkaaGreat
namespace Go.Proofs.YtchhhjlpnecjkaaGreat
open Go Go.RowKit Go.Proofs.YtchhhjlpnecjkaaGreat.Den
variable {R : Type} {Q : R → World → Prop} {w : World}
theorem zag_small : ∀ z : Fin 17, bXor .i64 (IntKind.wrap .i64 (shR .u64 ((z.val : Nat) : Int) 1)) (IntKind.wrap .i64 (0 - IntKind.wrap .i64 (bAnd .u64 ((z.val : Nat) : Int) 1))) = zagM ((z.val : Nat) : Int) := by decide +kernel
theorem spec_nums_Zag {z : Nat} (hz : z ≤ 16) {K : Res [.sc (.int .i64)] → W R} (hk : K (zagM (z : Int)) Q w) : callW Tryz.prog k_nums_Zag [.int .u64 (z : Int)] [.sc (.int .i64)] K Q w := by
  refine C_nums_Zag _ K Q w ?_
  unfold F_nums_Zag
  have := zag_small ⟨z, by omega⟩
  dsimp only at this
  rw [this]
  exact hk
theorem spec_comp_moved {b : Nat} {L : List Bool} {F : Nat → Prop} (h : RD b L F w) (hF : ∀ k, F k → k < w.heap.size) {was : Comp} (hc : CompOk was) {i : Nat} (hi : i < 3) (hr : (rangeM was.1 (i : Int)).1 ≤ (rangeM was.1 (i : Int)).2.1) {K : Res [.sc (.int .i32), .sc (.int .i64)] → W R}
    (h0 : movedD was i L = none → ∀ v e L' w', e ≠ 0 → RD b L' F w' → Fr (fun k => k = b) w w' → K (v, e) Q w') (hk : ∀ v L', movedD was i L = some (v, L') → ∀ w', RD b L' F w' → Fr (fun k => k = b) w w' → K (v, 0) Q w') :
    callW Tryz.prog k_comp_moved [.pointer (some ⟨b, 0, none⟩), .agg ⟨compC was⟩, .int .i64 (i : Int)] [.sc (.int .i32), .sc (.int .i64)] K Q w := by
  refine C_comp_moved _ was _ K Q w ?_
  unfold F_comp_moved
  have hbb := hF b h.1
  have hfl := flI hc i
  refine newI fun w1 B1 f1 z1 => ?_
  have nb : ∀ {x : Nat}, w.heap.size ≤ x → ¬ x = b := fun hx e => by omega
  have hm : movedD was i L = match getN 1 L with
      | none => none
      | some (b, L1) => if b = 0 then some (fl was i, L1) else match getN 1 L1 with
        | none => none
        | some (b2, L2) => if b2 = 0 then (match getIn (rangeM was.1 (i : Int)).1 (rangeM was.1 (i : Int)).2.1 L2 with
            | none => none
            | some (n, L3) => if zigM (n - fl was i) ≤ 16 then none else some (n, L3))
          else match getN 4 L2 with
            | none => none
            | some (z, L3) => if fl was i + zagM ((z : Int) + 1) < (rangeM was.1 (i : Int)).1 ∨ (rangeM was.1 (i : Int)).2.1 < fl was i + zagM ((z : Int) + 1) then none else some (fl was i + zagM ((z : Int) + 1), L3) := rfl
  refine spec_Rd_Get (RD.st.fr0 h f1) (n := 1) (by decide) (fun hlt w2 hr2 f2 => ?_) fun hge w2 hr2 f2 => ?_
  · refine joinI (fun z v => z = true ∧ v = w2) (condT rfl ⟨rfl, rfl⟩) ?_
    rintro z v ⟨rfl, rfl⟩
    refine condT rfl (fIdx (j := i) rfl hi (fld0 (B1.fr f2 fun h => h) (x := fl was i) (compC_fl was hi) ?_))
    exact h0 (by rw [hm, getN, if_neg (by omega)]) _ 2 L v (by decide) hr2 (f1.then0 f2).any
  have e1 : getN 1 L = some (valB (L.take 1), L.drop 1) := by rw [getN, if_pos hge]
  rw [e1] at hm
  dsimp only at hm
  have f02 : Fr (fun k => k = b) w w2 := f1.any.then f2
  have B2 := B1.fr f2 (nb (Nat.le_refl _))
  refine joinI (fun z v => z = decide (valB (L.take 1) = 0) ∧ v = w2) (condF rfl ⟨?_, rfl⟩) ?_
  · by_cases c : valB (L.take 1) = 0
    · rw [c]; rfl
    · rw [decide_eq_false c]; simpa using c
  rintro z v ⟨rfl, rfl⟩
  refine condD (fun c => ?_) fun c => ?_
  · rw [if_pos c] at hm
    refine fIdx (j := i) rfl hi (fld0 B2 (x := fl was i) (compC_fl was hi) ?_)
    exact hk _ _ hm v hr2 f02
  rw [if_neg c] at hm
  refine spec_Rd_Get hr2 (n := 1) (by decide) (fun hlt w3 hr3 f3 => ?_) fun hge2 w3 hr3 f3 => ?_
  · exact condT rfl (h0 (by rw [hm, getN, if_neg (by omega)]) _ 2 _ w3 (by decide) hr3 (f02.then f3.any))
  have e2 : getN 1 (L.drop 1) = some (valB ((L.drop 1).take 1), (L.drop 1).drop 1) := by rw [getN, if_pos hge2]
  rw [e2] at hm
  dsimp only at hm
  have f03 := f02.then f3
  have B3 := B2.fr f3 (nb (Nat.le_refl _))
  refine condF rfl (condE (fun c2 => ?_) fun c2 => ?_)
  · rw [if_pos (by omega)] at hm
    refine fld0 B3 (i := 0) (x := was.1) rfl (spec_comp_in hr3 hr (fun hg e w4 he hr4 f4 => ?_) fun v L3 hg hv w4 hr4 f4 => ?_)
    · have he' : (e == 0) = false := by simpa using he
      refine joinI (fun z v => z = false ∧ v = w4) (condF he' ⟨rfl, rfl⟩) ?_
      rintro z v ⟨rfl, rfl⟩
      refine condF rfl (h0 (by rw [hm, hg]) _ e _ v he hr4 (f03.then f4))
    · rw [hg] at hm
      dsimp only at hm
      obtain ⟨r1, r2⟩ := rangeM_i32 was.1 (i : Int)
      refine joinI (fun z u => z = decide (zigM (v - fl was i) ≤ 16) ∧ u = w4) (condT rfl ?_) ?_
      · refine fIdx (j := i) rfl hi (fld0 (B3.fr f4 (nb (Nat.le_refl _))) (x := fl was i) (compC_fl was hi) ?_)
        rw [w64 (x := v) (by omega), w64 (x := fl was i) (by omega), w64 (x := v - fl was i) (by omega)]
        exact spec_nums_Zig (by omega) ⟨rfl, rfl⟩
      rintro z u ⟨rfl, rfl⟩
      refine condD (fun c3 => ?_) fun c3 => ?_
      · exact h0 (by rw [hm, if_pos c3]) _ 4 _ u (by decide) hr4 (f03.then f4)
      · rw [if_neg c3] at hm
        exact hk _ _ hm u hr4 (f03.then f4)
  · rw [if_neg (by omega)] at hm
    refine spec_Rd_Get hr3 (n := 4) (by decide) (fun hlt w4 hr4 f4 => ?_) fun hge3 w4 hr4 f4 => ?_
    · exact condT rfl (h0 (by rw [hm, getN, if_neg (by omega)]) _ 2 _ w4 (by decide) hr4 (f03.then f4.any))
    have hz := valB_lt' (((L.drop 1).drop 1).take 4)
    rw [List.length_take, Nat.min_eq_left hge3] at hz
    have e3 : getN 4 ((L.drop 1).drop 1) = some (valB (((L.drop 1).drop 1).take 4), ((L.drop 1).drop 1).drop 4) := by rw [getN, if_pos hge3]
    rw [e3] at hm
    dsimp only at hm
    generalize valB (((L.drop 1).drop 1).take 4) = z at hz hm
    have hz : z < 16 := hz
    have fd : Fr None w4 w4.drew := (Fr.refl _ _).drew
    have f0d := (f03.then f4).then fd.any
    have B4 := (B3.fr f4 (nb (Nat.le_refl _))).fr fd fun h => h
    refine condF rfl (fIdx (j := i) rfl hi (fld0 B4 (x := fl was i) (compC_fl was hi) ?_))
    have ew : IntKind.wrap .u64 ((z : Int) + 1) = ((z + 1 : Nat) : Int) := by rw [wU64 (by omega)]; omega
    rw [ew]
    refine spec_nums_Zag (by omega) (andI ((B4.cell (1 + i)).trans (compC_fl was hi)) (fld0 B4 (i := 0) (x := was.1) rfl (spec_schema_Range fun w5 f5 => ?_)))
    obtain ⟨r1, r2⟩ := rangeM_i32 was.1 (i : Int)
    rw [show ((z : Int) + 1) = ((z + 1 : Nat) : Int) by omega] at hm
    have hzag : -16 ≤ zagM ((z + 1 : Nat) : Int) ∧ zagM ((z + 1 : Nat) : Int) ≤ 16 := by unfold zagM; split <;> omega
    generalize zagM ((z + 1 : Nat) : Int) = g at hm hzag
    rw [w64 (x := fl was i) (by omega), w64 (x := fl was i + g) (by omega), w64 (x := (rangeM was.1 (i : Int)).1) (by omega), w64 (x := (rangeM was.1 (i : Int)).2.1) (by omega)]
    have hr5 := RD.st.fr0 (RD.st.fr0 hr4 fd) f5
    have f05 := f0d.then f5.any
    refine joinI (fun x u => x = decide (fl was i + g < (rangeM was.1 (i : Int)).1 ∨ (rangeM was.1 (i : Int)).2.1 < fl was i + g) ∧ u = w5) ?_ ?_
    · refine condD (fun c4 => ⟨(decide_eq_true (.inl c4)).symm, rfl⟩) fun c4 => ⟨?_, rfl⟩
      by_cases c5 : (rangeM was.1 (i : Int)).2.1 < fl was i + g
      · rw [decide_eq_true (p := _ ∨ _) (.inr c5)]; exact decide_eq_true c5
      · rw [decide_eq_false (p := _ ∨ _) (fun h => h.elim c4 c5)]; exact decide_eq_false c5
    rintro x u ⟨rfl, rfl⟩
    refine condD (fun c4 => ?_) fun c4 => ?_
    · exact h0 (by rw [hm, if_pos c4]) _ 5 _ u (by decide) hr5 f05
    · rw [if_neg c4] at hm
      rw [show IntKind.wrap .i32 (fl was i + g) = fl was i + g by rw [IntKind.wrap_i32]; omega]
      exact hk _ _ hm u hr5 f05
theorem readS_app (was : Comp) : ∀ (is js : List Nat) (L : List Bool), readS was (is ++ js) L = match readS was is L with
    | none => none
    | some (vs, L2) => match readS was js L2 with
      | none => none
      | some (vs2, L3) => some (vs ++ vs2, L3)
  | [], js, L => by
    rw [List.nil_append, readS]
    dsimp only
    cases readS was js L with
    | none => rfl
    | some p => rfl
  | i :: r, js, L => by
    rw [List.cons_append, readS, readS]
    cases movedD was i L with
    | none => rfl
    | some p =>
      obtain ⟨v, L2⟩ := p
      dsimp only
      rw [readS_app was r js L2]
      cases readS was r L2 with
      | none => rfl
      | some q =>
        obtain ⟨vs, L3⟩ := q
        dsimp only
        cases readS was js L3 with
        | none => rfl
        | some t => rfl
def ovC (c : Comp) (vs : List Int) : Comp := (c.1, vs.getD 0 c.2.1, vs.getD 1 c.2.2.1, vs.getD 2 c.2.2.2)
theorem ovC_snoc {c : Comp} {vs : List Int} {v : Int} (h : vs.length < 3) : (compC (ovC c vs)).set (1 + vs.length) (.int .i32 v) = compC (ovC c (vs ++ [v])) := by
  rcases vs with _ | ⟨a, _ | ⟨b, _ | ⟨d, r⟩⟩⟩
  · rfl
  · rfl
  · rfl
  · simp at h; omega
theorem ovC_all {c : Comp} (h : checkM c = 0) {vs : List Int} (hl : vs.length = cntM c.1) : ovC c vs = mkC c.1 vs := by
  have z := fun i hi hc => fl_zero (i := i) h hi hc
  rcases vs with _ | ⟨a, _ | ⟨b, _ | ⟨d, r⟩⟩⟩
  · have a0 := z 0 (by decide) (by simp at hl; omega)
    have a1 := z 1 (by decide) (by simp at hl; omega)
    have a2 := z 2 (by decide) (by simp at hl; omega)
    show (c.1, c.2.1, c.2.2.1, c.2.2.2) = (c.1, (0 : Int), (0 : Int), (0 : Int))
    rw [show c.2.1 = 0 from a0, show c.2.2.1 = 0 from a1, show c.2.2.2 = 0 from a2]
  · have a1 := z 1 (by decide) (by simp at hl; omega)
    have a2 := z 2 (by decide) (by simp at hl; omega)
    show (c.1, a, c.2.2.1, c.2.2.2) = (c.1, a, (0 : Int), (0 : Int))
    rw [show c.2.2.1 = 0 from a1, show c.2.2.2 = 0 from a2]
  · have a2 := z 2 (by decide) (by simp at hl; omega)
    show (c.1, a, b, c.2.2.2) = (c.1, a, b, (0 : Int))
    rw [show c.2.2.2 = 0 from a2]
  · rfl
theorem spec_comp_GetStep {b : Nat} {L : List Bool} {F : Nat → Prop} (h : RD b L F w) (hF : ∀ k, F k → k < w.heap.size) {was : Comp} (hco : CompOk was) {K : Res [.agg [.int .u8, .int .i32, .int .i32, .int .i32], .sc (.int .i64)] → W R} (h0 : stepDec was L = none → ∀ e w', e ≠ 0 → RD b L F w' → Fr (fun k => k = b) w w' → K ((0, 0, 0, 0), e) Q w') (hk : ∀ c L', stepDec was L = some (c, L') → ∀ w', RD b L' F w' → Fr (fun k => k = b) w w' → K (c, 0) Q w') :
    callW Tryz.prog k_comp_GetStep [.pointer (some ⟨b, 0, none⟩), .agg ⟨compC was⟩] [.agg [.int .u8, .int .i32, .int .i32, .int .i32], .sc (.int .i64)] K Q w := by
  refine C_comp_GetStep _ was K Q w ?_
  unfold F_comp_GetStep
  have hbb := hF b h.1
  have hcn := cntM_le was.1
  refine newI fun w1 Br f1 z1 => newI fun w2 Bk f2 z2 => newI fun w3 Bx f3 z3 => ?_
  have Br := (Br.fr f2 fun h => h).fr f3 fun h => h
  have Bk := Bk.fr f3 fun h => h
  have f03 := (f1.then0 f2).then0 f3
  refine fld0 Br (i := 0) (x := some ⟨b, 0, none⟩) rfl (condF rfl (aggI Bk (x := was) rfl (spec_schema_Check fun w4 f4 => ?_)))
  have f04 := f03.then0 f4
  have Br := Br.fr f4 fun h => h
  have Bk := Bk.fr f4 fun h => h
  have Bx := Bx.fr f4 fun h => h
  have s4 := f4.size
  refine condN (fun hz => ?_) fun hz => ?_
  · refine stoAll Bx rfl rfl fun w5 B5 f5 z5 => aggI B5 (x := ((0, 0, 0, 0) : Comp)) rfl ?_
    exact h0 (by unfold stepDec; rw [if_pos hz]) _ w5 hz (RD.st.fr (RD.st.fr0 h f04) f5 fun k e e2 => by have := hF k e; omega) (f04.newer f5 fun k e => by omega).any
  have hD : stepDec was L = match readS was (List.range (cntM was.1)) L with
      | none => none
      | some (vs, r) => some (mkC was.1 vs, r) := by unfold stepDec; rw [if_neg fun h => h hz] <;> rfl
  refine fld0 Br (i := 0) (x := some ⟨b, 0, none⟩) rfl (aggI Bk (x := was) rfl ?_)
  refine C_comp_back__comp_GetStep_c1 (some ⟨b, 0, none⟩) was _ _ _ _ _ ?_
  unfold F_comp_back__comp_GetStep_c1
  have hr4 := RD.st.fr0 h f04
  obtain ⟨s, n, B, hback⟩ := hr4.back
  refine newI fun w5 Bc f5 z5 => newI fun w6 By f6 z6 => ?_
  have Bc := Bc.fr f6 fun h => h
  have f46 := f5.then0 f6
  refine ptrI (aggI (B.fr f46 fun h => h) (x := ((s, n) : Sl × Int)) rfl (newI fun w7 Bw f7 z7 => stoAll Bw rfl rfl fun w8 Bw f8 z8 => ?_))
  have f68 : Fr None w6 w8 := f7.newer f8 fun k e => by omega
  have f48 := f46.then0 f68
  have Bc := Bc.fr f68 fun h => h
  have By := By.fr f68 fun h => h
  refine fldI Bc (i := 0) (x := was.1) rfl (spec_schema_Count fun w9 f9 => ?_)
  have f49 := f48.then0 f9
  have s9 := f49.size
  have hw4 : w.heap.size ≤ w4.heap.size := f04.size
  have hFn : ∀ {x : Nat}, w.heap.size ≤ x → ∀ k, F k → ¬ k = x := fun hx k e e2 => by have := hF k e; omega
  refine forI (N := cntM was.1) (fun s : Int => s) (fun j i u => i = (j : Int) ∧ (∃ vs L', vs.length = j ∧ readS was (List.range j) L = some (vs, L') ∧ Blk u w4.heap.size 92 (compC (ovC was vs)) ∧ RD b L' F u) ∧ Fr (fun k => k = b) w4 u ∧ Blk u w5.heap.size 92 (compC (0, 0, 0, 0)) ∧ Blk u w6.heap.size 173 [.slice s.a s.n s.c, .int .i64 n] ∧ Blk u w.heap.size 60 [.pointer (some ⟨b, 0, none⟩)] ∧ Blk u w1.heap.size 92 (compC was) ∧ Blk u w2.heap.size 92 (compC (0, 0, 0, 0)))
    ⟨rfl, ⟨[], L, rfl, rfl, Bc.fr f9 fun h => h, RD.st.fr0 hr4 f49⟩, f49.any, By.fr f9 fun h => h, Bw.fr f9 fun h => h, Br.fr f49 fun h => h, Bk.fr f49 fun h => h, Bx.fr f49 fun h => h⟩ (fun j s w' h => h.1) ?_ ?_
  · rintro j i u K' hj ⟨rfl, ⟨vs, L', hvl, hrd, Bc, hr⟩, fu, By, Bw, Br, Bk, Bx⟩ - hK
    refine C_comp_GetStep_c1 _ _ _ _ _ _ ?_
    unfold F_comp_GetStep_c1
    have nb : ∀ {x : Nat}, w.heap.size ≤ x → ¬ x = b := fun hx e => by omega
    have su := fu.size
    refine ptrI (fld0 Br (i := 0) (x := some ⟨b, 0, none⟩) rfl (ptrI (aggI Bk (x := was) rfl ?_)))
    refine spec_comp_moved hr (fun k e => by have := hF k e; omega) hco (by omega) (range_le was.1 hj) (fun hg v e L2 u2 he hr2 f2 => ?_) fun v L2 hg u2 hr2 f2 => ?_
    · have hnone : stepDec was L = none := by
        rw [hD]
        have e1 : List.range (cntM was.1) = List.range j ++ (j :: List.range' (j + 1) (cntM was.1 - j - 1)) := by
          have : cntM was.1 = j + ((cntM was.1 - j - 1) + 1) := by omega
          rw [this, List.range_eq_range', List.range_eq_range', ← List.range'_append_1, Nat.zero_add, List.range'_succ]
          congr 4
          omega
        rw [e1, readS_app, hrd]
        dsimp only
        rw [readS, hg]
      refine condT (by simpa using he) ?_
      obtain ⟨cs, B2, hl⟩ := hr2.blk
      refine aggI (Bw.fr f2 (nb (by omega))) (x := ((s, n) : Sl × Int)) rfl (ptrI (stoAll B2 hl.symm rfl fun u3 B3 f3 y3 => ?_))
      have By3 := (By.fr f2 (nb (by omega))).fr f3 (nb (by omega))
      have f43 : Fr (fun k => k = b) w4 u3 := (fu.then f2).then f3
      have hr3 := hback u3 f43 B3
      have s3 := f43.size
      refine stoAll By3 rfl rfl fun u4 B4 f4 y4 => aggI B4 (x := ((0, 0, 0, 0) : Comp)) rfl ?_
      have Bx4 := (((Bx.fr f2 (nb (by omega))).fr f3 (nb (by omega))).fr f4 fun e => by omega)
      refine stoAll Bx4 rfl rfl fun u5 B5 f5 y5 => aggI B5 (x := ((0, 0, 0, 0) : Comp)) rfl ?_
      exact h0 hnone e u5 he (RD.st.fr (RD.st.fr hr3 f4 (hFn (by omega))) f5 (hFn (by omega))) (((f04.any.then f43).thenNew f4 fun k e => by omega).thenNew f5 fun k e => by omega)
    · show idxW (some (Addr.add ⟨w4.heap.size, 0, none⟩ 1)) 3 1 (j : Int) (fun x => stoL x [.int .i32 v] 0 (K' (IntKind.wrap .i64 ((j : Int) + 1)))) _ _
      refine fIdx rfl (by omega) ?_
      refine setI (i := 1 + j) (Bc.fr f2 (nb (by omega))) (by simp; omega) rfl fun u3 B3 f3 y3 => ?_
      subst hvl
      rw [ovC_snoc (by omega)] at B3
      have ne : ∀ {x : Nat}, x ≠ w4.heap.size → ¬ x = w4.heap.size := fun h => h
      refine hK _ _ ⟨wsucc hj (by omega), ⟨vs ++ [v], L2, by simp, ?_, B3, RD.st.fr hr2 f3 (hFn (by omega))⟩, (fu.then f2).thenNew f3 fun k e => by omega, (By.fr f2 (nb (by omega))).fr f3 (ne (by omega)), (Bw.fr f2 (nb (by omega))).fr f3 (ne (by omega)), (Br.fr f2 (nb (by omega))).fr f3 (ne (by omega)), (Bk.fr f2 (nb (by omega))).fr f3 (ne (by omega)), (Bx.fr f2 (nb (by omega))).fr f3 (ne (by omega))⟩
      rw [List.range_succ, readS_app, hrd]
      dsimp only
      rw [readS, hg]
      rfl
  · rintro i u ⟨_, ⟨vs, L', hvl, hrd, Bc, hr⟩, fu, By, Bw, Br, Bk, Bx⟩
    rw [hrd] at hD
    dsimp only at hD
    rw [ovC_all hz hvl] at Bc
    refine aggI Bc (x := mkC was.1 vs) rfl (stoAll By rfl rfl fun u2 B2 f2 y2 => aggI B2 (x := mkC was.1 vs) rfl ?_)
    have Bx2 := Bx.fr f2 fun e => by omega
    refine stoAll Bx2 rfl rfl fun u3 B3 f3 y3 => aggI B3 (x := mkC was.1 vs) rfl ?_
    exact hk _ L' hD u3 (RD.st.fr (RD.st.fr hr f2 (hFn (by omega))) f3 (hFn (by omega))) (((f04.any.then fu).thenNew f2 fun k e => by omega).thenNew f3 fun k e => by omega)
end Go.Proofs.YtchhhjlpnecjkaaGreat
namespace Go.Proofs.YtchhhjlpnecjkaaGreat
open Go Go.RowKit Go.Proofs.YtchhhjlpnecjkaaGreat.Den
variable {R : Type} {Q : R → World → Prop} {w : World}
theorem getN_len {n : Nat} {L : List Bool} {v : Nat} {r : List Bool} (h : getN n L = some (v, r)) : r.length + n = L.length := by
  unfold getN at h
  split at h
  · cases h
    rw [List.length_drop]
    omega
  · cases h
theorem varD_len : ∀ (k i v : Nat) {L : List Bool} {x : Nat} {r : List Bool}, varD k i v L = some (x, r) → r.length + 5 ≤ L.length
  | 0, _, _, _, _, _, h => by cases h
  | k + 1, i, v, L, x, r, h => by
    rw [varD] at h
    cases hg : getN 5 L with
    | none => rw [hg] at h; cases h
    | some p =>
      obtain ⟨y, r1⟩ := p
      rw [hg] at h
      have hl := getN_len hg
      dsimp only at h
      split at h
      · split at h
        · cases h; omega
        · cases h
      · have := varD_len k _ _ h
        omega
theorem idDec_len {last : Int} {L : List Bool} {id : Int} {r : List Bool} (h : idDec last L = some (id, r)) : r.length + 5 ≤ L.length := by
  unfold idDec at h
  cases hg : getVar L with
  | none => rw [hg] at h; cases h
  | some p =>
    obtain ⟨v, r1⟩ := p
    rw [hg] at h
    dsimp only at h
    split at h
    · cases h
    · cases h
      exact varD_len _ _ _ hg
theorem idDec_ok {last : Int} {L : List Bool} {id : Int} {r : List Bool} (h : idDec last L = some (id, r)) : IdOk id := by
  unfold idDec at h
  cases hg : getVar L with
  | none => rw [hg] at h; cases h
  | some p =>
    obtain ⟨v, r1⟩ := p
    rw [hg] at h
    dsimp only at h
    split at h
    · cases h
    · cases h
      exact ⟨by omega, by omega⟩
theorem RD.len {b : Nat} {L : List Bool} {F : Nat → Prop} (h : RD b L F w) : L.length ≤ 8388608 := by
  obtain ⟨_, s, body, n, _, _, _, h2, _, rfl⟩ := h
  rw [List.length_drop, bitsU_len]
  omega
theorem getIn_len {lo hi : Int} {L : List Bool} {v : Int} {r : List Bool} (h : getIn lo hi L = some (v, r)) : r.length ≤ L.length ∧ lo ≤ v ∧ v ≤ hi := by
  unfold getIn at h
  cases hg : getN (widthM lo hi) L with
  | none => rw [hg] at h; cases h
  | some p =>
    obtain ⟨x, r1⟩ := p
    rw [hg] at h
    have := getN_len hg
    dsimp only at h
    split at h
    · cases h
      exact ⟨by omega, by omega, by omega⟩
    · cases h
theorem readF_len (k : Int) : ∀ (is : List Nat) {L : List Bool} {vs : List Int} {r : List Bool}, readF k is L = some (vs, r) → r.length ≤ L.length ∧ vs.length = is.length ∧ ∀ (j i : Nat) (v : Int), is[j]? = some i → vs[j]? = some v → (rangeM k (i : Int)).1 ≤ v ∧ v ≤ (rangeM k (i : Int)).2.1
  | [], L, vs, r, h => by
    rw [readF] at h
    cases h
    exact ⟨Nat.le_refl _, rfl, fun j i v hj => by simp at hj⟩
  | i :: is, L, vs, r, h => by
    rw [readF] at h
    cases hg : getIn (rangeM k (i : Int)).1 (rangeM k (i : Int)).2.1 L with
    | none => rw [hg] at h; cases h
    | some p =>
      obtain ⟨v, L2⟩ := p
      rw [hg] at h
      dsimp only at h
      cases hr : readF k is L2 with
      | none => rw [hr] at h; cases h
      | some q =>
        obtain ⟨vs2, L3⟩ := q
        rw [hr] at h
        dsimp only at h
        cases h
        obtain ⟨a1, a2, a3⟩ := readF_len k is hr
        obtain ⟨b1, b2⟩ := getIn_len hg
        refine ⟨by omega, by simp [a2], fun j i' v' hj hv => ?_⟩
        rcases j with _ | j
        · simp at hj hv
          subst hj; subst hv
          exact b2
        · exact a3 j i' v' (by simpa using hj) (by simpa using hv)
theorem compD_len {k : Int} {L : List Bool} {c : Comp} {r : List Bool} (h : compD k L = some (c, r)) : r.length ≤ L.length ∧ c.1 = k := by
  unfold compD at h
  split at h
  · cases h
  · cases hr : readF k (List.range (cntM k)) L with
    | none => rw [hr] at h; cases h
    | some q =>
      obtain ⟨vs2, L3⟩ := q
      rw [hr] at h
      cases h
      exact ⟨(readF_len k _ hr).1, rfl⟩
theorem compsD_len : ∀ (ks : List Int) {L : List Bool} {cs : List Comp} {r : List Bool}, compsD ks L = some (cs, r) → r.length ≤ L.length ∧ cs.map (·.1) = ks ∧ ∀ c ∈ cs, ∃ L1 L2, compD c.1 L1 = some (c, L2)
  | [], L, cs, r, h => by
    rw [compsD] at h
    cases h
    exact ⟨Nat.le_refl _, rfl, fun c hc => by cases hc⟩
  | k :: ks, L, cs, r, h => by
    rw [compsD] at h
    cases hg : compD k L with
    | none => rw [hg] at h; cases h
    | some p =>
      obtain ⟨v, L2⟩ := p
      rw [hg] at h
      dsimp only at h
      cases hr : compsD ks L2 with
      | none => rw [hr] at h; cases h
      | some q =>
        obtain ⟨vs2, L3⟩ := q
        rw [hr] at h
        dsimp only at h
        cases h
        obtain ⟨a1, a2, a3⟩ := compsD_len ks hr
        obtain ⟨b1, b2⟩ := compD_len hg
        refine ⟨by omega, by rw [List.map_cons, a2, b2], fun c hc => ?_⟩
        rcases List.mem_cons.1 hc with rfl | hc
        · exact ⟨L, L2, by rw [b2]; exact hg⟩
        · exact a3 c hc
theorem entD_len {last : Int} {L : List Bool} {e : Ent} {r : List Bool} (h : entD last L = some (e, r)) : r.length + 10 ≤ L.length := by
  unfold entD at h
  cases h1 : idDec last L with
  | none => rw [h1] at h; cases h
  | some p =>
    obtain ⟨id, L1⟩ := p
    rw [h1] at h
    dsimp only at h
    cases h2 : getN 5 L1 with
    | none => rw [h2] at h; cases h
    | some p =>
      obtain ⟨m, L2⟩ := p
      rw [h2] at h
      dsimp only at h
      cases h3 : compsD (kindsOf m) L2 with
      | none => rw [h3] at h; cases h
      | some p =>
        obtain ⟨cs, L3⟩ := p
        rw [h3] at h
        cases h
        have a1 := idDec_len h1
        have a2 := getN_len h2
        have a3 := (compsD_len _ h3).1
        omega
theorem repD_len {β : Type} {f : Int → List Bool → Option (β × List Bool)} {id : β → Int} {q : Nat} (hf : ∀ last L b r, f last L = some (b, r) → r.length + q ≤ L.length) : ∀ (n : Nat) (last : Int) {L : List Bool} {l : List β} {r : List Bool}, repD f id n last L = some (l, r) → l.length = n ∧ r.length + q * n ≤ L.length ∧ ∀ b ∈ l, ∃ last L1 L2, f last L1 = some (b, L2)
  | 0, last, L, l, r, h => by
    rw [repD] at h
    cases h
    exact ⟨rfl, by omega, fun b hb => by cases hb⟩
  | n + 1, last, L, l, r, h => by
    rw [repD] at h
    cases h1 : f last L with
    | none => rw [h1] at h; cases h
    | some p =>
      obtain ⟨b, r1⟩ := p
      rw [h1] at h
      dsimp only at h
      cases h2 : repD f id n (id b) r1 with
      | none => rw [h2] at h; cases h
      | some p =>
        obtain ⟨bs, r2⟩ := p
        rw [h2] at h
        cases h
        obtain ⟨a1, a2, a3⟩ := repD_len hf n (id b) h2
        have a4 := hf _ _ _ _ h1
        refine ⟨by simp [a1], by rw [Nat.mul_succ]; omega, fun x hx => ?_⟩
        rcases List.mem_cons.1 hx with rfl | hx
        · exact ⟨last, L, r1, h1⟩
        · exact a3 x hx
section
variable [Pan R]
def moreD {β : Type} (done : List β) : Option (List β × List Bool) → Option (List β × List Bool)
  | none => none
  | some (bs, r) => some (done ++ bs, r)
theorem repD_more {β : Type} {f : Int → List Bool → Option (β × List Bool)} {id : β → Int} {m : Nat} {last : Int} {L L2 : List Bool} {b : β} {done : List β} (h : f last L = some (b, L2)) : moreD done (repD f id (m + 1) last L) = moreD (done ++ [b]) (repD f id m (id b) L2) := by
  rw [repD, h]
  dsimp only
  cases repD f id m (id b) L2 with
  | none => rfl
  | some p =>
    obtain ⟨bs, r⟩ := p
    show some (done ++ b :: bs, r) = some (done ++ [b] ++ bs, r)
    rw [List.append_assoc]
    rfl
theorem spec_rd_ents {b : Nat} {L : List Bool} {F : Nat → Prop} (h : RD b L F w) (hF : ∀ k, F k → k < w.heap.size) {K : Res [.sc .sl] → W R} (h0 : entsD L = none → ∀ w', Fr (fun k => k = b) w w' → Pan.pan Q giveUp w')
    (hk : ∀ l L', entsD L = some (l, L') → ∀ r raws (lab : Nat → Nat) w', Own (fun k => lab k = 2) w' 57 entT r raws → EntsR (fun k => lab k = 3) w' raws l → (∀ k, lab k ≠ 0 → w.heap.size ≤ k ∧ k < w'.heap.size) → RD b L' F w' → Fr (fun k => k = b) w w' → K r Q w') :
    callP Tryz.prog k_packet_reader_ents [.agg ⟨[.pointer (some ⟨b, 0, none⟩)]⟩] [.sc .sl] K Q w := by
  refine C_packet_reader_ents _ K Q w ?_
  unfold F_packet_reader_ents
  have hbb := hF b h.1
  refine newI fun w1 Br f1 z1 => newI fun w2 Bl f2 z2 => stoAll Bl rfl rfl fun w3 Bl f3 z3 => ?_
  have f02 := f1.then0 f2
  have f03 : Fr None w w3 := f02.newer f3 fun k e => by omega
  have Br := (Br.fr f2 fun h => h).fr f3 fun e => by omega
  refine aggI Br (x := some ⟨b, 0, none⟩) rfl (spec_rd_count (RD.st.fr0 h f03) (fun hg w4 f4 => ?_) fun n L1 hg hn w4 hr4 f4 => ?_)
  · exact h0 (by unfold entsD; rw [hg]) w4 (f03.any.then f4)
  have f04 := f03.any.then f4
  have nb : ∀ {x : Nat}, w.heap.size ≤ x → ¬ x = b := fun hx e => by omega
  have z4 := f4.size
  have hD : entsD L = moreD [] (repD entD (fun e : Ent => e.1) n 0 L1) := by
    unfold entsD
    rw [hg]
    dsimp only
    cases repD entD (fun e : Ent => e.1) n 0 L1 with
    | none => rfl
    | some p => rfl
  refine loopI (fun (st : Sl × Int) u => ∃ (lab : Nat → Nat) (raws : List (Int × Sl)) (done : List Ent) (L' : List Bool) (last : Int) (m : Nat), st.2 = ((m : Nat) : Int) ∧ m < 18446744073709551616 ∧ Own (fun k => lab k = 2) u 57 entT st.1 raws ∧ EntsR (fun k => lab k = 3) u raws done ∧ (∀ k, lab k ≠ 0 → w.heap.size ≤ k ∧ k < u.heap.size) ∧ lab w.heap.size = 0 ∧ lab w1.heap.size = 0 ∧
      Blk u w.heap.size 62 [.pointer (some ⟨b, 0, none⟩)] ∧ Blk u w1.heap.size 54 [.int .u32 last] ∧ RD b L' F u ∧ Fr (fun k => k = b) w u ∧ entsD L = moreD done (repD entD (fun e : Ent => e.1) m last L') ∧ done.length + L'.length ≤ 8388608)
    (fun st _ => st.2.toNat) ⟨fun _ => 0, [], [], L1, 0, n, rfl, hn, Own.nil _ _ _ _, EntsR.nil _ _, fun k e => absurd rfl e, rfl, rfl, Br.fr f4 (nb (Nat.le_refl _)), Bl.fr f4 (nb (by omega)), hr4, f04, hD, by simpa using hr4.len⟩ ?_
  rintro ⟨z, c⟩ u ⟨lab, raws, done, L', last, m, hcm, hm, ho, hE, up, l1, l2, Bru, Blu, hru, fu, hI, hlen⟩
  dsimp only at hcm
  subst hcm
  have su := fu.size
  refine condD (fun hpos => ?_) fun hpos => ?_
  · have hpos : (m : Int) > 0 := hpos
    obtain ⟨m, rfl⟩ : ∃ q, m = q + 1 := ⟨m - 1, by omega⟩
    have hbl : ¬ F w1.heap.size := fun e => by have := hF _ e; omega
    refine aggI Bru (x := some ⟨b, 0, none⟩) rfl (spec_rd_id hru Blu hbl (fun hg v f => ?_) fun id L2 hg hid v1 hr1 Bl1 g1 => ?_)
    · exact h0 (by rw [hI, repD, entD, hg]; rfl) v (fu.trans f (fun _ h => h) fun x hx e => e.elim (fun e => e) fun e => by omega)
    have b1 := Blu.lt
    have b0 := Bru.lt
    have g01 : Fr (fun k => k = b) w v1 := fu.trans g1 (fun _ h => h) fun x hx e => e.elim (fun e => e) fun e => by omega
    have s1 := g1.size
    refine newI fun v2 Be g2 y2 => stoAll Be rfl rfl fun v3 Be g3 y3 => ?_
    have gd : Fr None v3 v3.drew := (Fr.refl _ _).drew
    have g13 : Fr (fun k => k = v1.heap.size) v1 v3.drew := (g2.any.then g3).then0 gd
    have nb2 : ∀ {x : Nat}, x < v1.heap.size → ¬ x = v1.heap.size := fun hx e => by omega
    have Br3 := (Bru.fr g1 fun e => e.elim (nb (Nat.le_refl _)) fun e => by omega).fr g13 (nb2 (by omega))
    have Bl3 := Bl1.fr g13 (nb2 (by omega))
    have Be := Be.fr gd fun h => h
    have hFv : ∀ k, F k → ¬ k = v1.heap.size := fun k e e2 => by have := hF k e; omega
    have hr3 := RD.st.fr hr1 g13 hFv
    have g03 : Fr (fun k => k = b) w v3.drew := g01.thenNew g13 fun k e => by omega
    have y3d : v3.drew.heap.size = v1.heap.size + 1 := by show v3.heap.size = _; omega
    refine aggI Br3 (x := some ⟨b, 0, none⟩) rfl (aggI Br3 (x := some ⟨b, 0, none⟩) rfl (spec_rd_plain hr3 (n := 5) (by decide) (fun hg2 v f => ?_) fun mk L3 hg2 hmk v4 hr4 g4 => ?_))
    · exact h0 (by rw [hI, repD, entD, hg]; dsimp only; rw [hg2]; rfl) v (g03.then f)
    have s4 := g4.size
    have Br4 := Br3.fr g4 (nb (Nat.le_refl _))
    have Bl4 := Bl3.fr g4 (nb (by omega))
    have Be4 := Be.fr g4 (nb (by omega))
    refine andI (fun j u hj => (Br4.cells 0 [.pointer (some ⟨b, 0, none⟩)] (fun j u hj => by simpa using hj)) j u hj) ?_
    refine spec_rd_comps hr4 (fun k e => by have := hF k e; omega) hmk (fun hg3 v f => ?_) fun cs L4 hg3 r v5 o5 hr5 g5 => ?_
    · exact h0 (by rw [hI, repD, entD, hg]; dsimp only; rw [hg2]; dsimp only; rw [hg3]; rfl) v ((g03.then g4).then f)
    have s5 := g5.size
    have hent : entD last L' = some ((id, cs), L4) := by
      unfold entD
      rw [hg]
      dsimp only
      rw [hg2]
      dsimp only
      rw [hg3]
    have Be5 := Be4.fr g5 (nb (by omega))
    rw [add_lit]
    refine setI (i := 1) Be5 (by simp) rfl fun v6 Be6 g6 y6 => aggI Be6 (x := ((id, r) : Int × Sl)) rfl ?_
    obtain ⟨lab1, hlab1⟩ : ∃ lab1, lab1 = relab lab (v1.heap.size + 1) v5.heap.size 3 := ⟨_, rfl⟩
    have old : ∀ k, k < u.heap.size → lab1 k = lab k := fun k hk => by rw [hlab1, relab_lt (by omega)]
    have gu6 : Fr (fun k => k = b ∨ k = w1.heap.size) u v6 := ((((g1.thenNew g13 fun k e => by omega).then (g4.sub fun k e => .inl e)).then (g5.sub fun k e => .inl e)).thenNew g6 fun k e => by omega)
    have ndis : ∀ k, lab k ≠ 0 → ¬ (k = b ∨ k = w1.heap.size) := fun k e => by
      rintro (rfl | rfl)
      · have := up _ e; omega
      · exact e l2
    have o6 : Own (fun k => lab1 k = 2) v6 57 entT z raws := Own.st ho gu6 fun k hk e => ⟨ndis k (by omega), by rw [old k hk]; exact e⟩
    have E6 : EntsR (fun k => lab1 k = 3) v6 raws done := ⟨hE.len, fun i a b' ha hb' => ⟨(hE.at_ i a b' ha hb').1, SlT.st (hE.at_ i a b' ha hb').2 gu6 fun k hk e => ⟨ndis k (by omega), by rw [old k hk]; exact e⟩⟩⟩
    have S6 : SlT (fun k => lab1 k = 3) v6 compT r cs := SlT.st o5.sl g6 fun k hk e => by
      have e : v4.heap.size ≤ k := e
      exact ⟨by omega, by rw [hlab1, relab_new (by omega) hk]⟩
    have hEl := hE.len
    have hdl : raws.length ≤ 8388608 := by omega
    refine appLab (x := ((id, r) : Int × Sl)) ents_ty rfl o6 (by omega) (by omega) fun z2 v7 o7 g7 => ?_
    have s7 := g7.size
    have up1 : ∀ k, lab1 k ≠ 0 → w.heap.size ≤ k ∧ k < v6.heap.size := fun k e => by
      rw [hlab1] at e
      rcases relab_ne e with e | e
      · have := up k e.1; omega
      · omega
    have n2 : ∀ {x : Nat}, lab1 x = 0 → ¬ lab1 x = 2 := fun e e2 => by omega
    have l11 : lab1 w.heap.size = 0 := by rw [old _ b0]; exact l1
    have l12 : lab1 w1.heap.size = 0 := by rw [old _ b1]; exact l2
    refine ⟨⟨relab lab1 v6.heap.size v7.heap.size 2, raws ++ [(id, r)], done ++ [(id, cs)], L4, id, m, by dsimp only; rw [wU64 (by omega)]; omega, by omega, o7, ?_, ?_, ?_, ?_, ?_, ?_, ?_, ?_, ?_, ?_⟩, ?_⟩
    · refine EntsR.snoc ⟨E6.len, fun i a b' ha hb' => ⟨(E6.at_ i a b' ha hb').1, St.other (A := fun F w => SlT F w compT a.2 b'.2) (c := 2) SlT.st (E6.at_ i a b' ha hb').2 g7 (by decide)⟩⟩ rfl ?_
      exact St.other (A := fun F w => SlT F w compT r cs) (c := 2) SlT.st S6 g7 (by decide)
    · intro k e
      rcases relab_ne e with e | e
      · have := up1 k e.1; omega
      · omega
    · rw [relab_lt (by omega)]; exact l11
    · rw [relab_lt (by omega)]; exact l12
    · exact ((Br4.fr g5 (nb (Nat.le_refl _))).fr g6 (nb2 (by omega))).fr g7 (n2 l11)
    · exact ((Bl4.fr g5 (nb (by omega))).fr g6 (nb2 (by omega))).fr g7 (n2 l12)
    · refine RD.st.fr (RD.st.fr hr5 g6 hFv) g7 fun k e e2 => ?_
      have := up1 k (by omega)
      have := hF k e
      omega
    · exact (((g03.then g4).then g5).thenNew g6 fun k e => by omega).thenNew g7 fun k e => (up1 k (by omega)).1
    · rw [hI]; exact repD_more hent
    · have := entD_len hent
      simp only [List.length_append, List.length_singleton]
      omega
    · show (IntKind.wrap .u64 (((m + 1 : Nat) : Int) - 1)).toNat < ((m + 1 : Nat) : Int).toNat
      rw [wU64 (by omega)]
      omega
  · have hz : m = 0 := by
      have : ¬ ((m : Nat) : Int) > 0 := hpos
      omega
    subst hz
    have hI : entsD L = some (done, L') := by rw [hI]; show some (done ++ [], L') = _; rw [List.append_nil]
    exact hk done L' hI z raws lab u ho hE up hru fu
end
end Go.Proofs.YtchhhjlpnecjkaaGreat
namespace Go.Proofs.YtchhhjlpnecjkaaGreat
open Go Go.RowKit Go.Proofs.YtchhhjlpnecjkaaGreat.Den
variable {R : Type} {Q : R → World → Prop} {w : World}
section
variable {n bx : Nat} {lab : Nat → Nat} {r : DRaw} {rc : List (Int × Sl)} {rd : List ChgRaw} {gone : List Int} {come : List Ent} {chg : List Chg}
theorem DltI.step (h : DltI n bx lab r rc rd gone come chg w) (hn : n ≤ w.heap.size) {S : Nat → Prop} {w' : World} (f : Fr S w w') (hs : ∀ k, lab k ≠ 0 → ¬ S k) {n1 : Nat} (hn1 : w.heap.size ≤ n1) (c : Nat) : DltI n bx (relab lab n1 w'.heap.size c) r rc rd gone come chg w' := by
  have hsz := f.size
  have k1 : ∀ {A : OB} (_ : St A) {i : Nat}, i ≠ 0 → A (fun k => lab k = i) w → A (fun k => relab lab n1 w'.heap.size c k = i) w' := fun hA i hi a => hA a f fun k hk e => ⟨hs k (by omega), by show relab _ _ _ _ _ = _; rw [relab_lt (by omega)]; exact e⟩
  have hb := h.blk.lt
  refine ⟨h.blk.fr f (hs bx (by rw [h.lb]; decide)), by rw [relab_lt (by omega)]; exact h.lb, k1 (A := fun F w => Own F w 54 idT r.1 gone) Own.st (by decide) h.og, k1 (A := fun F w => Own F w 57 entT r.2.1 rc) Own.st (by decide) h.oc,
    ⟨h.ec.len, fun i a b ha hb => ⟨(h.ec.at_ i a b ha hb).1, k1 (A := fun F w => SlT F w compT a.2 b.2) SlT.st (by decide) (h.ec.at_ i a b ha hb).2⟩⟩, k1 (A := fun F w => Own F w 86 chgT r.2.2 rd) Own.st (by decide) h.od,
    h.ed.imp fun a b hab => k1 (A := fun F w => chgR F w a b) (chgR_st a b) (by decide) hab, fun k e => ?_⟩
  rcases relab_ne e with e | e
  · have := h.up k e.1; omega
  · omega
theorem DltI.keep (h : DltI n bx lab r rc rd gone come chg w) (hn : n ≤ w.heap.size) {S : Nat → Prop} {w' : World} (f : Fr S w w') (hs : ∀ k, lab k ≠ 0 → ¬ S k) : DltI n bx lab r rc rd gone come chg w' := by
  have := h.step hn f hs (Nat.le_refl _) 0
  have e : relab lab w.heap.size w'.heap.size 0 = lab := funext fun k => by
    unfold relab
    split
    · rfl
    · have : lab k = 0 := Classical.byContradiction fun hk => by have := h.up k hk; omega
      rw [this]
      split <;> rfl
  rwa [e] at this
end
theorem stepDec_len {was c : Comp} {L r : List Bool} (h : stepDec was L = some (c, r)) : r.length ≤ L.length ∧ c.1 = was.1 := by
  have mv : ∀ {i : Nat} {L : List Bool} {v : Int} {r : List Bool}, movedD was i L = some (v, r) → r.length ≤ L.length := by
    intro i L v r h
    unfold movedD at h
    cases h1 : getN 1 L with
    | none => rw [h1] at h; cases h
    | some p =>
      obtain ⟨b, L1⟩ := p
      rw [h1] at h
      have a1 := getN_len h1
      dsimp only at h
      split at h
      · cases h; omega
      · cases h2 : getN 1 L1 with
        | none => rw [h2] at h; cases h
        | some p =>
          obtain ⟨b2, L2⟩ := p
          rw [h2] at h
          have a2 := getN_len h2
          dsimp only at h
          split at h
          · cases h3 : getIn (rangeM was.1 (i : Int)).1 (rangeM was.1 (i : Int)).2.1 L2 with
            | none => rw [h3] at h; cases h
            | some p =>
              obtain ⟨n, L3⟩ := p
              rw [h3] at h
              have a3 := (getIn_len h3).1
              dsimp only at h
              split at h
              · cases h
              · cases h; omega
          · cases h3 : getN 4 L2 with
            | none => rw [h3] at h; cases h
            | some p =>
              obtain ⟨n, L3⟩ := p
              rw [h3] at h
              have a3 := getN_len h3
              dsimp only at h
              split at h
              · cases h
              · cases h; omega
  have rs : ∀ (is : List Nat) {L : List Bool} {vs : List Int} {r : List Bool}, readS was is L = some (vs, r) → r.length ≤ L.length := by
    intro is
    induction is with
    | nil => intro L vs r h; rw [readS] at h; cases h; omega
    | cons i is ih =>
      intro L vs r h
      rw [readS] at h
      cases h1 : movedD was i L with
      | none => rw [h1] at h; cases h
      | some p =>
        obtain ⟨v, L2⟩ := p
        rw [h1] at h
        dsimp only at h
        cases h2 : readS was is L2 with
        | none => rw [h2] at h; cases h
        | some q =>
          obtain ⟨vs2, L3⟩ := q
          rw [h2] at h
          cases h
          have := mv h1
          have := ih h2
          omega
  unfold stepDec at h
  split at h
  · cases h
  · cases hr : readS was (List.range (cntM was.1)) L with
    | none => rw [hr] at h; cases h
    | some q =>
      obtain ⟨vs2, L3⟩ := q
      rw [hr] at h
      cases h
      exact ⟨rs _ hr, rfl⟩
theorem setsD_len (was : List Ent) (id : Int) : ∀ (ks : List Int) {L : List Bool} {cs : List Comp} {r : List Bool}, setsD was id ks L = some (cs, r) → r.length ≤ L.length ∧ cs.map (·.1) = ks ∧ ∀ c ∈ cs, ∃ L1 L2, stepDec (oldM was id c.1) L1 = some (c, L2)
  | [], L, cs, r, h => by
    rw [setsD] at h
    cases h
    exact ⟨Nat.le_refl _, rfl, fun c hc => by cases hc⟩
  | k :: ks, L, cs, r, h => by
    rw [setsD] at h
    split at h
    · cases h
    · rename_i hk
      have hk : (oldM was id k).1 = k := Classical.byContradiction hk
      cases hg : stepDec (oldM was id k) L with
      | none => rw [hg] at h; cases h
      | some p =>
        obtain ⟨v, L2⟩ := p
        rw [hg] at h
        dsimp only at h
        cases hr : setsD was id ks L2 with
        | none => rw [hr] at h; cases h
        | some q =>
          obtain ⟨vs2, L3⟩ := q
          rw [hr] at h
          dsimp only at h
          cases h
          obtain ⟨a1, a2, a3⟩ := setsD_len was id ks hr
          obtain ⟨b1, b2⟩ := stepDec_len hg
          refine ⟨by omega, by rw [List.map_cons, a2, b2, hk], fun c hc => ?_⟩
          rcases List.mem_cons.1 hc with rfl | hc
          · exact ⟨L, L2, by rw [b2, hk]; exact hg⟩
          · exact a3 c hc
theorem chgD_len {was : List Ent} {last : Int} {L : List Bool} {d : Chg} {r : List Bool} (h : chgD was last L = some (d, r)) : r.length + 20 ≤ L.length := by
  unfold chgD at h
  cases h1 : idDec last L with
  | none => rw [h1] at h; cases h
  | some p =>
    obtain ⟨id, L1⟩ := p
    rw [h1] at h
    dsimp only at h
    cases h2 : getN 5 L1 with
    | none => rw [h2] at h; cases h
    | some p =>
      obtain ⟨lost, L2⟩ := p
      rw [h2] at h
      dsimp only at h
      cases h3 : getN 5 L2 with
      | none => rw [h3] at h; cases h
      | some p =>
        obtain ⟨fr, L3⟩ := p
        rw [h3] at h
        dsimp only at h
        cases h4 : getN 5 L3 with
        | none => rw [h4] at h; cases h
        | some p =>
          obtain ⟨st, L4⟩ := p
          rw [h4] at h
          dsimp only at h
          cases h5 : compsD (kindsOf fr) L4 with
          | none => rw [h5] at h; cases h
          | some p =>
            obtain ⟨ns, L5⟩ := p
            rw [h5] at h
            dsimp only at h
            cases h6 : setsD was id (kindsOf st) L5 with
            | none => rw [h6] at h; cases h
            | some p =>
              obtain ⟨ss, L6⟩ := p
              rw [h6] at h
              cases h
              have a1 := idDec_len h1
              have a2 := getN_len h2
              have a3 := getN_len h3
              have a4 := getN_len h4
              have a5 := (compsD_len _ h5).1
              have a6 := (setsD_len _ _ _ h6).1
              omega
theorem spec_rd_delta [Pan R] {b : Nat} {L : List Bool} {F : Nat → Prop} (h : RD b L F w) (hF : ∀ k, F k → k < w.heap.size) {okw : Nat → Prop} {sw : Sl} {raws : List (Int × Sl)} {was : List Ent} (hS : SlT okw w entT sw raws) (hE : EntsR okw w raws was) (hr : was.Pairwise fun a b => a.1 < b.1) (hm : was.length ≤ 1048576) (hL : ∀ e ∈ was, EntFit e) (hd : ∀ k, okw k → k ≠ b) {K : Res [.agg [.sl, .sl, .sl]] → W R}
    (h0 : deltaD was L = none → ∀ w', Fr (fun k => k = b) w w' → Pan.pan Q giveUp w') (hk : ∀ d L', deltaD was L = some (d, L') → ∀ r w', DltR (Up w.heap.size) w' r d.1 d.2.1 d.2.2 → RD b L' F w' → Fr (fun k => k = b) w w' → K r Q w') :
    callP Tryz.prog k_packet_reader_delta [.agg ⟨[.pointer (some ⟨b, 0, none⟩)]⟩, .slice sw.a sw.n sw.c] [.agg [.sl, .sl, .sl]] K Q w := by
  refine C_packet_reader_delta _ sw K Q w ?_
  unfold F_packet_reader_delta
  have hbb := hF b h.1
  have nb : ∀ {x : Nat}, w.heap.size ≤ x → ¬ x = b := fun hx e => by omega
  refine newI fun w1 Br f1 z1 => newI fun w2 Bo f2 z2 => newI fun w3 Bx f3 z3 => newI fun w4 Bl f4 z4 => stoAll Bl rfl rfl fun w5 Bl f5 z5 => ?_
  have g14 : Fr None w1 w5 := ((f2.then0 f3).then0 f4).newer f5 fun k e => by omega
  have g24 : Fr None w2 w5 := (f3.then0 f4).newer f5 fun k e => by omega
  have g34 : Fr None w3 w5 := f4.newer f5 fun k e => by omega
  have g05 := f1.then0 g14
  have Br := Br.fr g14 fun h => h
  have Bo := Bo.fr g24 fun h => h
  have Bx := Bx.fr g34 fun h => h
  have hn0 : goneD L = none → deltaD was L = none := fun e => by unfold deltaD; rw [e]
  refine aggI Br (x := some ⟨b, 0, none⟩) rfl (spec_rd_count (RD.st.fr0 h g05) (fun hg w6 f6 => ?_) fun n1 L1 hg hn1 w6 hr6 f6 => ?_)
  · exact h0 (hn0 (by unfold goneD; rw [hg])) w6 (g05.any.then f6)
  have hG : goneD L = moreD [] (repD idDec (fun i : Int => i) n1 0 L1) := by
    unfold goneD
    rw [hg]
    dsimp only
    cases repD idDec (fun i : Int => i) n1 0 L1 with
    | none => rfl
    | some p => rfl
  have f06 := g05.any.then f6
  have s6 := f6.size
  refine loopI (fun (st : Int) u => ∃ (lab : Nat → Nat) (r : DRaw) (gone : List Int) (L' : List Bool) (last : Int) (m : Nat), st = ((m : Nat) : Int) ∧ m < 18446744073709551616 ∧ DltI w2.heap.size w2.heap.size lab r [] [] gone [] [] u ∧ lab w3.heap.size = 0 ∧
      Blk u w.heap.size 62 [.pointer (some ⟨b, 0, none⟩)] ∧ Blk u w1.heap.size 80 [.slice none 0 0, .slice none 0 0, .slice none 0 0] ∧ Blk u w3.heap.size 54 [.int .u32 last] ∧ RD b L' F u ∧ Fr (fun k => k = b) w u ∧ goneD L = moreD gone (repD idDec (fun i : Int => i) m last L') ∧ 5 * gone.length + L'.length ≤ 8388608)
    (fun st _ => st.toNat) ⟨fun k => if k = w2.heap.size then 6 else 0, (⟨none, 0, 0⟩, ⟨none, 0, 0⟩, ⟨none, 0, 0⟩), [], L1, 0, n1, rfl, hn1, ⟨Bx.fr f6 (nb (by omega)), by simp, Own.nil _ _ _ _, Own.nil _ _ _ _, EntsR.nil _ _, Own.nil _ _ _ _, All2.nil _, fun k e => by
      by_cases hkb : k = w2.heap.size
      · omega
      · exact absurd (if_neg hkb) e⟩, if_neg (by omega), Br.fr f6 (nb (Nat.le_refl _)), Bo.fr f6 (nb (by omega)), Bl.fr f6 (nb (by omega)), hr6, f06, hG, by simpa using hr6.len⟩ ?_
  rintro st u ⟨lab, r, gone, L', last, m, rfl, hmm, D, l3, Bru, Bou, Blu, hru, fu, hI, hlen⟩
  have su := fu.size
  have blu := Blu.lt
  have bxu := D.blk.lt
  have hbl : ¬ F w3.heap.size := fun e => by have := hF _ e; omega
  have ndis : ∀ k, lab k ≠ 0 → ¬ (k = b ∨ k = w3.heap.size) := fun k e => by
    rintro (rfl | rfl)
    · have := D.up _ e; omega
    · exact e l3
  refine condD (fun hpos => ?_) fun hpos => ?_
  · have hpos : (m : Int) > 0 := hpos
    obtain ⟨m, rfl⟩ : ∃ q, m = q + 1 := ⟨m - 1, by omega⟩
    have fd : Fr None u u.drew := (Fr.refl _ _).drew
    have sd : u.drew.heap.size = u.heap.size := rfl
    refine fldI (D.blk.fr fd fun h => h) (i := 0) (x := r.1) rfl (aggI (Bru.fr fd fun h => h) (x := some ⟨b, 0, none⟩) rfl (spec_rd_id (RD.st.fr0 hru fd) (Blu.fr fd fun h => h) hbl (fun hg v f => ?_) fun id L2 hg hid v1 hr1 Bl1 g1 => ?_))
    · exact h0 (hn0 (by rw [hI, repD, hg]; rfl)) v ((fu.then0 fd).trans f (fun _ h => h) fun x hx e => e.elim (fun e => e) fun e => by omega)
    have g1' : Fr (fun k => k = b ∨ k = w3.heap.size) u v1 := fd.any.then g1
    have D1 := D.keep (by omega) g1' ndis
    have s1 := g1'.size
    refine andI (D1.blk.rd (s := .sl) (i := 0) (x := r.1) rfl) (D1.addGone (by omega) (by omega) fun lab' r' v2 D2 g2 hl => ?_)
    have s2 := g2.size
    have bru := Bru.lt
    have bou := Bou.lt
    have nl : ∀ {x : Nat}, x < w2.heap.size → ¬ lab x ≠ 0 := fun hx e => by have := D.up _ e; omega
    refine ⟨⟨lab', r', gone ++ [id], L2, id, m, by rw [wU64 (by omega)]; omega, by omega, D2, by rw [hl.1 _ (by omega)]; exact l3, (Bru.fr g1' fun e => e.elim (nb (Nat.le_refl _)) fun e => by omega).fr hl.2 (nl (by omega)), (Bou.fr g1' fun e => e.elim (nb (by omega)) fun e => by omega).fr hl.2 (nl (by omega)),
      Bl1.fr hl.2 fun e => e l3, RD.st.fr hr1 g2 fun k e (e2 : w2.heap.size ≤ k) => by have := hF k e; omega, (fu.trans g1' (fun _ h => h) fun x hx e => e.elim (fun e => e) fun e => by omega).thenNew g2 fun k (e : w2.heap.size ≤ k) => by omega, ?_, ?_⟩, ?_⟩
    · rw [hI]; exact repD_more hg
    · have := idDec_len hg
      simp only [List.length_append, List.length_singleton]
      omega
    · show (IntKind.wrap .u64 (((m + 1 : Nat) : Int) - 1)).toNat < ((m + 1 : Nat) : Int).toNat
      rw [wU64 (by omega)]
      omega
  have hz : m = 0 := by
    have : ¬ ((m : Nat) : Int) > 0 := hpos
    omega
  subst hz
  have hI : goneD L = some (gone, L') := by rw [hI]; show some (gone ++ [], L') = _; rw [List.append_nil]
  have hD2 : deltaD was L = match entsD L' with
      | none => none
      | some (c, L) => match chgsD was L with
        | none => none
        | some (d, L) => some ((gone, c, d), L) := by unfold deltaD; rw [hI] <;> rfl
  refine aggI Bru (x := some ⟨b, 0, none⟩) rfl (spec_rd_ents hru (fun k e => by have := hF k e; omega) (fun hg v f => h0 (by rw [hD2, hg]) v (fu.then f)) fun come L2 hg rc' rcs labc u1 oc ec upc hr1 g1 => ?_)
  rw [hg] at hD2
  dsimp only at hD2
  have s1 := g1.size
  obtain ⟨lab2, hlab2⟩ : ∃ lab2 : Nat → Nat, lab2 = fun k => if k < u.heap.size then lab k else labc k := ⟨_, rfl⟩
  have lo : ∀ k, k < u.heap.size → lab2 k = lab k := fun k hk => by rw [hlab2]; exact if_pos hk
  have hi : ∀ k, labc k ≠ 0 → lab2 k = labc k := fun k e => by rw [hlab2]; exact if_neg (by have := upc k e; omega)
  have up2 : ∀ k, lab2 k ≠ 0 → w2.heap.size ≤ k ∧ k < u1.heap.size := fun k e => by
    by_cases hk : k < u.heap.size
    · rw [lo k hk] at e
      have := D.up k e
      omega
    · rw [hlab2] at e
      have := upc k (by simpa [hk] using e)
      omega
  have nb1 : ∀ k, lab k ≠ 0 → ¬ k = b := fun k e e2 => ndis k e (.inl e2)
  rw [add_lit]
  refine setI (i := 1) (D.blk.fr g1 (nb (by omega))) (by simp) rfl fun u2 Bx2 f2' y2 => ?_
  have D2 : DltI w2.heap.size w2.heap.size lab2 (r.1, rc', r.2.2) rcs [] gone come [] u2 := DltI.turned (w := u1) (Own.st D.og g1 fun k hk e => ⟨nb1 k (by omega), by rw [lo k hk]; exact e⟩) (oc.mono fun k _ e => by show lab2 k = 2; rw [hi k (by omega)]; exact e) (ec.mono fun k _ e => by show lab2 k = 3; rw [hi k (by omega)]; exact e)
    (Own.st D.od g1 fun k hk e => ⟨nb1 k (by omega), by rw [lo k hk]; exact e⟩) (All2.nil _) (by rw [lo _ bxu]; exact D.lb) up2 Bx2 f2'
  have l23 : lab2 w3.heap.size = 0 := by rw [lo _ blu]; exact l3
  have bru := Bru.lt
  have bou := Bou.lt
  have nbx : ∀ {x : Nat}, x ≠ w2.heap.size → ¬ x = w2.heap.size := fun h => h
  have Bl2 := (Blu.fr g1 (nb (by omega))).fr f2' (nbx (by omega))
  refine stoAll Bl2 rfl rfl fun u3 Bl3 f3' y3 => ?_
  have hFn : ∀ {x : Nat}, w.heap.size ≤ x → ∀ k, F k → ¬ k = x := fun hx k e e2 => by have := hF k e; omega
  have hr3 := RD.st.fr (RD.st.fr hr1 f2' (hFn (by omega))) f3' (hFn (by omega))
  have D3 := D2.keep (by omega) f3' fun k e e2 => e (e2 ▸ l23)
  have fu3 : Fr (fun k => k = b) w u3 := ((fu.then g1).thenNew f2' fun k e => by omega).thenNew f3' fun k e => by omega
  have nb3 : ∀ {x : Nat}, x ≠ w3.heap.size → ¬ x = w3.heap.size := fun h => h
  have Br3 := ((Bru.fr g1 (nb (Nat.le_refl _))).fr f2' (nbx (by omega))).fr f3' (nb3 (by omega))
  have Bo3 := ((Bou.fr g1 (nb (by omega))).fr f2' (nbx (by omega))).fr f3' (nb3 (by omega))
  clear Bl2
  refine aggI Br3 (x := some ⟨b, 0, none⟩) rfl (spec_rd_count hr3 (fun hg v f => h0 (by rw [hD2, chgsD, hg]) v (fu3.then f)) fun n3 L3 hg3 hn3 u4 hr4 g4 => ?_)
  have hC : chgsD was L2 = moreD [] (repD (chgD was) (fun d : Chg => d.1) n3 0 L3) := by
    unfold chgsD
    rw [hg3]
    dsimp only
    cases repD (chgD was) (fun d : Chg => d.1) n3 0 L3 with
    | none => rfl
    | some p => rfl
  have hn2 : chgsD was L2 = none → deltaD was L = none := fun e => by rw [hD2, e]
  have s4 := g4.size
  refine loopI (fun (st : Int) u => ∃ (lab : Nat → Nat) (r : DRaw) (rd : List ChgRaw) (chg : List Chg) (L' : List Bool) (last : Int) (m : Nat), st = ((m : Nat) : Int) ∧ m < 18446744073709551616 ∧ DltI w2.heap.size w2.heap.size lab r rcs rd gone come chg u ∧ lab w3.heap.size = 0 ∧
      Blk u w.heap.size 62 [.pointer (some ⟨b, 0, none⟩)] ∧ Blk u w1.heap.size 80 [.slice none 0 0, .slice none 0 0, .slice none 0 0] ∧ Blk u w3.heap.size 54 [.int .u32 last] ∧ RD b L' F u ∧ Fr (fun k => k = b) w u ∧ chgsD was L2 = moreD chg (repD (chgD was) (fun d : Chg => d.1) m last L') ∧ 20 * chg.length + L'.length ≤ 8388608)
    (fun st _ => st.toNat) ⟨lab2, _, [], [], L3, 0, n3, rfl, hn3, D3.keep (by omega) g4 (fun k e e2 => by have := up2 k e; omega), l23, Br3.fr g4 (nb (Nat.le_refl _)), Bo3.fr g4 (nb (by omega)), Bl3.fr g4 (nb (by omega)), hr4, fu3.then g4, hC, by simpa using hr4.len⟩ ?_
  clear hr4 g4 hC hr3 D3 D2 Br3 Bo3 Bl3 hr1 ec oc g1 f2' f3' y2 y3 upc hlab2 up2 lo hi nb1 hpos D ndis hru Bru Bou Blu fu3 fu bru bou blu bxu su hlen hI s1
  rintro st u ⟨lab, r, rd, chg, L', last, m, rfl, hmm, D, l3, Bru, Bou, Blu, hru, fu, hI, hlen⟩
  have su := fu.size
  have blu := Blu.lt
  have bxu := D.blk.lt
  have bru := Bru.lt
  have bou := Bou.lt
  have ndis : ∀ k, lab k ≠ 0 → ¬ (k = b ∨ k = w3.heap.size) := fun k e => by
    rintro (rfl | rfl)
    · have := D.up _ e; omega
    · exact e l3
  refine condD (fun hpos => ?_) fun hpos => ?_
  rotate_left
  · have hz : m = 0 := by
      have : ¬ ((m : Nat) : Int) > 0 := hpos
      omega
    subst hz
    have hI : chgsD was L2 = some (chg, L') := by rw [hI]; show some (chg ++ [], L') = _; rw [List.append_nil]
    rw [hI] at hD2
    refine aggI D.blk (x := r) rfl (stoAll Bou rfl rfl fun u1 C1 e1 m1 => aggI C1 (x := r) rfl ?_)
    have nbr : ∀ {i : Nat}, i ≠ 0 → ∀ k, k < u.heap.size → lab k = i → ¬ k = w1.heap.size ∧ w.heap.size ≤ k := fun hi k hk e => by have := D.up k (by omega); omega
    exact hk _ _ hD2 r u1 ⟨SlT.st D.og.sl e1 (nbr (by decide)), ⟨rcs, SlT.st D.oc.sl e1 (nbr (by decide)), D.ec.len, fun i a b ha hb => ⟨(D.ec.at_ i a b ha hb).1, SlT.st (D.ec.at_ i a b ha hb).2 e1 (nbr (by decide))⟩⟩,
      ⟨rd, SlT.st D.od.sl e1 (nbr (by decide)), D.ed.imp fun a b hab => chgR_st a b hab e1 (nbr (by decide))⟩⟩ (RD.st.fr hru e1 (hFn (by omega))) (fu.thenNew e1 fun k e => by omega)
  have hpos : (m : Int) > 0 := hpos
  obtain ⟨m, rfl⟩ : ∃ q, m = q + 1 := ⟨m - 1, by omega⟩
  have bad : chgD was last L' = none → deltaD was L = none := fun e => hn2 (by rw [hI, repD, e]; rfl)
  refine aggI Bru (x := some ⟨b, 0, none⟩) rfl (spec_rd_id hru Blu hbl (fun hg v f => h0 (bad (by unfold chgD; rw [hg])) v (fu.trans f (fun _ h => h) fun x hx e => e.elim (fun e => e) fun e => by omega)) fun id M1 hg1 hid v1 hr1 Bl1 g1 => ?_)
  have s1 := g1.size
  have t1 : Fr (fun k => k = b) w v1 := fu.trans g1 (fun _ h => h) fun x hx e => e.elim (fun e => e) fun e => by omega
  have D1 := D.keep (by omega) g1 ndis
  have Br1 := Bru.fr g1 fun e => e.elim (nb (Nat.le_refl _)) fun e => by omega
  have Bo1 := Bou.fr g1 fun e => e.elim (nb (by omega)) fun e => by omega
  refine newI fun v2 Bc g2 y2 => stoAll Bc rfl rfl fun v3 Bc g3 y3 => ?_
  have g13 : Fr (fun k => k = v1.heap.size) v1 v3 := g2.any.then g3
  have nc : ∀ {x : Nat}, x < v1.heap.size → ¬ x = v1.heap.size := fun hx e => by omega
  have Br3 := Br1.fr g13 (nc (by omega))
  have hr3 := RD.st.fr hr1 g13 (hFn (by omega))
  have t3 := t1.thenNew g13 fun k e => by omega
  refine aggI Br3 (x := some ⟨b, 0, none⟩) rfl (spec_rd_plain hr3 (n := 5) (by decide) (fun hg v f => h0 (bad (by unfold chgD; rw [hg1]; dsimp only; rw [hg])) v (t3.then f)) fun lost M2 hg2 hlo v4 hr4 g4 => ?_)
  have s4 := g4.size
  have Bc4 := Bc.fr g4 (nb (by omega))
  rw [add_lit]
  refine setI (i := 1) Bc4 (by simp) rfl fun v5 Bc5 g5 y5 => ?_
  have hlo : lost < 32 := hlo
  rw [wu8 (by omega)] at Bc5
  have gd : Fr None v5 v5.drew := (Fr.refl _ _).drew
  have g35 : Fr (fun k => k = b ∨ k = v1.heap.size) v3 v5.drew := ((g4.sub fun k e => .inl e).then (g5.sub fun k e => .inr e)).then0 gd
  have nbc : ∀ {x : Nat}, w.heap.size ≤ x → x < v1.heap.size → ¬ (x = b ∨ x = v1.heap.size) := fun h1 h2 e => by omega
  have Br5 := Br3.fr g35 (nbc (Nat.le_refl _) (by omega))
  have Bc5 := Bc5.fr gd fun h => h
  have hr5 := RD.st.fr0 (RD.st.fr hr4 g5 (hFn (by omega))) gd
  have t5 : Fr (fun k => k = b) w v5.drew := ((t3.then g4).thenNew g5 fun k e => by omega).then0 gd
  refine aggI Br5 (x := some ⟨b, 0, none⟩) rfl (aggI Br5 (x := some ⟨b, 0, none⟩) rfl (spec_rd_plain hr5 (n := 5) (by decide) (fun hg v f => h0 (bad (by unfold chgD; rw [hg1]; dsimp only; rw [hg2]; dsimp only; rw [hg])) v (t5.then f)) fun fresh M3 hg3 hfr v6 hr6 g6 => ?_))
  have y5d : v5.drew.heap.size = v5.heap.size := rfl
  have s6 := g6.size
  have Br6 := Br5.fr g6 (nb (Nat.le_refl _))
  have Bc6 := Bc5.fr g6 (nb (by omega))
  refine andI (fun j x hj => (Br6.cells 0 [.pointer (some ⟨b, 0, none⟩)] (fun j x hj => by simpa using hj)) j x hj) ?_
  refine spec_rd_plain hr6 (n := 5) (by decide) (fun hg v f => h0 (bad (by unfold chgD; rw [hg1]; dsimp only; rw [hg2]; dsimp only; rw [hg3]; dsimp only; rw [hg])) v ((t5.then g6).then f)) fun set M4 hg4 hse v7 hr7 g7 => ?_
  have s7 := g7.size
  have Br7 := Br6.fr g7 (nb (Nat.le_refl _))
  have Bc7 := Bc6.fr g7 (nb (by omega))
  have t7 := (t5.then g6).then g7
  refine aggI Br7 (x := some ⟨b, 0, none⟩) rfl (spec_rd_comps hr7 (fun k e => by have := hF k e; omega) hfr (fun hg v f => h0 (bad (by unfold chgD; rw [hg1]; dsimp only; rw [hg2]; dsimp only; rw [hg3]; dsimp only; rw [hg4]; dsimp only; rw [hg])) v (t7.then f)) fun ns M5 hg5 rn v8 o8 hr8 g8 => ?_)
  have hD3 : chgD was last L' = match setsD was id (kindsOf set) M5 with
      | none => none
      | some (ss, L) => some ((id, (lost : Int), ns, ss), L) := by
    unfold chgD
    rw [hg1]; dsimp only; rw [hg2]; dsimp only; rw [hg3]; dsimp only; rw [hg4]; dsimp only; rw [hg5] <;> rfl
  have s8 := g8.size
  have Bc8 := Bc7.fr g8 (nb (by omega))
  rw [add_lit]
  refine setI (i := 2) Bc8 (by simp) rfl fun v9 Bc9 g9 y9 => ?_
  have Br9 := (Br7.fr g8 (nb (Nat.le_refl _))).fr g9 (nc (by omega))
  have hr9 := RD.st.fr hr8 g9 (hFn (by omega))
  have t9 := (t7.then g8).thenNew g9 fun k e => by omega
  have o9 : SlT (fun k => v7.heap.size ≤ k) v9 compT rn ns := o8.sl.fr g9 fun k (e : v7.heap.size ≤ k) e2 => by omega
  refine spec_packet_kinds hse fun rk v10 ok10 g10 => ?_
  have s10 := g10.size
  have Br10 := Br9.fr g10 fun h => h
  have Bc10 : Blk v10 v1.heap.size 86 [.int .u32 id, .int .u8 (lost : Int), .slice rn.a rn.n rn.c, .slice none 0 0] := Bc9.fr g10 fun h => h
  have hr10 := RD.st.fr0 hr9 g10
  have t10 := t9.then0 g10
  have o10 := o9.fr0 g10
  have hkl := ok10.len
  have hk6 : (kindsOf set).length ≤ 5 := by rw [← kindsB_all hse]; exact kindsB_le set 5
  refine forI (N := rk.n) (fun s : Int => s) (fun j i z => i = (j : Int) ∧ (∃ (ss : List Comp) (rs : Sl) (M : List Bool), ss.length = j ∧ Blk z v1.heap.size 86 [.int .u32 id, .int .u8 (lost : Int), .slice rn.a rn.n rn.c, .slice rs.a rs.n rs.c] ∧ Own (fun k => v10.heap.size ≤ k) z 92 compT rs ss ∧ RD b M F z ∧ setsD was id (kindsOf set) M5 = moreD ss (setsD was id ((kindsOf set).drop j) M)) ∧ Fr (fun k => k = b ∨ k = v1.heap.size) v10 z)
    ⟨rfl, ⟨[], ⟨none, 0, 0⟩, M5, rfl, Bc10, Own.nil _ _ _ _, hr10, by rw [List.drop_zero]; cases setsD was id (kindsOf set) M5 with | none => rfl | some p => rfl⟩, Fr.refl _ _⟩ (fun j s w' h => h.1) ?_ ?_
  · rintro j i z K' hj ⟨rfl, ⟨ss, rs, M, hsl, Bc, os, hrz, hI2⟩, gz⟩ - hK
    have sz := gz.size
    have tz : Fr (fun k => k = b) w z := t10.trans gz (fun _ h => h) fun x hx e => e.elim (fun e => e) fun e => by omega
    have Brz := Br10.fr gz (nbc (Nat.le_refl _) (by omega))
    refine (ok10.sl.fr gz fun k (e : v9.heap.size ≤ k) e2 => by omega).get rfl rfl (by omega) fun k hkj => ?_
    rw [drop_at hkj, setsD] at hI2
    refine fldI Bc (i := 0) (x := id) rfl (spec_packet_old (hS.fr tz hd) (hE.fr tz hd) hr (by omega) (fun e he => by have := (hL e he).2.1; omega) fun z1 e1 => ?_)
    obtain ⟨oc, hoc⟩ : ∃ oc, oc = oldM was id k := ⟨_, rfl⟩
    rw [← hoc] at hI2 ⊢
    have tz1 := tz.then0 e1
    have bcz := Bc.lt
    refine newI fun z2 Bx e2 x2 => stoAll Bx rfl rfl fun z3 Bx e3 x3 => fldI Bx (i := 0) (x := oc.1) rfl ?_
    have e13 : Fr None z1 z3 := e2.newer e3 fun k e => by omega
    have e03 := e1.then0 e13
    have tz3 := tz.then0 e03
    refine joinI (fun (_ : Unit) v => oc.1 = k ∧ v = z3) (condN (fun hne => ?_) fun heq => ⟨heq, rfl⟩) ?_
    · exact h0 (bad (by rw [hD3, hI2, if_pos hne]; rfl)) z3 tz3
    rintro _ v ⟨hkk, rfl⟩
    rw [if_neg (fun h => h hkk)] at hI2
    have ed : Fr None v v.drew := (Fr.refl _ _).drew
    have e0d := e03.then0 ed
    have Bcd := Bc.fr e0d fun h => h
    have Bxd := Bx.fr ed fun h => h
    have hrd := RD.st.fr0 hrz e0d
    have osd := os.none e0d
    have zs := e0d.size
    have tzd := tz3.then0 ed
    refine fldI Bcd (i := 3) (x := rs) rfl (fldI (Brz.fr e0d fun h => h) (i := 0) (x := some ⟨b, 0, none⟩) rfl (aggI Bxd (x := oc) rfl ?_))
    refine spec_comp_GetStep hrd (fun k e => by have := hF k e; omega) (hoc ▸ oldM_ok hL id k) (fun hg e' p1 he hrp q1 => ?_) fun c M6 hg p1 hrp q1 => ?_
    · refine andI ((Bcd.fr q1 (nb (by omega))).rd (s := .sl) (i := 3) (x := rs) rfl) (spec_must_Comp (v := (0, 0, 0, 0)) (fun _ p2 q2 => h0 (bad ?_) p2 ((tzd.then q1).then q2.any)) fun h => absurd h he)
      rw [hD3, hI2, hg]
      rfl
    rw [hg] at hI2
    dsimp only at hI2
    have Bc1 := Bcd.fr q1 (nb (by omega))
    refine andI (Bc1.rd (s := .sl) (i := 3) (x := rs) rfl) (spec_must_Comp (v := c) (fun h => absurd rfl h) fun _ p2 q2 => ?_)
    have Bc2 := Bc1.fr q2 fun h => h
    refine andI (Bc2.rd (s := .sl) (i := 3) (x := rs) rfl) ?_
    have q12 := q1.then0 q2
    have sq := q12.size
    have osp : Own (fun k => v10.heap.size ≤ k) p2 92 compT rs ss := (osd.fr q1 fun k e e2 => by omega).none q2
    refine appP (x := c) comps_ty rfl osp (fun k e => by show v10.heap.size ≤ k; omega) (by omega) (by omega) fun rs2 p3 os3 q3 => ?_
    have s3 := q3.size
    have nown : ∀ k, k < v10.heap.size → ¬ rs.v.ownBlock = some k := fun k hk e => by have := osp.own k e; omega
    rw [add_lit]
    refine setI (i := 3) (Bc2.fr q3 (nown _ (by omega))) (by simp) rfl fun p4 Bc4 q4 x4 => ?_
    refine hK _ _ ⟨wsucc hj (by omega), ⟨ss ++ [c], rs2, M6, by simp [hsl], Bc4, os3.fr q4 fun k e e2 => by omega, RD.st.fr (RD.st.fr (RD.st.fr0 hrp q2) q3 fun k e => nown k (by have := hF k e; omega)) q4 (hFn (by omega)), ?_⟩, ?_⟩
    · rw [hI2]
      cases setsD was id ((kindsOf set).drop (j + 1)) M6 with
      | none => rfl
      | some p =>
        obtain ⟨bs, rr⟩ := p
        show some (ss ++ c :: bs, rr) = some (ss ++ [c] ++ bs, rr)
        rw [List.append_assoc]
        rfl
    · exact (((gz.then0 e0d).then (q12.sub fun k e => .inl e)).thenNew q3 fun k e => osp.own k e).then (q4.sub fun k e => .inr e)
  · rintro i z ⟨_, ⟨ss, rs, M, hsl, Bc, os, hrz, hI2⟩, gz⟩
    rw [List.drop_of_length_le (by omega)] at hI2
    have hI2 : setsD was id (kindsOf set) M5 = some (ss, M) := by rw [hI2]; show some (ss ++ [], M) = _; rw [List.append_nil]
    rw [hI2] at hD3
    dsimp only at hD3
    have sz := gz.size
    have tz : Fr (fun k => k = b) w z := t10.trans gz (fun _ h => h) fun x hx e => e.elim (fun e => e) fun e => by omega
    have g1z : Fr (fun k => k = b ∨ k = v1.heap.size) v1 z := ((((((g13.sub fun k e => .inr e).then g35).then (g6.sub fun k e => .inl e)).then (g7.sub fun k e => .inl e)).then (g8.sub fun k e => .inl e)).then (g9.sub fun k e => .inr e)).then0 g10 |>.then gz
    have Dz := D1.step (by omega) g1z (fun k e e2 => by have := D1.up k e; rcases e2 with rfl | rfl <;> omega) (n1 := v1.heap.size + 1) (by omega) 5
    obtain ⟨labz, hlz⟩ : ∃ labz, labz = relab lab (v1.heap.size + 1) z.heap.size 5 := ⟨_, rfl⟩
    rw [← hlz] at Dz
    have new5 : ∀ k, v1.heap.size < k → k < z.heap.size → labz k = 5 := fun k h1 h2 => by rw [hlz, relab_new (by omega) h2]
    have oldz : ∀ k, k ≤ v1.heap.size → labz k = lab k := fun k h1 => by rw [hlz, relab_lt (by omega)]
    refine fldI Dz.blk (i := 2) (x := r.2.2) rfl (aggI Bc (x := ((id, (lost : Int), rn, rs) : ChgRaw)) rfl ?_)
    have Rz : chgR (fun k => labz k = 5) z (id, (lost : Int), rn, rs) (id, (lost : Int), ns, ss) := ⟨rfl, rfl, SlT.st o10 gz fun k hk (e : v7.heap.size ≤ k) => ⟨fun e2 => by omega, new5 k (by omega) (by omega)⟩, os.sl.mono fun k hk e => new5 k (by omega) hk⟩
    refine Dz.addChg (by omega) (by omega) (d := (id, (lost : Int), ns, ss)) Rz fun lab' r' z2 D2 e2 hl => ?_
    have s2 := e2.size
    have nl : ∀ {x : Nat}, x < u.heap.size → lab x = 0 → ¬ labz x ≠ 0 := fun hx e e2 => by rw [oldz _ (by omega)] at e2; exact e2 e
    have lz : ∀ {x : Nat}, x < w2.heap.size → lab x = 0 := fun hx => Classical.byContradiction fun e => by have := D.up _ e; omega
    refine ⟨⟨lab', r', rd ++ [(id, (lost : Int), rn, rs)], chg ++ [(id, (lost : Int), ns, ss)], M, id, m, by rw [wU64 (by omega)]; omega, by omega, D2, by rw [hl.1 _ (by omega), oldz _ (by omega)]; exact l3, ?_, ?_, ?_, ?_, ?_, ?_, ?_⟩, ?_⟩
    · exact (Br10.fr gz (nbc (Nat.le_refl _) (by omega))).fr hl.2 (nl (by omega) (lz (by omega)))
    · exact (Bo1.fr g1z (nbc (by omega) (by omega))).fr hl.2 (nl (by omega) (lz (by omega)))
    · exact (Bl1.fr g1z (nbc (by omega) (by omega))).fr hl.2 (nl (by omega) l3)
    · exact RD.st.fr hrz e2 fun k e (e2 : w2.heap.size ≤ k) => by have := hF k e; omega
    · exact tz.thenNew e2 fun k (e : w2.heap.size ≤ k) => by omega
    · rw [hI]; exact repD_more hD3
    · have := chgD_len hD3
      simp only [List.length_append, List.length_singleton]
      omega
    · show (IntKind.wrap .u64 (((m + 1 : Nat) : Int) - 1)).toNat < ((m + 1 : Nat) : Int).toNat
      rw [wU64 (by omega)]
      omega
end Go.Proofs.YtchhhjlpnecjkaaGreat
namespace Go.Proofs.YtchhhjlpnecjkaaGreat
open Go Go.RowKit Go.Proofs.YtchhhjlpnecjkaaGreat.Den
variable {R : Type} {Q : R → World → Prop} {w : World}
theorem eqI {α : Type} [DecidableEq α] {L1 L2 : List α} {n1 n2 : Int} (h1 : n1 = L1.length) (h2 : n2 = L2.length) (hm : L1.length ≤ 9223372036854775807) {body : (Int → W R) → Int → W R} {K : Bool → W R}
    (hs : ∀ (j : Nat) x y u (K' : Int → W R) (Q : R → World → Prop), L1[j]? = some x → L2[j]? = some y → Fr None w u → (x ≠ y → ∀ u', Fr None u u' → K false Q u') → (x = y → ∀ u', Fr None u u' → K' (IntKind.wrap .i64 ((j : Int) + 1)) Q u') → body K' (j : Int) Q u)
    (hk : ∀ w', Fr None w w' → K (decide (L1 = L2)) Q w') : (cond (n1 != n2) (K false) (loopW (fun K1 s => cond (decide (s < n1)) (body K1 s) (K true)) 0)) Q w := by
  subst h1 h2
  refine condN (fun hne => ?_) fun heq => ?_
  · have e := hk w (Fr.refl _ _)
    rw [decide_eq_false (fun e => hne (by rw [e]))] at e
    exact e
  have heq : L1.length = L2.length := by omega
  refine loopI (fun (i : Int) u => ∃ j : Nat, i = (j : Int) ∧ j ≤ L1.length ∧ Fr None w u ∧ L1.take j = L2.take j) (fun i _ => L1.length - i.toNat) ⟨0, rfl, Nat.zero_le _, Fr.refl _ _, rfl⟩ ?_
  rintro _ u ⟨j, rfl, hj, fu, ht⟩
  have no : ∀ {Q' : R → World → Prop} {u'}, L1 = L2 → K (decide (L1 = L2)) Q' u' → K true Q' u' := fun e h => by rw [decide_eq_true e] at h; exact h
  refine condD (fun hlt => ?_) fun hge => ?_
  · have hlt : j < L1.length := by omega
    obtain ⟨x, hx⟩ : ∃ x, L1[j]? = some x := ⟨_, List.getElem?_eq_getElem hlt⟩
    obtain ⟨y, hy⟩ : ∃ y, L2[j]? = some y := ⟨_, List.getElem?_eq_getElem (by omega)⟩
    refine hs j x y u _ Q hx hy fu (fun hne u' f => ?_) fun he u' f => ?_
    · have e := hk u' (fu.then0 f)
      rw [decide_eq_false (fun e => by subst e; rw [hx] at hy; cases hy; exact hne rfl)] at e
      exact e
    · subst he
      refine ⟨⟨j + 1, wsucc hlt hm, hlt, fu.then0 f, by rw [take_at hx, take_at hy, ht]⟩, ?_⟩
      rw [wsucc hlt hm]
      omega
  · have e := hk u fu
    rw [List.take_of_length_le (by omega), List.take_of_length_le (by omega)] at ht
    exact no ht e
section
variable {ok ok2 : Nat → Prop} {s s2 : Sl}
theorem spec_Equal_ID {l l2 : List Int} (hS : SlT ok w idT s l) (hS2 : SlT ok2 w idT s2 l2) (hm : l.length ≤ 9223372036854775807) {K : Res [.sc .bool] → W R} (hk : ∀ w', Fr None w w' → K (decide (l = l2)) Q w') :
    callW Tryz.prog k_slices_Equal_ID [.slice s.a s.n s.c, .slice s2.a s2.n s2.c] [.sc .bool] K Q w := by
  refine C_slices_Equal_ID s s2 K Q w ?_
  unfold F_slices_Equal_ID
  have e1 := hS.len
  have e2 := hS2.len
  refine eqI (L1 := l) (L2 := l2) (K := retW) (by omega) (by omega) hm (fun j x y u K' Q' hx hy fu h0 hK => ?_) hk
  have fd : Fr None u u.drew := (Fr.refl _ _).drew
  refine ((hS.fr0 fu).fr0 fd).get rfl rfl (List.getElem?_eq_some_iff.1 hx).1 fun x' hx' => ((hS2.fr0 fu).fr0 fd).get rfl rfl (List.getElem?_eq_some_iff.1 hy).1 fun y' hy' => ?_
  rw [hx] at hx'
  rw [hy] at hy'
  cases hx'
  cases hy'
  exact condN (fun hne => h0 hne _ fd) fun he => hK he _ fd
theorem spec_Equal_Comp {l l2 : List Comp} (hS : SlT ok w compT s l) (hS2 : SlT ok2 w compT s2 l2) (hm : l.length ≤ 9223372036854775807) {K : Res [.sc .bool] → W R} (hk : ∀ w', Fr None w w' → K (decide (l = l2)) Q w') :
    callW Tryz.prog k_slices_Equal_Comp [.slice s.a s.n s.c, .slice s2.a s2.n s2.c] [.sc .bool] K Q w := by
  refine C_slices_Equal_Comp s s2 K Q w ?_
  unfold F_slices_Equal_Comp
  have e1 := hS.len
  have e2 := hS2.len
  refine eqI (L1 := l) (L2 := l2) (K := retW) (by omega) (by omega) hm (fun j x y u K' Q' hx hy fu h0 hK => ?_) hk
  have fd : Fr None u u.drew := (Fr.refl _ _).drew
  refine ((hS.fr0 fu).fr0 fd).get rfl rfl (List.getElem?_eq_some_iff.1 hx).1 fun x' hx' => ((hS2.fr0 fu).fr0 fd).get rfl rfl (List.getElem?_eq_some_iff.1 hy).1 fun y' hy' => ?_
  rw [hx] at hx'
  rw [hy] at hy'
  cases hx'
  cases hy'
  refine neqI eqG_comp (eqV_comp x y) (condI (fun hb => h0 ?_ _ fd) fun hb => hK ?_ _ fd)
  · intro e; subst e; simp at hb
  · simpa using hb
theorem spec_snap_Same_c1 {r r2 : Int × Sl} {e e2 : Ent} (h1 : r.1 = e.1) (hS : SlT ok w compT r.2 e.2) (h2 : r2.1 = e2.1) (hS2 : SlT ok2 w compT r2.2 e2.2) (hm : e.2.length ≤ 9223372036854775807) {K : Res [.sc .bool] → W R} (hk : ∀ w', Fr None w w' → K (decide (e = e2)) Q w') :
    callW Tryz.prog k_snap_Same_c1 [.agg ⟨[.int .u32 r.1, .slice r.2.a r.2.n r.2.c]⟩, .agg ⟨[.int .u32 r2.1, .slice r2.2.a r2.2.n r2.2.c]⟩] [.sc .bool] K Q w := by
  refine C_snap_Same_c1 r r2 K Q w ?_
  unfold F_snap_Same_c1
  refine newI fun w1 B1 f1 z1 => newI fun w2 B2 f2 z2 => ?_
  have f02 := f1.then0 f2
  have B1 := B1.fr f2 fun h => h
  refine joinI (fun z u => z = decide (e = e2) ∧ Fr None w u) ?_ fun z u ⟨hz, hf⟩ => by subst hz; exact hk u hf
  refine fldI B1 (i := 0) (x := r.1) rfl (fldI B2 (i := 0) (x := r2.1) rfl (condE (fun he => ?_) fun hne => ?_))
  · refine fldI B1 (i := 1) (x := r.2) rfl (fldI B2 (i := 1) (x := r2.2) rfl (spec_Equal_Comp (hS.fr0 f02) (hS2.fr0 f02) hm fun w3 f3 => ⟨?_, f02.then0 f3⟩))
    have : e.1 = e2.1 := by rw [← h1, ← h2]; exact he
    exact decide_eq_decide.2 ⟨fun h => Prod.ext this h, fun h => by rw [h]⟩
  · exact ⟨(decide_eq_false fun h => hne (by rw [h1, h2, h])).symm, f02⟩
theorem spec_snap_Same {raws raws2 : List (Int × Sl)} {L L2 : List Ent} (hS : SlT ok w entT s raws) (hE : EntsR ok w raws L) (hS2 : SlT ok2 w entT s2 raws2) (hE2 : EntsR ok2 w raws2 L2) (hm : L.length ≤ 9223372036854775807) (hL : ∀ e ∈ L, Small e.2) {K : Res [.sc .bool] → W R} (hk : ∀ w', Fr None w w' → K (decide (L = L2)) Q w') :
    callW Tryz.prog k_snap_Same [.slice s.a s.n s.c, .slice s2.a s2.n s2.c] [.sc .bool] K Q w := by
  refine C_snap_Same s s2 K Q w ?_
  unfold F_snap_Same
  refine C_slices_EqualFunc_Ent__snap_Same_c1 s s2 _ _ w ?_
  unfold F_slices_EqualFunc_Ent__snap_Same_c1
  have e1 := hS.len.trans hE.len
  have e2 := hS2.len.trans hE2.len
  refine eqI (L1 := L) (L2 := L2) (K := retW) (by omega) (by omega) hm (fun j x y u K' Q' hx hy fu h0 hK => ?_) hk
  obtain ⟨r, hr, r1, r2⟩ := hE.get hx
  obtain ⟨q, hq, q1, q2⟩ := hE2.get hy
  refine (hS.fr0 fu).get rfl rfl (List.getElem?_eq_some_iff.1 hr).1 fun x' hx' => ?_
  rw [hr] at hx'
  cases hx'
  refine newI fun u1 B1 f1 z1 => stoAll B1 rfl rfl fun u2 B1 f2 z2 => ?_
  have g2 : Fr None u u2 := f1.newer f2 fun k e => by omega
  refine ((hS2.fr0 fu).fr0 g2).get rfl rfl (List.getElem?_eq_some_iff.1 hq).1 fun y' hy' => ?_
  rw [hq] at hy'
  cases hy'
  refine newI fun u3 B3 f3 z3 => stoAll B3 rfl rfl fun u4 B3 f4 z4 => ?_
  have g4 : Fr None u2 u4 := f3.newer f4 fun k e => by omega
  have g := g2.then0 g4
  have fg := fu.then0 g
  refine aggI (B1.fr g4 fun h => h) (x := r) rfl (aggI B3 (x := q) rfl (spec_snap_Same_c1 r1 (r2.fr0 fg) q1 (q2.fr0 fg) (by have := hL x (List.mem_of_getElem? hx); omega) fun u5 f5 => ?_))
  refine condI (fun hb => h0 ?_ _ (g.then0 f5)) fun hb => hK ?_ _ (g.then0 f5)
  · simpa using hb
  · simpa using hb
instance chgDec : DecidableEq Chg := @instDecidableEqProd Int (Int × List Comp × List Comp) _ (@instDecidableEqProd Int (List Comp × List Comp) _ (@instDecidableEqProd (List Comp) (List Comp) _ _))
theorem spec_diff_same_c1 {r r2 : ChgRaw} {d d2 : Chg} (h1 : chgR ok w r d) (h2 : chgR ok2 w r2 d2) (hm : Small d.2.2.1 ∧ Small d.2.2.2) {K : Res [.sc .bool] → W R} (hk : ∀ w', Fr None w w' → K (decide (d = d2)) Q w') :
    callW Tryz.prog k_diff_same_c1 [.agg ⟨[.int .u32 r.1, .int .u8 r.2.1, .slice r.2.2.1.a r.2.2.1.n r.2.2.1.c, .slice r.2.2.2.a r.2.2.2.n r.2.2.2.c]⟩, .agg ⟨[.int .u32 r2.1, .int .u8 r2.2.1, .slice r2.2.2.1.a r2.2.2.1.n r2.2.2.1.c, .slice r2.2.2.2.a r2.2.2.2.n r2.2.2.2.c]⟩] [.sc .bool] K Q w := by
  refine C_diff_same_c1 r r2 K Q w ?_
  unfold F_diff_same_c1
  obtain ⟨a1, a2, a3, a4⟩ := h1
  obtain ⟨b1, b2, b3, b4⟩ := h2
  refine newI fun w1 B1 f1 z1 => newI fun w2 B2 f2 z2 => ?_
  have f02 := f1.then0 f2
  have B1 := B1.fr f2 fun h => h
  refine joinI (fun z u => z = decide (d = d2) ∧ Fr None w u) ?_ fun z u ⟨hz, hf⟩ => by subst hz; exact hk u hf
  refine fldI B1 (i := 0) (x := r.1) rfl (fldI B2 (i := 0) (x := r2.1) rfl (condE (fun e1 => ?_) fun hne => ⟨(decide_eq_false fun h => hne (by rw [a1, b1, h])).symm, f02⟩))
  refine fldI B1 (i := 1) (x := r.2.1) rfl (fldI B2 (i := 1) (x := r2.2.1) rfl (condE (fun e2 => ?_) fun hne => ⟨(decide_eq_false fun h => hne (by rw [a2, b2, h])).symm, f02⟩))
  refine fldI B1 (i := 2) (x := r.2.2.1) rfl (fldI B2 (i := 2) (x := r2.2.2.1) rfl (spec_Equal_Comp (a3.fr0 f02) (b3.fr0 f02) (by have := hm.1; omega) fun w3 f3 => ?_))
  have f03 := f02.then0 f3
  refine condD (fun e3 => ?_) fun hne => ⟨(decide_eq_false fun h => hne (by rw [h])).symm, f03⟩
  refine fldI (B1.fr f3 fun h => h) (i := 3) (x := r.2.2.2) rfl (fldI (B2.fr f3 fun h => h) (i := 3) (x := r2.2.2.2) rfl (spec_Equal_Comp (a4.fr0 f03) (b4.fr0 f03) (by have := hm.2; omega) fun w4 f4 => ⟨?_, f03.then0 f4⟩))
  have c1 : d.1 = d2.1 := by rw [← a1, ← b1]; exact e1
  have c2 : d.2.1 = d2.2.1 := by rw [← a2, ← b2]; exact e2
  exact decide_eq_decide.2 ⟨fun h => Prod.ext c1 (Prod.ext c2 (Prod.ext e3 h)), fun h => by rw [h]⟩
theorem spec_diff_same {r r2 : DRaw} {g g2 : List Int} {c c2 : List Ent} {d d2 : List Chg} (h1 : DltR ok w r g c d) (h2 : DltR ok2 w r2 g2 c2 d2) (hm : g.length ≤ 9223372036854775807 ∧ c.length ≤ 9223372036854775807 ∧ d.length ≤ 9223372036854775807) (hc : ∀ e ∈ c, Small e.2) (hd : ∀ e ∈ d, Small e.2.2.1 ∧ Small e.2.2.2) {K : Res [.sc .bool] → W R} (hk : ∀ w', Fr None w w' → K (decide (g = g2 ∧ c = c2 ∧ d = d2)) Q w') :
    callW Tryz.prog k_diff_same [.agg ⟨[.slice r.1.a r.1.n r.1.c, .slice r.2.1.a r.2.1.n r.2.1.c, .slice r.2.2.a r.2.2.n r.2.2.c]⟩, .agg ⟨[.slice r2.1.a r2.1.n r2.1.c, .slice r2.2.1.a r2.2.1.n r2.2.1.c, .slice r2.2.2.a r2.2.2.n r2.2.2.c]⟩] [.sc .bool] K Q w := by
  refine C_diff_same r r2 K Q w ?_
  unfold F_diff_same
  obtain ⟨a1, ⟨rc, a2, a3⟩, ⟨rd, a4, a5⟩⟩ := h1
  obtain ⟨b1, ⟨rc2, b2, b3⟩, ⟨rd2, b4, b5⟩⟩ := h2
  refine newI fun w1 B1 f1 z1 => newI fun w2 B2 f2 z2 => ?_
  have f02 := f1.then0 f2
  have B1 := B1.fr f2 fun h => h
  refine joinI (fun z u => z = decide (g = g2 ∧ c = c2 ∧ d = d2) ∧ Fr None w u) ?_ fun z u ⟨hz, hf⟩ => by subst hz; exact hk u hf
  refine fldI B1 (i := 0) (x := r.1) rfl (fldI B2 (i := 0) (x := r2.1) rfl (spec_Equal_ID (a1.fr0 f02) (b1.fr0 f02) hm.1 fun w3 f3 => ?_))
  have f03 := f02.then0 f3
  refine condD (fun e1 => ?_) fun hne => ⟨(decide_eq_false fun h => hne h.1).symm, f03⟩
  refine fldI (B1.fr f3 fun h => h) (i := 1) (x := r.2.1) rfl (fldI (B2.fr f3 fun h => h) (i := 1) (x := r2.2.1) rfl (spec_snap_Same (a2.fr0 f03) (a3.fr f03 fun _ _ h => h) (b2.fr0 f03) (b3.fr f03 fun _ _ h => h) hm.2.1 hc fun w4 f4 => ?_))
  have f04 := f03.then0 f4
  refine condD (fun e2 => ?_) fun hne => ⟨(decide_eq_false fun h => hne h.2.1).symm, f04⟩
  refine fldI ((B1.fr f3 fun h => h).fr f4 fun h => h) (i := 2) (x := r.2.2) rfl (fldI ((B2.fr f3 fun h => h).fr f4 fun h => h) (i := 2) (x := r2.2.2) rfl ?_)
  refine C_slices_EqualFunc_Change__diff_same_c1 r.2.2 r2.2.2 _ _ _ ?_
  unfold F_slices_EqualFunc_Change__diff_same_c1
  have n1 := a4.len.trans a5.len
  have n2 := b4.len.trans b5.len
  refine eqI (L1 := d) (L2 := d2) (K := retW) (by omega) (by omega) hm.2.2 (fun j x y u K' Q' hx hy fu h0 hK => ?_) fun w5 f5 => ⟨decide_eq_decide.2 ⟨fun h => ⟨e1, e2, h⟩, fun h => h.2.2⟩, f04.then0 f5⟩
  obtain ⟨q1, hq1, hq⟩ := a5.get hx
  obtain ⟨p1, hp1, hp⟩ := b5.get hy
  have f0u := f04.then0 fu
  refine (a4.fr0 f0u).get rfl rfl (List.getElem?_eq_some_iff.1 hq1).1 fun x' hx' => ?_
  rw [hq1] at hx'
  cases hx'
  refine newI fun u1 C1 g1 z1 => stoAll C1 rfl rfl fun u2 C1 g2 z2 => ?_
  have k2 : Fr None u u2 := g1.newer g2 fun k e => by omega
  refine ((b4.fr0 f0u).fr0 k2).get rfl rfl (List.getElem?_eq_some_iff.1 hp1).1 fun y' hy' => ?_
  rw [hp1] at hy'
  cases hy'
  refine newI fun u3 C3 g3 z3 => stoAll C3 rfl rfl fun u4 C3 g4 z4 => ?_
  have k4 : Fr None u2 u4 := g3.newer g4 fun k e => by omega
  have kk := k2.then0 k4
  have fk := f0u.then0 kk
  refine aggI (C1.fr k4 fun h => h) (x := q1) rfl (aggI C3 (x := p1) rfl (spec_diff_same_c1 (St.fr0 (A := fun F w => chgR F w q1 x) (chgR_st q1 x) hq fk) (St.fr0 (A := fun F w => chgR F w p1 y) (chgR_st p1 y) hp fk) (hd x (List.mem_of_getElem? hx)) fun u5 f5 => ?_))
  refine condI (fun hb => h0 ?_ _ (kk.then0 f5)) fun hb => hK ?_ _ (kk.then0 f5)
  · simpa using hb
  · simpa using hb
theorem spec_Clone_Ent {l : List (Int × Sl)} (hS : SlT ok w entT s l) (hm : l.length * 32 ≤ 140737488355328) {K : Res [.sc .sl] → W R} (hk : ∀ r w', Own (Up w.heap.size) w' 57 entT r l → Fr None w w' → K r Q w') :
    callW Tryz.prog k_slices_Clone_Ent [.slice s.a s.n s.c] [.sc .sl] K Q w := by
  refine C_slices_Clone_Ent _ K Q w ?_
  unfold F_slices_Clone_Ent
  rcases hS.at_ with rfl | ⟨b, o, ha, _⟩
  · cases hsa : s.a with
    | none => exact condT rfl (hk _ w (Own.nil _ _ _ _) (Fr.refl _ _))
    | some a =>
      refine condF rfl ?_
      rw [← hsa]
      refine newI fun w1 B1 f1 s1 => ?_
      have own := Own.mk' (S := Up w.heap.size) (w := w1) (E := 57) (t := entT) (l := []) (g := w.heap.size) (c := 0) (cur := ⟨[]⟩) (Nat.le_refl _) B1 (Nat.le_refl _) (Nat.zero_le _) (by simp) (by simp)
      refine appI (s := ⟨some ⟨w.heap.size, 0, none⟩, 0, 0⟩) (s2 := s) (S' := Up w.heap.size) ents_ty own (hS.fr0 f1) (by simp) (by simp) (fun _ h => h) (by show _ ≤ _; omega) fun r w2 o2 f2 s2 => hk r w2 (by simpa using o2) (f1.newer f2 (fun x e => own.own x e))
  · rw [ha]
    refine condF rfl ?_
    rw [← ha]
    exact cloneI ents_ty hS hm (by omega) hk
theorem spec_snap_Copy {raws : List (Int × Sl)} {L : List Ent} (hS : SlT ok w entT s raws) (hE : EntsR ok w raws L) (hm : L.length ≤ 1048576) (hL : ∀ e ∈ L, Small e.2) {K : Res [.sc .sl] → W R}
    (hk : ∀ r raws' w', Own (Up w.heap.size) w' 57 entT r raws' → EntsR (Up w.heap.size) w' raws' L → Fr None w w' → K r Q w') : callW Tryz.prog k_snap_Copy [.slice s.a s.n s.c] [.sc .sl] K Q w := by
  refine C_snap_Copy s K Q w ?_
  unfold F_snap_Copy
  have hel := hE.len
  refine spec_Clone_Ent hS (by omega) fun r w1 o1 f1 => ?_
  have s1 := f1.size
  have hrl := o1.len
  refine forI (N := r.n) (fun i : Int => i) (fun j i u => i = (j : Int) ∧ Fr None w u ∧ w1.heap.size ≤ u.heap.size ∧ ∃ rs, Own (fun k => w.heap.size ≤ k ∧ k < w1.heap.size) u 57 entT r rs ∧ rs.length = raws.length ∧ (∀ q x, j ≤ q → raws[q]? = some x → rs[q]? = some x) ∧ EntsR (fun k => w1.heap.size ≤ k) u (rs.take j) (L.take j))
    ⟨rfl, f1, Nat.le_refl _, raws, ⟨o1.row, fun k e => ⟨o1.own k e, o1.lt e⟩⟩, rfl, fun q x _ h => h, by rw [List.take_zero, List.take_zero]; exact EntsR.nil _ _⟩ (fun j s w' h => h.1) ?_ ?_
  · rintro j i u K' hj ⟨rfl, fu, hs, rs, ho, hl, hrest, hE2⟩ - hK
    obtain ⟨e, he⟩ : ∃ e, L[j]? = some e := ⟨_, List.getElem?_eq_getElem (by omega)⟩
    obtain ⟨q, hq, q1, q2⟩ := hE.get he
    have hrj := hrest j q (Nat.le_refl _) hq
    refine ho.sl.get rfl rfl (by omega) fun x hx => ?_
    rw [hrj] at hx
    cases hx
    refine newI fun u1 B1 g1 z1 => stoAll B1 rfl rfl fun u2 B1 g2 z2 => fldI B1 (i := 1) (x := q.2) rfl ?_
    have k2 : Fr None u u2 := g1.newer g2 fun k e => by omega
    refine spec_Clone_Comp (q2.fr0 (fu.then0 k2)) (by have := hL e (List.mem_of_getElem? he); omega) fun t u3 o3 g3 => ?_
    have k3 := k2.then0 g3
    have z3 := k3.size
    have ho3 := ho.none k3
    refine ho3.idx rfl (by omega) (by omega) fun g x hg hx hrd => ?_
    rw [add_lit]
    refine ho3.setFld (i := j) (j := 1) (x := q) (x' := (q.1, t)) hrj hg (show 1 < 2 by omega) rfl rfl fun u4 o4 g4 z4 => ?_
    have nown : ∀ k, w1.heap.size ≤ k → ¬ r.v.ownBlock = some k := fun k hk e => by have := (ho.own k e).2; omega
    refine hK _ _ ⟨wsucc hj (by omega), (fu.then0 k3).newer g4 fun k e => (ho.own k e).1, by omega, rs.set j (q.1, t), o4, by rw [List.length_set, hl], fun p x hp hx => ?_, ?_⟩
    · rw [List.getElem?_set_ne (by omega)]
      exact hrest p x (by omega) hx
    · rw [take_at (x := (q.1, t)) (by rw [List.getElem?_set_self (by omega)]), List.take_set_of_le (Nat.le_refl _), take_at he]
      refine EntsR.snoc ((hE2.fr k3 fun _ _ h => h).fr g4 nown) q1 ?_
      exact (o3.sl.fr g4 fun k (e : u2.heap.size ≤ k) => nown k (by have := k2.size; omega)).mono fun k _ (e : u2.heap.size ≤ k) => by have := k2.size; omega
  · rintro i u ⟨_, fu, hs, rs, ho, hl, _, hE2⟩
    rw [List.take_of_length_le (by omega), List.take_of_length_le (by omega)] at hE2
    exact hk r rs u (ho.mono fun k _ e => e.1) (hE2.mono fun k _ e => by show w.heap.size ≤ k; omega) fu
end
end Go.Proofs.YtchhhjlpnecjkaaGreat
namespace Go.Proofs.YtchhhjlpnecjkaaGreat
open Go Go.RowKit Go.Proofs.YtchhhjlpnecjkaaGreat.Den
def turnP (l : List Comp) (d : Chg) : List Comp := ((l.filter fun c => !(decide (c.1 < 6) && d.2.1.toNat.testBit c.1.toNat)).map fun c => if (findC d.2.2.2 c.1).2 = true then (findC d.2.2.2 c.1).1 else c) ++ d.2.2.1
def TurnOf (e : Ent) (d : Chg) (e' : Ent) : Prop := e'.1 = e.1 ∧ e'.2.Perm (turnP e.2 d) ∧ e'.2.Pairwise fun a b => a.1 ≤ b.1
def KeepR (chg : List Chg) (e e' : Ent) : Prop := (∀ d, chg.find? (fun d => d.1 == e.1) = some d → TurnOf e d e') ∧ (chg.find? (fun d => d.1 == e.1) = none → e' = e)
structure PatchOk (was : List Ent) (gone : List Int) (come : List Ent) (chg : List Chg) (now : List Ent) : Prop where
  form : FormOk now
  gone : goneM was now = gone
  come : comeM was now = come
  chg : chgsM was now = chg
theorem kinds_dist {l : List Comp} (h : listE l = 0) : l.Pairwise fun a b => a.1 ≠ b.1 := by
  have := (listE_0.1 h).2
  rw [Rising, List.pairwise_map] at this
  exact this.imp fun h => by omega
theorem dist_rise {α : Type} {key : α → Int} {l : List α} (h : l.Pairwise fun a b => key a ≤ key b) (hd : l.Pairwise fun a b => key a ≠ key b) : l.Pairwise fun a b => key a < key b := by
  have := h.and hd
  exact this.imp fun h => by have := h.1; have := h.2; omega
theorem turn_of {a b e' : Ent} (ha : listE a.2 = 0) (hb : listE b.2 = 0) (hid : a.1 = b.1) (h : TurnOf a (changeM a b) e') : e' = b := by
  obtain ⟨h1, h2, h3⟩ := h
  have ka : ∀ c ∈ a.2, 0 ≤ c.1 ∧ c.1 ≤ 5 := fun c hc => checkM_kind ((listE_0.1 ha).1 c hc)
  have kb : ∀ c ∈ b.2, 0 ≤ c.1 ∧ c.1 ≤ 5 := fun c hc => checkM_kind ((listE_0.1 hb).1 c hc)
  have hk : ∀ c : Comp, (if (findC (changeM a b).2.2.2 c.1).2 = true then (findC (changeM a b).2.2.2 c.1).1 else c).1 = c.1 := fun c => by
    split
    · rename_i h; exact (findC_some h).2
    · rfl
  have dist : (turnP a.2 (changeM a b)).Pairwise fun x y => x.1 ≠ y.1 := by
    unfold turnP
    rw [List.pairwise_append]
    refine ⟨?_, (kinds_dist hb).filter _, ?_⟩
    · rw [List.pairwise_map]
      exact ((kinds_dist ha).filter _).imp fun {x y} h => by rw [hk x, hk y]; exact h
    · intro x hx y hy e
      obtain ⟨c, hc, rfl⟩ := List.mem_map.1 hx
      rw [hk c] at e
      have hc := (List.mem_filter.1 hc).1
      have hy2 := (List.mem_filter.1 hy).2
      have : (findC a.2 y.1).2 = false := by simpa using hy2
      exact findC_none this c hc e
  have mem : ∀ c, c ∈ turnP a.2 (changeM a b) ↔ c ∈ b.2 := by
    intro c
    rw [change_mem ha hb c]
    unfold turnP
    rw [List.mem_append]
    show _ ∨ c ∈ newM a.2 b.2 ↔ _
    constructor
    · rintro (h | h)
      · obtain ⟨x, hx, rfl⟩ := List.mem_map.1 h
        obtain ⟨hx, hl⟩ := List.mem_filter.1 hx
        split
        · rename_i hf
          exact .inr (.inl (findC_some hf).1)
        · rename_i hf
          have hf : (findC (changeM a b).2.2.2 x.1).2 = false := by simpa using hf
          refine .inr (.inr ⟨hx, ?_, findC_none hf⟩)
          have := ka x hx
          rw [decide_eq_true (by omega : x.1 < 6), Bool.true_and] at hl
          have hl : (!(lostM a.2 b.2).toNat.testBit x.1.toNat) = true := hl
          simpa using hl
      · exact .inl h
    · rintro (h | h | ⟨h, hl, hs⟩)
      · exact .inr h
      · refine .inl ?_
        obtain ⟨hb', hp⟩ := List.mem_filter.1 h
        have hf : (findC a.2 c.1).2 = true := by
          rw [Bool.and_eq_true] at hp
          exact hp.1
        obtain ⟨g1, g2⟩ := findC_some hf
        refine List.mem_map.2 ⟨(findC a.2 c.1).1, List.mem_filter.2 ⟨g1, ?_⟩, ?_⟩
        · have := kb c hb'
          rw [g2]
          have e : (changeM a b).2.1.toNat.testBit c.1.toNat = false := by
            show (lostM a.2 b.2).toNat.testBit c.1.toNat = false
            rw [lost_bit _ _ (by omega)]
            have : has b.2 c.1.toNat = true := has_mem.2 ⟨c, hb', by omega⟩
            rw [this]; simp
          rw [e]; simp
        · rw [g2]
          have hf2 : (findC (changeM a b).2.2.2 c.1).2 = true := by
            refine Classical.byContradiction fun hn => ?_
            have hn : (findC (changeM a b).2.2.2 c.1).2 = false := by simpa using hn
            exact findC_none hn c h rfl
          rw [if_pos hf2]
          obtain ⟨q1, q2⟩ := findC_some hf2
          exact kind_one hb (List.mem_filter.1 q1).1 hb' q2
      · refine .inl (List.mem_map.2 ⟨c, List.mem_filter.2 ⟨h, ?_⟩, ?_⟩)
        · have e : (changeM a b).2.1.toNat.testBit c.1.toNat = false := hl
          rw [e]; simp
        · rw [if_neg]
          intro hf
          obtain ⟨q1, q2⟩ := findC_some hf
          exact hs _ q1 q2
  have dist2 : e'.2.Pairwise fun x y => x.1 ≠ y.1 := (h2.pairwise_iff (R := fun x y : Comp => x.1 ≠ y.1) fun h => fun e => h e.symm).2 dist
  have rise := dist_rise h3 dist2
  have mem2 : ∀ c, c ∈ e'.2 ↔ c ∈ b.2 := fun c => (h2.mem_iff).trans (mem c)
  have hle : listE e'.2 = 0 := listE_0.2 ⟨fun c hc => (listE_0.1 hb).1 c ((mem2 c).1 hc), by rw [Rising, List.pairwise_map]; exact rise⟩
  exact Prod.ext (h1.trans hid) (comps_ext hle hb mem2)
theorem same_nothing {a : Ent} (ha : listE a.2 = 0) : (changeM a a).2 = (0, [], []) := by
  have hf : ∀ c ∈ a.2, findC a.2 c.1 = (c, true) := by
    intro c hc
    have h2 : (findC a.2 c.1).2 = true := by
      refine Classical.byContradiction fun hn => ?_
      have hn : (findC a.2 c.1).2 = false := by simpa using hn
      exact findC_none hn c hc rfl
    obtain ⟨q1, q2⟩ := findC_some h2
    exact Prod.ext (kind_one ha q1 hc q2) h2
  refine Prod.ext ?_ (Prod.ext ?_ ?_)
  · show lostM a.2 a.2 = 0
    have h0 : (lostM a.2 a.2).toNat = 0 := by
      refine Nat.eq_of_testBit_eq fun i => ?_
      by_cases hi : i < 6
      · rw [lost_bit _ _ hi]; simp
      · rw [Nat.zero_testBit]
        refine Nat.testBit_lt_two_pow ?_
        have h1 := maskN_lt a.2
        have : (lostM a.2 a.2).toNat < 2 ^ 6 := by
          have e : lostM a.2 a.2 = IntKind.wrap .u8 (((BitVec.ofInt 8 (maskN a.2 : Int) &&& ~~~BitVec.ofInt 8 (maskN a.2 : Int)).toNat : Nat) : Int) := rfl
          rw [e, BitVec.and_not_self]
          decide
        exact Nat.lt_of_lt_of_le this (Nat.pow_le_pow_right (by decide) (by omega))
    have hnn : 0 ≤ lostM a.2 a.2 := by
      have : lostM a.2 a.2 = IntKind.wrap .u8 (((BitVec.ofInt 8 (maskN a.2 : Int) &&& ~~~BitVec.ofInt 8 (maskN a.2 : Int)).toNat : Nat) : Int) := rfl
      rw [this, IntKind.wrap_u8]
      omega
    omega
  · show newM a.2 a.2 = []
    unfold newM
    rw [List.filter_eq_nil_iff]
    intro c hc
    rw [hf c hc]; simp
  · show chM a.2 a.2 = []
    unfold chM
    rw [List.filter_eq_nil_iff]
    intro c hc
    rw [hf c hc]; simp
theorem chg_none {was now : List Ent} (hw : FormOk was) (hn : FormOk now) {a b : Ent} (ha : a ∈ was) (hb : b ∈ now) (hab : a.1 = b.1) (h : ∀ d ∈ chgsM was now, d.1 ≠ a.1) : a = b := by
  have o := chgOne_some hw.rise ha hab
  by_cases hn2 : nothingM (changeM a b) = true
  · have e1 := nothing_eq hn2
    have := change_inj (hw.list ha) (hn.list hb) (hw.list ha) (e1.trans (same_nothing (hw.list ha)).symm)
    exact Prod.ext hab this.symm
  · rw [if_neg hn2] at o
    exact absurd hab.symm (h _ (List.mem_filterMap.2 ⟨b, hb, o⟩))
theorem chg_some {was now : List Ent} (hw : FormOk was) (hn : FormOk now) {a b : Ent} (ha : a ∈ was) (hb : b ∈ now) (hab : a.1 = b.1) {d : Chg} (hd : d ∈ chgsM was now) (he : d.1 = a.1) : d = changeM a b := by
  obtain ⟨b2, hb2, h2⟩ := List.mem_filterMap.1 hd
  obtain ⟨g1, a2, ha2, g2, g3, _⟩ := chgOne_id h2
  have e1 : b2 = b := id_one hn.rise hb2 hb (by rw [← g1, he, hab])
  have e2 : a2 = a := id_one hw.rise ha2 ha (by rw [g2, ← g1, he])
  rw [g3, e1, e2]
theorem keep_of {was now : List Ent} (hw : FormOk was) (hn : FormOk now) {a b e' : Ent} (ha : a ∈ was) (hb : b ∈ now) (hab : a.1 = b.1) (h : KeepR (chgsM was now) a e') : e' = b := by
  cases hf : (chgsM was now).find? (fun d => d.1 == a.1) with
  | none =>
    rw [h.2 hf]
    refine chg_none hw hn ha hb hab fun d hd e => ?_
    have := List.find?_eq_none.1 hf d hd
    simp [e] at this
  | some d =>
    have hd := List.mem_of_find?_eq_some hf
    have he : d.1 = a.1 := by have := List.find?_some hf; simpa using this
    have ht := h.1 d hf
    rw [chg_some hw hn ha hb hab hd he] at ht
    exact turn_of (hw.list ha) (hn.list hb) hab ht
theorem patch_now {was now : List Ent} {gone : List Int} {come : List Ent} {chg : List Chg} (hw : FormOk was) (hp : PatchOk was gone come chg now) {K : List Ent} (hK : All2 (KeepR chg) (was.filter fun e => !decide (e.1 ∈ gone)) K) (hid : ∀ (i : Nat) a b, (was.filter fun e => !decide (e.1 ∈ gone))[i]? = some a → K[i]? = some b → b.1 = a.1)
    {l : List Ent} (hl : l.Perm (K ++ come)) (hs : l.Pairwise fun a b => a.1 ≤ b.1) : l = now := by
  obtain ⟨hn, rfl, rfl, rfl⟩ := hp
  have stay : ∀ a ∈ was, decide (a.1 ∈ goneM was now) = false → hasE now a.1 = true := fun a ha h => by
    refine Classical.byContradiction fun hx => ?_
    have hx : hasE now a.1 = false := by simpa using hx
    have : a.1 ∈ goneM was now := List.mem_map.2 ⟨a, List.mem_filter.2 ⟨ha, by rw [hx]; rfl⟩, rfl⟩
    rw [decide_eq_true this] at h
    cases h
  have notgone : ∀ a ∈ was, hasE now a.1 = true → decide (a.1 ∈ goneM was now) = false := fun a ha h => by
    refine decide_eq_false fun hx => ?_
    obtain ⟨a2, h2, e2⟩ := List.mem_map.1 hx
    have h3 := (List.mem_filter.1 h2).2
    rw [e2, h] at h3
    cases h3
  have one : ∀ (i : Nat) a x, (was.filter fun e => !decide (e.1 ∈ goneM was now))[i]? = some a → K[i]? = some x → x ∈ now ∧ hasE was x.1 = true := fun i a x ha hx => by
    obtain ⟨m1, m2⟩ := List.mem_filter.1 (List.mem_of_getElem? ha)
    obtain ⟨b, hb, e⟩ := hasE_iff.1 (stay a m1 (by simpa using m2))
    have := keep_of hw hn m1 hb e.symm (hK.at_ i a x ha hx)
    subst this
    exact ⟨hb, hasE_iff.2 ⟨a, m1, e.symm⟩⟩
  have mem : ∀ x, x ∈ K ++ comeM was now ↔ x ∈ now := fun x => by
    rw [List.mem_append]
    constructor
    · rintro (h | h)
      · obtain ⟨i, hi⟩ := List.mem_iff_getElem?.1 h
        obtain ⟨a, ha, _⟩ := hK.get hi
        exact (one i a x ha hi).1
      · exact (List.mem_filter.1 h).1
    · intro h
      by_cases hh : hasE was x.1 = true
      · obtain ⟨a, ha, e⟩ := hasE_iff.1 hh
        have hm : a ∈ was.filter fun e => !decide (e.1 ∈ goneM was now) := List.mem_filter.2 ⟨ha, by rw [notgone a ha (hasE_iff.2 ⟨x, h, e.symm⟩)]; rfl⟩
        obtain ⟨i, hi⟩ := List.mem_iff_getElem?.1 hm
        obtain ⟨y, hy, hr⟩ := hK.getL hi
        have := keep_of hw hn ha h e hr
        subst this
        exact .inl (List.mem_of_getElem? hy)
      · exact .inr (List.mem_filter.2 ⟨h, by simpa using hh⟩)
  have dist : (K ++ comeM was now).Pairwise fun a b => a.1 ≠ b.1 := by
    rw [List.pairwise_append]
    refine ⟨?_, ((hn.rise.filter _).imp fun {a b} h => by omega), fun x hx y hy e => ?_⟩
    · rw [List.pairwise_iff_getElem]
      intro i j hi hj hij
      have hl := hK.len
      have r := List.pairwise_iff_getElem.1 (hw.rise.filter fun e => !decide (e.1 ∈ goneM was now)) i j (by omega) (by omega) hij
      have a1 := hid i _ _ (List.getElem?_eq_getElem (by omega)) (List.getElem?_eq_getElem hi)
      have a2 := hid j _ _ (List.getElem?_eq_getElem (by omega)) (List.getElem?_eq_getElem hj)
      omega
    · obtain ⟨i, hi⟩ := List.mem_iff_getElem?.1 hx
      obtain ⟨a, ha, _⟩ := hK.get hi
      have h1 := (one i a x ha hi).2
      have h2 := (List.mem_filter.1 hy).2
      rw [← e, h1] at h2
      cases h2
  have dist2 := (hl.pairwise_iff (R := fun x y : Ent => x.1 ≠ y.1) fun h => fun e => h e.symm).2 dist
  exact ids_ext (dist_rise hs dist2) hn.rise fun x => (hl.mem_iff).trans (mem x)
end Go.Proofs.YtchhhjlpnecjkaaGreat
