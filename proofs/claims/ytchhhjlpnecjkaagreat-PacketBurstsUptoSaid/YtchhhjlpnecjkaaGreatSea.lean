/-
  packet.Seal: a frame.
-/
import Derived.Test.YtchhhjlpnecjkaaGreatPkt4
import Derived.Test.YtchhhjlpnecjkaaGreatFrm
import Derived.Test.YtchhhjlpnecjkaaGreatChk
namespace Go.Proofs.YtchhhjlpnecjkaaGreat
open Go Go.RowKit Go.Proofs.YtchhhjlpnecjkaaGreat.Den
variable {R : Type} {Q : R → World → Prop} {w : World}

def sealW (h : Head) (was now : List Ent) : WS :=
  let s := headM ([], 0) h
  if h.1 = 1 then
    let s1 := (s.1, keepM s.2 (formM 0 now))
    if s1.2 = 0 then entsW s1 now else s1
  else if h.1 = 2 then
    let s1 := (s.1, keepM s.2 (diffE was now))
    if diffE was now = 0 then deltaW was s1 (goneM was now) (comeM was now) (chgsM was now) else s1
  else if 0 < now.length then (s.1, keepM s.2 4) else s
def sealE (h : Head) (was now : List Ent) : Int :=
  if headE h ≠ 0 then headE h else if (sealW h was now).2 ≠ 0 then (sealW h was now).2 else if 4096 < (packM (sealW h was now).1).length then 3 else 0
def sealB (h : Head) (was now : List Ent) : List Int := sealF (packM (sealW h was now).1)

section
variable {n : Nat} {F : Nat → Prop} {bw b : Nat} {s : WS} {nots : List Nat} {v : World}
theorem PX.keep (h : PX n F bw b s nots v) (hn : n ≤ v.heap.size) {x : Int} {K : Res [] → W R} (hk : ∀ v', PX n F bw b (s.1, keepM s.2 x) nots v' → Fr (PS n F nots) v v' → K () Q v') :
    callW Tryz.prog k_packet_writer_keep [.pointer (some ⟨bw, 0, none⟩), .int .i64 x] [] K Q v := by
  obtain ⟨G, hp, up, uf, un, us⟩ := h.use hn
  refine spec_packet_keep hp fun v' hp' f' s' => hk v' (up _ _ ?_ (by omega)) (uf _ f')
  exact hp'.mono (fun k _ e => .inl e) fun k e => by
    rcases e with e | e
    · exact hp'.2.1 k e
    · omega
theorem PX.head (h : PX n F bw b s nots v) (hn : n ≤ v.heap.size) {hd : Head} (hok : HeadOk hd) {K : Res [] → W R} (hk : ∀ v', PX n F bw b (headM s hd) nots v' → Fr (PS n F nots) v v' → K () Q v') :
    callW Tryz.prog k_packet_writer_head [.pointer (some ⟨bw, 0, none⟩), .agg ⟨[.int .u8 hd.1, .int .u8 hd.2.1, .int .u32 hd.2.2.1, .int .u32 hd.2.2.2.1, .int .u32 hd.2.2.2.2]⟩] [] K Q v := by
  obtain ⟨G, hp, up, uf, un, us⟩ := h.use hn
  exact spec_packet_head hp hok fun v' hp' f' => hk v' (up _ _ hp' f'.size) (uf _ f')
theorem PX.err (h : PX n F bw b s nots v) {K : Int → W R} (hk : K s.2 Q v) : ld (.sc (.int .i64)) (Addr.add ⟨bw, 0, none⟩ 1) K Q v := by
  obtain ⟨G, h1, _⟩ := h
  exact h1.err hk
end

/-! ### a delta's parts fit -/
theorem lostM_range (a b : List Comp) : 0 ≤ lostM a b ∧ lostM a b ≤ 255 := by
  unfold lostM bNot
  rw [IntKind.wrap_u8]
  omega
theorem newM_mem {a l : List Comp} {c : Comp} (h : c ∈ newM a l) : c ∈ l := (List.mem_filter.1 h).1
theorem chM_mem {a l : List Comp} {c : Comp} (h : c ∈ chM a l) : c ∈ l := (List.mem_filter.1 h).1
theorem changeM_fit (a : Ent) {e : Ent} (h : EntFit e) : ChgFit (changeM a e) :=
  ⟨h.1, lostM_range _ _, ⟨Nat.le_trans (newM_le _ _) h.2.1, fun c hc => h.2.2 c (newM_mem hc)⟩, ⟨Nat.le_trans (chM_le _ _) h.2.1, fun c hc => h.2.2 c (chM_mem hc)⟩⟩
section
variable {was now : List Ent} (hL1 : ∀ e ∈ was, EntFit e) (hL2 : ∀ e ∈ now, EntFit e) (hm1 : was.length ≤ 1048576) (hm2 : now.length ≤ 1048576)
include hL1 hm1 in
theorem goneM_fit : (goneM was now).length ≤ 1048576 ∧ ∀ x ∈ goneM was now, 0 ≤ x ∧ x ≤ 4294967295 := by
  refine ⟨by unfold goneM; rw [List.length_map]; exact Nat.le_trans (List.length_filter_le _ _) hm1, fun x hx => ?_⟩
  obtain ⟨e, he, rfl⟩ := List.mem_map.1 hx
  exact (hL1 e (List.mem_filter.1 he).1).1
include hL2 hm2 in
theorem comeM_fit : (comeM was now).length ≤ 1048576 ∧ ∀ e ∈ comeM was now, EntFit e :=
  ⟨Nat.le_trans (List.length_filter_le _ _) hm2, fun e he => hL2 e (List.mem_filter.1 he).1⟩
include hL2 hm2 in
theorem chgsM_fit : (chgsM was now).length ≤ 1048576 ∧ ∀ c ∈ chgsM was now, ChgFit c := by
  refine ⟨Nat.le_trans (filterMap_le _ _) hm2, fun c hc => ?_⟩
  obtain ⟨e, he, hc⟩ := List.mem_filterMap.1 hc
  unfold chgOne at hc
  split at hc
  · cases hc
  · split at hc
    · cases hc
    · cases hc
      exact changeM_fit _ (hL2 e he)
end

theorem spec_packet_Seal {ok1 ok2 : Nat → Prop} {h : Head} (hok : HeadOk h) {s1 s2 : Sl} {raws1 raws2 : List (Int × Sl)} {was now : List Ent} (hS1 : SlT ok1 w entT s1 raws1) (hE1 : EntsR ok1 w raws1 was) (hS2 : SlT ok2 w entT s2 raws2) (hE2 : EntsR ok2 w raws2 now)
    (hm1 : was.length ≤ 1048576) (hm2 : now.length ≤ 1048576) (hL1 : ∀ e ∈ was, EntFit e) (hL2 : ∀ e ∈ now, EntFit e) {K : Res [.sc .sl, .sc (.int .i64)] → W R}
    (hbad : sealE h was now ≠ 0 → ∀ w', Fr None w w' → K (⟨none, 0, 0⟩, sealE h was now) Q w')
    (hk : sealE h was now = 0 → ∀ r w', Own (Up w.heap.size) w' 5 u8T r (sealB h was now) → Fr None w w' → K (r, 0) Q w') :
    callW Tryz.prog k_packet_Seal [.agg ⟨[.int .u8 h.1, .int .u8 h.2.1, .int .u32 h.2.2.1, .int .u32 h.2.2.2.1, .int .u32 h.2.2.2.2]⟩, .slice s1.a s1.n s1.c, .slice s2.a s2.n s2.c] [.sc .sl, .sc (.int .i64)] K Q w := by
  refine C_packet_Seal h s1 s2 K Q w ?_
  unfold F_packet_Seal
  have hS10 : SlT (fun k => ok1 k ∧ k < w.heap.size) w entT s1 raws1 := hS1.mono fun k hk e => ⟨e, hk⟩
  have hE10 : EntsR (fun k => ok1 k ∧ k < w.heap.size) w raws1 was := hE1.mono fun k hk e => ⟨e, hk⟩
  have hS20 : SlT (fun k => ok2 k ∧ k < w.heap.size) w entT s2 raws2 := hS2.mono fun k hk e => ⟨e, hk⟩
  have hE20 : EntsR (fun k => ok2 k ∧ k < w.heap.size) w raws2 now := hE2.mono fun k hk e => ⟨e, hk⟩
  have l2 := hS2.len.trans hE2.len
  refine newI fun w1 B1 f1 t1 => aggI B1 (x := h) rfl (spec_packet_Check fun w2 f2 => ?_)
  have f02 := f1.then0 f2
  have B2 := B1.fr f2 fun h => h
  refine condN (fun hne => ?_) fun heq => ?_
  · have e : sealE h was now = headE h := by unfold sealE; rw [if_pos hne]
    rw [← e]
    exact hbad (by rw [e]; exact hne) w2 f02
  have eS : sealE h was now = if (sealW h was now).2 ≠ 0 then (sealW h was now).2 else if 4096 < (packM (sealW h was now).1).length then 3 else 0 := by unfold sealE; rw [if_neg (by omega)]
  have z2 := f02.size
  refine spec_bits_New fun b w3 hw3 f3 => newI fun w4 B4 f4 t4 => ?_
  have z3 := f3.size
  have hbl : b < w3.heap.size := by obtain ⟨_, _, s, hB, _⟩ := hw3; exact hB.lt
  have hbu : w2.heap.size ≤ b := hw3.2.1
  have P4 : PW w3.heap.size b ([], 0) (fun k => w2.heap.size ≤ k ∧ k < w4.heap.size) w4 := ⟨by omega, fun k e => e.2, B4, Wr.st hw3 f4 fun k hk e => ⟨fun h => h, ⟨e, by omega⟩, by omega⟩⟩
  have X4 : PX w2.heap.size None w3.heap.size b ([], 0) [w.heap.size] w4 := ⟨_, P4, fun k e => .inr e.1, fun x hx => by
    rcases List.mem_cons.1 hx with rfl | hx
    · have := B2.lt; exact ⟨fun e => by omega, by omega⟩
    · cases hx⟩
  have f24 := f3.then0 f4
  have B4' := B2.fr f24 fun h => h
  have f04 := f02.then0 f24
  refine aggI B4' (x := h) rfl ?_
  generalize hbw : w3.heap.size = bw at X4 P4
  have hz24 := f24.size
  refine X4.head (by omega) hok fun w5 X5 f5 => ?_
  have g5 : Fr None w2 w5 := f24.newer f5 fun k e => e.1.elim (fun h => h.elim) fun h => h
  have B5 := B4'.fr f5 fun e => e.2 (by simp)
  have hz5 := g5.size
  have dis1 : ∀ {ok : Nat → Prop} k, ok k ∧ k < w.heap.size → ¬ (None k ∨ w2.heap.size ≤ k) := fun k e e2 => by
    rcases e2 with e2 | e2
    · exact e2
    · omega
  refine fldI B5 (i := 0) (x := h.1) rfl ?_
  have fnew : ∀ {a b : World} {l : List Nat}, Fr None w2 a → Fr (PS w2.heap.size None l) a b → Fr None w2 b := fun f g => f.newer g fun k e => e.1.elim (fun h => h.elim) fun h => h
  refine joinI (fun (_ : Unit) v => PX w2.heap.size None bw b (sealW h was now) [w.heap.size] v ∧ Fr None w2 v) ?_ ?_
  · refine condE (fun k1 => ?_) fun k1 => ?_
    · -- all of it
      refine spec_snap_Form ((hS20.fr0 f02).fr0 g5) ((hE20.fr f02 fun _ _ h => h).fr g5 fun _ _ h => h) (by omega) (fun e he => (hL2 e he).idOk) fun w6 f6 => ?_
      have X6 := X5.fr0 f6
      have g6 := g5.then0 f6
      have hz6 := g6.size
      refine X6.keep (by omega) fun w7 X7 f7 => ?_
      have g7 := fnew g6 f7
      have hz7 := g7.size
      refine X7.err ?_
      have eW : sealW h was now = if keepM (headM ([], 0) h).2 (formM 0 now) = 0 then entsW ((headM ([], 0) h).1, keepM (headM ([], 0) h).2 (formM 0 now)) now else ((headM ([], 0) h).1, keepM (headM ([], 0) h).2 (formM 0 now)) := by unfold sealW; rw [if_pos k1]
      refine joinI (fun (_ : Unit) v => PX w2.heap.size None bw b (sealW h was now) [w.heap.size] v ∧ Fr None w2 v) ?_ fun _ v h => h
      refine condE (fun k0 => ?_) fun k0 => ?_
      · have f27 := f02.then0 g7
        refine X7.ents (by omega) (hS20.fr0 f27) (hE20.fr f27 fun _ _ h => h) dis1 hL2 hm2 fun w8 X8 f8 => ⟨?_, fnew g7 f8⟩
        rw [eW, if_pos k0]
        exact X8
      · rw [eW, if_neg k0]
        exact ⟨X7, g7⟩
    · refine joinI (fun (_ : Unit) v => PX w2.heap.size None bw b (sealW h was now) [w.heap.size] v ∧ Fr None w2 v) ?_ fun _ v h => h
      refine condE (fun k2 => ?_) fun k2 => ?_
      · -- a step
        have eW : sealW h was now = if diffE was now = 0 then deltaW was ((headM ([], 0) h).1, keepM (headM ([], 0) h).2 (diffE was now)) (goneM was now) (comeM was now) (chgsM was now) else ((headM ([], 0) h).1, keepM (headM ([], 0) h).2 (diffE was now)) := by unfold sealW; rw [if_neg k1, if_pos k2]
        obtain ⟨G, hp, hG, hno⟩ := X5
        have f05 := f02.then0 g5
        have fin : ∀ {e : Int} {r : DRaw} {w6 : World}, e = diffE was now → (diffE was now = 0 → DltR (Up w5.heap.size) w6 r (goneM was now) (comeM was now) (chgsM was now)) → Fr None w5 w6 →
            newW 80 [.slice none 0 0, .slice none 0 0, .slice none 0 0] (fun x_18 => stoL x_18 [.slice r.1.a r.1.n r.1.c, .slice r.2.1.a r.2.1.n r.2.1.c, .slice r.2.2.a r.2.2.n r.2.2.c] 0 <|
              callW Tryz.prog k_packet_writer_keep [.pointer (some ⟨bw, 0, none⟩), .int .i64 e] [] fun (_ : Unit) =>
              joinW (σ := Unit) (fun J_20 => cond (e == 0)
                (ld (.agg [.sl, .sl, .sl]) x_18 fun (x_21 : DRaw) =>
                callW Tryz.prog k_packet_writer_delta [.pointer (some ⟨bw, 0, none⟩), .slice s1.a s1.n s1.c, .agg ⟨[.slice x_21.1.a x_21.1.n x_21.1.c, .slice x_21.2.1.a x_21.2.1.n x_21.2.1.c, .slice x_21.2.2.a x_21.2.2.n x_21.2.2.c]⟩] [] fun (_ : Unit) => J_20 ())
                (J_20 ())) (fun _ => fun (_ : (Sl × Int) → World → Prop) v => PX w2.heap.size None bw b (sealW h was now) [w.heap.size] v ∧ Fr None w2 v)) (fun r w => K r Q w) w6 := by
          intro e r w6 he hD f56
          subst he
          have hz6 := f56.size
          refine newI fun w7 B7 f7 t7 => stoAll B7 rfl rfl fun w8 B8 f8 t8 => ?_
          have f68 : Fr None w6 w8 := f7.newer f8 fun k e => by omega
          have f58 := f56.then0 f68
          have nG : ∀ k, w5.heap.size ≤ k → ¬ G k := fun k e e2 => by have := hp.2.1 k e2; omega
          refine spec_packet_keep (hp.fr0 f58) fun w9 hp9 f9 t9 => ?_
          have g9 : Fr None w2 w9 := (g5.then0 f58).newer f9 fun k e => (hG k e).elim (fun h => h.elim) fun h => h
          have X9 : PX w2.heap.size None bw b ((headM ([], 0) h).1, keepM (headM ([], 0) h).2 (diffE was now)) [w.heap.size] w9 := ⟨G, hp9, hG, fun x hx => ⟨(hno x hx).1, by have := (hno x hx).2; have := f58.size; omega⟩⟩
          refine joinI (fun (_ : Unit) v => PX w2.heap.size None bw b (sealW h was now) [w.heap.size] v ∧ Fr None w2 v) ?_ fun _ v h => h
          refine condE (fun k0 => ?_) fun k0 => ?_
          · have D6 := hD k0
            have D8 : DltR (fun k => w5.heap.size ≤ k ∧ k < w6.heap.size) w9 r (goneM was now) (comeM was now) (chgsM was now) :=
              DltR.st (DltR.st D6 f68 (F' := fun k => w5.heap.size ≤ k ∧ k < w6.heap.size) fun k hk e => ⟨fun h => h, e, hk⟩) f9 fun k hk e => ⟨nG k e.1, e⟩
            have B9 := B8.fr f9 (nG _ hz6)
            refine aggI B9 (x := r) rfl ?_
            have f09 := f02.then0 g9
            have fw : FormOk was := formOk.1 (by
              unfold diffE at k0
              refine Classical.byContradiction fun hc => ?_
              rw [if_pos hc] at k0
              exact hc k0)
            have hz9 := g9.size
            refine spec_packet_delta hp9 (hS10.fr0 f09) (hE10.fr f09 fun _ _ h => h) fw.rise hm1 hL1 (fun k _ e e2 => dis1 k e (hG k e2)) D8 (fun k _ e => nG k e.1) (goneM_fit hL1 hm1) (comeM_fit hL2 hm2) (chgsM_fit hL2 hm2) fun w10 hp10 f10 => ⟨?_, g9.newer f10 fun k e => (hG k e).elim (fun h => h.elim) fun h => h⟩
            rw [eW, if_pos k0]
            have hz10 := f10.size
            refine ⟨_, hp10, fun k e => ?_, fun x hx => ⟨fun e => ?_, ?_⟩⟩
            · rcases e with e | e
              · exact hG k e
              · exact .inr (by omega)
            · rcases e with e | e
              · exact (hno x hx).1 e
              · have := (hno x hx).2; have := f58.size; omega
            · have := (hno x hx).2; have := f58.size; omega
          · rw [eW, if_neg k0]
            exact ⟨X9, g9⟩
        refine spec_diff_Diff (hS10.fr0 f05) (hE10.fr f05 fun _ _ h => h) (hS20.fr0 f05) (hE20.fr f05 fun _ _ h => h) hm1 hm2 hL1 hL2 (fun hne w6 f6 => ?_) fun he r w6 hD f6 => ?_
        · exact fin (r := (⟨none, 0, 0⟩, ⟨none, 0, 0⟩, ⟨none, 0, 0⟩)) rfl (fun h => absurd h hne) f6
        · exact fin (e := 0) he.symm (fun _ => hD) f6
      · -- no entities
        have eW : sealW h was now = if 0 < now.length then ((headM ([], 0) h).1, keepM (headM ([], 0) h).2 4) else headM ([], 0) h := by unfold sealW; rw [if_neg k1, if_neg k2]
        refine joinI (fun (_ : Unit) v => PX w2.heap.size None bw b (sealW h was now) [w.heap.size] v ∧ Fr None w2 v) ?_ fun _ v h => h
        refine condD (fun k3 => ?_) fun k3 => ?_
        · refine X5.keep (by omega) fun w7 X7 f7 => ⟨?_, fnew g5 f7⟩
          rw [eW, if_pos (by omega)]
          exact X7
        · rw [eW, if_neg (by omega)]
          exact ⟨X5, g5⟩
  rintro _ w6 ⟨X6, g6⟩
  refine X6.err ?_
  have f06 := f02.then0 g6
  refine condN (fun hne => ?_) fun heq2 => ?_
  · have X6 := X6.fr0 (Fr.refl _ _).drew
    refine X6.err ?_
    have e : sealE h was now = (sealW h was now).2 := by rw [eS, if_pos hne]
    rw [← e]
    exact hbad (by rw [e]; exact hne) _ (f06.then0 (Fr.refl _ _).drew)
  have e1 : sealE h was now = if 4096 < (packM (sealW h was now).1).length then 3 else 0 := by rw [eS, if_neg (by omega)]
  refine X6.ptr ?_
  obtain ⟨G, hp, _⟩ := X6
  refine spec_bits_Bytes hp.2.2.2 fun r w7 o7 f7 => ?_
  have hlen : (packM (sealW h was now).1).length ≤ 140737488355000 := by
    have := hp.2.2.2.1
    rw [packM_len]
    omega
  have f07 := f06.then0 f7
  have hz7 := f07.size
  refine spec_frame_Seal o7.sl hlen (fun hl => ?_) fun hl r2 w8 o8 f8 => ?_
  · have e : sealE h was now = 3 := by rw [e1, if_pos hl]
    have := hbad (by rw [e]; decide) w7 f07
    rw [e] at this
    exact this
  · have e : sealE h was now = 0 := by rw [e1, if_neg (by omega)]
    exact hk e r2 w8 (o8.up hz7) (f07.then0 f8)

end Go.Proofs.YtchhhjlpnecjkaaGreat
