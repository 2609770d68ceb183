/-
  packet: what writes bits, and keeps the first error.
-/
import Derived.Test.YtcahnbflfehonaaCod
import Derived.Test.YtcahnbflfehonaaRef10
namespace Go.Proofs.Ytcahnbflfehonaa
open Go Go.RowKit Go.Proofs.Ytcahnbflfehonaa.Den
variable {R : Type} {Q : R → World → Prop} {w : World}

abbrev WS := List Bool × Int
def keepM (e x : Int) : Int := if e = 0 then x else e
def doM (s : WS) (p : Int × List Bool) : WS := (p.2, keepM s.2 p.1)
/-- a writer of packets. -/
def PW (bw b : Nat) (s : WS) : OB := fun F w => F bw ∧ (∀ k, F k → k < w.heap.size) ∧ Blk w bw 55 [.pointer (some ⟨b, 0, none⟩), .int .i64 s.2] ∧ Wr b s.1 (fun k => F k ∧ k ≠ bw) w
section
variable {bw b : Nat} {s : WS} {F : Nat → Prop}
theorem PW.fr0 (h : PW bw b s F w) {w' : World} (f : Fr None w w') : PW bw b s F w' := by
  obtain ⟨h1, h2, h3, h4⟩ := h
  have := f.size
  exact ⟨h1, fun k e => by have := h2 k e; omega, h3.fr f fun h => h, Wr.st.fr0 h4 f⟩
/-- F, and what is new. -/
abbrev Gw (F : Nat → Prop) (w w' : World) : Nat → Prop := fun k => F k ∨ (w.heap.size ≤ k ∧ k < w'.heap.size)
theorem spec_packet_keep (h : PW bw b s F w) {x : Int} {K : Res [] → W R} (hk : ∀ w', PW bw b (s.1, keepM s.2 x) F w' → Fr F w w' → w'.heap.size = w.heap.size → K () Q w') :
    callW Try.prog k_packet_writer_keep [.pointer (some ⟨bw, 0, none⟩), .int .i64 x] [] K Q w := by
  refine C_packet_writer_keep _ _ K Q w ?_
  unfold F_packet_writer_keep
  obtain ⟨h1, h2, B, hw⟩ := h
  refine ptrI (fldI B (i := 1) (x := s.2) rfl ?_)
  refine joinI (fun (_ : Unit) w' => PW bw b (s.1, keepM s.2 x) F w' ∧ Fr F w w' ∧ w'.heap.size = w.heap.size) ?_ fun _ w' ⟨a, b, c⟩ => hk w' a b c
  refine condE (fun he => ?_) fun he => ?_
  · refine ptrI ?_
    rw [add_lit]
    refine setI (i := 1) B (by simp) rfl fun w2 B2 f2 s2 => ?_
    have e : keepM s.2 x = x := by rw [keepM, if_pos he]
    rw [e]
    exact ⟨⟨h1, fun k e => by rw [s2]; exact h2 k e, B2, Wr.st.fr hw f2 fun k e e2 => e.2 e2⟩, f2.sub fun k e => by rw [e]; exact h1, s2⟩
  · have e : keepM s.2 x = s.2 := by rw [keepM, if_neg he]
    rw [e]
    exact ⟨⟨h1, h2, B, hw⟩, Fr.refl _ _, rfl⟩
/-- bits are put, and what goes wrong is kept. -/
theorem PW.put (h : PW bw b s F w) : Wr b s.1 (fun k => F k ∧ k ≠ bw) w ∧ (∀ k, F k ∧ k ≠ bw → k < w.heap.size) ∧ ∀ (p : Int × List Bool) (w' : World) {K : Res [] → W R}, Wr b p.2 (Ex (fun k => F k ∧ k ≠ bw) w) w' → Fr (fun k => F k ∧ k ≠ bw) w w' →
    (∀ w2, PW bw b (doM s p) (Gw F w w2) w2 → Fr F w w2 → K () Q w2) → callW Try.prog k_packet_writer_keep [.pointer (some ⟨bw, 0, none⟩), .int .i64 p.1] [] K Q w' := by
  obtain ⟨h1, h2, B, hw⟩ := h
  refine ⟨hw, fun k e => h2 k e.1, fun p w' K hw' f hk => ?_⟩
  have hs := f.size
  have hbw := h2 bw h1
  have pw : PW bw b (p.2, s.2) (Gw F w w') w' := by
    refine ⟨.inl h1, fun k e => ?_, B.fr f fun e => e.2 rfl, Wr.st.mono hw' fun k hk e => ?_⟩
    · rcases e with e | e
      · have := h2 k e; omega
      · exact e.2
    · rcases e with e | e
      · exact ⟨.inl e.1, e.2⟩
      · exact ⟨.inr ⟨e, hk⟩, by omega⟩
  refine spec_packet_keep pw fun w2 hp f2 s2 => hk w2 ?_ ?_
  · have e : Gw F w w2 = Gw F w w' := by unfold Gw; rw [s2]
    rw [e]
    exact hp
  · exact (f.sub fun k e => e.1).exS f2 fun k e => by
      rcases e with e | e
      · exact .inl e
      · exact .inr e.1
theorem PW.fr (h : PW bw b s F w) {S : Nat → Prop} {w' : World} (f : Fr S w w') (hS : ∀ k, F k → ¬ S k) : PW bw b s F w' := by
  obtain ⟨h1, h2, h3, h4⟩ := h
  have := f.size
  exact ⟨h1, fun k e => by have := h2 k e; omega, h3.fr f (hS bw h1), Wr.st.fr h4 f fun k e => hS k e.1⟩
theorem PW.mono (h : PW bw b s F w) {F' : Nat → Prop} (hs : ∀ k, k < w.heap.size → F k → F' k) (hb : ∀ k, F' k → k < w.heap.size) : PW bw b s F' w := by
  obtain ⟨h1, h2, h3, h4⟩ := h
  exact ⟨hs bw h3.lt h1, hb, h3, Wr.st.mono h4 fun k hk e => ⟨hs k hk e.1, e.2⟩⟩
theorem PW.ptr (h : PW bw b s F w) {K : Option Addr → W R} (hk : K (some ⟨b, 0, none⟩) Q w) : ld (.sc .ptr) (Addr.add ⟨bw, 0, none⟩ 0) K Q w := fldI h.2.2.1 (i := 0) (x := some ⟨b, 0, none⟩) rfl hk
theorem PW.err (h : PW bw b s F w) {K : Int → W R} (hk : K s.2 Q w) : ld (.sc (.int .i64)) (Addr.add ⟨bw, 0, none⟩ 1) K Q w := fldI h.2.2.1 (i := 1) (x := s.2) rfl hk
/-- two turns are one. -/
theorem PW.two {w1 w2 w3 : World} {s' : WS} {G : Nat → Prop} (hG : ∀ k, G k → Gw F w w1 k) (h : PW bw b s' (Gw G w2 w3) w3) (h1 : w.heap.size ≤ w1.heap.size) (h2 : w1.heap.size ≤ w2.heap.size) (h3 : w2.heap.size ≤ w3.heap.size) (hF : ∀ k, F k → k < w.heap.size) : PW bw b s' (Gw F w w3) w3 :=
  h.mono (fun k hk e => by
    rcases e with e | e
    · rcases hG k e with e | e
      · exact .inl e
      · exact .inr (by omega)
    · exact .inr (by omega)) fun k e => by
    rcases e with e | e
    · have := hF k e; omega
    · exact e.2

def plainM (s : WS) (v n : Int) : WS := doM s (putB s.1 v n)
def varM (s : WS) (v : Nat) : WS := doM s (putVarM s.1 v)
theorem spec_packet_plain (h : PW bw b s F w) {v n : Int} (hv : 0 ≤ v ∧ v ≤ 18446744073709551615) (hn : -9223372036854775808 ≤ n ∧ n ≤ 9223372036854775807) {K : Res [] → W R} (hk : ∀ w', PW bw b (plainM s v n) (Gw F w w') w' → Fr F w w' → K () Q w') :
    callW Try.prog k_packet_writer_plain [.pointer (some ⟨bw, 0, none⟩), .int .u64 v, .int .i64 n] [] K Q w := by
  refine C_packet_writer_plain _ _ _ K Q w ?_
  unfold F_packet_writer_plain
  obtain ⟨hw, hF, hk2⟩ := h.put
  exact ptrI (h.ptr (spec_bits_Put hw hv hn fun w1 hw1 f1 => hk2 (putB s.1 v n) w1 hw1 f1 hk))
theorem spec_packet_count (h : PW bw b s F w) {n : Nat} (hn : (n : Int) ≤ 18446744073709551615) {K : Res [] → W R} (hk : ∀ w', PW bw b (varM s n) (Gw F w w') w' → Fr F w w' → K () Q w') :
    callW Try.prog k_packet_writer_count [.pointer (some ⟨bw, 0, none⟩), .int .i64 (n : Int)] [] K Q w := by
  refine C_packet_writer_count _ _ K Q w ?_
  unfold F_packet_writer_count
  obtain ⟨hw, hF, hk2⟩ := h.put
  refine ptrI (h.ptr ?_)
  rw [wU64 (x := (n : Int)) (by omega)]
  refine spec_nums_PutVar hw (by omega) fun w1 hw1 f1 => ?_
  rw [Int.toNat_natCast] at hw1 ⊢
  exact hk2 (putVarM s.1 n) w1 hw1 f1 hk
/-- one ID behind another one. -/
def idD (last id : Int) : Nat := ((id - last - 1) % 4294967296).toNat
theorem spec_packet_id (h : PW bw b s F w) {bl : Nat} {T : TypeId} {last id : Int} (B : Blk w bl T [.int .u32 last]) (hbl : ¬ F bl) {K : Res [] → W R}
    (hk : ∀ w', PW bw b (varM s (idD last id)) (Gw F w w') w' → Blk w' bl T [.int .u32 id] → Fr (fun k => F k ∨ k = bl) w w' → K () Q w') :
    callW Try.prog k_packet_writer_id [.pointer (some ⟨bw, 0, none⟩), .pointer (some ⟨bl, 0, none⟩), .int .u32 id] [] K Q w := by
  refine C_packet_writer_id _ _ _ K Q w ?_
  unfold F_packet_writer_id
  have fd : Fr None w w.drew := (Fr.refl _ _).drew
  have hd : PW bw b s F w.drew := h.fr0 fd
  have hlt := B.lt
  obtain ⟨hw, hF, hk2⟩ := hd.put
  refine ptrI (hd.ptr (ptrI (fld0 (B.fr fd fun h => h) (i := 0) (x := last) rfl ?_)))
  have e : IntKind.wrap .u64 (IntKind.wrap .u32 (IntKind.wrap .u32 (id - last) - 1)) = ((idD last id : Nat) : Int) := by
    have a : ∀ x : Int, IntKind.wrap .u32 x = x % 4294967296 := fun x => by rw [IntKind.wrap_u32]
    rw [a, a, wU64 (by omega)]
    unfold idD
    omega
  rw [e]
  have hv : idD last id < 4294967296 := by unfold idD; omega
  refine spec_nums_PutVar hw (v := (idD last id : Int)) (by omega) fun w1 hw1 f1 => ?_
  rw [Int.toNat_natCast] at hw1 ⊢
  refine hk2 (putVarM s.1 (idD last id)) w1 hw1 f1 fun w2 hp f2 => ptrI ?_
  have B2 := (B.fr fd fun h => h).fr f2 hbl
  refine setI (i := 0) B2 (by simp) rfl fun w3 B3 f3 s3 => ?_
  refine hk w3 ?_ B3 ((fd.any.then (f2.sub fun k e => .inl e)).then (f3.sub fun k e => .inr e))
  have h3 := PW.fr hp f3 fun k e e2 => by
    subst e2
    rcases e with e | e
    · exact hbl e
    · have : k < w.drew.heap.size := hlt
      omega
  refine h3.mono (fun k _ e => e.imp (fun h => h) fun e => ?_) fun k e => ?_
  · have : w.drew.heap.size = w.heap.size := rfl
    omega
  · rcases e with e | e
    · have := h.2.1 k e; have := f2.size; have : w.drew.heap.size = w.heap.size := rfl; omega
    · exact e.2
def compsM (s : WS) (l : List Comp) : WS := l.foldl (fun s c => doM s (putC s.1 c)) s
theorem spec_packet_comps (h : PW bw b s F w) {ok : Nat → Prop} {r : Sl} {l : List Comp} (hS : SlT ok w compT r l) (hd : ∀ k, k < w.heap.size → ok k → ¬ F k) (hc : ∀ c ∈ l, CompOk c) (hm : l.length ≤ 9223372036854775807) {K : Res [] → W R} (hk : ∀ w', PW bw b (compsM s l) (Gw F w w') w' → Fr F w w' → K () Q w') :
    callW Try.prog k_packet_writer_comps [.pointer (some ⟨bw, 0, none⟩), .slice r.a r.n r.c] [] K Q w := by
  refine C_packet_writer_comps _ r K Q w ?_
  unfold F_packet_writer_comps
  have hlen := hS.len
  have hFb := h.2.1
  have hS0 : SlT (fun k => ok k ∧ k < w.heap.size) w compT r l := hS.mono fun k hk e => ⟨e, hk⟩
  refine forI (N := r.n) (fun s : Int => s) (fun j i w' => i = (j : Int) ∧ PW bw b (compsM s (l.take j)) (Gw F w w') w' ∧ Fr F w w') ⟨rfl, h.mono (fun k _ e => .inl e) fun k e => by
    rcases e with e | e
    · exact hFb k e
    · omega, Fr.refl _ _⟩ (fun j s w' h => h.1) ?_ ?_
  · rintro j i w1 K' hj ⟨rfl, h1, f1⟩ - hK
    have hs1 := f1.size
    refine (hS0.fr f1 fun k e e2 => hd k e.2 e.1 e2).get rfl rfl (by omega) fun c hcj => ?_
    refine newI fun w2 B2 f2 s2 => stoAll B2 rfl rfl fun w3 B3 f3 s3 => ?_
    have f13 : Fr None w1 w3 := f2.newer f3 fun k e => by omega
    have fd : Fr None w3 w3.drew := (Fr.refl _ _).drew
    have f1d := f13.then0 fd
    have hs3 := f1d.size
    have h3 := h1.fr0 f1d
    obtain ⟨hw, hF, hk2⟩ := h3.put
    refine ptrI (h3.ptr (aggI (B3.fr fd fun h => h) (x := c) rfl ?_))
    refine spec_comp_Put hw (hc c (List.mem_of_getElem? hcj)) hF fun w4 hw4 f4 => hk2 (putC (compsM s (l.take j)).1 c) w4 hw4 f4 fun w5 hp f5 => ?_
    have hs5 := f5.size
    have e : compsM s (l.take (j + 1)) = doM (compsM s (l.take j)) (putC (compsM s (l.take j)).1 c) := by unfold compsM; rw [take_at hcj, List.foldl_append]; rfl
    refine hK _ _ ⟨wsucc hj (by omega), ?_, ?_⟩
    · rw [e]
      exact PW.two (fun k e => e) hp hs1 hs3 hs5 hFb
    · exact (f1.then0 f1d).exS f5 fun k e => e.imp id fun e => e.1
  · rintro i w1 ⟨rfl, h1, f1⟩
    rw [List.take_of_length_le (by omega)] at h1
    exact hk w1 h1 f1
end

end Go.Proofs.Ytcahnbflfehonaa

namespace Go.Proofs.Ytcahnbflfehonaa
open Go Go.RowKit Go.Proofs.Ytcahnbflfehonaa.Den
variable {R : Type} {Q : R → World → Prop} {w : World}
variable {bw b : Nat} {s : WS} {F : Nat → Prop}

/-- Kind, Client, Epoch, Tick, Base. -/
abbrev Head := Int × Int × Int × Int × Int
def HeadOk (h : Head) : Prop := (0 ≤ h.1 ∧ h.1 ≤ 255) ∧ (0 ≤ h.2.1 ∧ h.2.1 ≤ 255) ∧ (0 ≤ h.2.2.1 ∧ h.2.2.1 ≤ 4294967295) ∧ (0 ≤ h.2.2.2.1 ∧ h.2.2.2.1 ≤ 4294967295) ∧ (0 ≤ h.2.2.2.2 ∧ h.2.2.2.2 ≤ 4294967295)
def inM (s : WS) (n lo hi : Int) : WS := doM s (putInM s.1 n lo hi)
def headM (s : WS) (h : Head) : WS :=
  let s3 := varM (inM (inM s h.1 1 5) h.2.1 0 15) h.2.2.1.toNat
  let s4 := if h.1 ≤ 3 then plainM s3 h.2.2.2.1 32 else s3
  if h.1 = 2 then varM s4 (idD h.2.2.2.2 h.2.2.2.1) else s4
theorem PW.self (h : PW bw b s F w) : PW bw b s (Gw F w w) w := h.mono (fun k _ e => .inl e) fun k e => by
  rcases e with e | e
  · exact h.2.1 k e
  · omega
/-- a number of a range, by a pointer to the bits' writer. -/
theorem pw_in {w0 : World} (h : PW bw b s (Gw F w0 w) w) (h0 : w0.heap.size ≤ w.heap.size) (hF : ∀ k, F k → k < w0.heap.size) (f0 : Fr F w0 w) {n lo hi : Int} (h1 : -9223372036854775808 ≤ lo ∧ lo ≤ 9223372036854775807) (h2 : -9223372036854775808 ≤ hi ∧ hi ≤ 9223372036854775807) {K : Unit → W R}
    (hk : ∀ w', PW bw b (inM s n lo hi) (Gw F w0 w') w' → Fr F w0 w' → Fr (Gw F w0 w) w w' → K () Q w') :
    callW Try.prog k_nums_PutIn [.pointer (some ⟨b, 0, none⟩), .int .i64 n, .int .i64 lo, .int .i64 hi] [.sc (.int .i64)] (fun x => callW Try.prog k_packet_writer_keep [.pointer (some ⟨bw, 0, none⟩), .int .i64 x] [] K) Q w := by
  obtain ⟨hw, _, hk2⟩ := h.put
  refine spec_nums_PutIn hw h1 h2 fun w1 hw1 f1 => hk2 (putInM s.1 n lo hi) w1 hw1 f1 fun w2 hp f2 => ?_
  have hs := f2.size
  exact hk w2 (PW.two (fun k e => e) hp h0 (Nat.le_refl _) hs hF) (f0.exS f2 fun k e => e.imp (fun h => h) fun e => e.1) f2
/-- .. one from 0 on. -/
theorem pw_var {w0 : World} (h : PW bw b s (Gw F w0 w) w) (h0 : w0.heap.size ≤ w.heap.size) (hF : ∀ k, F k → k < w0.heap.size) (f0 : Fr F w0 w) {v : Nat} (hv : v < 18446744073709551616) {K : Unit → W R}
    (hk : ∀ w', PW bw b (varM s v) (Gw F w0 w') w' → Fr F w0 w' → Fr (Gw F w0 w) w w' → K () Q w') :
    callW Try.prog k_nums_PutVar [.pointer (some ⟨b, 0, none⟩), .int .u64 (v : Int)] [.sc (.int .i64)] (fun x => callW Try.prog k_packet_writer_keep [.pointer (some ⟨bw, 0, none⟩), .int .i64 x] [] K) Q w := by
  obtain ⟨hw, _, hk2⟩ := h.put
  refine spec_nums_PutVar hw (v := (v : Int)) (by omega) fun w1 hw1 f1 => ?_
  rw [Int.toNat_natCast] at hw1 ⊢
  refine hk2 (putVarM s.1 v) w1 hw1 f1 fun w2 hp f2 => ?_
  have hs := f2.size
  exact hk w2 (PW.two (fun k e => e) hp h0 (Nat.le_refl _) hs hF) (f0.exS f2 fun k e => e.imp (fun h => h) fun e => e.1) f2
theorem pw_plain {w0 : World} (h : PW bw b s (Gw F w0 w) w) (h0 : w0.heap.size ≤ w.heap.size) (hF : ∀ k, F k → k < w0.heap.size) (f0 : Fr F w0 w) {v n : Int} (hv : 0 ≤ v ∧ v ≤ 18446744073709551615) (hn : -9223372036854775808 ≤ n ∧ n ≤ 9223372036854775807) {K : Res [] → W R}
    (hk : ∀ w', PW bw b (plainM s v n) (Gw F w0 w') w' → Fr F w0 w' → Fr (Gw F w0 w) w w' → K () Q w') :
    callW Try.prog k_packet_writer_plain [.pointer (some ⟨bw, 0, none⟩), .int .u64 v, .int .i64 n] [] K Q w :=
  spec_packet_plain h hv hn fun w2 hp f2 => by
    have hs := f2.size
    exact hk w2 (PW.two (fun k e => e) hp h0 (Nat.le_refl _) hs hF) (f0.exS f2 fun k e => e.imp (fun h => h) fun e => e.1) f2
theorem PW.draw {w0 : World} (h : PW bw b s (Gw F w0 w) w) : PW bw b s (Gw F w0 w.drew) w.drew := h.fr0 ((Fr.refl _ _).drew)
theorem spec_packet_head (h : PW bw b s F w) {hd : Head} (hok : HeadOk hd) {K : Res [] → W R} (hk : ∀ w', PW bw b (headM s hd) (Gw F w w') w' → Fr F w w' → K () Q w') :
    callW Try.prog k_packet_writer_head [.pointer (some ⟨bw, 0, none⟩), .agg ⟨[.int .u8 hd.1, .int .u8 hd.2.1, .int .u32 hd.2.2.1, .int .u32 hd.2.2.2.1, .int .u32 hd.2.2.2.2]⟩] [] K Q w := by
  refine C_packet_writer_head _ hd K Q w ?_
  unfold F_packet_writer_head
  obtain ⟨⟨k0, k1⟩, ⟨c0, c1⟩, ⟨e0, e1⟩, ⟨t0, t1⟩, ⟨b0, b1⟩⟩ := hok
  have hF := h.2.1
  refine newI fun w1 B1 f1 s1 => ?_
  have hs1 := f1.size
  have hF1 : ∀ k, F k → k < w1.heap.size := fun k e => by have := hF k e; omega
  have nb : ∀ v : World, ¬ Gw F w1 v w.heap.size := fun v e => by
    rcases e with e | e
    · have := hF _ e; omega
    · omega
  have dr : ∀ v : World, Fr None v v.drew := fun v => (Fr.refl _ _).drew
  have fin : ∀ {s' : WS} {v : World}, PW bw b s' (Gw F w1 v) v → PW bw b s' (Gw F w v) v := fun hp => hp.mono (fun k _ e => e.imp (fun h => h) fun e => by omega) fun k e => by
    rcases e with e | e
    · exact hp.2.1 k (.inl e)
    · exact e.2
  have q1 := ((h.fr0 f1).self).draw
  have B1 := B1.fr (dr w1) fun h => h
  refine ptrI (q1.ptr (fldI B1 (i := 0) (x := hd.1) rfl ?_))
  rw [w64 (x := hd.1) (by omega)]
  refine pw_in q1 (Nat.le_refl _) hF1 ((Fr.refl _ _).drew) (by decide) (by decide) fun w2 p2 f2 g2 => ?_
  have B2 := (B1.fr g2 (nb _)).fr (dr w2) fun h => h
  have q2 := p2.draw
  refine ptrI (q2.ptr (fldI B2 (i := 1) (x := hd.2.1) rfl ?_))
  rw [w64 (x := hd.2.1) (by omega)]
  refine pw_in q2 f2.size hF1 (f2.then0 (dr w2)) (by decide) (by decide) fun w3 p3 f3 g3 => ?_
  have B3 := (B2.fr g3 (nb _)).fr (dr w3) fun h => h
  have q3 := p3.draw
  refine ptrI (q3.ptr (fldI B3 (i := 2) (x := hd.2.2.1) rfl ?_))
  have ee : IntKind.wrap .u64 hd.2.2.1 = ((hd.2.2.1.toNat : Nat) : Int) := by rw [wU64 (by omega)]; omega
  rw [ee]
  refine pw_var q3 f3.size hF1 (f3.then0 (dr w3)) (by omega) fun w4 p4 f4 g4 => ?_
  have B4 := B3.fr g4 (nb _)
  refine fldI B4 (i := 0) (x := hd.1) rfl ?_
  refine joinI (fun (_ : Unit) w' => PW bw b (if hd.1 ≤ 3 then plainM (varM (inM (inM s hd.1 1 5) hd.2.1 0 15) hd.2.2.1.toNat) hd.2.2.2.1 32 else varM (inM (inM s hd.1 1 5) hd.2.1 0 15) hd.2.2.1.toNat) (Gw F w1 w') w' ∧ Fr F w1 w' ∧ Blk w' w.heap.size 28 [.int .u8 hd.1, .int .u8 hd.2.1, .int .u32 hd.2.2.1, .int .u32 hd.2.2.2.1, .int .u32 hd.2.2.2.2]) ?_ ?_
  · refine condD (fun h3 => ?_) fun h3 => ?_
    · rw [if_pos h3]
      refine fldI B4 (i := 3) (x := hd.2.2.2.1) rfl ?_
      rw [wU64 (x := hd.2.2.2.1) (by omega)]
      exact pw_plain p4 f4.size hF1 f4 (by omega) (by decide) fun w5 p5 f5 g5 => ⟨p5, f5, B4.fr g5 (nb _)⟩
    · rw [if_neg h3]
      exact ⟨p4, f4, B4⟩
  · rintro _ w5 ⟨p5, f5, B5⟩
    refine fldI B5 (i := 0) (x := hd.1) rfl ?_
    refine joinI (fun (_ : Unit) w' => PW bw b (headM s hd) (Gw F w1 w') w' ∧ Fr F w1 w') ?_ fun _ w6 ⟨p6, f6⟩ => hk w6 (fin p6) (f1.any.exS f6 fun k e => .inl e)
    unfold headM
    dsimp only
    refine condE (fun h2 => ?_) fun h2 => ?_
    · rw [if_pos h2]
      have q5 := p5.draw
      have B5 := B5.fr (dr w5) fun h => h
      refine ptrI (q5.ptr (fldI B5 (i := 3) (x := hd.2.2.2.1) rfl (fldI B5 (i := 4) (x := hd.2.2.2.2) rfl ?_)))
      have e : IntKind.wrap .u64 (IntKind.wrap .u32 (IntKind.wrap .u32 (hd.2.2.2.1 - hd.2.2.2.2) - 1)) = ((idD hd.2.2.2.2 hd.2.2.2.1 : Nat) : Int) := by
        have a : ∀ x : Int, IntKind.wrap .u32 x = x % 4294967296 := fun x => by rw [IntKind.wrap_u32]
        rw [a, a, wU64 (by omega)]
        unfold idD
        omega
      rw [e]
      exact pw_var q5 f5.size hF1 (f5.then0 (dr w5)) (by unfold idD; omega) fun w6 p6 f6 _ => ⟨p6, f6⟩
    · rw [if_neg h2]
      exact ⟨p5, f5⟩

end Go.Proofs.Ytcahnbflfehonaa

namespace Go.Proofs.Ytcahnbflfehonaa
open Go Go.RowKit Go.Proofs.Ytcahnbflfehonaa.Den
variable {R : Type} {Q : R → World → Prop} {w : World}
variable {bw b : Nat} {s : WS} {F : Nat → Prop}

def entM (p : WS × Int) (e : Ent) : WS × Int := (compsM (plainM (varM p.1 (idD p.2 e.1)) (maskN e.2) 5) e.2, e.1)
def entsW (s : WS) (l : List Ent) : WS := (l.foldl entM (varM s l.length, 0)).1
def EntFit (e : Ent) : Prop := (0 ≤ e.1 ∧ e.1 ≤ 4294967295) ∧ e.2.length ≤ 1048576 ∧ ∀ c ∈ e.2, CompOk c
theorem spec_packet_ents (h : PW bw b s F w) {ok : Nat → Prop} {r : Sl} {raws : List (Int × Sl)} {L : List Ent} (hS : SlT ok w entT r raws) (hE : EntsR ok w raws L) (hd : ∀ k, k < w.heap.size → ok k → ¬ F k) (hL : ∀ e ∈ L, EntFit e) (hm : L.length ≤ 1048576) {K : Res [] → W R} (hk : ∀ w', PW bw b (entsW s L) (Gw F w w') w' → Fr F w w' → K () Q w') :
    callW Try.prog k_packet_writer_ents [.pointer (some ⟨bw, 0, none⟩), .slice r.a r.n r.c] [] K Q w := by
  refine C_packet_writer_ents _ r K Q w ?_
  unfold F_packet_writer_ents
  have hF := h.2.1
  have hrn : r.n = L.length := hS.len.trans hE.len
  have hS0 : SlT (fun k => ok k ∧ k < w.heap.size) w entT r raws := hS.mono fun k hk e => ⟨e, hk⟩
  have hE0 : EntsR (fun k => ok k ∧ k < w.heap.size) w raws L := hE.mono fun k hk e => ⟨e, hk⟩
  refine spec_packet_count h (by omega) fun w1 p1 f1 => ?_
  rw [hrn] at p1
  have hs1 := f1.size
  refine newI fun w2 B2 f2 s2 => stoAll B2 rfl rfl fun w3 B3 f3 s3 => ?_
  have f13 : Fr None w1 w3 := f2.newer f3 fun k e => by omega
  have hs3 := f13.size
  have p3 : PW bw b (varM s L.length) (Gw F w w1) w3 := p1.fr0 f13
  -- the chain's own base: what is new behind w3
  have two : ∀ {v : World} {s' : WS}, w3.heap.size ≤ v.heap.size → PW bw b s' (Gw (Gw F w w1) w3 v) v → PW bw b s' (Gw F w v) v := fun hv hp => hp.mono (fun k _ e => by
    rcases e with (e | e) | e
    · exact .inl e
    · exact .inr (by omega)
    · exact .inr (by omega)) fun k e => by
    rcases e with e | e
    · have := hF k e; omega
    · exact e.2
  have nbl : ∀ v : World, ¬ Gw (Gw F w w1) w3 v w1.heap.size := fun v e => by
    rcases e with (e | e) | e
    · have := hF _ e; omega
    · omega
    · omega
  have b1 : ∀ k, Gw F w w1 k → k < w3.heap.size := fun k e => by
    rcases e with e | e
    · have := hF k e; omega
    · omega
  refine forI (N := r.n) (fun s : Int => s) (fun j i v => i = (j : Int) ∧ PW bw b ((L.take j).foldl entM (varM s L.length, 0)).1 (Gw (Gw F w w1) w3 v) v ∧ Blk v w1.heap.size 40 [.int .u32 ((L.take j).foldl entM (varM s L.length, 0)).2] ∧ Fr (fun k => F k ∨ w.heap.size ≤ k) w v ∧ w3.heap.size ≤ v.heap.size)
    ⟨rfl, p3.self, B3, (f1.sub fun k e => .inl e).then0 f13, Nat.le_refl _⟩ (fun j s w' h => h.1) ?_ ?_
  · rintro j i v K' hj ⟨rfl, hp, Bl, fv, hsv⟩ - hK
    obtain ⟨e, he⟩ : ∃ e, L[j]? = some e := ⟨_, List.getElem?_eq_getElem (by omega)⟩
    have hfit := hL e (List.mem_of_getElem? he)
    obtain ⟨r1, hr1, ha1, ha2⟩ := hE0.get he
    have hno : ∀ k, ok k ∧ k < w.heap.size → ¬ (F k ∨ w.heap.size ≤ k) := fun k e e2 => by
      rcases e2 with e2 | e2
      · exact hd k e.2 e.1 e2
      · omega
    have efold : (L.take (j + 1)).foldl entM (varM s L.length, 0) = entM ((L.take j).foldl entM (varM s L.length, 0)) e := by rw [take_at he, List.foldl_append]; rfl
    generalize (L.take j).foldl entM (varM s L.length, 0) = p at hp Bl efold
    refine (hS0.fr fv hno).get (j := j) rfl rfl (by have := hE.len; omega) fun y hy => ?_
    rw [hr1] at hy
    cases hy
    refine newI fun v1 C1 g1 t1 => stoAll C1 rfl rfl fun v2 C2 g2 t2 => ?_
    have gv2 : Fr None v v2 := g1.newer g2 fun k e => by omega
    have hsv2 := gv2.size
    obtain ⟨F', hF'⟩ : ∃ F', F' = Gw (Gw F w w1) w3 v := ⟨_, rfl⟩
    have hp2 : PW bw b p.1 F' v2 := by rw [hF']; exact hp.fr0 gv2
    have bF' : ∀ k, F' k → k < v.heap.size := fun k e => by rw [hF'] at e; exact hp.2.1 k e
    have nb' : ¬ F' w1.heap.size := by rw [hF']; exact nbl v
    have exF : ∀ k, F' k → F k ∨ w.heap.size ≤ k := fun k e => by
      rw [hF'] at e
      rcases e with (e | e) | e
      · exact .inl e
      · exact .inr e.1
      · exact .inr (by omega)
    have fv2 : Fr (fun k => F k ∨ w.heap.size ≤ k) w v2 := fv.then0 gv2
    refine fldI C2 (i := 0) (x := r1.1) rfl ?_
    rw [ha1]
    refine spec_packet_id hp2 (Bl.fr gv2 fun h => h) nb' fun v3 p4 Bl3 f4 => ?_
    have hs4 := f4.size
    have C3 := C2.fr f4 fun e => by
      rcases e with e | e
      · have := bF' _ e; omega
      · have := Bl.lt; omega
    have fv3 : Fr (fun k => F k ∨ w.heap.size ≤ k) w v3 := fv2.then (f4.sub fun k e => by
      rcases e with e | e
      · exact exF k e
      · exact .inr (by omega))
    refine fldI C3 (i := 1) (x := r1.2) rfl ?_
    refine spec_schema_Mask (ha2.fr fv3 hno) hfit.2.1 hfit.2.2 fun v4 f5 => ?_
    have hs5 := f5.size
    have fv4 := fv3.then0 f5
    have hmk := maskN_lt e.2
    rw [wU64 (x := ((maskN e.2 : Nat) : Int)) (by omega)]
    refine spec_packet_plain (p4.fr0 f5) (v := ((maskN e.2 : Nat) : Int)) (n := 5) (by omega) (by decide) fun v5 p6 f6 => ?_
    have hs6 := f6.size
    have p6 : PW bw b (plainM (varM p.1 (idD p.2 e.1)) (maskN e.2) 5) (Gw F' v2 v5) v5 := PW.two (fun k e => e) p6 hs4 hs5 hs6 fun k e => by have := bF' k e; omega
    have C5 := (C3.fr f5 fun h => h).fr f6 fun e => by
      rcases e with e | e
      · have := bF' _ e; omega
      · omega
    have Bl5 := (Bl3.fr f5 fun h => h).fr f6 fun e => by
      rcases e with e | e
      · exact nb' e
      · have := Bl.lt; omega
    have ex2 : ∀ {x y : World} k, w.heap.size ≤ x.heap.size → Gw F' x y k → F k ∨ w.heap.size ≤ k := fun k hx e => by
      rcases e with e | e
      · exact exF k e
      · exact .inr (by omega)
    have fv5 : Fr (fun k => F k ∨ w.heap.size ≤ k) w v5 := fv4.then (f6.sub fun k e => ex2 k (by omega) e)
    refine fldI C5 (i := 1) (x := r1.2) rfl ?_
    refine spec_packet_comps p6 (ha2.fr fv5 hno) (fun k hk e e2 => hno k e (ex2 k (by omega) e2)) hfit.2.2 (by have := hfit.2.1; omega) fun v6 p7 f7 => ?_
    have hs7 := f7.size
    have p7 : PW bw b (entM p e).1 (Gw F' v2 v6) v6 := PW.two (fun k e => e) p7 (by omega) (Nat.le_refl _) hs7 fun k e => by have := bF' k e; omega
    have Bl6 := Bl5.fr f7 fun e => by
      rcases e with e | e
      · exact nb' e
      · have := Bl.lt; omega
    refine hK _ _ ⟨wsucc hj (by omega), ?_, ?_, fv5.then (f7.sub fun k e => ex2 k (by omega) e), by omega⟩
    · rw [efold]
      refine p7.mono (fun k _ e => ?_) fun k e => ?_
      · rcases e with e | e
        · rw [hF'] at e
          exact e.imp (fun h => h) fun e => by omega
        · exact .inr (by omega)
      · rcases e with e | e
        · have := b1 k e; omega
        · exact e.2
    · rw [efold]
      exact Bl6
  · rintro i v ⟨_, hp, _, fv, hsv⟩
    rw [List.take_of_length_le (by omega)] at hp
    refine hk v (two hsv hp) ?_
    exact (Fr.refl F w).exS fv fun k e => e

end Go.Proofs.Ytcahnbflfehonaa
