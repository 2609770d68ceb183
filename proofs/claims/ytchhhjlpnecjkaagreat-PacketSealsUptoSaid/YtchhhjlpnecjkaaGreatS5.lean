/-
  What the proof of packetSeals_holds leans on, laid together by a program of this session (wip/pack.py) out of its own texts; the last of these texts holds packetSeals_holds.
-/
import Derived.Test.YtchhhjlpnecjkaaGreatS4
set_option linter.unusedVariables false
namespace Go.Proofs.YtchhhjlpnecjkaaGreat
open Go Go.RowKit Go.Proofs.YtchhhjlpnecjkaaGreat.Den
variable {R : Type} {Q : R → World → Prop} {w : World}
def RD (b : Nat) (L : List Bool) : OB := fun F w => F b ∧ ∃ (s : Sl) (body : List Int) (n : Nat), Blk w b 173 [.slice s.a s.n s.c, .int .i64 (n : Int)] ∧ SlT (fun k => F k ∧ k ≠ b) w u8T s body ∧ BytesOk body ∧ body.length ≤ 1048576 ∧ n ≤ 8 * body.length ∧ L = (bitsU body).drop n
theorem RD.st {b : Nat} {L : List Bool} : St (RD b L) := fun {F F' S w w'} h f hs => by
  obtain ⟨hb, s, body, n, B, hS, h1, h2, h3, h4⟩ := h
  have hb' := hs b B.lt hb
  exact ⟨hb'.2, s, body, n, B.fr f hb'.1, SlT.st hS f fun k hk e => ⟨(hs k hk e.1).1, (hs k hk e.1).2, e.2⟩, h1, h2, h3, h4⟩
theorem get_bit8 : ∀ x : Fin 256, ∀ r : Fin 8, IntKind.wrap .u64 (bAnd .u8 (shR .u8 ((x.val : Nat) : Int) ((r.val : Nat) : Int)) 1) = ((bitN (x.val.testBit r.val) : Nat) : Int) := by decide +kernel
theorem or_bit64 {v i : Nat} (hi : i < 64) (hv : v < 2 ^ i) (b : Bool) : bOr .u64 (v : Int) (shL .u64 ((bitN b : Nat) : Int) (i : Int)) = ((v + bitN b * 2 ^ i : Nat) : Int) := by
  have hb := bitN_lt b
  have h2 : 2 ^ i * 2 ≤ 2 ^ 64 := by rw [← Nat.pow_succ]; exact Nat.pow_le_pow_right (by decide) hi
  have hm : bitN b * 2 ^ i ≤ 2 ^ i := by rcases (show bitN b = 0 ∨ bitN b = 1 by omega) with e | e <;> rw [e] <;> omega
  have e1 : shL .u64 ((bitN b : Nat) : Int) (i : Int) = ((bitN b * 2 ^ i : Nat) : Int) := by
    unfold shL
    have hmin : min (i : Int).toNat (IntKind.bits .u64) = i := by
      show min (i : Int).toNat 64 = i
      omega
    have hM : (2 : Int) ^ i = ((2 ^ i : Nat) : Int) := by rw [Int.natCast_pow]; rfl
    rw [hmin, hM, ← Int.natCast_mul, wU64 (by omega)]
  rw [e1]
  unfold bOr
  have o1 : ∀ m : Nat, m < 18446744073709551616 → (BitVec.ofInt 64 (m : Int)).toNat = m := fun m hm => by
    rw [BitVec.toNat_ofInt]
    omega
  have hor : v ||| bitN b * 2 ^ i = v + bitN b * 2 ^ i := by
    have := Nat.two_pow_add_eq_or_of_lt (a := bitN b) hv
    rw [Nat.or_comm, Nat.mul_comm, ← this, Nat.add_comm]
  show IntKind.wrap .u64 (((BitVec.ofInt 64 (v : Int) ||| BitVec.ofInt 64 ((bitN b * 2 ^ i : Nat) : Int)).toNat : Nat) : Int) = _
  rw [BitVec.toNat_or, o1 v (by omega), o1 _ (by omega), hor, wU64 (by omega)]
theorem valB_snoc : ∀ (l : List Bool) (b : Bool), valB (l ++ [b]) = valB l + bitN b * 2 ^ l.length
  | [], b => by simp [valB]
  | a :: r, b => by
    rw [List.cons_append, valB, valB_snoc r b, valB, List.length_cons, Nat.pow_succ, Nat.mul_add]
    have : 2 * (bitN b * 2 ^ r.length) = bitN b * (2 ^ r.length * 2) := by rw [Nat.mul_comm (2 ^ r.length) 2, ← Nat.mul_assoc, Nat.mul_comm 2, Nat.mul_assoc]
    omega
theorem valB_lt' (l : List Bool) : valB l < 2 ^ l.length := by
  induction l with
  | nil => simp [valB]
  | cons b r ih =>
    have := bitN_lt b
    rw [valB, List.length_cons, Nat.pow_succ]
    omega
theorem spec_bits_Read {ok : Nat → Prop} {s : Sl} {l : List Int} (hS : SlT ok w u8T s l) (hb : BytesOk l) (hm : l.length ≤ 1048576) {K : Res [.sc .ptr] → W R} (hk : ∀ b w', RD b (bitsU l) (Up w.heap.size) w' → Fr None w w' → K (some ⟨b, 0, none⟩) Q w') :
    callW Tryz.prog k_bits_Read [.slice s.a s.n s.c] [.sc .ptr] K Q w := by
  refine C_bits_Read s K Q w ?_
  unfold F_bits_Read
  refine spec_bytes_Clone hS (by omega) fun r w1 o1 f1 => newI fun w2 B2 f2 z2 => ?_
  have z1 := f1.size
  refine hk _ w2 ⟨z1, r, l, 0, B2, ?_, hb, hm, by omega, rfl⟩ (f1.then0 f2)
  exact SlT.st o1.sl f2 fun k hk e => ⟨fun h => h, e, by omega⟩
theorem spec_Rd_Left {b : Nat} {L : List Bool} {F : Nat → Prop} (h : RD b L F w) {K : Res [.sc (.int .i64)] → W R} (hk : ∀ w', Fr None w w' → K (L.length : Int) Q w') : callW Tryz.prog k_bits_Reader_Left [.pointer (some ⟨b, 0, none⟩)] [.sc (.int .i64)] K Q w := by
  refine C_bits_Reader_Left _ K Q w ?_
  unfold F_bits_Reader_Left
  obtain ⟨hb, s, body, n, B, hS, h1, h2, h3, rfl⟩ := h
  have fd : Fr None w w.drew := (Fr.refl _ _).drew
  have Bd := B.fr fd fun h => h
  have hl := hS.len
  refine condF rfl (ptrI (fldI Bd (i := 0) (x := s) rfl (ptrI (fldI Bd (i := 1) (x := (n : Int)) rfl ?_))))
  have := hk w.drew fd
  rw [List.length_drop, bitsU_len] at this
  rw [w64 (x := 8 * (s.n : Int)) (by omega), w64 (by omega), show 8 * (s.n : Int) - (n : Int) = ((8 * body.length - n : Nat) : Int) by omega]
  exact this
theorem spec_Rd_Get {b : Nat} {L : List Bool} {F : Nat → Prop} (h : RD b L F w) {n : Nat} (hn : n ≤ 64) {K : Res [.sc (.int .u64), .sc (.int .i64)] → W R} (h0 : L.length < n → ∀ w', RD b L F w' → Fr None w w' → K (0, 2) Q w') (hk : n ≤ L.length → ∀ w', RD b (L.drop n) F w' → Fr (fun k => k = b) w w' → K ((valB (L.take n) : Nat), 0) Q w') :
    callW Tryz.prog k_bits_Reader_Get [.pointer (some ⟨b, 0, none⟩), .int .i64 (n : Int)] [.sc (.int .u64), .sc (.int .i64)] K Q w := by
  refine C_bits_Reader_Get _ _ K Q w ?_
  unfold F_bits_Reader_Get
  refine condF rfl (joinI (fun z v => z = false ∧ v = w) (condF (decide_eq_false (by omega)) ⟨decide_eq_false (by omega), rfl⟩) ?_)
  rintro z v ⟨rfl, rfl⟩
  refine condF rfl (spec_Rd_Left h fun w1 f1 => condD (fun hlt => h0 (by omega) w1 (RD.st.fr0 h f1) f1) fun hge => ?_)
  have hge : n ≤ L.length := by omega
  have hbl : ∀ {F : Nat → Prop} {u : World}, RD b L F u → F b := fun h => h.1
  refine forI (N := n) (fun s : Int × Int => s.2) (fun j st u => st.2 = (j : Int) ∧ st.1 = ((valB (L.take j) : Nat) : Int) ∧ RD b (L.drop j) F u ∧ Fr (fun k => k = b) v u) ⟨rfl, by simp [valB], RD.st.fr0 h f1, f1.any⟩ (fun j s w' h => h.1) ?_ ?_
  · rintro j ⟨x, _⟩ u K' hj ⟨rfl, rfl, hr, fu⟩ - hK
    obtain ⟨hb, s, body, m, B, hS, b1, b2, b3, b4⟩ := hr
    have fd : Fr None u u.drew := (Fr.refl _ _).drew
    have Bd := B.fr fd fun h => h
    have hSd := hS.fr0 fd
    have hll : (L.drop j).length = 8 * body.length - m := by rw [b4, List.length_drop, bitsU_len]
    rw [List.length_drop] at hll
    have hmlt : m < 8 * body.length := by omega
    have hq : m / 8 < body.length := by omega
    have hx := List.getElem?_eq_getElem hq
    have hxb := b1 _ (List.getElem_mem hq)
    refine ptrI (fldI Bd (i := 0) (x := s) rfl (ptrI (fldI Bd (i := 1) (x := (m : Int)) rfl ?_)))
    have ed : IntKind.wrap .i64 (Int.tdiv (m : Int) 8) = ((m / 8 : Nat) : Int) := by
      rw [Int.tdiv_eq_ediv_of_nonneg (by omega), w64 (by omega)]
      omega
    have em : Int.tmod (m : Int) 8 = ((m % 8 : Nat) : Int) := by
      rw [Int.tmod_eq_emod_of_nonneg (by omega)]
      omega
    rw [ed]
    refine hSd.get rfl rfl hq fun y hy => ?_
    rw [hx] at hy
    cases hy
    refine ptrI (fldI Bd (i := 1) (x := (m : Int)) rfl ?_)
    rw [em]
    refine chkI (by omega) (chkI (by omega) (ptrI (fldI Bd (i := 1) (x := (m : Int)) rfl (ptrI ?_))))
    rw [add_lit]
    refine setI (i := 1) Bd (by simp) rfl fun u2 B2 f2 z2 => ?_
    obtain ⟨bit, hbit⟩ : ∃ bit, bit = (body[m / 8]).toNat.testBit (m % 8) := ⟨_, rfl⟩
    have hLj : L[j]? = some bit := by
      have e1 : (L.drop j)[0]? = some bit := by
        rw [b4, List.getElem?_drop, Nat.add_zero]
        have := bitAt_bitsU body (m / 8) (m % 8) _ hx (Nat.mod_lt _ (by decide))
        rw [show 8 * (m / 8) + m % 8 = m by omega, ← hbit] at this
        unfold bitAt at this
        have hml : m < (bitsU body).length := by rw [bitsU_len]; exact hmlt
        rw [List.getElem?_eq_getElem hml, Option.getD_some] at this
        rw [List.getElem?_eq_getElem hml, this]
      rw [List.getElem?_drop, Nat.add_zero] at e1
      exact e1
    have hv := valB_lt' (L.take j)
    have htl : (L.take j).length = j := by rw [List.length_take]; omega
    rw [htl] at hv
    refine hK _ _ ⟨wsucc hj (by omega), ?_, ⟨hb, s, body, m + 1, ?_, hSd.fr f2 fun k e => e.2, b1, b2, by omega, ?_⟩, (fu.then0 fd).then f2⟩
    · have hg := get_bit8 ⟨(body[m / 8]).toNat, by omega⟩ ⟨m % 8, Nat.mod_lt _ (by decide)⟩
      dsimp only at hg
      rw [show ((body[m / 8]).toNat : Int) = body[m / 8] by omega, ← hbit] at hg
      show bOr .u64 _ (shL .u64 (IntKind.wrap .u64 (bAnd .u8 (shR .u8 body[m / 8] ((m % 8 : Nat) : Int)) 1)) (j : Int)) = _
      rw [hg, or_bit64 (by omega) hv, take_at hLj, valB_snoc, htl]
    · have e : IntKind.wrap .i64 ((m : Int) + 1) = ((m + 1 : Nat) : Int) := by rw [w64 (by omega)]; omega
      rw [e] at B2
      exact B2
    · have : L.drop (j + 1) = (L.drop j).drop 1 := by rw [List.drop_drop]
      rw [this, b4, List.drop_drop]
  · rintro ⟨x, _⟩ u ⟨_, rfl, hr, fu⟩
    exact hk hge u hr fu
end Go.Proofs.YtchhhjlpnecjkaaGreat
namespace Go.Proofs.YtchhhjlpnecjkaaGreat
open Go Go.RowKit Go.Proofs.YtchhhjlpnecjkaaGreat.Den
variable {R : Type} {Q : R → World → Prop} {w : World}
theorem or_sh64 {v y s : Nat} (hs : s < 64) (hv : v < 2 ^ s) (hy : y * 2 ^ s + 2 ^ s ≤ 2 ^ 64) : bOr .u64 (v : Int) (shL .u64 (y : Int) (s : Int)) = ((v + y * 2 ^ s : Nat) : Int) := by
  have e1 : shL .u64 (y : Int) (s : Int) = ((y * 2 ^ s : Nat) : Int) := by
    unfold shL
    have hmin : min (s : Int).toNat (IntKind.bits .u64) = s := by
      show min (s : Int).toNat 64 = s
      omega
    have hM : (2 : Int) ^ s = ((2 ^ s : Nat) : Int) := by rw [Int.natCast_pow]; rfl
    rw [hmin, hM, ← Int.natCast_mul, wU64 (by omega)]
  rw [e1]
  unfold bOr
  have o1 : ∀ m : Nat, m < 18446744073709551616 → (BitVec.ofInt 64 (m : Int)).toNat = m := fun m hm => by
    rw [BitVec.toNat_ofInt]
    omega
  have hor : v ||| y * 2 ^ s = v + y * 2 ^ s := by
    have := Nat.two_pow_add_eq_or_of_lt (a := y) hv
    rw [Nat.or_comm, Nat.mul_comm, ← this, Nat.add_comm]
  show IntKind.wrap .u64 (((BitVec.ofInt 64 (v : Int) ||| BitVec.ofInt 64 ((y * 2 ^ s : Nat) : Int)).toNat : Nat) : Int) = _
  rw [BitVec.toNat_or, o1 v (by omega), o1 _ (by omega), hor, wU64 (by omega)]
theorem low4 : ∀ x : Fin 32, bAnd .u64 ((x.val : Nat) : Int) 15 = ((x.val % 16 : Nat) : Int) ∧ shR .u64 ((x.val : Nat) : Int) 4 = ((x.val / 16 : Nat) : Int) := by decide +kernel
theorem spec_Rd_number {b : Nat} {L : List Bool} {F : Nat → Prop} (h : RD b L F w) {K : Res [.sc (.int .u64), .sc (.int .i64)] → W R} (h0 : getVar L = none → ∀ x e L' w', e ≠ 0 → RD b L' F w' → Fr (fun k => k = b) w w' → K (x, e) Q w') (hk : ∀ v L', getVar L = some (v, L') → v < 18446744073709551616 → ∀ w', RD b L' F w' → Fr (fun k => k = b) w w' → K ((v : Int), 0) Q w') :
    callW Tryz.prog k_nums_number [.pointer (some ⟨b, 0, none⟩)] [.sc (.int .u64), .sc (.int .i64)] K Q w := by
  refine C_nums_number _ K Q w ?_
  unfold F_nums_number
  refine forI (N := 16) (fun s : Int × Int => s.2) (fun j st u => st.2 = (j : Int) ∧ (∃ (v : Nat) (L' : List Bool), st.1 = (v : Int) ∧ v < 2 ^ (4 * j) ∧ RD b L' F u ∧ getVar L = varD (16 - j) j v L') ∧ Fr (fun k => k = b) w u) ⟨rfl, ⟨0, L, rfl, by decide, h, rfl⟩, Fr.refl _ _⟩ (fun j s w' h => h.1) ?_ ?_
  · rintro j ⟨_, _⟩ u K' hj ⟨rfl, ⟨v, L', rfl, hv, hr, hg⟩, fu⟩ - hK
    obtain ⟨q, hq⟩ : ∃ q, 16 - j = q + 1 := ⟨15 - j, by omega⟩
    rw [hq, varD] at hg
    refine spec_Rd_Get hr (n := 5) (by decide) (fun hlt u2 hr2 f2 => ?_) fun hge u2 hr2 f2 => ?_
    · rw [getN, if_neg (by omega)] at hg
      exact condT rfl (h0 hg _ _ _ u2 (by decide) hr2 (fu.then f2.any))
    · rw [getN, if_pos hge] at hg
      dsimp only at hg
      have hx := valB_lt' (L'.take 5)
      rw [List.length_take, Nat.min_eq_left hge] at hx
      obtain ⟨x, hxe⟩ : ∃ x, x = valB (L'.take 5) := ⟨_, rfl⟩
      rw [← hxe] at hg hx ⊢
      obtain ⟨a1, a2⟩ := low4 ⟨x, hx⟩
      dsimp only at a1 a2
      have fu2 := fu.then f2
      have e4 : IntKind.wrap .i64 (4 * (j : Int)) = ((4 * j : Nat) : Int) := by rw [w64 (by omega)]; omega
      have hp2 : 2 ^ (4 * j) * 16 ≤ 2 ^ 64 := by
        rw [show (16 : Nat) = 2 ^ 4 from rfl, ← Nat.pow_add]
        exact Nat.pow_le_pow_right (by decide) (by omega)
      have hm : x % 16 * 2 ^ (4 * j) + 2 ^ (4 * j) ≤ 2 ^ (4 * j) * 16 := by
        have : x % 16 + 1 ≤ 16 := by omega
        calc x % 16 * 2 ^ (4 * j) + 2 ^ (4 * j) = (x % 16 + 1) * 2 ^ (4 * j) := by rw [Nat.add_mul, Nat.one_mul]
          _ ≤ 16 * 2 ^ (4 * j) := Nat.mul_le_mul_right _ this
          _ = 2 ^ (4 * j) * 16 := Nat.mul_comm _ _
      have eo : bOr .u64 (v : Int) (shL .u64 (bAnd .u64 (x : Int) 15) (IntKind.wrap .i64 (4 * (j : Int)))) = ((v + x % 16 * 2 ^ (4 * j) : Nat) : Int) := by
        rw [a1, e4]
        exact or_sh64 (by omega) hv (Nat.le_trans hm hp2)
      have hnv : v + x % 16 * 2 ^ (4 * j) < 2 ^ (4 * (j + 1)) := by
        rw [Nat.mul_add, Nat.pow_add]
        show _ < 2 ^ (4 * j) * 16
        omega
      have hn64 : v + x % 16 * 2 ^ (4 * j) < 18446744073709551616 := by omega
      obtain ⟨v2, hv2⟩ : ∃ v2, v2 = v + x % 16 * 2 ^ (4 * j) := ⟨_, rfl⟩
      rw [← hv2] at eo hnv hn64 hg
      refine condF rfl (chkI (by rw [e4]; omega) ?_)
      dsimp only
      rw [eo, a2]
      refine condE (fun hz => ?_) fun hz => ?_
      · rw [if_pos (by omega)] at hg
        refine spec_nums_groups (by omega) (by omega) ?_
        rw [Int.toNat_natCast]
        have ej : IntKind.wrap .i64 ((j : Int) + 1) = ((j + 1 : Nat) : Int) := wsucc (N := 16) hj (by decide)
        rw [ej]
        refine condN (fun hne => ?_) fun heq => ?_
        · rw [if_neg (by omega)] at hg
          exact h0 hg _ _ _ u2 (by decide) hr2 fu2
        · rw [if_pos (by omega)] at hg
          exact hk _ _ hg hn64 u2 hr2 fu2
      · rw [if_neg (by omega)] at hg
        refine hK _ _ ⟨wsucc hj (by decide), ⟨v2, _, rfl, hnv, hr2, ?_⟩, fu2⟩
        rw [hg, show 16 - (j + 1) = q by omega]
  · rintro ⟨_, _⟩ u ⟨_, ⟨v, L', rfl, hv, hr, hg⟩, fu⟩
    exact h0 hg _ _ _ u (by decide) hr fu
theorem RD.back {b : Nat} {L : List Bool} {F : Nat → Prop} (h : RD b L F w) : ∃ (s : Sl) (n : Int), Blk w b 173 [.slice s.a s.n s.c, .int .i64 n] ∧ ∀ w', Fr (fun k => k = b) w w' → Blk w' b 173 [.slice s.a s.n s.c, .int .i64 n] → RD b L F w' := by
  obtain ⟨hb, s, body, n, B, hS, h1, h2, h3, h4⟩ := h
  exact ⟨s, n, B, fun w' f B' => ⟨hb, s, body, n, B', hS.fr f fun k e => e.2, h1, h2, h3, h4⟩⟩
theorem RD.blk {b : Nat} {L : List Bool} {F : Nat → Prop} (h : RD b L F w) : ∃ cs, Blk w b 173 cs ∧ cs.length = 2 := by
  obtain ⟨hb, s, body, n, B, _⟩ := h
  exact ⟨_, B, rfl⟩
theorem spec_Rd_GetVar {b : Nat} {L : List Bool} {F : Nat → Prop} (h : RD b L F w) {K : Res [.sc (.int .u64), .sc (.int .i64)] → W R} (h0 : getVar L = none → ∀ e w', e ≠ 0 → RD b L F w' → Fr (fun k => k = b) w w' → K (0, e) Q w') (hk : ∀ v L', getVar L = some (v, L') → v < 18446744073709551616 → ∀ w', RD b L' F w' → Fr (fun k => k = b) w w' → K ((v : Int), 0) Q w') :
    callW Tryz.prog k_nums_GetVar [.pointer (some ⟨b, 0, none⟩)] [.sc (.int .u64), .sc (.int .i64)] K Q w := by
  refine C_nums_GetVar _ K Q w ?_
  unfold F_nums_GetVar
  refine C_nums_try_uint64__nums_number _ _ _ _ ?_
  unfold F_nums_try_uint64__nums_number
  obtain ⟨s, n, B, hback⟩ := h.back
  have hb := B.lt
  refine condF rfl (ptrI (aggI B (x := ((s, n) : Sl × Int)) rfl (newI fun w1 B1 f1 z1 => stoAll B1 rfl rfl fun w2 B2 f2 z2 => ?_)))
  have f02 : Fr None w w2 := f1.newer f2 fun k e => by omega
  refine spec_Rd_number (RD.st.fr0 h f02) (fun hg x e L' w3 he hr f3 => ?_) fun v L' hg hv w3 hr f3 => ?_
  · refine condT (by simpa using he) ?_
    obtain ⟨cs, B3, hl⟩ := hr.blk
    refine aggI (B2.fr f3 fun e => by omega) (x := ((s, n) : Sl × Int)) rfl (ptrI (stoAll B3 hl.symm rfl fun w4 B4 f4 z4 => ?_))
    have f04 := (f02.any.then f3).then f4
    exact h0 hg e w4 he (hback w4 f04 B4) f04
  · exact condF rfl (hk v L' hg hv w3 hr (f02.any.then f3))
theorem spec_Rd_GetIn {b : Nat} {L : List Bool} {F : Nat → Prop} (h : RD b L F w) {lo hi : Int} (h1 : -4611686018427387904 ≤ lo) (h2 : lo ≤ hi) (h3 : hi ≤ 4611686018427387904) {K : Res [.sc (.int .i64), .sc (.int .i64)] → W R} (h0 : getIn lo hi L = none → ∀ e w', e ≠ 0 → RD b L F w' → Fr (fun k => k = b) w w' → K (0, e) Q w') (hk : ∀ v L', getIn lo hi L = some (v, L') → lo ≤ v ∧ v ≤ hi → ∀ w', RD b L' F w' → Fr (fun k => k = b) w w' → K (v, 0) Q w') :
    callW Tryz.prog k_nums_GetIn [.pointer (some ⟨b, 0, none⟩), .int .i64 lo, .int .i64 hi] [.sc (.int .i64), .sc (.int .i64)] K Q w := by
  refine C_nums_GetIn _ _ _ K Q w ?_
  unfold F_nums_GetIn
  refine newI fun w1 B1 f1 z1 => newI fun w2 B2 f2 z2 => ?_
  have Blo := B1.fr f2 fun h => h
  have f02 := f1.then0 f2
  obtain ⟨s, n, B, hback⟩ := h.back
  have hb := B.lt
  refine joinI (fun z v => z = false ∧ v = w2) ?_ ?_
  · refine fld0 B2 (i := 0) (x := hi) rfl (fld0 Blo (i := 0) (x := lo) rfl (condF (decide_eq_false (by omega)) ⟨rfl, rfl⟩))
  rintro z v ⟨rfl, rfl⟩
  refine condF rfl ?_
  refine C_nums_try_int64__nums_GetIn_c1 _ _ _ _ _ _ ?_
  unfold F_nums_try_int64__nums_GetIn_c1
  refine condF rfl (ptrI (aggI (B.fr f02 fun h => h) (x := ((s, n) : Sl × Int)) rfl (newI fun w3 B3 f3 z3 => stoAll B3 rfl rfl fun w4 B4 f4 z4 => ?_)))
  have f24 : Fr None v w4 := f3.newer f4 fun k e => by omega
  have f04 := f02.then0 f24
  have Blo := Blo.fr f24 fun h => h
  have Bhi := B2.fr f24 fun h => h
  have hr4 := RD.st.fr0 h f04
  have hw : widthM lo hi ≤ 64 := width_le (by omega)
  refine C_nums_GetIn_c1 _ _ _ _ _ _ ?_
  unfold F_nums_GetIn_c1
  refine ptrI (fld0 Blo (i := 0) (x := lo) rfl (ptrI (fld0 Bhi (i := 0) (x := hi) rfl ?_)))
  refine spec_nums_Width (by omega) (by omega) ?_
  have bad : getIn lo hi L = none → ∀ x e L' w5, e ≠ 0 → RD b L' F w5 → Fr (fun k => k = b) w4 w5 →
      cond (e != 0)
        (ld (.agg [.sl, .int .i64]) ⟨v.heap.size, 0, none⟩ fun (x_5 : (Sl × Int)) => ptrW (some ⟨b, 0, none⟩) fun x_6 =>
        stoL x_6 [.slice x_5.1.a x_5.1.n x_5.1.c, .int .i64 x_5.2] 0 <|
        K (0, e))
        (K (x, 0)) Q w5 := by
    intro hg x e L' w5 he hr f5
    refine condT (by simpa using he) ?_
    obtain ⟨cs, B5, hl⟩ := hr.blk
    refine aggI (B4.fr f5 fun e => by omega) (x := ((s, n) : Sl × Int)) rfl (ptrI (stoAll B5 hl.symm rfl fun w6 B6 f6 z6 => ?_))
    have f06 := (f04.any.then f5).then f6
    exact h0 hg e w6 he (hback w6 f06 B6) f06
  refine spec_Rd_Get hr4 hw (fun hlt w5 hr5 f5 => ?_) fun hge w5 hr5 f5 => ?_
  · refine condT rfl ?_
    exact bad (by unfold getIn; rw [getN, if_neg (by omega)]) 0 2 L w5 (by decide) hr5 f5.any
  · refine condF rfl ?_
    have Blo5 := Blo.fr f5 fun e => by omega
    have Bhi5 := Bhi.fr f5 fun e => by omega
    have hg : getIn lo hi L = if ((valB (L.take (widthM lo hi)) : Nat) : Int) ≤ hi - lo then some (lo + ((valB (L.take (widthM lo hi)) : Nat) : Int), L.drop (widthM lo hi)) else none := by
      unfold getIn
      rw [getN, if_pos hge]
    have hx := valB_lt' (L.take (widthM lo hi))
    rw [List.length_take, Nat.min_eq_left hge] at hx
    have hx64 : 2 ^ widthM lo hi ≤ 2 ^ 64 := Nat.pow_le_pow_right (by decide) hw
    generalize valB (L.take (widthM lo hi)) = x at hx hg
    refine ptrI (fld0 Bhi5 (i := 0) (x := hi) rfl (ptrI (fld0 Blo5 (i := 0) (x := lo) rfl ?_)))
    have ed : IntKind.wrap .u64 (IntKind.wrap .u64 hi - IntKind.wrap .u64 lo) = hi - lo := by
      rw [IntKind.wrap_u64, IntKind.wrap_u64, IntKind.wrap_u64]
      omega
    rw [ed]
    refine condD (fun hgt => ?_) fun hle => ?_
    · have hgt : (x : Int) > hi - lo := hgt
      rw [if_neg (by omega)] at hg
      exact bad hg 0 5 _ w5 (by decide) hr5 f5
    · have hle : ¬ (x : Int) > hi - lo := hle
      rw [if_pos (by omega)] at hg
      refine ptrI (fld0 Blo5 (i := 0) (x := lo) rfl ?_)
      have es : IntKind.wrap .i64 (IntKind.wrap .u64 (IntKind.wrap .u64 lo + (x : Int))) = lo + (x : Int) := by
        have e1 : IntKind.wrap .u64 (IntKind.wrap .u64 lo + (x : Int)) = (lo + (x : Int)) % 18446744073709551616 := by
          rw [IntKind.wrap_u64, IntKind.wrap_u64]
          omega
        rw [e1, IntKind.wrap_i64]
        omega
      show K (IntKind.wrap .i64 (IntKind.wrap .u64 (IntKind.wrap .u64 lo + (x : Int))), 0) Q w5
      rw [es]
      exact hk _ _ hg (by omega) w5 hr5 (f04.any.then f5)
end Go.Proofs.YtchhhjlpnecjkaaGreat
namespace Go.Proofs.YtchhhjlpnecjkaaGreat
open Go Go.RowKit Go.Proofs.YtchhhjlpnecjkaaGreat.Den
variable {R : Type} {Q : R → World → Prop} {w : World}
abbrev giveUp : List PanicEntry := [{ v := .iface 171 (.agg ⟨[]⟩), recovered := false }]
section
variable [Pan R]
theorem spec_must_uint64 {v e : Int} {K : Res [.sc (.int .u64)] → W R} (h0 : e ≠ 0 → Pan.pan Q giveUp w) (hk : e = 0 → K v Q w) : callP Tryz.prog k_packet_must_uint64 [.int .u64 v, .int .i64 e] [.sc (.int .u64)] K Q w := by
  refine C_packet_must_uint64 v e K Q w ?_
  unfold F_packet_must_uint64
  refine joinI (fun _ w' => e = 0 ∧ w' = w) (condN (fun h => h0 h) fun h => ⟨h, rfl⟩) ?_
  rintro _ w' ⟨h, rfl⟩
  exact hk h
theorem spec_must_int64 {v e : Int} {K : Res [.sc (.int .i64)] → W R} (h0 : e ≠ 0 → Pan.pan Q giveUp w) (hk : e = 0 → K v Q w) : callP Tryz.prog k_packet_must_int64 [.int .i64 v, .int .i64 e] [.sc (.int .i64)] K Q w := by
  refine C_packet_must_int64 v e K Q w ?_
  unfold F_packet_must_int64
  refine joinI (fun _ w' => e = 0 ∧ w' = w) (condN (fun h => h0 h) fun h => ⟨h, rfl⟩) ?_
  rintro _ w' ⟨h, rfl⟩
  exact hk h
theorem spec_rd_plain {b : Nat} {L : List Bool} {F : Nat → Prop} (h : RD b L F w) {n : Nat} (hn : n ≤ 64) {K : Res [.sc (.int .u64)] → W R} (h0 : getN n L = none → ∀ w', Fr (fun k => k = b) w w' → Pan.pan Q giveUp w') (hk : ∀ v L', getN n L = some (v, L') → v < 2 ^ n → ∀ w', RD b L' F w' → Fr (fun k => k = b) w w' → K (v : Int) Q w') :
    callP Tryz.prog k_packet_reader_plain [.agg ⟨[.pointer (some ⟨b, 0, none⟩)]⟩, .int .i64 (n : Int)] [.sc (.int .u64)] K Q w := by
  refine C_packet_reader_plain _ _ K Q w ?_
  unfold F_packet_reader_plain
  refine newI fun w1 B1 f1 z1 => fldI B1 (i := 0) (x := some ⟨b, 0, none⟩) rfl ?_
  refine spec_Rd_Get (RD.st.fr0 h f1) hn (fun hlt w2 hr f2 => ?_) fun hge w2 hr f2 => ?_
  · exact spec_must_uint64 (fun _ => h0 (by rw [getN, if_neg (by omega)]) w2 (f1.then0 f2).any) fun h => absurd h (by decide)
  · refine spec_must_uint64 (fun h => absurd rfl h) fun _ => ?_
    have hx := valB_lt' (L.take n)
    rw [List.length_take, Nat.min_eq_left hge] at hx
    exact hk _ _ (by rw [getN, if_pos hge]) hx w2 hr (f1.any.then f2)
theorem spec_rd_count {b : Nat} {L : List Bool} {F : Nat → Prop} (h : RD b L F w) {K : Res [.sc (.int .u64)] → W R} (h0 : getVar L = none → ∀ w', Fr (fun k => k = b) w w' → Pan.pan Q giveUp w') (hk : ∀ v L', getVar L = some (v, L') → v < 18446744073709551616 → ∀ w', RD b L' F w' → Fr (fun k => k = b) w w' → K (v : Int) Q w') :
    callP Tryz.prog k_packet_reader_count [.agg ⟨[.pointer (some ⟨b, 0, none⟩)]⟩] [.sc (.int .u64)] K Q w := by
  refine C_packet_reader_count _ K Q w ?_
  unfold F_packet_reader_count
  refine newI fun w1 B1 f1 z1 => fldI B1 (i := 0) (x := some ⟨b, 0, none⟩) rfl ?_
  refine spec_Rd_GetVar (RD.st.fr0 h f1) (fun hg e w2 he hr f2 => ?_) fun v L' hg hv w2 hr f2 => ?_
  · exact spec_must_uint64 (fun _ => h0 hg w2 (f1.any.then f2)) fun h => absurd h he
  · exact spec_must_uint64 (fun h => absurd rfl h) fun _ => hk v L' hg hv w2 hr (f1.any.then f2)
theorem spec_rd_id {b bl : Nat} {L : List Bool} {F : Nat → Prop} {T : TypeId} {last : Int} (h : RD b L F w) (B : Blk w bl T [.int .u32 last]) (hbl : ¬ F bl) {K : Res [.sc (.int .u32)] → W R} (h0 : idDec last L = none → ∀ w', Fr (fun k => k = b ∨ k = bl) w w' → Pan.pan Q giveUp w')
    (hk : ∀ id L', idDec last L = some (id, L') → IdOk id → ∀ w', RD b L' F w' → Blk w' bl T [.int .u32 id] → Fr (fun k => k = b ∨ k = bl) w w' → K id Q w') :
    callP Tryz.prog k_packet_reader_id [.agg ⟨[.pointer (some ⟨b, 0, none⟩)]⟩, .pointer (some ⟨bl, 0, none⟩)] [.sc (.int .u32)] K Q w := by
  refine C_packet_reader_id _ _ K Q w ?_
  unfold F_packet_reader_id
  have hbb : b ≠ bl := fun e => hbl (e ▸ h.1)
  refine newI fun w1 B1 f1 z1 => aggI B1 (x := some ⟨b, 0, none⟩) rfl ?_
  have or1 : ∀ {u v : World}, Fr (fun k => k = b) u v → Fr (fun k => k = b ∨ k = bl) u v := fun f => f.sub fun k e => .inl e
  refine spec_rd_count (RD.st.fr0 h f1) (fun hg w2 f2 => ?_) fun v L' hg hv w2 hr f2 => ?_
  · exact h0 (by unfold idDec; rw [hg]) w2 (or1 (f1.any.then f2))
  have f02 := or1 (f1.any.then f2)
  have hid : idDec last L = if 4294967296 ≤ v then none else some ((last + (v : Int) + 1) % 4294967296, L') := by unfold idDec; rw [hg]
  refine joinI (fun _ w' => v < 4294967296 ∧ w' = w2) ?_ ?_
  · refine condD (fun hge => ?_) fun hlt => ⟨by omega, rfl⟩
    exact h0 (by rw [hid, if_pos (by omega)]) w2 f02
  rintro _ w3 ⟨hlt, rfl⟩
  rw [if_neg (by omega)] at hid
  have Bl := (B.fr f1 fun h => h).fr f2 fun e => hbb e.symm
  refine ptrI (fld0 Bl (i := 0) (x := last) rfl (ptrI ?_))
  have e : IntKind.wrap .u32 (last + IntKind.wrap .u32 (IntKind.wrap .u32 (v : Int) + 1)) = (last + (v : Int) + 1) % 4294967296 := by
    have a : ∀ x : Int, IntKind.wrap .u32 x = x % 4294967296 := fun x => by rw [IntKind.wrap_u32]
    rw [a, a, a]
    omega
  rw [e]
  refine stoAll Bl rfl rfl fun w4 B4 f4 z4 => ptrI (fld0 B4 (i := 0) (x := (last + (v : Int) + 1) % 4294967296) rfl ?_)
  refine hk _ L' hid ⟨by omega, by omega⟩ w4 (RD.st.fr hr f4 fun k e e2 => hbl (e2 ▸ e)) B4 (f02.then (f4.sub fun k e => .inr e))
end
end Go.Proofs.YtchhhjlpnecjkaaGreat
namespace Go.Proofs.YtchhhjlpnecjkaaGreat
open Go Go.RowKit Go.Proofs.YtchhhjlpnecjkaaGreat.Den
variable {R : Type} {Q : R → World → Prop} {w : World} [Pan R]
theorem spec_rd_head {b : Nat} {L : List Bool} {F : Nat → Prop} (h : RD b L F w) (hF : ∀ k, F k → k < w.heap.size) {K : Res [.agg [.int .u8, .int .u8, .int .u32, .int .u32, .int .u32]] → W R} (h0 : headD L = none → ∀ w', Fr (fun k => k = b) w w' → Pan.pan Q giveUp w') (hk : ∀ hd L', headD L = some (hd, L') → HeadOk hd → headE hd = 0 → ∀ w', RD b L' F w' → Fr (fun k => k = b) w w' → K hd Q w') :
    callP Tryz.prog k_packet_reader_head [.agg ⟨[.pointer (some ⟨b, 0, none⟩)]⟩] [.agg [.int .u8, .int .u8, .int .u32, .int .u32, .int .u32]] K Q w := by
  refine C_packet_reader_head _ K Q w ?_
  unfold F_packet_reader_head
  have hbb := hF b h.1
  refine newI fun w1 Bo f1 z1 => newI fun w2 Bx f2 z2 => ?_
  have Bo := Bo.fr f2 fun h => h
  have f02 := f1.then0 f2
  refine joinI (fun (s : Option Addr) v => ∃ bh k c L1 L2, s = some ⟨bh, 0, none⟩ ∧ getIn 1 5 L = some (k, L1) ∧ (1 ≤ k ∧ k ≤ 5) ∧ getIn 0 15 L1 = some (c, L2) ∧ (0 ≤ c ∧ c ≤ 15) ∧ w2.heap.size ≤ bh ∧ Blk v bh 30 [.int .u8 k, .int .u8 c, .int .u32 0, .int .u32 0, .int .u32 0] ∧ RD b L2 F v ∧ Fr (fun k => k = b) w2 v) ?_ ?_
  · have fd : Fr None w2 w2.drew := (Fr.refl _ _).drew
    have f0d := f02.then0 fd
    have Bd := Bo.fr fd fun h => h
    have hr := RD.st.fr0 h f0d
    have hx : ∀ {u v : World}, Fr (fun k => k = b) u v → Blk u w.heap.size 62 [.pointer (some ⟨b, 0, none⟩)] → Blk v w.heap.size 62 [.pointer (some ⟨b, 0, none⟩)] := fun f B => B.fr f fun e => by omega
    have hz : w2.drew.heap.size = w2.heap.size := rfl
    have n1 : getIn 1 5 L = none → headD L = none := fun e => by unfold headD; rw [e]
    have n2 : ∀ {k L1}, getIn 1 5 L = some (k, L1) → getIn 0 15 L1 = none → headD L = none := fun e e2 => by unfold headD; rw [e]; dsimp only; rw [e2]
    have bad : ∀ {u : World}, headD L = none → Fr (fun k => k = b) w2.drew u → Pan.pan Q giveUp u := fun e f => h0 e _ (f0d.any.then f)
    refine bothI ?_ (bothI ?_ (bothI ?_ (bothI ?_ ?_)))
    · refine fldI Bd (i := 0) (x := some ⟨b, 0, none⟩) rfl (fldI Bd (i := 0) (x := some ⟨b, 0, none⟩) rfl ?_)
      refine spec_Rd_GetIn hr (by decide) (by decide) (by decide) (fun hg e u1 he hr1 g1 => ?_) fun k L1 hg hkr u1 hr1 g1 => ?_
      · exact andI ((hx g1 Bd).rd (s := .ptr) (i := 0) (x := some ⟨b, 0, none⟩) rfl) (spec_must_int64 (fun _ => bad (n1 hg) g1) fun h => absurd h he)
      refine andI ((hx g1 Bd).rd (s := .ptr) (i := 0) (x := some ⟨b, 0, none⟩) rfl) (spec_must_int64 (fun h => absurd rfl h) fun _ => ?_)
      refine andI ((hx g1 Bd).rd (s := .ptr) (i := 0) (x := some ⟨b, 0, none⟩) rfl) ?_
      refine spec_Rd_GetIn hr1 (by decide) (by decide) (by decide) (fun hg2 e u2 he hr2 g2 => ?_) fun c L2 hg2 hcr u2 hr2 g2 => ?_
      · exact spec_must_int64 (fun _ => bad (n2 hg hg2) (g1.then g2)) fun h => absurd h he
      refine spec_must_int64 (fun h => absurd rfl h) fun _ => ?_
      refine newI fun u3 B3 g3 y3 => stoAll B3 rfl rfl fun u4 B4 g4 y4 => ?_
      have g34 : Fr None u2 u4 := g3.newer g4 fun k e => by omega
      rw [wu8 (by omega), wu8 (by omega)] at B4
      have s2 := (g1.then g2).size
      exact ⟨_, k, c, L1, L2, rfl, hg, hkr, hg2, hcr, by omega, B4, RD.st.fr0 hr2 g34, fd.any.then ((g1.then g2).then g34.any)⟩
    · refine fldI Bd (i := 0) (x := some ⟨b, 0, none⟩) rfl (fldI Bd (i := 0) (x := some ⟨b, 0, none⟩) rfl ?_)
      refine spec_Rd_GetIn hr (by decide) (by decide) (by decide) (fun hg e u1 he hr1 g1 => ?_) fun k L1 hg hkr u1 hr1 g1 => ?_
      · exact andI ((hx g1 Bd).rd (s := .ptr) (i := 0) (x := some ⟨b, 0, none⟩) rfl) (spec_must_int64 (fun _ => bad (n1 hg) g1) fun h => absurd h he)
      refine andI ((hx g1 Bd).rd (s := .ptr) (i := 0) (x := some ⟨b, 0, none⟩) rfl) (spec_must_int64 (fun h => absurd rfl h) fun _ => ?_)
      refine andI ((hx g1 Bd).rd (s := .ptr) (i := 0) (x := some ⟨b, 0, none⟩) rfl) ?_
      refine spec_Rd_GetIn hr1 (by decide) (by decide) (by decide) (fun hg2 e u2 he hr2 g2 => ?_) fun c L2 hg2 hcr u2 hr2 g2 => ?_
      · exact newI fun u3 B3 g3 y3 => spec_must_int64 (fun _ => bad (n2 hg hg2) ((g1.then g2).then g3.any)) fun h => absurd h he
      refine newI fun u3 B3 g3 y3 => spec_must_int64 (fun h => absurd rfl h) fun _ => stoAll B3 rfl rfl fun u4 B4 g4 y4 => ?_
      have g34 : Fr None u2 u4 := g3.newer g4 fun k e => by omega
      rw [wu8 (by omega), wu8 (by omega)] at B4
      have s2 := (g1.then g2).size
      exact ⟨_, k, c, L1, L2, rfl, hg, hkr, hg2, hcr, by omega, B4, RD.st.fr0 hr2 g34, fd.any.then ((g1.then g2).then g34.any)⟩
    · refine fldI Bd (i := 0) (x := some ⟨b, 0, none⟩) rfl (fldI Bd (i := 0) (x := some ⟨b, 0, none⟩) rfl ?_)
      refine spec_Rd_GetIn hr (by decide) (by decide) (by decide) (fun hg e u1 he hr1 g1 => ?_) fun k L1 hg hkr u1 hr1 g1 => ?_
      · exact andI ((hx g1 Bd).rd (s := .ptr) (i := 0) (x := some ⟨b, 0, none⟩) rfl) (spec_must_int64 (fun _ => bad (n1 hg) g1) fun h => absurd h he)
      refine andI ((hx g1 Bd).rd (s := .ptr) (i := 0) (x := some ⟨b, 0, none⟩) rfl) (spec_must_int64 (fun h => absurd rfl h) fun _ => ?_)
      refine andI ((hx g1 Bd).rd (s := .ptr) (i := 0) (x := some ⟨b, 0, none⟩) rfl) (newI fun u3 B3 g3 y3 => ?_)
      have s1 := g1.size
      refine spec_Rd_GetIn (RD.st.fr0 hr1 g3) (by decide) (by decide) (by decide) (fun hg2 e u2 he hr2 g2 => ?_) fun c L2 hg2 hcr u2 hr2 g2 => ?_
      · exact spec_must_int64 (fun _ => bad (n2 hg hg2) ((g1.then g3.any).then g2)) fun h => absurd h he
      refine spec_must_int64 (fun h => absurd rfl h) fun _ => stoAll (B3.fr g2 fun e => by omega) rfl rfl fun u4 B4 g4 y4 => ?_
      rw [wu8 (by omega), wu8 (by omega)] at B4
      have g34 : Fr (fun k => k = b) u1 u4 := ((g3.any.then g2).thenNew g4 fun k e => by omega)
      exact ⟨_, k, c, L1, L2, rfl, hg, hkr, hg2, hcr, by omega, B4, RD.st.fr hr2 g4 fun k e e2 => by have := hF k e; omega, fd.any.then (g1.then g34)⟩
    · refine fldI Bd (i := 0) (x := some ⟨b, 0, none⟩) rfl (fldI Bd (i := 0) (x := some ⟨b, 0, none⟩) rfl ?_)
      refine spec_Rd_GetIn hr (by decide) (by decide) (by decide) (fun hg e u1 he hr1 g1 => ?_) fun k L1 hg hkr u1 hr1 g1 => ?_
      · refine andI ((hx g1 Bd).rd (s := .ptr) (i := 0) (x := some ⟨b, 0, none⟩) rfl) (newI fun u3 B3 g3 y3 => ?_)
        exact spec_must_int64 (fun _ => bad (n1 hg) (g1.then g3.any)) fun h => absurd h he
      refine andI ((hx g1 Bd).rd (s := .ptr) (i := 0) (x := some ⟨b, 0, none⟩) rfl) (newI fun u3 B3 g3 y3 => spec_must_int64 (fun h => absurd rfl h) fun _ => ?_)
      have s1 := g1.size
      refine andI (((hx g1 Bd).fr g3 fun h => h).rd (s := .ptr) (i := 0) (x := some ⟨b, 0, none⟩) rfl) ?_
      refine spec_Rd_GetIn (RD.st.fr0 hr1 g3) (by decide) (by decide) (by decide) (fun hg2 e u2 he hr2 g2 => ?_) fun c L2 hg2 hcr u2 hr2 g2 => ?_
      · exact spec_must_int64 (fun _ => bad (n2 hg hg2) ((g1.then g3.any).then g2)) fun h => absurd h he
      refine spec_must_int64 (fun h => absurd rfl h) fun _ => stoAll (B3.fr g2 fun e => by omega) rfl rfl fun u4 B4 g4 y4 => ?_
      rw [wu8 (by omega), wu8 (by omega)] at B4
      have g34 : Fr (fun k => k = b) u1 u4 := ((g3.any.then g2).thenNew g4 fun k e => by omega)
      exact ⟨_, k, c, L1, L2, rfl, hg, hkr, hg2, hcr, by omega, B4, RD.st.fr hr2 g4 fun k e e2 => by have := hF k e; omega, fd.any.then (g1.then g34)⟩
    · refine fldI Bd (i := 0) (x := some ⟨b, 0, none⟩) rfl (fldI Bd (i := 0) (x := some ⟨b, 0, none⟩) rfl (newI fun u3 B3 g3 y3 => ?_))
      refine spec_Rd_GetIn (RD.st.fr0 hr g3) (by decide) (by decide) (by decide) (fun hg e u1 he hr1 g1 => ?_) fun k L1 hg hkr u1 hr1 g1 => ?_
      · exact andI ((hx (g3.any.then g1) Bd).rd (s := .ptr) (i := 0) (x := some ⟨b, 0, none⟩) rfl) (spec_must_int64 (fun _ => bad (n1 hg) (g3.any.then g1)) fun h => absurd h he)
      refine andI ((hx (g3.any.then g1) Bd).rd (s := .ptr) (i := 0) (x := some ⟨b, 0, none⟩) rfl) (spec_must_int64 (fun h => absurd rfl h) fun _ => ?_)
      refine andI ((hx (g3.any.then g1) Bd).rd (s := .ptr) (i := 0) (x := some ⟨b, 0, none⟩) rfl) ?_
      have s1 := g1.size
      refine spec_Rd_GetIn hr1 (by decide) (by decide) (by decide) (fun hg2 e u2 he hr2 g2 => ?_) fun c L2 hg2 hcr u2 hr2 g2 => ?_
      · exact spec_must_int64 (fun _ => bad (n2 hg hg2) ((g3.any.then g1).then g2)) fun h => absurd h he
      refine spec_must_int64 (fun h => absurd rfl h) fun _ => stoAll ((B3.fr g1 fun e => by omega).fr g2 fun e => by omega) rfl rfl fun u4 B4 g4 y4 => ?_
      rw [wu8 (by omega), wu8 (by omega)] at B4
      have g34 : Fr (fun k => k = b) w2.drew u4 := (((g3.any.then g1).then g2).thenNew g4 fun k e => by omega)
      exact ⟨_, k, c, L1, L2, rfl, hg, hkr, hg2, hcr, by omega, B4, RD.st.fr hr2 g4 fun k e e2 => by have := hF k e; omega, fd.any.then g34⟩
  rintro s v ⟨bh, k, c, L1, L2, rfl, hg1, hkr, hg2, hcr, hbh, Bh, hr, fv⟩
  have hnb : ∀ {x : Nat}, w.heap.size ≤ x → ¬ x = b := fun hx e => by omega
  have f0v : Fr (fun k => k = b) w v := f02.any.then fv
  have Bo := Bo.fr fv (hnb (Nat.le_refl _))
  have Bx := Bx.fr fv (hnb (by omega))
  refine aggI Bo (x := some ⟨b, 0, none⟩) rfl ?_
  have hD1 : headD L = match getVar L2 with
      | none => none
      | some (e, L) => match (if k ≤ 3 then getN 32 L else some (0, L)) with
        | none => none
        | some (t, L) => match (if k = 2 then (match getVar L with
            | none => none
            | some (b, L) => if t ≤ b then none else some (((t - b - 1 : Nat) : Int), L)) else some (0, L)) with
          | none => none
          | some (b, L) => if e ≤ 4294967295 ∧ headE (k, c, (e : Int), (t : Int), b) = 0 then some ((k, c, (e : Int), (t : Int), b), L) else none := by
    unfold headD
    rw [hg1]
    dsimp only
    rw [hg2] <;> rfl
  refine spec_rd_count hr (fun hg w3 f3 => h0 (by rw [hD1, hg]) w3 (f0v.then f3)) fun e L3 hg3 he w3 hr3 f3 => ?_
  rw [hg3] at hD1
  dsimp only at hD1
  have f03 := f0v.then f3
  have Bh3 := Bh.fr f3 (hnb (by omega))
  refine ptrI ?_
  rw [add_lit]
  refine setI (i := 2) Bh3 (by simp) rfl fun w4 Bh4 f4 z4 => ?_
  have hFh : ∀ k, F k → ¬ k = bh := fun k e e2 => by have := hF k e; omega
  have hr4 := RD.st.fr hr3 f4 hFh
  have f04 := f03.thenNew f4 fun k e => by omega
  obtain ⟨e', he'⟩ : ∃ e', e' = IntKind.wrap .u32 (e : Int) := ⟨_, rfl⟩
  have er : e' = (e : Int) % 4294967296 := by rw [he', IntKind.wrap_u32]
  rw [← he'] at Bh4
  have Bh4 : Blk w4 bh 30 [.int .u8 k, .int .u8 c, .int .u32 e', .int .u32 0, .int .u32 0] := Bh4
  have Bo4 := (Bo.fr f3 (hnb (Nat.le_refl _))).fr f4 fun e => by omega
  have Bx4 := (Bx.fr f3 (hnb (by omega))).fr f4 fun e => by omega
  refine ptrI (fldI Bh4 (i := 0) (x := k) rfl ?_)
  refine joinI (fun (_ : Unit) v => ∃ (t : Nat) (L4 : List Bool), (if k ≤ 3 then getN 32 L3 else some (0, L3)) = some (t, L4) ∧ t < 4294967296 ∧ Blk v bh 30 [.int .u8 k, .int .u8 c, .int .u32 e', .int .u32 (t : Int), .int .u32 0] ∧ RD b L4 F v ∧ Fr (fun k => k = b) w v ∧ Blk v w.heap.size 62 [.pointer (some ⟨b, 0, none⟩)] ∧ Blk v w1.heap.size 30 [.int .u8 0, .int .u8 0, .int .u32 0, .int .u32 0, .int .u32 0]) ?_ ?_
  · refine condD (fun k3 => ?_) fun k3 => ⟨0, L3, if_neg k3, by decide, Bh4, hr4, f04, Bo4, Bx4⟩
    rw [if_pos k3] at hD1
    refine aggI Bo4 (x := some ⟨b, 0, none⟩) rfl (spec_rd_plain hr4 (n := 32) (by decide) (fun hg w5 f5 => h0 (by rw [hD1, hg]) w5 (f04.then f5)) fun t L4 hg ht w5 hr5 f5 => ?_)
    have Bh5 := Bh4.fr f5 (hnb (by omega))
    refine ptrI ?_
    rw [add_lit]
    refine setI (i := 3) Bh5 (by simp) rfl fun w6 Bh6 f6 z6 => ?_
    have ew : IntKind.wrap .u32 (t : Int) = (t : Int) := wu32 (by omega)
    rw [ew] at Bh6
    have s5 := f5.size
    refine ⟨t, L4, by rw [if_pos k3]; exact hg, by omega, Bh6, RD.st.fr hr5 f6 hFh, (f04.then f5).thenNew f6 fun k e => by omega, (Bo4.fr f5 (hnb (Nat.le_refl _))).fr f6 fun e => by omega, (Bx4.fr f5 (hnb (by omega))).fr f6 fun e => by omega⟩
  rintro _ w5 ⟨t, L4, ht, htl, Bh5, hr5, f05, Bo5, Bx5⟩
  rw [ht] at hD1
  dsimp only at hD1
  refine ptrI (fldI Bh5 (i := 0) (x := k) rfl ?_)
  refine joinI (fun (_ : Unit) v => ∃ (bb : Int) (L5 : List Bool), (if k = 2 then (match getVar L4 with
            | none => none
            | some (b, L) => if t ≤ b then none else some (((t - b - 1 : Nat) : Int), L)) else some (0, L4)) = some (bb, L5) ∧ (0 ≤ bb ∧ bb ≤ 4294967295) ∧ Blk v bh 30 [.int .u8 k, .int .u8 c, .int .u32 e', .int .u32 (t : Int), .int .u32 bb] ∧ RD b L5 F v ∧ Fr (fun k => k = b) w v ∧ Blk v w1.heap.size 30 [.int .u8 0, .int .u8 0, .int .u32 0, .int .u32 0, .int .u32 0]) ?_ ?_
  · refine condE (fun k2 => ?_) fun k2 => ⟨0, L4, if_neg k2, by decide, Bh5, hr5, f05, Bx5⟩
    rw [if_pos k2] at hD1
    refine aggI Bo5 (x := some ⟨b, 0, none⟩) rfl (spec_rd_count hr5 (fun hg w6 f6 => h0 (by rw [hD1, hg]) w6 (f05.then f6)) fun b2 L5 hg hb2 w6 hr6 f6 => ?_)
    rw [hg] at hD1
    dsimp only at hD1
    have Bh6 := Bh5.fr f6 (hnb (by omega))
    have f06 := f05.then f6
    have s6 := f6.size
    refine ptrI (fldI Bh6 (i := 3) (x := (t : Int)) rfl ?_)
    have et : IntKind.wrap .u64 (t : Int) = (t : Int) := wU64 (by omega)
    rw [et]
    refine joinI (fun (_ : Unit) v => b2 < t ∧ v = w6) ?_ ?_
    · refine condD (fun hge => ?_) fun hlt => ⟨by omega, rfl⟩
      exact h0 (by rw [hD1, if_pos (by omega)]) w6 f06
    rintro _ w7 ⟨hlt, rfl⟩
    refine ptrI (fldI Bh6 (i := 3) (x := (t : Int)) rfl (ptrI ?_))
    rw [add_lit]
    refine setI (i := 4) Bh6 (by simp) rfl fun w8 Bh8 f8 z8 => ?_
    have ew : IntKind.wrap .u32 (IntKind.wrap .u32 ((t : Int) - IntKind.wrap .u32 (b2 : Int)) - 1) = ((t - b2 - 1 : Nat) : Int) := by
      rw [wu32 (x := (b2 : Int)) (by omega), wu32 (x := (t : Int) - (b2 : Int)) (by omega), wu32 (by omega)]
      omega
    rw [ew] at Bh8
    refine ⟨((t - b2 - 1 : Nat) : Int), L5, by rw [if_pos k2, hg]; dsimp only; rw [if_neg (by omega)], by omega, Bh8, RD.st.fr hr6 f8 hFh, f06.thenNew f8 fun k e => by omega, (Bx5.fr f6 (hnb (by omega))).fr f8 fun e => by omega⟩
  rintro _ w6 ⟨bb, L5, hbb5, hbr, Bh6, hr6, f06, Bx6⟩
  rw [hbb5] at hD1
  dsimp only at hD1
  refine joinI (fun z v => z = !decide (e ≤ 4294967295 ∧ headE (k, c, (e : Int), (t : Int), bb) = 0) ∧ Fr None w6 v) ?_ ?_
  · refine ptrI (fldI Bh6 (i := 2) (x := e') rfl ?_)
    rw [wU64 (x := e') (by omega)]
    refine condN (fun hne => ⟨?_, Fr.refl _ _⟩) fun heq => ptrI (aggI Bh6 (x := ((k, c, e', (t : Int), bb) : Head)) rfl (spec_packet_Check fun w7 f7 => ⟨?_, f7⟩))
    · rw [decide_eq_false (fun hc => hne (by omega))]
      rfl
    · have heq : e' = (e : Int) := heq
      rw [heq]
      have hle : e ≤ 4294967295 := by omega
      by_cases hz : headE (k, c, (e : Int), (t : Int), bb) = 0
      · rw [decide_eq_true ⟨hle, hz⟩, hz]
        rfl
      · rw [decide_eq_false fun hc => hz hc.2]
        simpa using hz
  rintro z w7 ⟨rfl, f7⟩
  have f07 := f06.then f7.any
  refine joinI (fun (_ : Unit) v => (e ≤ 4294967295 ∧ headE (k, c, (e : Int), (t : Int), bb) = 0) ∧ v = w7) ?_ ?_
  · refine condI (fun hz => ?_) fun hz => ⟨by simpa using hz, rfl⟩
    have hz : ¬ (e ≤ 4294967295 ∧ headE (k, c, (e : Int), (t : Int), bb) = 0) := fun hc => by rw [decide_eq_true hc] at hz; cases hz
    exact h0 (by rw [hD1, if_neg hz]) w7 f07
  rintro _ w8 ⟨hok, rfl⟩
  rw [if_pos hok] at hD1
  have ee : e' = (e : Int) := by have := hok.1; omega
  rw [ee] at Bh6
  have Bh8 := Bh6.fr f7 fun h => h
  have Bx8 := Bx6.fr f7 fun h => h
  refine ptrI (aggI Bh8 (x := ((k, c, (e : Int), (t : Int), bb) : Head)) rfl (stoAll Bx8 rfl rfl fun w9 B9 f9 z9 => aggI B9 (x := ((k, c, (e : Int), (t : Int), bb) : Head)) rfl ?_))
  refine hk (k, c, (e : Int), (t : Int), bb) L5 hD1 (by unfold HeadOk; dsimp only; have := hok.1; omega) hok.2 w9 (RD.st.fr (RD.st.fr0 hr6 f7) f9 fun k e e2 => by have := hF k e; omega) (f07.thenNew f9 fun k e => by omega)
end Go.Proofs.YtchhhjlpnecjkaaGreat
namespace Go.Proofs.YtchhhjlpnecjkaaGreat
open Go Go.RowKit Go.Proofs.YtchhhjlpnecjkaaGreat.Den
theorem caught_idle (p : Addr) (w : World) : CallsD Tryz.prog k_packet_caught #[.pointer (some p)] .returning w fun e u' w' => e = .returned (.tuple #[]) ∧ u' = .returning ∧ w' = w := by
  refine callsD_of_wpS Tryz.func66 rfl fun c₀ cs hu => ?_
  apply wpS_seq
  apply wpS_region
  simp [wpOpsS, go_sem, recoverD, hu, Tryz.ntmps66, Exit.thenS]
  refine wpS_of_wp ?_
  go_wp2
  cases c₀
  simp_all [bodyPostS, results, Tryz.results66]
set_option maxRecDepth 100000 in
theorem caught_gave {b : Nat} {x : Int} {T : TypeId} {older : List PanicEntry} {w : World} (B : Blk w b T [.int .i64 x]) : CallsD Tryz.prog k_packet_caught #[.pointer (some ⟨b, 0, none⟩)] (.panicking ({ v := .iface 171 (.agg ⟨[]⟩), recovered := false } :: older)) w fun e u' w' =>
    e = .returned (.tuple #[]) ∧ u' = .panicking ({ v := .iface 171 (.agg ⟨[]⟩), recovered := true } :: older) ∧ w' = (w.alloc (.cells #[] 171)).setCell ⟨b, 0, none⟩ (.int .i64 4) := by
  have hc : w.cell? ⟨b, 0, none⟩ = some (.int .i64 x) := B.cell 0
  have hz : w.frozen? ⟨b, 0, none⟩ = false := B.frozen 0
  have B1 := B.fr ((Fr.refl None w).alloc (.cells #[] 171)) fun h => h
  have hc2 : (w.alloc (.cells #[] 171)).cell? ⟨b, 0, none⟩ = some (.int .i64 x) := B1.cell 0
  have hz2 : (w.alloc (.cells #[] 171)).frozen? ⟨b, 0, none⟩ = false := B1.frozen 0
  have hta : ∀ (t : TypeId) (w : World), (Instr.typeAssert (.iface 171 (.agg ⟨[]⟩)) t 171 true).run Tryz.prog w = .ok (.tuple #[.agg ⟨[]⟩, .bool true]) w := fun t w => by kernel_rfl
  refine callsD_of_wpS Tryz.func66 rfl fun c₀ cs hu => ?_
  apply wpS_seq
  apply wpS_region
  simp [wpOpsS, go_sem, recoverD, hu, Tryz.ntmps66, Exit.thenS]
  refine wpS_of_wp ?_
  go_wp2
  cases c₀
  simp_all [bodyPostS, results, Tryz.results66]
end Go.Proofs.YtchhhjlpnecjkaaGreat
namespace Go.Proofs.YtchhhjlpnecjkaaGreat.Den
open Go
variable {R : Type} {P : Program}
def envL : List (Nat × Value) → Env
  | [], _ => none
  | (j, v) :: r, i => bif Nat.beq i j then some v else envL r i
theorem envL_some : ∀ {l : List (Nat × Value)} {i : Nat} {v : Value}, envL l i = some v → (i, v) ∈ l
  | (j, u) :: r, i, v, h => by
    rw [envL] at h
    cases hb : Nat.beq i j with
    | true => rw [hb] at h; cases h; rw [nbeq.1 hb]; exact List.mem_cons_self
    | false => rw [hb] at h; exact List.mem_cons_of_mem _ (envL_some h)
def doorOf (fn : Func) : Code := match fn.body with
  | some (.seq _ (.seq _ c)) => c
  | _ => .skip
def denDoor (P : Program) (h : Hints) (fn : Func) (ts : List Ty) (env : Env) : W (Res ts ⊕ List PanicEntry) :=
  den P fn.ntmps h 0 (doorOf fn) (fun e => resVars e fn.results.toList ts fun r => retW (.inl r)) (fun _ _ => failW) (fun e => resVars e fn.results.toList ts fun r => retW (.inl r)) env
theorem door_sound (hmix : P.follows .mixedOrders = true) {fn : Func} {h : Hints} {ts : List Ty} (hres : ResOk P fn.results.toList ts) {D : List Deferred} {env : Env} {a : Act} {w : World} {post : Res ts ⊕ List PanicEntry → World → Prop} {QX : Exit → Act → World → Prop}
    (ha : Ag D fn.ntmps env a) (hd : denDoor P h fn ts env post w) (hret : ∀ a w z, a.defers = D → (results fn a.tmps).run P w = .ok (resE ts z) w → post (.inl z) w → QX .normal a w ∧ QX .ret a w) (hp : ∀ ch a w, Ag D fn.ntmps (lim env (dsts (doorOf fn))) a → post (.inr ch) w → QX (.panic ch) a w) : (doorOf fn).wp P QX a w := by
  have hfin : ∀ (env' : Env) (a : Act) (w : World), Ag D fn.ntmps env' a → resVars env' fn.results.toList ts (fun r => retW (.inl r)) post w → QX .normal a w ∧ QX .ret a w := by
    intro env' a w ha hr
    obtain ⟨z, hz, hk⟩ := res_vars ha _ _ _ _ _ hres hr
    have := results_rv fn a.tmps hz
    rw [resE_vs] at this
    exact hret a w z ha.defers this hk
  refine den_sound hmix (h := h) (doorOf fn) 0 _ _ _ env a w post QX ha hd ?_ ?_ ?_ hp
  · rintro a w' ⟨e, h1, _, h3⟩
    exact (hfin e a w' h1 h3).1
  · rintro id a w' ⟨e, _, _, h3⟩
    exact h3.elim
  · intro e a w' h1 h3
    exact (hfin e a w' h1 h3).2
end Go.Proofs.YtchhhjlpnecjkaaGreat.Den
set_option linter.unusedVariables false
namespace Go.Proofs.YtchhhjlpnecjkaaGreat
open Go Go.Proofs.YtchhhjlpnecjkaaGreat.Den
def F_packet_front_door (body0 : Sl) (t2 : Addr) (t3 : Addr) (t4 : Addr) : W (((Int × Int × Int × Int × Int) × (Option Addr) × Int) ⊕ List PanicEntry) :=
  callW Tryz.prog k_bits_Read [.slice body0.a body0.n body0.c] [.sc .ptr] fun (x_1 : (Option Addr)) =>
  stoL t3 [.pointer x_1] 0 <|
  drawW <|
  ld (.agg [.ptr]) t3 fun (x_2 : (Option Addr)) =>
  ld (.agg [.ptr]) t3 fun (x_3 : (Option Addr)) =>
  callP Tryz.prog k_packet_reader_head [.agg ⟨[.pointer x_2]⟩] [.agg [.int .u8, .int .u8, .int .u32, .int .u32, .int .u32]] fun (x_4 : (Int × Int × Int × Int × Int)) =>
  andW (fun w => Rd w t3 (.agg [.ptr]) x_3) <|
  stoL t2 [.int .u8 x_4.1, .int .u8 x_4.2.1, .int .u32 x_4.2.2.1, .int .u32 x_4.2.2.2.1, .int .u32 x_4.2.2.2.2] 0 <|
  andW (fun w => Rd w t3 (.agg [.ptr]) x_3) <|
  stoL t3 [.pointer x_3] 0 <|
  stoL t4 [.int .i64 0] 0 <|
  ld (.agg [.int .u8, .int .u8, .int .u32, .int .u32, .int .u32]) t2 fun (x_5 : (Int × Int × Int × Int × Int)) =>
  ld (.agg [.ptr]) t3 fun (x_6 : (Option Addr)) =>
  ld (.sc (.int .i64)) t4 fun (x_7 : Int) =>
  retW (.inl (x_5, x_6, x_7))
def H_packet_front_door : Hints := { dr := [(3, ([], [[(0, []), (2, []), (1, [2]), (3, [2]), (4, []), (5, [])]]))], mp := [68] }
theorem E_packet_front_door (body0 : Sl) (t2 : Addr) (t3 : Addr) (t4 : Addr) : denDoor Tryz.prog H_packet_front_door Tryz.f27 [.agg [.int .u8, .int .u8, .int .u32, .int .u32, .int .u32], .agg [.ptr], .sc (.int .i64)] (envL [(0, .slice body0.a body0.n body0.c), (2, .pointer (some t2)), (3, .pointer (some t3)), (4, .pointer (some t4))]) = F_packet_front_door body0 t2 t3 t4 := by kernel_rfl
end Go.Proofs.YtchhhjlpnecjkaaGreat
namespace Go.Proofs.YtchhhjlpnecjkaaGreat
open Go Go.RowKit Go.Proofs.YtchhhjlpnecjkaaGreat.Den
variable {R : Type} {Q : R → World → Prop} {w : World}
theorem caught_ret {fn : Func} {tmps : Array Value} {RR : Ending → World → Prop} {p : Addr} {v : Value} (hrun : (results fn tmps).run Tryz.prog w = .ok v w) (hR : RR (.returned v) w) : Leaves Tryz.prog fn tmps RR [{ target := .fn (.func 66) #[], args := #[.pointer (some p)] }] .returning w := by
  refine leaves_cons (f := 66) (args := #[.pointer (some p)]) (by simp) (by simp [go_sem]) ?_
  refine (caught_idle p w).mono ?_
  rintro e u' w'' ⟨rfl, rfl, rfl⟩
  exact ⟨v, hrun, hR⟩
theorem caught_bad {fn : Func} {tmps : Array Value} {RR : Ending → World → Prop} {b : Nat} {x : Int} {T : TypeId} (B : Blk w b T [.int .i64 x]) {v : Value} (h : ∀ w', Blk w' b T [.int .i64 4] → Fr (fun k => k = b) w w' → ((results fn tmps).run Tryz.prog w' = .ok v w') ∧ RR (.returned v) w') : Leaves Tryz.prog fn tmps RR [{ target := .fn (.func 66) #[], args := #[.pointer (some ⟨b, 0, none⟩)] }] (.panicking giveUp) w := by
  refine leaves_cons (f := 66) (args := #[.pointer (some ⟨b, 0, none⟩)]) (by simp) (by simp [go_sem]) ?_
  refine (caught_gave (older := []) B).mono ?_
  rintro e u' w'' ⟨rfl, rfl, rfl⟩
  have f1 : Fr None w (w.alloc (.cells #[] 171)) := (Fr.refl None w).alloc _
  have B1 := B.fr f1 fun h => h
  obtain ⟨h1, h2⟩ := h _ (B1.set 0 (.int .i64 4)) (Fr.setCell (S := fun k => k = b) f1.any (p := ⟨b, 0, none⟩) (.inl rfl) _)
  simp only [settle, List.dropWhile_nil]
  exact ⟨v, h1, h2⟩
abbrev headT : List Sc := [.int .u8, .int .u8, .int .u32, .int .u32, .int .u32]
set_option maxRecDepth 100000 in
theorem spec_packet_front {ok : Nat → Prop} {s : Sl} {l : List Int} (hS : SlT ok w u8T s l) (hb : BytesOk l) (hm : l.length ≤ 1048576) {K : Res [.agg headT, .agg [.ptr], .sc (.int .i64)] → W R} (h0 : headD (bitsU l) = none → ∀ p w', Fr None w w' → K ((0, 0, 0, 0, 0), p, 4) Q w')
    (hk : ∀ hd L', headD (bitsU l) = some (hd, L') → HeadOk hd → headE hd = 0 → ∀ b w', RD b L' (Up w.heap.size) w' → Fr None w w' → K (hd, some ⟨b, 0, none⟩, 0) Q w') :
    callW Tryz.prog k_packet_front [.slice s.a s.n s.c] [.agg headT, .agg [.ptr], .sc (.int .i64)] K Q w := by
  unfold callW
  go_enter_defers Tryz.func27, Tryz.ntmps27
  generalize hc : Code.seq (Code.region 2 _ _) _ = c
  go_wp2
  have hc : c = doorOf Tryz.f27 := hc.symm
  subst hc
  obtain ⟨w3, hw3⟩ : ∃ w3, w3 = ((w.alloc (.cells #[.int .u8 0, .int .u8 0, .int .u32 0, .int .u32 0, .int .u32 0] 30)).alloc (.cells #[.pointer none] 62)).alloc (.cells #[.int .i64 0] 31) := ⟨_, rfl⟩
  have f1 : Fr None w (w.alloc (.cells #[.int .u8 0, .int .u8 0, .int .u32 0, .int .u32 0, .int .u32 0] 30)) := (Fr.refl None w).alloc _
  have f2 := f1.alloc (.cells #[.pointer none] 62)
  have f3 := f2.alloc (.cells #[.int .i64 0] 31)
  have Bh : Blk w3 w.heap.size 30 [.int .u8 0, .int .u8 0, .int .u32 0, .int .u32 0, .int .u32 0] := by rw [hw3]; exact ((Blk.new w _ _).alloc _).alloc _
  have Br : Blk w3 (w.heap.size + 1) 62 [.pointer none] := by
    rw [hw3]
    refine Blk.alloc ?_ _
    have := Blk.new (w.alloc (.cells #[.int .u8 0, .int .u8 0, .int .u32 0, .int .u32 0, .int .u32 0] 30)) 62 [.pointer none]
    simpa using this
  have Be : Blk w3 (w.heap.size + 2) 31 [.int .i64 0] := by
    rw [hw3]
    have := Blk.new ((w.alloc (.cells #[.int .u8 0, .int .u8 0, .int .u32 0, .int .u32 0, .int .u32 0] 30)).alloc (.cells #[.pointer none] 62)) 31 [.int .i64 0]
    simpa using this
  have fw : Fr None w w3 := by rw [hw3]; exact f3
  have z3 : w3.heap.size = w.heap.size + 3 := by rw [hw3]; simp
  rw [← hw3]
  clear hw3 f1 f2 f3
  refine door_sound mix (fn := Tryz.f27) (D := [{ target := .fn (.func 66) #[], args := #[.pointer (some ⟨w.heap.size + 2, 0, none⟩)] }]) (h := H_packet_front_door) (ts := [.agg headT, .agg [.ptr], .sc (.int .i64)]) ⟨by kernel_rfl, by kernel_rfl, by kernel_rfl, trivial⟩ (env := envL [(0, .slice s.a s.n s.c), (2, .pointer (some ⟨w.heap.size, 0, none⟩)), (3, .pointer (some ⟨w.heap.size + 1, 0, none⟩)), (4, .pointer (some ⟨w.heap.size + 2, 0, none⟩))])
    (post := fun r w' => match r with
      | .inl z => K z Q w'
      | .inr ch => headD (bitsU l) = none ∧ ch = giveUp ∧ Fr None w w' ∧ Blk w' w.heap.size 30 [.int .u8 0, .int .u8 0, .int .u32 0, .int .u32 0, .int .u32 0] ∧ (∃ p, Blk w' (w.heap.size + 1) 62 [.pointer p]) ∧ Blk w' (w.heap.size + 2) 31 [.int .i64 0]) ?_ ?_ ?_ ?_
  · refine ⟨rfl, rfl, fun i v hv => ?_⟩
    have := envL_some hv
    simp only [List.mem_cons, Prod.mk.injEq, List.not_mem_nil, or_false] at this
    rcases this with ⟨rfl, rfl⟩ | ⟨rfl, rfl⟩ | ⟨rfl, rfl⟩ | ⟨rfl, rfl⟩ <;> rfl
  · rw [E_packet_front_door]
    unfold F_packet_front_door
    refine spec_bits_Read (hS.fr0 fw) hb hm fun b w4 hr f4 => ?_
    have z4 := f4.size
    refine stoAll (Br.fr f4 fun h => h) rfl rfl fun w5 B5 f5 z5 => ?_
    have fd : Fr None w5 w5.drew := (Fr.refl _ _).drew
    have Bd := B5.fr fd fun h => h
    have g4 : Fr (fun k => k = w.heap.size + 1) w4 w5.drew := f5.then0 fd
    have hb3 : w3.heap.size ≤ b := hr.1
    have hrd : RD b (bitsU l) (fun k => w3.heap.size ≤ k ∧ k < w4.heap.size) w5.drew := RD.st hr g4 fun k hk (e : w3.heap.size ≤ k) => ⟨by omega, e, hk⟩
    have zd : w5.drew.heap.size = w4.heap.size := by show w5.heap.size = _; omega
    have Bhd := (Bh.fr f4 fun h => h).fr g4 (show ¬ w.heap.size = w.heap.size + 1 by omega)
    have Bed := (Be.fr f4 fun h => h).fr g4 (show ¬ w.heap.size + 2 = w.heap.size + 1 by omega)
    refine aggI Bd (x := some ⟨b, 0, none⟩) rfl (aggI Bd (x := some ⟨b, 0, none⟩) rfl ?_)
    have f0d : Fr None w w5.drew := (fw.then0 f4).newer g4 fun k e => by omega
    refine spec_rd_head hrd (fun k e => by omega) (fun hn w6 f6 => ?_) fun hd L' hh hok he w6 hr6 f6 => ?_
    · exact ⟨hn, rfl, f0d.newer f6 fun k e => by omega, Bhd.fr f6 fun e => by omega, ⟨_, Bd.fr f6 fun e => by omega⟩, Bed.fr f6 fun e => by omega⟩
    · have B6 := Bd.fr f6 (show ¬ w.heap.size + 1 = b by omega)
      have rdr : ∀ {u : World}, Blk u (w.heap.size + 1) 62 [.pointer (some ⟨b, 0, none⟩)] → Rd u ⟨w.heap.size + 1, 0, none⟩ (.agg [.ptr]) (some ⟨b, 0, none⟩) := fun B j u hj => B.cells 0 [.pointer (some ⟨b, 0, none⟩)] (fun j u hj => by simpa using hj) j u hj
      refine andI (rdr B6) (stoAll (Bhd.fr f6 fun e => by omega) rfl rfl fun w7 B7 f7 z7 => andI (rdr (B6.fr f7 fun e => by omega)) (stoAll (B6.fr f7 fun e => by omega) rfl rfl fun w8 B8 f8 z8 => ?_))
      refine stoAll (((Bed.fr f6 fun e => by omega).fr f7 fun e => by omega).fr f8 fun e => by omega) rfl rfl fun w9 B9 f9 z9 => ?_
      refine aggI ((B7.fr f8 fun e => by omega).fr f9 fun e => by omega) (x := hd) rfl (aggI (B8.fr f9 fun e => by omega) (x := some ⟨b, 0, none⟩) rfl (fld0 B9 (i := 0) (x := (0 : Int)) rfl ?_))
      have f69 : Fr (fun k => w.heap.size ≤ k ∧ k < w3.heap.size) w6 w9 := ((f7.sub fun k e => ⟨by omega, by omega⟩).then (f8.sub fun k e => ⟨by omega, by omega⟩)).then (f9.sub fun k e => ⟨by omega, by omega⟩)
      refine hk hd L' hh hok he b w9 (RD.st hr6 f69 fun k _ e => ⟨by omega, show w.heap.size ≤ k by omega⟩) ((f0d.newer f6 fun k e => by omega).newer f69 fun k e => e.1)
  · intro a w' z hD hrun hz
    have : Leaves Tryz.prog Tryz.f27 a.tmps (fun e w' => ∃ r, e = .returned (resE [.agg headT, .agg [.ptr], .sc (.int .i64)] r) ∧ K r Q w') a.defers .returning w' := by
      rw [hD]
      exact caught_ret hrun ⟨z, rfl, hz⟩
    exact ⟨this, this⟩
  · rintro ch a w' ha ⟨hn, rfl, f0, Bh', ⟨p, Br'⟩, Be'⟩
    show Leaves Tryz.prog Tryz.f27 a.tmps _ a.defers (.panicking giveUp) w'
    rw [ha.defers]
    refine caught_bad Be' (v := resE [.agg headT, .agg [.ptr], .sc (.int .i64)] ((0, 0, 0, 0, 0), p, 4)) fun w2 B2 g2 => ⟨?_, _, rfl, h0 hn p w2 (f0.newer g2 fun k e => by omega)⟩
    have lm : ∀ i v, memB (dsts (doorOf Tryz.f27)) i = false → envL [(0, .slice s.a s.n s.c), (2, .pointer (some ⟨w.heap.size, 0, none⟩)), (3, .pointer (some ⟨w.heap.size + 1, 0, none⟩)), (4, .pointer (some ⟨w.heap.size + 2, 0, none⟩))] i = some v → lim (envL [(0, .slice s.a s.n s.c), (2, .pointer (some ⟨w.heap.size, 0, none⟩)), (3, .pointer (some ⟨w.heap.size + 1, 0, none⟩)), (4, .pointer (some ⟨w.heap.size + 2, 0, none⟩))]) (dsts (doorOf Tryz.f27)) i = some v := fun i v h1 h2 => by
      unfold lim
      rw [h1]
      exact h2
    have c2 := rv_cell (P := Tryz.prog) ha (t := 2) (T := 30) (lm 2 _ (by kernel_rfl) rfl) (y := .agg headT) (by kernel_rfl) (x := (0, 0, 0, 0, 0)) (w := w2) (fun j u hj => (Bh'.fr g2 (show ¬ w.heap.size = w.heap.size + 2 by omega)).cells 0 (Tup.e Sc.e headT (0, 0, 0, 0, 0)) (fun j u hj => by rw [Nat.zero_add]; exact hj) j u hj)
    have c3 := rv_cell (P := Tryz.prog) ha (t := 3) (T := 62) (lm 3 _ (by kernel_rfl) rfl) (y := .agg [.ptr]) (by kernel_rfl) (x := p) (w := w2) (fun j u hj => (Br'.fr g2 (show ¬ w.heap.size + 1 = w.heap.size + 2 by omega)).cells 0 [.pointer p] (fun j u hj => by simpa using hj) j u hj)
    have c4 := rv_cell (P := Tryz.prog) ha (t := 4) (T := 31) (lm 4 _ (by kernel_rfl) rfl) (y := .sc (.int .i64)) (by kernel_rfl) (x := (4 : Int)) (w := w2) (B2.cell 0)
    have := results_rv Tryz.f27 a.tmps (mapM_rv_cons c2 (mapM_rv_cons c3 (mapM_rv_cons c4 rfl)))
    exact this
end Go.Proofs.YtchhhjlpnecjkaaGreat
namespace Go.Proofs.YtchhhjlpnecjkaaGreat
open Go Go.RowKit Go.Proofs.YtchhhjlpnecjkaaGreat.Den
variable {R : Type} {Q : R → World → Prop} {w : World}
theorem spec_comp_in {b : Nat} {L : List Bool} {F : Nat → Prop} (h : RD b L F w) {k i : Int} (hr : (rangeM k i).1 ≤ (rangeM k i).2.1) {K : Res [.sc (.int .i32), .sc (.int .i64)] → W R} (h0 : getIn (rangeM k i).1 (rangeM k i).2.1 L = none → ∀ e w', e ≠ 0 → RD b L F w' → Fr (fun k => k = b) w w' → K (0, e) Q w') (hk : ∀ v L', getIn (rangeM k i).1 (rangeM k i).2.1 L = some (v, L') → (rangeM k i).1 ≤ v ∧ v ≤ (rangeM k i).2.1 → ∀ w', RD b L' F w' → Fr (fun k => k = b) w w' → K (v, 0) Q w') :
    callW Tryz.prog k_comp_in [.pointer (some ⟨b, 0, none⟩), .int .u8 k, .int .i64 i] [.sc (.int .i32), .sc (.int .i64)] K Q w := by
  refine C_comp_in _ _ _ K Q w ?_
  unfold F_comp_in
  refine spec_schema_Range fun w1 f1 => ?_
  obtain ⟨r1, r2⟩ := rangeM_i32 k i
  rw [w64 (x := (rangeM k i).1) (by omega), w64 (x := (rangeM k i).2.1) (by omega)]
  refine spec_Rd_GetIn (RD.st.fr0 h f1) (by omega) hr (by omega) (fun hg e w2 he hr2 f2 => ?_) fun v L' hg hv w2 hr2 f2 => ?_
  · exact h0 hg e w2 he hr2 (f1.any.then f2)
  · have ew : IntKind.wrap .i32 v = v := by rw [IntKind.wrap_i32]; omega
    show K (IntKind.wrap .i32 v, 0) Q w2
    rw [ew]
    exact hk v L' hg hv w2 hr2 (f1.any.then f2)
theorem readF_app (k : Int) : ∀ (is js : List Nat) (L : List Bool), readF k (is ++ js) L = match readF k is L with
    | none => none
    | some (vs, L2) => match readF k js L2 with
      | none => none
      | some (vs2, L3) => some (vs ++ vs2, L3)
  | [], js, L => by
    rw [List.nil_append, readF]
    dsimp only
    cases readF k js L with
    | none => rfl
    | some p => rfl
  | i :: r, js, L => by
    rw [List.cons_append, readF, readF]
    cases getIn (rangeM k (i : Int)).1 (rangeM k (i : Int)).2.1 L with
    | none => rfl
    | some p =>
      obtain ⟨v, L2⟩ := p
      dsimp only
      rw [readF_app k r js L2]
      cases readF k r L2 with
      | none => rfl
      | some q =>
        obtain ⟨vs, L3⟩ := q
        dsimp only
        cases readF k js L3 with
        | none => rfl
        | some t => rfl
theorem mkC_snoc {k : Int} {vs : List Int} {v : Int} (h : vs.length < 3) : (compC (mkC k vs)).set (1 + vs.length) (.int .i32 v) = compC (mkC k (vs ++ [v])) := by
  rcases vs with _ | ⟨a, _ | ⟨b, _ | ⟨c, r⟩⟩⟩
  · rfl
  · rfl
  · rfl
  · simp at h; omega
theorem range_le (k : Int) {i : Nat} (h : i < cntM k) : (rangeM k (i : Int)).1 ≤ (rangeM k (i : Int)).2.1 := by
  have h3 := cntM_le k
  rcases fieldsM_cases k with rfl | rfl | rfl | rfl | rfl | rfl | hk
  · rcases (show i = 0 ∨ i = 1 ∨ i = 2 by omega) with rfl | rfl | rfl <;> first | decide +kernel | exact absurd h (by decide +kernel)
  · rcases (show i = 0 ∨ i = 1 ∨ i = 2 by omega) with rfl | rfl | rfl <;> first | decide +kernel | exact absurd h (by decide +kernel)
  · rcases (show i = 0 ∨ i = 1 ∨ i = 2 by omega) with rfl | rfl | rfl <;> first | decide +kernel | exact absurd h (by decide +kernel)
  · rcases (show i = 0 ∨ i = 1 ∨ i = 2 by omega) with rfl | rfl | rfl <;> first | decide +kernel | exact absurd h (by decide +kernel)
  · rcases (show i = 0 ∨ i = 1 ∨ i = 2 by omega) with rfl | rfl | rfl <;> first | decide +kernel | exact absurd h (by decide +kernel)
  · rcases (show i = 0 ∨ i = 1 ∨ i = 2 by omega) with rfl | rfl | rfl <;> first | decide +kernel | exact absurd h (by decide +kernel)
  · have : cntM k = 0 := by unfold cntM fieldsM; simp [hk]
    omega
theorem spec_comp_Get {b : Nat} {L : List Bool} {F : Nat → Prop} (h : RD b L F w) (hF : ∀ k, F k → k < w.heap.size) {k : Int} {K : Res [.agg [.int .u8, .int .i32, .int .i32, .int .i32], .sc (.int .i64)] → W R} (h0 : compD k L = none → ∀ e w', e ≠ 0 → RD b L F w' → Fr (fun k => k = b) w w' → K ((0, 0, 0, 0), e) Q w') (hk : ∀ c L', compD k L = some (c, L') → ∀ w', RD b L' F w' → Fr (fun k => k = b) w w' → K (c, 0) Q w') :
    callW Tryz.prog k_comp_Get [.pointer (some ⟨b, 0, none⟩), .int .u8 k] [.agg [.int .u8, .int .i32, .int .i32, .int .i32], .sc (.int .i64)] K Q w := by
  refine C_comp_Get _ _ K Q w ?_
  unfold F_comp_Get
  have hbb := hF b h.1
  have hcn := cntM_le k
  refine newI fun w1 Br f1 z1 => newI fun w2 Bk f2 z2 => newI fun w3 Bx f3 z3 => ?_
  have Br := (Br.fr f2 fun h => h).fr f3 fun h => h
  have Bk := Bk.fr f3 fun h => h
  have f03 := (f1.then0 f2).then0 f3
  refine fld0 Br (i := 0) (x := some ⟨b, 0, none⟩) rfl (condF rfl (fld0 Bk (i := 0) (x := k) rfl (spec_schema_Count fun w4 f4 => ?_)))
  have f04 := f03.then0 f4
  have Br := Br.fr f4 fun h => h
  have Bk := Bk.fr f4 fun h => h
  have Bx := Bx.fr f4 fun h => h
  have s4 := f4.size
  refine condE (fun hz => ?_) fun hz => ?_
  · refine stoAll Bx rfl rfl fun w5 B5 f5 z5 => aggI B5 (x := ((0, 0, 0, 0) : Comp)) rfl ?_
    exact h0 (by unfold compD; rw [if_pos (by omega)]) 1 w5 (by decide) (RD.st.fr (RD.st.fr0 h f04) f5 fun k e e2 => by have := hF k e; omega) (f04.newer f5 fun k e => by omega).any
  have hD : compD k L = match readF k (List.range (cntM k)) L with
      | none => none
      | some (vs, r) => some (mkC k vs, r) := by unfold compD; rw [if_neg (by omega)] <;> rfl
  refine fld0 Br (i := 0) (x := some ⟨b, 0, none⟩) rfl (fld0 Bk (i := 0) (x := k) rfl ?_)
  refine C_comp_back__comp_Get_c1 (some ⟨b, 0, none⟩) (k, 0, 0, 0) _ _ _ _ _ ?_
  unfold F_comp_back__comp_Get_c1
  have hr4 := RD.st.fr0 h f04
  obtain ⟨s, n, B, hback⟩ := hr4.back
  refine newI fun w5 Bc f5 z5 => newI fun w6 By f6 z6 => ?_
  have Bc := Bc.fr f6 fun h => h
  have f46 := f5.then0 f6
  refine ptrI (aggI (B.fr f46 fun h => h) (x := ((s, n) : Sl × Int)) rfl (newI fun w7 Bw f7 z7 => stoAll Bw rfl rfl fun w8 Bw f8 z8 => ?_))
  have f68 : Fr None w6 w8 := f7.newer f8 fun k e => by omega
  have f48 := f46.then0 f68
  have Bc := Bc.fr f68 fun h => h
  have By := By.fr f68 fun h => h
  refine fldI Bc (i := 0) (x := k) rfl (spec_schema_Count fun w9 f9 => ?_)
  have f49 := f48.then0 f9
  have s9 := f49.size
  have hw4 : w.heap.size ≤ w4.heap.size := f04.size
  have hFn : ∀ {x : Nat}, w.heap.size ≤ x → ∀ k, F k → ¬ k = x := fun hx k e e2 => by have := hF k e; omega
  refine forI (N := cntM k) (fun s : Int => s) (fun j i u => i = (j : Int) ∧ (∃ vs L', vs.length = j ∧ readF k (List.range j) L = some (vs, L') ∧ Blk u w4.heap.size 92 (compC (mkC k vs)) ∧ RD b L' F u) ∧ Fr (fun k => k = b) w4 u ∧ Blk u w5.heap.size 92 (compC (0, 0, 0, 0)) ∧ Blk u w6.heap.size 173 [.slice s.a s.n s.c, .int .i64 n] ∧ Blk u w.heap.size 60 [.pointer (some ⟨b, 0, none⟩)] ∧ Blk u w1.heap.size 5 [.int .u8 k] ∧ Blk u w2.heap.size 92 (compC (0, 0, 0, 0)))
    ⟨rfl, ⟨[], L, rfl, rfl, Bc.fr f9 fun h => h, RD.st.fr0 hr4 f49⟩, f49.any, By.fr f9 fun h => h, Bw.fr f9 fun h => h, Br.fr f49 fun h => h, Bk.fr f49 fun h => h, Bx.fr f49 fun h => h⟩ (fun j s w' h => h.1) ?_ ?_
  · rintro j i u K' hj ⟨rfl, ⟨vs, L', hvl, hrd, Bc, hr⟩, fu, By, Bw, Br, Bk, Bx⟩ - hK
    refine C_comp_Get_c1 _ _ _ _ _ _ ?_
    unfold F_comp_Get_c1
    have nb : ∀ {x : Nat}, w.heap.size ≤ x → ¬ x = b := fun hx e => by omega
    have f0u : Fr (fun k => k = b) w u := f04.any.then fu
    refine ptrI (fld0 Br (i := 0) (x := some ⟨b, 0, none⟩) rfl (ptrI (fld0 Bk (i := 0) (x := k) rfl ?_)))
    refine spec_comp_in hr (range_le k hj) (fun hg e u2 he hr2 f2 => ?_) fun v L2 hg hv u2 hr2 f2 => ?_
    · have hnone : compD k L = none := by
        rw [hD]
        have e1 : List.range (cntM k) = List.range j ++ (j :: List.range' (j + 1) (cntM k - j - 1)) := by
          have : cntM k = j + ((cntM k - j - 1) + 1) := by omega
          rw [this, List.range_eq_range', List.range_eq_range', ← List.range'_append_1, Nat.zero_add, List.range'_succ]
          congr 4
          omega
        rw [e1, readF_app, hrd]
        dsimp only
        rw [readF, hg]
      refine condT (by simpa using he) ?_
      obtain ⟨cs, B2, hl⟩ := hr2.blk
      refine aggI (Bw.fr f2 (nb (by omega))) (x := ((s, n) : Sl × Int)) rfl (ptrI (stoAll B2 hl.symm rfl fun u3 B3 f3 y3 => ?_))
      have By3 := (By.fr f2 (nb (by omega))).fr f3 (nb (by omega))
      have f43 : Fr (fun k => k = b) w4 u3 := (fu.then f2).then f3
      have hr3 := hback u3 f43 B3
      have s3 := f43.size
      refine stoAll By3 rfl rfl fun u4 B4 f4 y4 => aggI B4 (x := ((0, 0, 0, 0) : Comp)) rfl ?_
      have Bx4 := (((Bx.fr f2 (nb (by omega))).fr f3 (nb (by omega))).fr f4 fun e => by omega)
      refine stoAll Bx4 rfl rfl fun u5 B5 f5 y5 => aggI B5 (x := ((0, 0, 0, 0) : Comp)) rfl ?_
      exact h0 hnone e u5 he (RD.st.fr (RD.st.fr hr3 f4 (hFn (by omega))) f5 (hFn (by omega))) (((f04.any.then f43).thenNew f4 fun k e => by omega).thenNew f5 fun k e => by omega)
    · show idxW (some (Addr.add ⟨w4.heap.size, 0, none⟩ 1)) 3 1 (j : Int) (fun x => stoL x [.int .i32 v] 0 (K' (IntKind.wrap .i64 ((j : Int) + 1)))) _ _
      refine fIdx rfl (by omega) ?_
      refine setI (i := 1 + j) (Bc.fr f2 (nb (by omega))) (by simp; omega) rfl fun u3 B3 f3 y3 => ?_
      subst hvl
      rw [mkC_snoc (by omega)] at B3
      have ne : ∀ {x : Nat}, x ≠ w4.heap.size → ¬ x = w4.heap.size := fun h => h
      refine hK _ _ ⟨wsucc hj (by omega), ⟨vs ++ [v], L2, by simp, ?_, B3, RD.st.fr hr2 f3 (hFn (by omega))⟩, (fu.then f2).thenNew f3 fun k e => by omega, (By.fr f2 (nb (by omega))).fr f3 (ne (by omega)), (Bw.fr f2 (nb (by omega))).fr f3 (ne (by omega)), (Br.fr f2 (nb (by omega))).fr f3 (ne (by omega)), (Bk.fr f2 (nb (by omega))).fr f3 (ne (by omega)), (Bx.fr f2 (nb (by omega))).fr f3 (ne (by omega))⟩
      rw [List.range_succ, readF_app, hrd]
      dsimp only
      rw [readF, hg]
      rfl
  · rintro i u ⟨_, ⟨vs, L', hvl, hrd, Bc, hr⟩, fu, By, Bw, Br, Bk, Bx⟩
    rw [hrd] at hD
    dsimp only at hD
    refine aggI Bc (x := mkC k vs) rfl (stoAll By rfl rfl fun u2 B2 f2 y2 => aggI B2 (x := mkC k vs) rfl ?_)
    have Bx2 := Bx.fr f2 fun e => by omega
    refine stoAll Bx2 rfl rfl fun u3 B3 f3 y3 => aggI B3 (x := mkC k vs) rfl ?_
    exact hk _ L' hD u3 (RD.st.fr (RD.st.fr hr f2 (hFn (by omega))) f3 (hFn (by omega))) (((f04.any.then fu).thenNew f2 fun k e => by omega).thenNew f3 fun k e => by omega)
end Go.Proofs.YtchhhjlpnecjkaaGreat
namespace Go.Proofs.YtchhhjlpnecjkaaGreat
open Go Go.RowKit Go.Proofs.YtchhhjlpnecjkaaGreat.Den
variable {R : Type} {Q : R → World → Prop} {w : World}
theorem mask_bit : ∀ m : Fin 32, ∀ j : Fin 5, (bAnd .u64 (shR .u64 ((m.val : Nat) : Int) ((j.val : Nat) : Int)) 1 == 1) = m.val.testBit j.val := by decide +kernel
def kindsB (m j : Nat) : List Int := ((List.range j).filter (Nat.testBit m)).map fun (k : Nat) => (k : Int)
theorem kindsB_succ (m j : Nat) : kindsB m (j + 1) = kindsB m j ++ if m.testBit j = true then [(j : Int)] else [] := by
  unfold kindsB
  rw [List.range_succ, List.filter_append, List.map_append]
  congr 1
  by_cases h : m.testBit j = true
  · simp [List.filter, h]
  · simp [List.filter, h]
theorem kindsB_all {m : Nat} (h : m < 32) : kindsB m 5 = kindsOf m := by
  have e : kindsOf m = kindsB m 6 := rfl
  have h5 : m.testBit 5 = false := by
    rw [Nat.testBit_eq_decide_div_mod_eq]
    simp
    omega
  rw [e, show (6 : Nat) = 5 + 1 from rfl, kindsB_succ m 5, h5]
  simp
theorem kindsB_le (m j : Nat) : (kindsB m j).length ≤ j := by
  unfold kindsB
  rw [List.length_map]
  exact Nat.le_trans (List.length_filter_le _ _) (by simp)
theorem spec_packet_kinds {m : Nat} (hm : m < 32) {K : Res [.sc .sl] → W R} (hk : ∀ r w', Own (Up w.heap.size) w' 5 u8T r (kindsOf m) → Fr None w w' → K r Q w') :
    callW Tryz.prog k_packet_kinds [.int .u64 (m : Int)] [.sc .sl] K Q w := by
  refine C_packet_kinds _ K Q w ?_
  unfold F_packet_kinds
  refine forI (N := 5) (fun s : Sl × Int => s.2) (fun j st u => st.2 = (j : Int) ∧ Own (Up w.heap.size) u 5 u8T st.1 (kindsB m j) ∧ Fr None w u) ⟨rfl, Own.nil _ _ _ _, Fr.refl _ _⟩ (fun j s w' h => h.1) ?_ ?_
  · rintro j ⟨z, _⟩ u K' hj ⟨rfl, o, fu⟩ - hK
    have zu := fu.size
    have lb := kindsB_le m j
    refine chkI (by omega) ?_
    have hb := mask_bit ⟨m, hm⟩ ⟨j, hj⟩
    dsimp only at hb ⊢
    rw [hb]
    refine joinI (fun z u' => Own (Up w.heap.size) u' 5 u8T z (kindsB m (j + 1)) ∧ Fr None w u') ?_ fun z u' ⟨h1, h2⟩ => hK _ _ ⟨by rw [wu8 (by omega)]; rfl, h1, h2⟩
    rw [kindsB_succ]
    refine condI (fun h => ?_) fun h => ?_
    · rw [if_pos h]
      exact appP (x := (j : Int)) bytes_ty rfl o (fun k e => by show w.heap.size ≤ k; omega) (by omega) (by omega) fun r u2 o2 f2 => ⟨o2, fu.newer f2 fun k e => o.own k e⟩
    · rw [if_neg (by rw [h]; decide), List.append_nil]
      exact ⟨o, fu⟩
  · rintro ⟨z, _⟩ u ⟨_, o, fu⟩
    rw [kindsB_all hm] at o
    exact hk z u o fu
theorem spec_must_Comp [Pan R] {v : Comp} {e : Int} {K : Res [.agg [.int .u8, .int .i32, .int .i32, .int .i32]] → W R} (h0 : e ≠ 0 → ∀ w', Fr None w w' → Pan.pan Q giveUp w') (hk : e = 0 → ∀ w', Fr None w w' → K v Q w') : callP Tryz.prog k_packet_must_Comp [.agg ⟨[.int .u8 v.1, .int .i32 v.2.1, .int .i32 v.2.2.1, .int .i32 v.2.2.2]⟩, .int .i64 e] [.agg [.int .u8, .int .i32, .int .i32, .int .i32]] K Q w := by
  refine C_packet_must_Comp v e K Q w ?_
  unfold F_packet_must_Comp
  refine newI fun w1 B1 f1 z1 => newI fun w2 B2 f2 z2 => ?_
  have f02 := f1.then0 f2
  refine joinI (fun _ w' => e = 0 ∧ w' = w2) (condN (fun h => h0 h w2 f02) fun h => ⟨h, rfl⟩) ?_
  rintro _ w' ⟨h, rfl⟩
  refine aggI (B1.fr f2 fun h => h) (x := v) rfl (stoAll B2 rfl rfl fun w3 B3 f3 z3 => aggI B3 (x := v) rfl ?_)
  exact hk h w3 (f02.newer f3 fun k e => by omega)
theorem spec_rd_comps [Pan R] {b : Nat} {L : List Bool} {F : Nat → Prop} (h : RD b L F w) (hF : ∀ k, F k → k < w.heap.size) {m : Nat} (hm : m < 32) {K : Res [.sc .sl] → W R} (h0 : compsD (kindsOf m) L = none → ∀ w', Fr (fun k => k = b) w w' → Pan.pan Q giveUp w') (hk : ∀ cs L', compsD (kindsOf m) L = some (cs, L') → ∀ r w', Own (Up w.heap.size) w' 92 compT r cs → RD b L' F w' → Fr (fun k => k = b) w w' → K r Q w') :
    callP Tryz.prog k_packet_reader_comps [.agg ⟨[.pointer (some ⟨b, 0, none⟩)]⟩, .int .u64 (m : Int)] [.sc .sl] K Q w := by
  refine C_packet_reader_comps _ _ K Q w ?_
  unfold F_packet_reader_comps
  have hbb := hF b h.1
  refine newI fun w1 B1 f1 z1 => spec_packet_kinds hm fun r w2 o2 f2 => ?_
  have f02 := f1.then0 f2
  have z2 := f02.size
  have B2 := B1.fr f2 fun h => h
  have hlen := o2.len
  have hkl : (kindsOf m).length ≤ 5 := by rw [← kindsB_all hm]; exact kindsB_le m 5
  have app : ∀ (is js : List Int) (L : List Bool) cs L2, compsD is L = some (cs, L2) → compsD (is ++ js) L = match compsD js L2 with
      | none => none
      | some (cs2, L3) => some (cs ++ cs2, L3) := by
    intro is
    induction is with
    | nil =>
      intro js L cs L2 e
      rw [compsD] at e
      cases e
      rw [List.nil_append]
      cases compsD js L with
      | none => rfl
      | some p => rfl
    | cons i is ih =>
      intro js L cs L2 e
      rw [compsD] at e
      rw [List.cons_append, compsD]
      cases hi : compD i L with
      | none => rw [hi] at e; cases e
      | some p =>
        obtain ⟨c, L1⟩ := p
        rw [hi] at e
        dsimp only at e ⊢
        cases hj : compsD is L1 with
        | none => rw [hj] at e; cases e
        | some q =>
          obtain ⟨cs1, L3⟩ := q
          rw [hj] at e
          dsimp only at e
          cases e
          rw [ih js L1 _ _ hj]
          cases compsD js _ with
          | none => rfl
          | some t => rfl
  refine forI (N := r.n) (fun s : Sl × Int => s.2) (fun j st u => st.2 = (j : Int) ∧ (∃ cs L', compsD ((kindsOf m).take j) L = some (cs, L') ∧ cs.length = j ∧ Own (fun k => w2.heap.size ≤ k) u 92 compT st.1 cs ∧ RD b L' F u) ∧ Fr (fun k => k = b) w2 u) ⟨rfl, ⟨[], L, rfl, rfl, Own.nil _ _ _ _, RD.st.fr0 h f02⟩, Fr.refl _ _⟩ (fun j s w' h => h.1) ?_ ?_
  · rintro j ⟨z, _⟩ u K' hj ⟨rfl, ⟨cs, L', e, hl, o, hr⟩, fu⟩ - hK
    have zu := fu.size
    have nbo : ∀ k, Up w1.heap.size k → ¬ k = b := fun k e e2 => by have e : w1.heap.size ≤ k := e; omega
    refine (o2.sl.fr fu nbo).get rfl rfl (by omega) fun k hkj => ?_
    have e1 := app _ [k] L cs L' e
    rw [← take_at hkj] at e1
    refine fldI (B2.fr fu fun e => by omega) (i := 0) (x := some ⟨b, 0, none⟩) rfl ?_
    refine spec_comp_Get hr (fun k e => by have := hF k e; omega) (fun hg e' u2 he hr2 f2' => ?_) fun c L2 hg u2 hr2 f2' => ?_
    · refine spec_must_Comp (v := (0, 0, 0, 0)) (fun _ w' f' => h0 ?_ w' (((f02.any.then fu).then f2').then f'.any)) fun h => absurd h he
      have : kindsOf m = (kindsOf m).take (j + 1) ++ (kindsOf m).drop (j + 1) := (List.take_append_drop _ _).symm
      rw [compsD, hg] at e1
      have none_app : ∀ (is js : List Int) (L : List Bool), compsD is L = none → compsD (is ++ js) L = none := by
        intro is
        induction is with
        | nil => intro js L e; rw [compsD] at e; cases e
        | cons i is ih =>
          intro js L e
          rw [compsD] at e
          rw [List.cons_append, compsD]
          cases hi : compD i L with
          | none => rfl
          | some p =>
            obtain ⟨c, L1⟩ := p
            rw [hi] at e
            dsimp only at e ⊢
            cases hj : compsD is L1 with
            | none => rw [ih js L1 hj]
            | some q => rw [hj] at e; cases e
      rw [this]
      exact none_app _ _ _ e1
    · simp only [compsD, hg] at e1
      refine spec_must_Comp (v := c) (fun h => absurd rfl h) fun _ u3 f3 => ?_
      have s2 := f2'.size
      have s3 := f3.size
      have o3 : Own (fun k => w2.heap.size ≤ k) u3 92 compT z cs := (o.fr f2' fun k e e2 => by omega).none f3
      refine appP (x := c) comps_ty rfl o3 (fun k e => by show w2.heap.size ≤ k; omega) (by omega) (by omega) fun r2 u4 o4 f4 => ?_
      exact hK _ _ ⟨wsucc hj (by omega), ⟨cs ++ [c], L2, e1, by simp [hl], o4, RD.st.fr (RD.st.fr0 hr2 f3) f4 fun k e e2 => by have := o3.own k e2; have := hF k e; omega⟩, ((fu.then f2').then f3.any).thenNew f4 fun k e => by have := o3.own k e; omega⟩
  · rintro ⟨z, _⟩ u ⟨_, ⟨cs, L', e, hl, o, hr⟩, fu⟩
    rw [List.take_of_length_le (by omega)] at e
    exact hk cs L' e z u (o.mono fun k _ e => by show w.heap.size ≤ k; omega) hr (f02.any.then fu)
end Go.Proofs.YtchhhjlpnecjkaaGreat
namespace Go.Proofs.YtchhhjlpnecjkaaGreat
open Go Go.RowKit Go.Proofs.YtchhhjlpnecjkaaGreat.Den
variable {R : Type} {Q : R → World → Prop} {w : World}
theorem zag_small : ∀ z : Fin 17, bXor .i64 (IntKind.wrap .i64 (shR .u64 ((z.val : Nat) : Int) 1)) (IntKind.wrap .i64 (0 - IntKind.wrap .i64 (bAnd .u64 ((z.val : Nat) : Int) 1))) = zagM ((z.val : Nat) : Int) := by decide +kernel
theorem spec_nums_Zag {z : Nat} (hz : z ≤ 16) {K : Res [.sc (.int .i64)] → W R} (hk : K (zagM (z : Int)) Q w) : callW Tryz.prog k_nums_Zag [.int .u64 (z : Int)] [.sc (.int .i64)] K Q w := by
  refine C_nums_Zag _ K Q w ?_
  unfold F_nums_Zag
  have := zag_small ⟨z, by omega⟩
  dsimp only at this
  rw [this]
  exact hk
theorem spec_comp_moved {b : Nat} {L : List Bool} {F : Nat → Prop} (h : RD b L F w) (hF : ∀ k, F k → k < w.heap.size) {was : Comp} (hc : CompOk was) {i : Nat} (hi : i < 3) (hr : (rangeM was.1 (i : Int)).1 ≤ (rangeM was.1 (i : Int)).2.1) {K : Res [.sc (.int .i32), .sc (.int .i64)] → W R}
    (h0 : movedD was i L = none → ∀ v e L' w', e ≠ 0 → RD b L' F w' → Fr (fun k => k = b) w w' → K (v, e) Q w') (hk : ∀ v L', movedD was i L = some (v, L') → ∀ w', RD b L' F w' → Fr (fun k => k = b) w w' → K (v, 0) Q w') :
    callW Tryz.prog k_comp_moved [.pointer (some ⟨b, 0, none⟩), .agg ⟨compC was⟩, .int .i64 (i : Int)] [.sc (.int .i32), .sc (.int .i64)] K Q w := by
  refine C_comp_moved _ was _ K Q w ?_
  unfold F_comp_moved
  have hbb := hF b h.1
  have hfl := flI hc i
  refine newI fun w1 B1 f1 z1 => ?_
  have nb : ∀ {x : Nat}, w.heap.size ≤ x → ¬ x = b := fun hx e => by omega
  have hm : movedD was i L = match getN 1 L with
      | none => none
      | some (b, L1) => if b = 0 then some (fl was i, L1) else match getN 1 L1 with
        | none => none
        | some (b2, L2) => if b2 = 0 then (match getIn (rangeM was.1 (i : Int)).1 (rangeM was.1 (i : Int)).2.1 L2 with
            | none => none
            | some (n, L3) => if zigM (n - fl was i) ≤ 16 then none else some (n, L3))
          else match getN 4 L2 with
            | none => none
            | some (z, L3) => if fl was i + zagM ((z : Int) + 1) < (rangeM was.1 (i : Int)).1 ∨ (rangeM was.1 (i : Int)).2.1 < fl was i + zagM ((z : Int) + 1) then none else some (fl was i + zagM ((z : Int) + 1), L3) := rfl
  refine spec_Rd_Get (RD.st.fr0 h f1) (n := 1) (by decide) (fun hlt w2 hr2 f2 => ?_) fun hge w2 hr2 f2 => ?_
  · refine joinI (fun z v => z = true ∧ v = w2) (condT rfl ⟨rfl, rfl⟩) ?_
    rintro z v ⟨rfl, rfl⟩
    refine condT rfl (fIdx (j := i) rfl hi (fld0 (B1.fr f2 fun h => h) (x := fl was i) (compC_fl was hi) ?_))
    exact h0 (by rw [hm, getN, if_neg (by omega)]) _ 2 L v (by decide) hr2 (f1.then0 f2).any
  have e1 : getN 1 L = some (valB (L.take 1), L.drop 1) := by rw [getN, if_pos hge]
  rw [e1] at hm
  dsimp only at hm
  have f02 : Fr (fun k => k = b) w w2 := f1.any.then f2
  have B2 := B1.fr f2 (nb (Nat.le_refl _))
  refine joinI (fun z v => z = decide (valB (L.take 1) = 0) ∧ v = w2) (condF rfl ⟨?_, rfl⟩) ?_
  · by_cases c : valB (L.take 1) = 0
    · rw [c]; rfl
    · rw [decide_eq_false c]; simpa using c
  rintro z v ⟨rfl, rfl⟩
  refine condD (fun c => ?_) fun c => ?_
  · rw [if_pos c] at hm
    refine fIdx (j := i) rfl hi (fld0 B2 (x := fl was i) (compC_fl was hi) ?_)
    exact hk _ _ hm v hr2 f02
  rw [if_neg c] at hm
  refine spec_Rd_Get hr2 (n := 1) (by decide) (fun hlt w3 hr3 f3 => ?_) fun hge2 w3 hr3 f3 => ?_
  · exact condT rfl (h0 (by rw [hm, getN, if_neg (by omega)]) _ 2 _ w3 (by decide) hr3 (f02.then f3.any))
  have e2 : getN 1 (L.drop 1) = some (valB ((L.drop 1).take 1), (L.drop 1).drop 1) := by rw [getN, if_pos hge2]
  rw [e2] at hm
  dsimp only at hm
  have f03 := f02.then f3
  have B3 := B2.fr f3 (nb (Nat.le_refl _))
  refine condF rfl (condE (fun c2 => ?_) fun c2 => ?_)
  · rw [if_pos (by omega)] at hm
    refine fld0 B3 (i := 0) (x := was.1) rfl (spec_comp_in hr3 hr (fun hg e w4 he hr4 f4 => ?_) fun v L3 hg hv w4 hr4 f4 => ?_)
    · have he' : (e == 0) = false := by simpa using he
      refine joinI (fun z v => z = false ∧ v = w4) (condF he' ⟨rfl, rfl⟩) ?_
      rintro z v ⟨rfl, rfl⟩
      refine condF rfl (h0 (by rw [hm, hg]) _ e _ v he hr4 (f03.then f4))
    · rw [hg] at hm
      dsimp only at hm
      obtain ⟨r1, r2⟩ := rangeM_i32 was.1 (i : Int)
      refine joinI (fun z u => z = decide (zigM (v - fl was i) ≤ 16) ∧ u = w4) (condT rfl ?_) ?_
      · refine fIdx (j := i) rfl hi (fld0 (B3.fr f4 (nb (Nat.le_refl _))) (x := fl was i) (compC_fl was hi) ?_)
        rw [w64 (x := v) (by omega), w64 (x := fl was i) (by omega), w64 (x := v - fl was i) (by omega)]
        exact spec_nums_Zig (by omega) ⟨rfl, rfl⟩
      rintro z u ⟨rfl, rfl⟩
      refine condD (fun c3 => ?_) fun c3 => ?_
      · exact h0 (by rw [hm, if_pos c3]) _ 4 _ u (by decide) hr4 (f03.then f4)
      · rw [if_neg c3] at hm
        exact hk _ _ hm u hr4 (f03.then f4)
  · rw [if_neg (by omega)] at hm
    refine spec_Rd_Get hr3 (n := 4) (by decide) (fun hlt w4 hr4 f4 => ?_) fun hge3 w4 hr4 f4 => ?_
    · exact condT rfl (h0 (by rw [hm, getN, if_neg (by omega)]) _ 2 _ w4 (by decide) hr4 (f03.then f4.any))
    have hz := valB_lt' (((L.drop 1).drop 1).take 4)
    rw [List.length_take, Nat.min_eq_left hge3] at hz
    have e3 : getN 4 ((L.drop 1).drop 1) = some (valB (((L.drop 1).drop 1).take 4), ((L.drop 1).drop 1).drop 4) := by rw [getN, if_pos hge3]
    rw [e3] at hm
    dsimp only at hm
    generalize valB (((L.drop 1).drop 1).take 4) = z at hz hm
    have hz : z < 16 := hz
    have fd : Fr None w4 w4.drew := (Fr.refl _ _).drew
    have f0d := (f03.then f4).then fd.any
    have B4 := (B3.fr f4 (nb (Nat.le_refl _))).fr fd fun h => h
    refine condF rfl (fIdx (j := i) rfl hi (fld0 B4 (x := fl was i) (compC_fl was hi) ?_))
    have ew : IntKind.wrap .u64 ((z : Int) + 1) = ((z + 1 : Nat) : Int) := by rw [wU64 (by omega)]; omega
    rw [ew]
    refine spec_nums_Zag (by omega) (andI ((B4.cell (1 + i)).trans (compC_fl was hi)) (fld0 B4 (i := 0) (x := was.1) rfl (spec_schema_Range fun w5 f5 => ?_)))
    obtain ⟨r1, r2⟩ := rangeM_i32 was.1 (i : Int)
    rw [show ((z : Int) + 1) = ((z + 1 : Nat) : Int) by omega] at hm
    have hzag : -16 ≤ zagM ((z + 1 : Nat) : Int) ∧ zagM ((z + 1 : Nat) : Int) ≤ 16 := by unfold zagM; split <;> omega
    generalize zagM ((z + 1 : Nat) : Int) = g at hm hzag
    rw [w64 (x := fl was i) (by omega), w64 (x := fl was i + g) (by omega), w64 (x := (rangeM was.1 (i : Int)).1) (by omega), w64 (x := (rangeM was.1 (i : Int)).2.1) (by omega)]
    have hr5 := RD.st.fr0 (RD.st.fr0 hr4 fd) f5
    have f05 := f0d.then f5.any
    refine joinI (fun x u => x = decide (fl was i + g < (rangeM was.1 (i : Int)).1 ∨ (rangeM was.1 (i : Int)).2.1 < fl was i + g) ∧ u = w5) ?_ ?_
    · refine condD (fun c4 => ⟨(decide_eq_true (.inl c4)).symm, rfl⟩) fun c4 => ⟨?_, rfl⟩
      by_cases c5 : (rangeM was.1 (i : Int)).2.1 < fl was i + g
      · rw [decide_eq_true (p := _ ∨ _) (.inr c5)]; exact decide_eq_true c5
      · rw [decide_eq_false (p := _ ∨ _) (fun h => h.elim c4 c5)]; exact decide_eq_false c5
    rintro x u ⟨rfl, rfl⟩
    refine condD (fun c4 => ?_) fun c4 => ?_
    · exact h0 (by rw [hm, if_pos c4]) _ 5 _ u (by decide) hr5 f05
    · rw [if_neg c4] at hm
      rw [show IntKind.wrap .i32 (fl was i + g) = fl was i + g by rw [IntKind.wrap_i32]; omega]
      exact hk _ _ hm u hr5 f05
theorem readS_app (was : Comp) : ∀ (is js : List Nat) (L : List Bool), readS was (is ++ js) L = match readS was is L with
    | none => none
    | some (vs, L2) => match readS was js L2 with
      | none => none
      | some (vs2, L3) => some (vs ++ vs2, L3)
  | [], js, L => by
    rw [List.nil_append, readS]
    dsimp only
    cases readS was js L with
    | none => rfl
    | some p => rfl
  | i :: r, js, L => by
    rw [List.cons_append, readS, readS]
    cases movedD was i L with
    | none => rfl
    | some p =>
      obtain ⟨v, L2⟩ := p
      dsimp only
      rw [readS_app was r js L2]
      cases readS was r L2 with
      | none => rfl
      | some q =>
        obtain ⟨vs, L3⟩ := q
        dsimp only
        cases readS was js L3 with
        | none => rfl
        | some t => rfl
def ovC (c : Comp) (vs : List Int) : Comp := (c.1, vs.getD 0 c.2.1, vs.getD 1 c.2.2.1, vs.getD 2 c.2.2.2)
theorem ovC_snoc {c : Comp} {vs : List Int} {v : Int} (h : vs.length < 3) : (compC (ovC c vs)).set (1 + vs.length) (.int .i32 v) = compC (ovC c (vs ++ [v])) := by
  rcases vs with _ | ⟨a, _ | ⟨b, _ | ⟨d, r⟩⟩⟩
  · rfl
  · rfl
  · rfl
  · simp at h; omega
theorem ovC_all {c : Comp} (h : checkM c = 0) {vs : List Int} (hl : vs.length = cntM c.1) : ovC c vs = mkC c.1 vs := by
  have z := fun i hi hc => fl_zero (i := i) h hi hc
  rcases vs with _ | ⟨a, _ | ⟨b, _ | ⟨d, r⟩⟩⟩
  · have a0 := z 0 (by decide) (by simp at hl; omega)
    have a1 := z 1 (by decide) (by simp at hl; omega)
    have a2 := z 2 (by decide) (by simp at hl; omega)
    show (c.1, c.2.1, c.2.2.1, c.2.2.2) = (c.1, (0 : Int), (0 : Int), (0 : Int))
    rw [show c.2.1 = 0 from a0, show c.2.2.1 = 0 from a1, show c.2.2.2 = 0 from a2]
  · have a1 := z 1 (by decide) (by simp at hl; omega)
    have a2 := z 2 (by decide) (by simp at hl; omega)
    show (c.1, a, c.2.2.1, c.2.2.2) = (c.1, a, (0 : Int), (0 : Int))
    rw [show c.2.2.1 = 0 from a1, show c.2.2.2 = 0 from a2]
  · have a2 := z 2 (by decide) (by simp at hl; omega)
    show (c.1, a, b, c.2.2.2) = (c.1, a, b, (0 : Int))
    rw [show c.2.2.2 = 0 from a2]
  · rfl
theorem spec_comp_GetStep {b : Nat} {L : List Bool} {F : Nat → Prop} (h : RD b L F w) (hF : ∀ k, F k → k < w.heap.size) {was : Comp} (hco : CompOk was) {K : Res [.agg [.int .u8, .int .i32, .int .i32, .int .i32], .sc (.int .i64)] → W R} (h0 : stepDec was L = none → ∀ e w', e ≠ 0 → RD b L F w' → Fr (fun k => k = b) w w' → K ((0, 0, 0, 0), e) Q w') (hk : ∀ c L', stepDec was L = some (c, L') → ∀ w', RD b L' F w' → Fr (fun k => k = b) w w' → K (c, 0) Q w') :
    callW Tryz.prog k_comp_GetStep [.pointer (some ⟨b, 0, none⟩), .agg ⟨compC was⟩] [.agg [.int .u8, .int .i32, .int .i32, .int .i32], .sc (.int .i64)] K Q w := by
  refine C_comp_GetStep _ was K Q w ?_
  unfold F_comp_GetStep
  have hbb := hF b h.1
  have hcn := cntM_le was.1
  refine newI fun w1 Br f1 z1 => newI fun w2 Bk f2 z2 => newI fun w3 Bx f3 z3 => ?_
  have Br := (Br.fr f2 fun h => h).fr f3 fun h => h
  have Bk := Bk.fr f3 fun h => h
  have f03 := (f1.then0 f2).then0 f3
  refine fld0 Br (i := 0) (x := some ⟨b, 0, none⟩) rfl (condF rfl (aggI Bk (x := was) rfl (spec_schema_Check fun w4 f4 => ?_)))
  have f04 := f03.then0 f4
  have Br := Br.fr f4 fun h => h
  have Bk := Bk.fr f4 fun h => h
  have Bx := Bx.fr f4 fun h => h
  have s4 := f4.size
  refine condN (fun hz => ?_) fun hz => ?_
  · refine stoAll Bx rfl rfl fun w5 B5 f5 z5 => aggI B5 (x := ((0, 0, 0, 0) : Comp)) rfl ?_
    exact h0 (by unfold stepDec; rw [if_pos hz]) _ w5 hz (RD.st.fr (RD.st.fr0 h f04) f5 fun k e e2 => by have := hF k e; omega) (f04.newer f5 fun k e => by omega).any
  have hD : stepDec was L = match readS was (List.range (cntM was.1)) L with
      | none => none
      | some (vs, r) => some (mkC was.1 vs, r) := by unfold stepDec; rw [if_neg fun h => h hz] <;> rfl
  refine fld0 Br (i := 0) (x := some ⟨b, 0, none⟩) rfl (aggI Bk (x := was) rfl ?_)
  refine C_comp_back__comp_GetStep_c1 (some ⟨b, 0, none⟩) was _ _ _ _ _ ?_
  unfold F_comp_back__comp_GetStep_c1
  have hr4 := RD.st.fr0 h f04
  obtain ⟨s, n, B, hback⟩ := hr4.back
  refine newI fun w5 Bc f5 z5 => newI fun w6 By f6 z6 => ?_
  have Bc := Bc.fr f6 fun h => h
  have f46 := f5.then0 f6
  refine ptrI (aggI (B.fr f46 fun h => h) (x := ((s, n) : Sl × Int)) rfl (newI fun w7 Bw f7 z7 => stoAll Bw rfl rfl fun w8 Bw f8 z8 => ?_))
  have f68 : Fr None w6 w8 := f7.newer f8 fun k e => by omega
  have f48 := f46.then0 f68
  have Bc := Bc.fr f68 fun h => h
  have By := By.fr f68 fun h => h
  refine fldI Bc (i := 0) (x := was.1) rfl (spec_schema_Count fun w9 f9 => ?_)
  have f49 := f48.then0 f9
  have s9 := f49.size
  have hw4 : w.heap.size ≤ w4.heap.size := f04.size
  have hFn : ∀ {x : Nat}, w.heap.size ≤ x → ∀ k, F k → ¬ k = x := fun hx k e e2 => by have := hF k e; omega
  refine forI (N := cntM was.1) (fun s : Int => s) (fun j i u => i = (j : Int) ∧ (∃ vs L', vs.length = j ∧ readS was (List.range j) L = some (vs, L') ∧ Blk u w4.heap.size 92 (compC (ovC was vs)) ∧ RD b L' F u) ∧ Fr (fun k => k = b) w4 u ∧ Blk u w5.heap.size 92 (compC (0, 0, 0, 0)) ∧ Blk u w6.heap.size 173 [.slice s.a s.n s.c, .int .i64 n] ∧ Blk u w.heap.size 60 [.pointer (some ⟨b, 0, none⟩)] ∧ Blk u w1.heap.size 92 (compC was) ∧ Blk u w2.heap.size 92 (compC (0, 0, 0, 0)))
    ⟨rfl, ⟨[], L, rfl, rfl, Bc.fr f9 fun h => h, RD.st.fr0 hr4 f49⟩, f49.any, By.fr f9 fun h => h, Bw.fr f9 fun h => h, Br.fr f49 fun h => h, Bk.fr f49 fun h => h, Bx.fr f49 fun h => h⟩ (fun j s w' h => h.1) ?_ ?_
  · rintro j i u K' hj ⟨rfl, ⟨vs, L', hvl, hrd, Bc, hr⟩, fu, By, Bw, Br, Bk, Bx⟩ - hK
    refine C_comp_GetStep_c1 _ _ _ _ _ _ ?_
    unfold F_comp_GetStep_c1
    have nb : ∀ {x : Nat}, w.heap.size ≤ x → ¬ x = b := fun hx e => by omega
    have su := fu.size
    refine ptrI (fld0 Br (i := 0) (x := some ⟨b, 0, none⟩) rfl (ptrI (aggI Bk (x := was) rfl ?_)))
    refine spec_comp_moved hr (fun k e => by have := hF k e; omega) hco (by omega) (range_le was.1 hj) (fun hg v e L2 u2 he hr2 f2 => ?_) fun v L2 hg u2 hr2 f2 => ?_
    · have hnone : stepDec was L = none := by
        rw [hD]
        have e1 : List.range (cntM was.1) = List.range j ++ (j :: List.range' (j + 1) (cntM was.1 - j - 1)) := by
          have : cntM was.1 = j + ((cntM was.1 - j - 1) + 1) := by omega
          rw [this, List.range_eq_range', List.range_eq_range', ← List.range'_append_1, Nat.zero_add, List.range'_succ]
          congr 4
          omega
        rw [e1, readS_app, hrd]
        dsimp only
        rw [readS, hg]
      refine condT (by simpa using he) ?_
      obtain ⟨cs, B2, hl⟩ := hr2.blk
      refine aggI (Bw.fr f2 (nb (by omega))) (x := ((s, n) : Sl × Int)) rfl (ptrI (stoAll B2 hl.symm rfl fun u3 B3 f3 y3 => ?_))
      have By3 := (By.fr f2 (nb (by omega))).fr f3 (nb (by omega))
      have f43 : Fr (fun k => k = b) w4 u3 := (fu.then f2).then f3
      have hr3 := hback u3 f43 B3
      have s3 := f43.size
      refine stoAll By3 rfl rfl fun u4 B4 f4 y4 => aggI B4 (x := ((0, 0, 0, 0) : Comp)) rfl ?_
      have Bx4 := (((Bx.fr f2 (nb (by omega))).fr f3 (nb (by omega))).fr f4 fun e => by omega)
      refine stoAll Bx4 rfl rfl fun u5 B5 f5 y5 => aggI B5 (x := ((0, 0, 0, 0) : Comp)) rfl ?_
      exact h0 hnone e u5 he (RD.st.fr (RD.st.fr hr3 f4 (hFn (by omega))) f5 (hFn (by omega))) (((f04.any.then f43).thenNew f4 fun k e => by omega).thenNew f5 fun k e => by omega)
    · show idxW (some (Addr.add ⟨w4.heap.size, 0, none⟩ 1)) 3 1 (j : Int) (fun x => stoL x [.int .i32 v] 0 (K' (IntKind.wrap .i64 ((j : Int) + 1)))) _ _
      refine fIdx rfl (by omega) ?_
      refine setI (i := 1 + j) (Bc.fr f2 (nb (by omega))) (by simp; omega) rfl fun u3 B3 f3 y3 => ?_
      subst hvl
      rw [ovC_snoc (by omega)] at B3
      have ne : ∀ {x : Nat}, x ≠ w4.heap.size → ¬ x = w4.heap.size := fun h => h
      refine hK _ _ ⟨wsucc hj (by omega), ⟨vs ++ [v], L2, by simp, ?_, B3, RD.st.fr hr2 f3 (hFn (by omega))⟩, (fu.then f2).thenNew f3 fun k e => by omega, (By.fr f2 (nb (by omega))).fr f3 (ne (by omega)), (Bw.fr f2 (nb (by omega))).fr f3 (ne (by omega)), (Br.fr f2 (nb (by omega))).fr f3 (ne (by omega)), (Bk.fr f2 (nb (by omega))).fr f3 (ne (by omega)), (Bx.fr f2 (nb (by omega))).fr f3 (ne (by omega))⟩
      rw [List.range_succ, readS_app, hrd]
      dsimp only
      rw [readS, hg]
      rfl
  · rintro i u ⟨_, ⟨vs, L', hvl, hrd, Bc, hr⟩, fu, By, Bw, Br, Bk, Bx⟩
    rw [hrd] at hD
    dsimp only at hD
    rw [ovC_all hz hvl] at Bc
    refine aggI Bc (x := mkC was.1 vs) rfl (stoAll By rfl rfl fun u2 B2 f2 y2 => aggI B2 (x := mkC was.1 vs) rfl ?_)
    have Bx2 := Bx.fr f2 fun e => by omega
    refine stoAll Bx2 rfl rfl fun u3 B3 f3 y3 => aggI B3 (x := mkC was.1 vs) rfl ?_
    exact hk _ L' hD u3 (RD.st.fr (RD.st.fr hr f2 (hFn (by omega))) f3 (hFn (by omega))) (((f04.any.then fu).thenNew f2 fun k e => by omega).thenNew f3 fun k e => by omega)
end Go.Proofs.YtchhhjlpnecjkaaGreat
namespace Go.Proofs.YtchhhjlpnecjkaaGreat
open Go Go.RowKit Go.Proofs.YtchhhjlpnecjkaaGreat.Den
variable {R : Type} {Q : R → World → Prop} {w : World}
theorem getN_len {n : Nat} {L : List Bool} {v : Nat} {r : List Bool} (h : getN n L = some (v, r)) : r.length + n = L.length := by
  unfold getN at h
  split at h
  · cases h
    rw [List.length_drop]
    omega
  · cases h
theorem varD_len : ∀ (k i v : Nat) {L : List Bool} {x : Nat} {r : List Bool}, varD k i v L = some (x, r) → r.length + 5 ≤ L.length
  | 0, _, _, _, _, _, h => by cases h
  | k + 1, i, v, L, x, r, h => by
    rw [varD] at h
    cases hg : getN 5 L with
    | none => rw [hg] at h; cases h
    | some p =>
      obtain ⟨y, r1⟩ := p
      rw [hg] at h
      have hl := getN_len hg
      dsimp only at h
      split at h
      · split at h
        · cases h; omega
        · cases h
      · have := varD_len k _ _ h
        omega
theorem idDec_len {last : Int} {L : List Bool} {id : Int} {r : List Bool} (h : idDec last L = some (id, r)) : r.length + 5 ≤ L.length := by
  unfold idDec at h
  cases hg : getVar L with
  | none => rw [hg] at h; cases h
  | some p =>
    obtain ⟨v, r1⟩ := p
    rw [hg] at h
    dsimp only at h
    split at h
    · cases h
    · cases h
      exact varD_len _ _ _ hg
theorem idDec_ok {last : Int} {L : List Bool} {id : Int} {r : List Bool} (h : idDec last L = some (id, r)) : IdOk id := by
  unfold idDec at h
  cases hg : getVar L with
  | none => rw [hg] at h; cases h
  | some p =>
    obtain ⟨v, r1⟩ := p
    rw [hg] at h
    dsimp only at h
    split at h
    · cases h
    · cases h
      exact ⟨by omega, by omega⟩
theorem RD.len {b : Nat} {L : List Bool} {F : Nat → Prop} (h : RD b L F w) : L.length ≤ 8388608 := by
  obtain ⟨_, s, body, n, _, _, _, h2, _, rfl⟩ := h
  rw [List.length_drop, bitsU_len]
  omega
theorem getIn_len {lo hi : Int} {L : List Bool} {v : Int} {r : List Bool} (h : getIn lo hi L = some (v, r)) : r.length ≤ L.length ∧ lo ≤ v ∧ v ≤ hi := by
  unfold getIn at h
  cases hg : getN (widthM lo hi) L with
  | none => rw [hg] at h; cases h
  | some p =>
    obtain ⟨x, r1⟩ := p
    rw [hg] at h
    have := getN_len hg
    dsimp only at h
    split at h
    · cases h
      exact ⟨by omega, by omega, by omega⟩
    · cases h
theorem readF_len (k : Int) : ∀ (is : List Nat) {L : List Bool} {vs : List Int} {r : List Bool}, readF k is L = some (vs, r) → r.length ≤ L.length ∧ vs.length = is.length ∧ ∀ (j i : Nat) (v : Int), is[j]? = some i → vs[j]? = some v → (rangeM k (i : Int)).1 ≤ v ∧ v ≤ (rangeM k (i : Int)).2.1
  | [], L, vs, r, h => by
    rw [readF] at h
    cases h
    exact ⟨Nat.le_refl _, rfl, fun j i v hj => by simp at hj⟩
  | i :: is, L, vs, r, h => by
    rw [readF] at h
    cases hg : getIn (rangeM k (i : Int)).1 (rangeM k (i : Int)).2.1 L with
    | none => rw [hg] at h; cases h
    | some p =>
      obtain ⟨v, L2⟩ := p
      rw [hg] at h
      dsimp only at h
      cases hr : readF k is L2 with
      | none => rw [hr] at h; cases h
      | some q =>
        obtain ⟨vs2, L3⟩ := q
        rw [hr] at h
        dsimp only at h
        cases h
        obtain ⟨a1, a2, a3⟩ := readF_len k is hr
        obtain ⟨b1, b2⟩ := getIn_len hg
        refine ⟨by omega, by simp [a2], fun j i' v' hj hv => ?_⟩
        rcases j with _ | j
        · simp at hj hv
          subst hj; subst hv
          exact b2
        · exact a3 j i' v' (by simpa using hj) (by simpa using hv)
theorem compD_len {k : Int} {L : List Bool} {c : Comp} {r : List Bool} (h : compD k L = some (c, r)) : r.length ≤ L.length ∧ c.1 = k := by
  unfold compD at h
  split at h
  · cases h
  · cases hr : readF k (List.range (cntM k)) L with
    | none => rw [hr] at h; cases h
    | some q =>
      obtain ⟨vs2, L3⟩ := q
      rw [hr] at h
      cases h
      exact ⟨(readF_len k _ hr).1, rfl⟩
theorem compsD_len : ∀ (ks : List Int) {L : List Bool} {cs : List Comp} {r : List Bool}, compsD ks L = some (cs, r) → r.length ≤ L.length ∧ cs.map (·.1) = ks ∧ ∀ c ∈ cs, ∃ L1 L2, compD c.1 L1 = some (c, L2)
  | [], L, cs, r, h => by
    rw [compsD] at h
    cases h
    exact ⟨Nat.le_refl _, rfl, fun c hc => by cases hc⟩
  | k :: ks, L, cs, r, h => by
    rw [compsD] at h
    cases hg : compD k L with
    | none => rw [hg] at h; cases h
    | some p =>
      obtain ⟨v, L2⟩ := p
      rw [hg] at h
      dsimp only at h
      cases hr : compsD ks L2 with
      | none => rw [hr] at h; cases h
      | some q =>
        obtain ⟨vs2, L3⟩ := q
        rw [hr] at h
        dsimp only at h
        cases h
        obtain ⟨a1, a2, a3⟩ := compsD_len ks hr
        obtain ⟨b1, b2⟩ := compD_len hg
        refine ⟨by omega, by rw [List.map_cons, a2, b2], fun c hc => ?_⟩
        rcases List.mem_cons.1 hc with rfl | hc
        · exact ⟨L, L2, by rw [b2]; exact hg⟩
        · exact a3 c hc
theorem entD_len {last : Int} {L : List Bool} {e : Ent} {r : List Bool} (h : entD last L = some (e, r)) : r.length + 10 ≤ L.length := by
  unfold entD at h
  cases h1 : idDec last L with
  | none => rw [h1] at h; cases h
  | some p =>
    obtain ⟨id, L1⟩ := p
    rw [h1] at h
    dsimp only at h
    cases h2 : getN 5 L1 with
    | none => rw [h2] at h; cases h
    | some p =>
      obtain ⟨m, L2⟩ := p
      rw [h2] at h
      dsimp only at h
      cases h3 : compsD (kindsOf m) L2 with
      | none => rw [h3] at h; cases h
      | some p =>
        obtain ⟨cs, L3⟩ := p
        rw [h3] at h
        cases h
        have a1 := idDec_len h1
        have a2 := getN_len h2
        have a3 := (compsD_len _ h3).1
        omega
theorem repD_len {β : Type} {f : Int → List Bool → Option (β × List Bool)} {id : β → Int} {q : Nat} (hf : ∀ last L b r, f last L = some (b, r) → r.length + q ≤ L.length) : ∀ (n : Nat) (last : Int) {L : List Bool} {l : List β} {r : List Bool}, repD f id n last L = some (l, r) → l.length = n ∧ r.length + q * n ≤ L.length ∧ ∀ b ∈ l, ∃ last L1 L2, f last L1 = some (b, L2)
  | 0, last, L, l, r, h => by
    rw [repD] at h
    cases h
    exact ⟨rfl, by omega, fun b hb => by cases hb⟩
  | n + 1, last, L, l, r, h => by
    rw [repD] at h
    cases h1 : f last L with
    | none => rw [h1] at h; cases h
    | some p =>
      obtain ⟨b, r1⟩ := p
      rw [h1] at h
      dsimp only at h
      cases h2 : repD f id n (id b) r1 with
      | none => rw [h2] at h; cases h
      | some p =>
        obtain ⟨bs, r2⟩ := p
        rw [h2] at h
        cases h
        obtain ⟨a1, a2, a3⟩ := repD_len hf n (id b) h2
        have a4 := hf _ _ _ _ h1
        refine ⟨by simp [a1], by rw [Nat.mul_succ]; omega, fun x hx => ?_⟩
        rcases List.mem_cons.1 hx with rfl | hx
        · exact ⟨last, L, r1, h1⟩
        · exact a3 x hx
section
variable [Pan R]
def moreD {β : Type} (done : List β) : Option (List β × List Bool) → Option (List β × List Bool)
  | none => none
  | some (bs, r) => some (done ++ bs, r)
theorem repD_more {β : Type} {f : Int → List Bool → Option (β × List Bool)} {id : β → Int} {m : Nat} {last : Int} {L L2 : List Bool} {b : β} {done : List β} (h : f last L = some (b, L2)) : moreD done (repD f id (m + 1) last L) = moreD (done ++ [b]) (repD f id m (id b) L2) := by
  rw [repD, h]
  dsimp only
  cases repD f id m (id b) L2 with
  | none => rfl
  | some p =>
    obtain ⟨bs, r⟩ := p
    show some (done ++ b :: bs, r) = some (done ++ [b] ++ bs, r)
    rw [List.append_assoc]
    rfl
theorem spec_rd_ents {b : Nat} {L : List Bool} {F : Nat → Prop} (h : RD b L F w) (hF : ∀ k, F k → k < w.heap.size) {K : Res [.sc .sl] → W R} (h0 : entsD L = none → ∀ w', Fr (fun k => k = b) w w' → Pan.pan Q giveUp w')
    (hk : ∀ l L', entsD L = some (l, L') → ∀ r raws (lab : Nat → Nat) w', Own (fun k => lab k = 2) w' 57 entT r raws → EntsR (fun k => lab k = 3) w' raws l → (∀ k, lab k ≠ 0 → w.heap.size ≤ k ∧ k < w'.heap.size) → RD b L' F w' → Fr (fun k => k = b) w w' → K r Q w') :
    callP Tryz.prog k_packet_reader_ents [.agg ⟨[.pointer (some ⟨b, 0, none⟩)]⟩] [.sc .sl] K Q w := by
  refine C_packet_reader_ents _ K Q w ?_
  unfold F_packet_reader_ents
  have hbb := hF b h.1
  refine newI fun w1 Br f1 z1 => newI fun w2 Bl f2 z2 => stoAll Bl rfl rfl fun w3 Bl f3 z3 => ?_
  have f02 := f1.then0 f2
  have f03 : Fr None w w3 := f02.newer f3 fun k e => by omega
  have Br := (Br.fr f2 fun h => h).fr f3 fun e => by omega
  refine aggI Br (x := some ⟨b, 0, none⟩) rfl (spec_rd_count (RD.st.fr0 h f03) (fun hg w4 f4 => ?_) fun n L1 hg hn w4 hr4 f4 => ?_)
  · exact h0 (by unfold entsD; rw [hg]) w4 (f03.any.then f4)
  have f04 := f03.any.then f4
  have nb : ∀ {x : Nat}, w.heap.size ≤ x → ¬ x = b := fun hx e => by omega
  have z4 := f4.size
  have hD : entsD L = moreD [] (repD entD (fun e : Ent => e.1) n 0 L1) := by
    unfold entsD
    rw [hg]
    dsimp only
    cases repD entD (fun e : Ent => e.1) n 0 L1 with
    | none => rfl
    | some p => rfl
  refine loopI (fun (st : Sl × Int) u => ∃ (lab : Nat → Nat) (raws : List (Int × Sl)) (done : List Ent) (L' : List Bool) (last : Int) (m : Nat), st.2 = ((m : Nat) : Int) ∧ m < 18446744073709551616 ∧ Own (fun k => lab k = 2) u 57 entT st.1 raws ∧ EntsR (fun k => lab k = 3) u raws done ∧ (∀ k, lab k ≠ 0 → w.heap.size ≤ k ∧ k < u.heap.size) ∧ lab w.heap.size = 0 ∧ lab w1.heap.size = 0 ∧
      Blk u w.heap.size 62 [.pointer (some ⟨b, 0, none⟩)] ∧ Blk u w1.heap.size 54 [.int .u32 last] ∧ RD b L' F u ∧ Fr (fun k => k = b) w u ∧ entsD L = moreD done (repD entD (fun e : Ent => e.1) m last L') ∧ done.length + L'.length ≤ 8388608)
    (fun st _ => st.2.toNat) ⟨fun _ => 0, [], [], L1, 0, n, rfl, hn, Own.nil _ _ _ _, EntsR.nil _ _, fun k e => absurd rfl e, rfl, rfl, Br.fr f4 (nb (Nat.le_refl _)), Bl.fr f4 (nb (by omega)), hr4, f04, hD, by simpa using hr4.len⟩ ?_
  rintro ⟨z, c⟩ u ⟨lab, raws, done, L', last, m, hcm, hm, ho, hE, up, l1, l2, Bru, Blu, hru, fu, hI, hlen⟩
  dsimp only at hcm
  subst hcm
  have su := fu.size
  refine condD (fun hpos => ?_) fun hpos => ?_
  · have hpos : (m : Int) > 0 := hpos
    obtain ⟨m, rfl⟩ : ∃ q, m = q + 1 := ⟨m - 1, by omega⟩
    have hbl : ¬ F w1.heap.size := fun e => by have := hF _ e; omega
    refine aggI Bru (x := some ⟨b, 0, none⟩) rfl (spec_rd_id hru Blu hbl (fun hg v f => ?_) fun id L2 hg hid v1 hr1 Bl1 g1 => ?_)
    · exact h0 (by rw [hI, repD, entD, hg]; rfl) v (fu.trans f (fun _ h => h) fun x hx e => e.elim (fun e => e) fun e => by omega)
    have b1 := Blu.lt
    have b0 := Bru.lt
    have g01 : Fr (fun k => k = b) w v1 := fu.trans g1 (fun _ h => h) fun x hx e => e.elim (fun e => e) fun e => by omega
    have s1 := g1.size
    refine newI fun v2 Be g2 y2 => stoAll Be rfl rfl fun v3 Be g3 y3 => ?_
    have gd : Fr None v3 v3.drew := (Fr.refl _ _).drew
    have g13 : Fr (fun k => k = v1.heap.size) v1 v3.drew := (g2.any.then g3).then0 gd
    have nb2 : ∀ {x : Nat}, x < v1.heap.size → ¬ x = v1.heap.size := fun hx e => by omega
    have Br3 := (Bru.fr g1 fun e => e.elim (nb (Nat.le_refl _)) fun e => by omega).fr g13 (nb2 (by omega))
    have Bl3 := Bl1.fr g13 (nb2 (by omega))
    have Be := Be.fr gd fun h => h
    have hFv : ∀ k, F k → ¬ k = v1.heap.size := fun k e e2 => by have := hF k e; omega
    have hr3 := RD.st.fr hr1 g13 hFv
    have g03 : Fr (fun k => k = b) w v3.drew := g01.thenNew g13 fun k e => by omega
    have y3d : v3.drew.heap.size = v1.heap.size + 1 := by show v3.heap.size = _; omega
    refine aggI Br3 (x := some ⟨b, 0, none⟩) rfl (aggI Br3 (x := some ⟨b, 0, none⟩) rfl (spec_rd_plain hr3 (n := 5) (by decide) (fun hg2 v f => ?_) fun mk L3 hg2 hmk v4 hr4 g4 => ?_))
    · exact h0 (by rw [hI, repD, entD, hg]; dsimp only; rw [hg2]; rfl) v (g03.then f)
    have s4 := g4.size
    have Br4 := Br3.fr g4 (nb (Nat.le_refl _))
    have Bl4 := Bl3.fr g4 (nb (by omega))
    have Be4 := Be.fr g4 (nb (by omega))
    refine andI (fun j u hj => (Br4.cells 0 [.pointer (some ⟨b, 0, none⟩)] (fun j u hj => by simpa using hj)) j u hj) ?_
    refine spec_rd_comps hr4 (fun k e => by have := hF k e; omega) hmk (fun hg3 v f => ?_) fun cs L4 hg3 r v5 o5 hr5 g5 => ?_
    · exact h0 (by rw [hI, repD, entD, hg]; dsimp only; rw [hg2]; dsimp only; rw [hg3]; rfl) v ((g03.then g4).then f)
    have s5 := g5.size
    have hent : entD last L' = some ((id, cs), L4) := by
      unfold entD
      rw [hg]
      dsimp only
      rw [hg2]
      dsimp only
      rw [hg3]
    have Be5 := Be4.fr g5 (nb (by omega))
    rw [add_lit]
    refine setI (i := 1) Be5 (by simp) rfl fun v6 Be6 g6 y6 => aggI Be6 (x := ((id, r) : Int × Sl)) rfl ?_
    obtain ⟨lab1, hlab1⟩ : ∃ lab1, lab1 = relab lab (v1.heap.size + 1) v5.heap.size 3 := ⟨_, rfl⟩
    have old : ∀ k, k < u.heap.size → lab1 k = lab k := fun k hk => by rw [hlab1, relab_lt (by omega)]
    have gu6 : Fr (fun k => k = b ∨ k = w1.heap.size) u v6 := ((((g1.thenNew g13 fun k e => by omega).then (g4.sub fun k e => .inl e)).then (g5.sub fun k e => .inl e)).thenNew g6 fun k e => by omega)
    have ndis : ∀ k, lab k ≠ 0 → ¬ (k = b ∨ k = w1.heap.size) := fun k e => by
      rintro (rfl | rfl)
      · have := up _ e; omega
      · exact e l2
    have o6 : Own (fun k => lab1 k = 2) v6 57 entT z raws := Own.st ho gu6 fun k hk e => ⟨ndis k (by omega), by rw [old k hk]; exact e⟩
    have E6 : EntsR (fun k => lab1 k = 3) v6 raws done := ⟨hE.len, fun i a b' ha hb' => ⟨(hE.at_ i a b' ha hb').1, SlT.st (hE.at_ i a b' ha hb').2 gu6 fun k hk e => ⟨ndis k (by omega), by rw [old k hk]; exact e⟩⟩⟩
    have S6 : SlT (fun k => lab1 k = 3) v6 compT r cs := SlT.st o5.sl g6 fun k hk e => by
      have e : v4.heap.size ≤ k := e
      exact ⟨by omega, by rw [hlab1, relab_new (by omega) hk]⟩
    have hEl := hE.len
    have hdl : raws.length ≤ 8388608 := by omega
    refine appLab (x := ((id, r) : Int × Sl)) ents_ty rfl o6 (by omega) (by omega) fun z2 v7 o7 g7 => ?_
    have s7 := g7.size
    have up1 : ∀ k, lab1 k ≠ 0 → w.heap.size ≤ k ∧ k < v6.heap.size := fun k e => by
      rw [hlab1] at e
      rcases relab_ne e with e | e
      · have := up k e.1; omega
      · omega
    have n2 : ∀ {x : Nat}, lab1 x = 0 → ¬ lab1 x = 2 := fun e e2 => by omega
    have l11 : lab1 w.heap.size = 0 := by rw [old _ b0]; exact l1
    have l12 : lab1 w1.heap.size = 0 := by rw [old _ b1]; exact l2
    refine ⟨⟨relab lab1 v6.heap.size v7.heap.size 2, raws ++ [(id, r)], done ++ [(id, cs)], L4, id, m, by dsimp only; rw [wU64 (by omega)]; omega, by omega, o7, ?_, ?_, ?_, ?_, ?_, ?_, ?_, ?_, ?_, ?_⟩, ?_⟩
    · refine EntsR.snoc ⟨E6.len, fun i a b' ha hb' => ⟨(E6.at_ i a b' ha hb').1, St.other (A := fun F w => SlT F w compT a.2 b'.2) (c := 2) SlT.st (E6.at_ i a b' ha hb').2 g7 (by decide)⟩⟩ rfl ?_
      exact St.other (A := fun F w => SlT F w compT r cs) (c := 2) SlT.st S6 g7 (by decide)
    · intro k e
      rcases relab_ne e with e | e
      · have := up1 k e.1; omega
      · omega
    · rw [relab_lt (by omega)]; exact l11
    · rw [relab_lt (by omega)]; exact l12
    · exact ((Br4.fr g5 (nb (Nat.le_refl _))).fr g6 (nb2 (by omega))).fr g7 (n2 l11)
    · exact ((Bl4.fr g5 (nb (by omega))).fr g6 (nb2 (by omega))).fr g7 (n2 l12)
    · refine RD.st.fr (RD.st.fr hr5 g6 hFv) g7 fun k e e2 => ?_
      have := up1 k (by omega)
      have := hF k e
      omega
    · exact (((g03.then g4).then g5).thenNew g6 fun k e => by omega).thenNew g7 fun k e => (up1 k (by omega)).1
    · rw [hI]; exact repD_more hent
    · have := entD_len hent
      simp only [List.length_append, List.length_singleton]
      omega
    · show (IntKind.wrap .u64 (((m + 1 : Nat) : Int) - 1)).toNat < ((m + 1 : Nat) : Int).toNat
      rw [wU64 (by omega)]
      omega
  · have hz : m = 0 := by
      have : ¬ ((m : Nat) : Int) > 0 := hpos
      omega
    subst hz
    have hI : entsD L = some (done, L') := by rw [hI]; show some (done ++ [], L') = _; rw [List.append_nil]
    exact hk done L' hI z raws lab u ho hE up hru fu
end
end Go.Proofs.YtchhhjlpnecjkaaGreat
namespace Go.Proofs.YtchhhjlpnecjkaaGreat
open Go Go.RowKit Go.Proofs.YtchhhjlpnecjkaaGreat.Den
variable {R : Type} {Q : R → World → Prop} {w : World}
section
variable {n bx : Nat} {lab : Nat → Nat} {r : DRaw} {rc : List (Int × Sl)} {rd : List ChgRaw} {gone : List Int} {come : List Ent} {chg : List Chg}
theorem DltI.step (h : DltI n bx lab r rc rd gone come chg w) (hn : n ≤ w.heap.size) {S : Nat → Prop} {w' : World} (f : Fr S w w') (hs : ∀ k, lab k ≠ 0 → ¬ S k) {n1 : Nat} (hn1 : w.heap.size ≤ n1) (c : Nat) : DltI n bx (relab lab n1 w'.heap.size c) r rc rd gone come chg w' := by
  have hsz := f.size
  have k1 : ∀ {A : OB} (_ : St A) {i : Nat}, i ≠ 0 → A (fun k => lab k = i) w → A (fun k => relab lab n1 w'.heap.size c k = i) w' := fun hA i hi a => hA a f fun k hk e => ⟨hs k (by omega), by show relab _ _ _ _ _ = _; rw [relab_lt (by omega)]; exact e⟩
  have hb := h.blk.lt
  refine ⟨h.blk.fr f (hs bx (by rw [h.lb]; decide)), by rw [relab_lt (by omega)]; exact h.lb, k1 (A := fun F w => Own F w 54 idT r.1 gone) Own.st (by decide) h.og, k1 (A := fun F w => Own F w 57 entT r.2.1 rc) Own.st (by decide) h.oc,
    ⟨h.ec.len, fun i a b ha hb => ⟨(h.ec.at_ i a b ha hb).1, k1 (A := fun F w => SlT F w compT a.2 b.2) SlT.st (by decide) (h.ec.at_ i a b ha hb).2⟩⟩, k1 (A := fun F w => Own F w 86 chgT r.2.2 rd) Own.st (by decide) h.od,
    h.ed.imp fun a b hab => k1 (A := fun F w => chgR F w a b) (chgR_st a b) (by decide) hab, fun k e => ?_⟩
  rcases relab_ne e with e | e
  · have := h.up k e.1; omega
  · omega
theorem DltI.keep (h : DltI n bx lab r rc rd gone come chg w) (hn : n ≤ w.heap.size) {S : Nat → Prop} {w' : World} (f : Fr S w w') (hs : ∀ k, lab k ≠ 0 → ¬ S k) : DltI n bx lab r rc rd gone come chg w' := by
  have := h.step hn f hs (Nat.le_refl _) 0
  have e : relab lab w.heap.size w'.heap.size 0 = lab := funext fun k => by
    unfold relab
    split
    · rfl
    · have : lab k = 0 := Classical.byContradiction fun hk => by have := h.up k hk; omega
      rw [this]
      split <;> rfl
  rwa [e] at this
end
theorem stepDec_len {was c : Comp} {L r : List Bool} (h : stepDec was L = some (c, r)) : r.length ≤ L.length ∧ c.1 = was.1 := by
  have mv : ∀ {i : Nat} {L : List Bool} {v : Int} {r : List Bool}, movedD was i L = some (v, r) → r.length ≤ L.length := by
    intro i L v r h
    unfold movedD at h
    cases h1 : getN 1 L with
    | none => rw [h1] at h; cases h
    | some p =>
      obtain ⟨b, L1⟩ := p
      rw [h1] at h
      have a1 := getN_len h1
      dsimp only at h
      split at h
      · cases h; omega
      · cases h2 : getN 1 L1 with
        | none => rw [h2] at h; cases h
        | some p =>
          obtain ⟨b2, L2⟩ := p
          rw [h2] at h
          have a2 := getN_len h2
          dsimp only at h
          split at h
          · cases h3 : getIn (rangeM was.1 (i : Int)).1 (rangeM was.1 (i : Int)).2.1 L2 with
            | none => rw [h3] at h; cases h
            | some p =>
              obtain ⟨n, L3⟩ := p
              rw [h3] at h
              have a3 := (getIn_len h3).1
              dsimp only at h
              split at h
              · cases h
              · cases h; omega
          · cases h3 : getN 4 L2 with
            | none => rw [h3] at h; cases h
            | some p =>
              obtain ⟨n, L3⟩ := p
              rw [h3] at h
              have a3 := getN_len h3
              dsimp only at h
              split at h
              · cases h
              · cases h; omega
  have rs : ∀ (is : List Nat) {L : List Bool} {vs : List Int} {r : List Bool}, readS was is L = some (vs, r) → r.length ≤ L.length := by
    intro is
    induction is with
    | nil => intro L vs r h; rw [readS] at h; cases h; omega
    | cons i is ih =>
      intro L vs r h
      rw [readS] at h
      cases h1 : movedD was i L with
      | none => rw [h1] at h; cases h
      | some p =>
        obtain ⟨v, L2⟩ := p
        rw [h1] at h
        dsimp only at h
        cases h2 : readS was is L2 with
        | none => rw [h2] at h; cases h
        | some q =>
          obtain ⟨vs2, L3⟩ := q
          rw [h2] at h
          cases h
          have := mv h1
          have := ih h2
          omega
  unfold stepDec at h
  split at h
  · cases h
  · cases hr : readS was (List.range (cntM was.1)) L with
    | none => rw [hr] at h; cases h
    | some q =>
      obtain ⟨vs2, L3⟩ := q
      rw [hr] at h
      cases h
      exact ⟨rs _ hr, rfl⟩
theorem setsD_len (was : List Ent) (id : Int) : ∀ (ks : List Int) {L : List Bool} {cs : List Comp} {r : List Bool}, setsD was id ks L = some (cs, r) → r.length ≤ L.length ∧ cs.map (·.1) = ks ∧ ∀ c ∈ cs, ∃ L1 L2, stepDec (oldM was id c.1) L1 = some (c, L2)
  | [], L, cs, r, h => by
    rw [setsD] at h
    cases h
    exact ⟨Nat.le_refl _, rfl, fun c hc => by cases hc⟩
  | k :: ks, L, cs, r, h => by
    rw [setsD] at h
    split at h
    · cases h
    · rename_i hk
      have hk : (oldM was id k).1 = k := Classical.byContradiction hk
      cases hg : stepDec (oldM was id k) L with
      | none => rw [hg] at h; cases h
      | some p =>
        obtain ⟨v, L2⟩ := p
        rw [hg] at h
        dsimp only at h
        cases hr : setsD was id ks L2 with
        | none => rw [hr] at h; cases h
        | some q =>
          obtain ⟨vs2, L3⟩ := q
          rw [hr] at h
          dsimp only at h
          cases h
          obtain ⟨a1, a2, a3⟩ := setsD_len was id ks hr
          obtain ⟨b1, b2⟩ := stepDec_len hg
          refine ⟨by omega, by rw [List.map_cons, a2, b2, hk], fun c hc => ?_⟩
          rcases List.mem_cons.1 hc with rfl | hc
          · exact ⟨L, L2, by rw [b2, hk]; exact hg⟩
          · exact a3 c hc
theorem chgD_len {was : List Ent} {last : Int} {L : List Bool} {d : Chg} {r : List Bool} (h : chgD was last L = some (d, r)) : r.length + 20 ≤ L.length := by
  unfold chgD at h
  cases h1 : idDec last L with
  | none => rw [h1] at h; cases h
  | some p =>
    obtain ⟨id, L1⟩ := p
    rw [h1] at h
    dsimp only at h
    cases h2 : getN 5 L1 with
    | none => rw [h2] at h; cases h
    | some p =>
      obtain ⟨lost, L2⟩ := p
      rw [h2] at h
      dsimp only at h
      cases h3 : getN 5 L2 with
      | none => rw [h3] at h; cases h
      | some p =>
        obtain ⟨fr, L3⟩ := p
        rw [h3] at h
        dsimp only at h
        cases h4 : getN 5 L3 with
        | none => rw [h4] at h; cases h
        | some p =>
          obtain ⟨st, L4⟩ := p
          rw [h4] at h
          dsimp only at h
          cases h5 : compsD (kindsOf fr) L4 with
          | none => rw [h5] at h; cases h
          | some p =>
            obtain ⟨ns, L5⟩ := p
            rw [h5] at h
            dsimp only at h
            cases h6 : setsD was id (kindsOf st) L5 with
            | none => rw [h6] at h; cases h
            | some p =>
              obtain ⟨ss, L6⟩ := p
              rw [h6] at h
              cases h
              have a1 := idDec_len h1
              have a2 := getN_len h2
              have a3 := getN_len h3
              have a4 := getN_len h4
              have a5 := (compsD_len _ h5).1
              have a6 := (setsD_len _ _ _ h6).1
              omega
theorem spec_rd_delta [Pan R] {b : Nat} {L : List Bool} {F : Nat → Prop} (h : RD b L F w) (hF : ∀ k, F k → k < w.heap.size) {okw : Nat → Prop} {sw : Sl} {raws : List (Int × Sl)} {was : List Ent} (hS : SlT okw w entT sw raws) (hE : EntsR okw w raws was) (hr : was.Pairwise fun a b => a.1 < b.1) (hm : was.length ≤ 1048576) (hL : ∀ e ∈ was, EntFit e) (hd : ∀ k, okw k → k ≠ b) {K : Res [.agg [.sl, .sl, .sl]] → W R}
    (h0 : deltaD was L = none → ∀ w', Fr (fun k => k = b) w w' → Pan.pan Q giveUp w') (hk : ∀ d L', deltaD was L = some (d, L') → ∀ r w', DltR (Up w.heap.size) w' r d.1 d.2.1 d.2.2 → RD b L' F w' → Fr (fun k => k = b) w w' → K r Q w') :
    callP Tryz.prog k_packet_reader_delta [.agg ⟨[.pointer (some ⟨b, 0, none⟩)]⟩, .slice sw.a sw.n sw.c] [.agg [.sl, .sl, .sl]] K Q w := by
  refine C_packet_reader_delta _ sw K Q w ?_
  unfold F_packet_reader_delta
  have hbb := hF b h.1
  have nb : ∀ {x : Nat}, w.heap.size ≤ x → ¬ x = b := fun hx e => by omega
  refine newI fun w1 Br f1 z1 => newI fun w2 Bo f2 z2 => newI fun w3 Bx f3 z3 => newI fun w4 Bl f4 z4 => stoAll Bl rfl rfl fun w5 Bl f5 z5 => ?_
  have g14 : Fr None w1 w5 := ((f2.then0 f3).then0 f4).newer f5 fun k e => by omega
  have g24 : Fr None w2 w5 := (f3.then0 f4).newer f5 fun k e => by omega
  have g34 : Fr None w3 w5 := f4.newer f5 fun k e => by omega
  have g05 := f1.then0 g14
  have Br := Br.fr g14 fun h => h
  have Bo := Bo.fr g24 fun h => h
  have Bx := Bx.fr g34 fun h => h
  have hn0 : goneD L = none → deltaD was L = none := fun e => by unfold deltaD; rw [e]
  refine aggI Br (x := some ⟨b, 0, none⟩) rfl (spec_rd_count (RD.st.fr0 h g05) (fun hg w6 f6 => ?_) fun n1 L1 hg hn1 w6 hr6 f6 => ?_)
  · exact h0 (hn0 (by unfold goneD; rw [hg])) w6 (g05.any.then f6)
  have hG : goneD L = moreD [] (repD idDec (fun i : Int => i) n1 0 L1) := by
    unfold goneD
    rw [hg]
    dsimp only
    cases repD idDec (fun i : Int => i) n1 0 L1 with
    | none => rfl
    | some p => rfl
  have f06 := g05.any.then f6
  have s6 := f6.size
  refine loopI (fun (st : Int) u => ∃ (lab : Nat → Nat) (r : DRaw) (gone : List Int) (L' : List Bool) (last : Int) (m : Nat), st = ((m : Nat) : Int) ∧ m < 18446744073709551616 ∧ DltI w2.heap.size w2.heap.size lab r [] [] gone [] [] u ∧ lab w3.heap.size = 0 ∧
      Blk u w.heap.size 62 [.pointer (some ⟨b, 0, none⟩)] ∧ Blk u w1.heap.size 80 [.slice none 0 0, .slice none 0 0, .slice none 0 0] ∧ Blk u w3.heap.size 54 [.int .u32 last] ∧ RD b L' F u ∧ Fr (fun k => k = b) w u ∧ goneD L = moreD gone (repD idDec (fun i : Int => i) m last L') ∧ 5 * gone.length + L'.length ≤ 8388608)
    (fun st _ => st.toNat) ⟨fun k => if k = w2.heap.size then 6 else 0, (⟨none, 0, 0⟩, ⟨none, 0, 0⟩, ⟨none, 0, 0⟩), [], L1, 0, n1, rfl, hn1, ⟨Bx.fr f6 (nb (by omega)), by simp, Own.nil _ _ _ _, Own.nil _ _ _ _, EntsR.nil _ _, Own.nil _ _ _ _, All2.nil _, fun k e => by
      by_cases hkb : k = w2.heap.size
      · omega
      · exact absurd (if_neg hkb) e⟩, if_neg (by omega), Br.fr f6 (nb (Nat.le_refl _)), Bo.fr f6 (nb (by omega)), Bl.fr f6 (nb (by omega)), hr6, f06, hG, by simpa using hr6.len⟩ ?_
  rintro st u ⟨lab, r, gone, L', last, m, rfl, hmm, D, l3, Bru, Bou, Blu, hru, fu, hI, hlen⟩
  have su := fu.size
  have blu := Blu.lt
  have bxu := D.blk.lt
  have hbl : ¬ F w3.heap.size := fun e => by have := hF _ e; omega
  have ndis : ∀ k, lab k ≠ 0 → ¬ (k = b ∨ k = w3.heap.size) := fun k e => by
    rintro (rfl | rfl)
    · have := D.up _ e; omega
    · exact e l3
  refine condD (fun hpos => ?_) fun hpos => ?_
  · have hpos : (m : Int) > 0 := hpos
    obtain ⟨m, rfl⟩ : ∃ q, m = q + 1 := ⟨m - 1, by omega⟩
    have fd : Fr None u u.drew := (Fr.refl _ _).drew
    have sd : u.drew.heap.size = u.heap.size := rfl
    refine fldI (D.blk.fr fd fun h => h) (i := 0) (x := r.1) rfl (aggI (Bru.fr fd fun h => h) (x := some ⟨b, 0, none⟩) rfl (spec_rd_id (RD.st.fr0 hru fd) (Blu.fr fd fun h => h) hbl (fun hg v f => ?_) fun id L2 hg hid v1 hr1 Bl1 g1 => ?_))
    · exact h0 (hn0 (by rw [hI, repD, hg]; rfl)) v ((fu.then0 fd).trans f (fun _ h => h) fun x hx e => e.elim (fun e => e) fun e => by omega)
    have g1' : Fr (fun k => k = b ∨ k = w3.heap.size) u v1 := fd.any.then g1
    have D1 := D.keep (by omega) g1' ndis
    have s1 := g1'.size
    refine andI (D1.blk.rd (s := .sl) (i := 0) (x := r.1) rfl) (D1.addGone (by omega) (by omega) fun lab' r' v2 D2 g2 hl => ?_)
    have s2 := g2.size
    have bru := Bru.lt
    have bou := Bou.lt
    have nl : ∀ {x : Nat}, x < w2.heap.size → ¬ lab x ≠ 0 := fun hx e => by have := D.up _ e; omega
    refine ⟨⟨lab', r', gone ++ [id], L2, id, m, by rw [wU64 (by omega)]; omega, by omega, D2, by rw [hl.1 _ (by omega)]; exact l3, (Bru.fr g1' fun e => e.elim (nb (Nat.le_refl _)) fun e => by omega).fr hl.2 (nl (by omega)), (Bou.fr g1' fun e => e.elim (nb (by omega)) fun e => by omega).fr hl.2 (nl (by omega)),
      Bl1.fr hl.2 fun e => e l3, RD.st.fr hr1 g2 fun k e (e2 : w2.heap.size ≤ k) => by have := hF k e; omega, (fu.trans g1' (fun _ h => h) fun x hx e => e.elim (fun e => e) fun e => by omega).thenNew g2 fun k (e : w2.heap.size ≤ k) => by omega, ?_, ?_⟩, ?_⟩
    · rw [hI]; exact repD_more hg
    · have := idDec_len hg
      simp only [List.length_append, List.length_singleton]
      omega
    · show (IntKind.wrap .u64 (((m + 1 : Nat) : Int) - 1)).toNat < ((m + 1 : Nat) : Int).toNat
      rw [wU64 (by omega)]
      omega
  have hz : m = 0 := by
    have : ¬ ((m : Nat) : Int) > 0 := hpos
    omega
  subst hz
  have hI : goneD L = some (gone, L') := by rw [hI]; show some (gone ++ [], L') = _; rw [List.append_nil]
  have hD2 : deltaD was L = match entsD L' with
      | none => none
      | some (c, L) => match chgsD was L with
        | none => none
        | some (d, L) => some ((gone, c, d), L) := by unfold deltaD; rw [hI] <;> rfl
  refine aggI Bru (x := some ⟨b, 0, none⟩) rfl (spec_rd_ents hru (fun k e => by have := hF k e; omega) (fun hg v f => h0 (by rw [hD2, hg]) v (fu.then f)) fun come L2 hg rc' rcs labc u1 oc ec upc hr1 g1 => ?_)
  rw [hg] at hD2
  dsimp only at hD2
  have s1 := g1.size
  obtain ⟨lab2, hlab2⟩ : ∃ lab2 : Nat → Nat, lab2 = fun k => if k < u.heap.size then lab k else labc k := ⟨_, rfl⟩
  have lo : ∀ k, k < u.heap.size → lab2 k = lab k := fun k hk => by rw [hlab2]; exact if_pos hk
  have hi : ∀ k, labc k ≠ 0 → lab2 k = labc k := fun k e => by rw [hlab2]; exact if_neg (by have := upc k e; omega)
  have up2 : ∀ k, lab2 k ≠ 0 → w2.heap.size ≤ k ∧ k < u1.heap.size := fun k e => by
    by_cases hk : k < u.heap.size
    · rw [lo k hk] at e
      have := D.up k e
      omega
    · rw [hlab2] at e
      have := upc k (by simpa [hk] using e)
      omega
  have nb1 : ∀ k, lab k ≠ 0 → ¬ k = b := fun k e e2 => ndis k e (.inl e2)
  rw [add_lit]
  refine setI (i := 1) (D.blk.fr g1 (nb (by omega))) (by simp) rfl fun u2 Bx2 f2' y2 => ?_
  have D2 : DltI w2.heap.size w2.heap.size lab2 (r.1, rc', r.2.2) rcs [] gone come [] u2 := DltI.turned (w := u1) (Own.st D.og g1 fun k hk e => ⟨nb1 k (by omega), by rw [lo k hk]; exact e⟩) (oc.mono fun k _ e => by show lab2 k = 2; rw [hi k (by omega)]; exact e) (ec.mono fun k _ e => by show lab2 k = 3; rw [hi k (by omega)]; exact e)
    (Own.st D.od g1 fun k hk e => ⟨nb1 k (by omega), by rw [lo k hk]; exact e⟩) (All2.nil _) (by rw [lo _ bxu]; exact D.lb) up2 Bx2 f2'
  have l23 : lab2 w3.heap.size = 0 := by rw [lo _ blu]; exact l3
  have bru := Bru.lt
  have bou := Bou.lt
  have nbx : ∀ {x : Nat}, x ≠ w2.heap.size → ¬ x = w2.heap.size := fun h => h
  have Bl2 := (Blu.fr g1 (nb (by omega))).fr f2' (nbx (by omega))
  refine stoAll Bl2 rfl rfl fun u3 Bl3 f3' y3 => ?_
  have hFn : ∀ {x : Nat}, w.heap.size ≤ x → ∀ k, F k → ¬ k = x := fun hx k e e2 => by have := hF k e; omega
  have hr3 := RD.st.fr (RD.st.fr hr1 f2' (hFn (by omega))) f3' (hFn (by omega))
  have D3 := D2.keep (by omega) f3' fun k e e2 => e (e2 ▸ l23)
  have fu3 : Fr (fun k => k = b) w u3 := ((fu.then g1).thenNew f2' fun k e => by omega).thenNew f3' fun k e => by omega
  have nb3 : ∀ {x : Nat}, x ≠ w3.heap.size → ¬ x = w3.heap.size := fun h => h
  have Br3 := ((Bru.fr g1 (nb (Nat.le_refl _))).fr f2' (nbx (by omega))).fr f3' (nb3 (by omega))
  have Bo3 := ((Bou.fr g1 (nb (by omega))).fr f2' (nbx (by omega))).fr f3' (nb3 (by omega))
  clear Bl2
  refine aggI Br3 (x := some ⟨b, 0, none⟩) rfl (spec_rd_count hr3 (fun hg v f => h0 (by rw [hD2, chgsD, hg]) v (fu3.then f)) fun n3 L3 hg3 hn3 u4 hr4 g4 => ?_)
  have hC : chgsD was L2 = moreD [] (repD (chgD was) (fun d : Chg => d.1) n3 0 L3) := by
    unfold chgsD
    rw [hg3]
    dsimp only
    cases repD (chgD was) (fun d : Chg => d.1) n3 0 L3 with
    | none => rfl
    | some p => rfl
  have hn2 : chgsD was L2 = none → deltaD was L = none := fun e => by rw [hD2, e]
  have s4 := g4.size
  refine loopI (fun (st : Int) u => ∃ (lab : Nat → Nat) (r : DRaw) (rd : List ChgRaw) (chg : List Chg) (L' : List Bool) (last : Int) (m : Nat), st = ((m : Nat) : Int) ∧ m < 18446744073709551616 ∧ DltI w2.heap.size w2.heap.size lab r rcs rd gone come chg u ∧ lab w3.heap.size = 0 ∧
      Blk u w.heap.size 62 [.pointer (some ⟨b, 0, none⟩)] ∧ Blk u w1.heap.size 80 [.slice none 0 0, .slice none 0 0, .slice none 0 0] ∧ Blk u w3.heap.size 54 [.int .u32 last] ∧ RD b L' F u ∧ Fr (fun k => k = b) w u ∧ chgsD was L2 = moreD chg (repD (chgD was) (fun d : Chg => d.1) m last L') ∧ 20 * chg.length + L'.length ≤ 8388608)
    (fun st _ => st.toNat) ⟨lab2, _, [], [], L3, 0, n3, rfl, hn3, D3.keep (by omega) g4 (fun k e e2 => by have := up2 k e; omega), l23, Br3.fr g4 (nb (Nat.le_refl _)), Bo3.fr g4 (nb (by omega)), Bl3.fr g4 (nb (by omega)), hr4, fu3.then g4, hC, by simpa using hr4.len⟩ ?_
  clear hr4 g4 hC hr3 D3 D2 Br3 Bo3 Bl3 hr1 ec oc g1 f2' f3' y2 y3 upc hlab2 up2 lo hi nb1 hpos D ndis hru Bru Bou Blu fu3 fu bru bou blu bxu su hlen hI s1
  rintro st u ⟨lab, r, rd, chg, L', last, m, rfl, hmm, D, l3, Bru, Bou, Blu, hru, fu, hI, hlen⟩
  have su := fu.size
  have blu := Blu.lt
  have bxu := D.blk.lt
  have bru := Bru.lt
  have bou := Bou.lt
  have ndis : ∀ k, lab k ≠ 0 → ¬ (k = b ∨ k = w3.heap.size) := fun k e => by
    rintro (rfl | rfl)
    · have := D.up _ e; omega
    · exact e l3
  refine condD (fun hpos => ?_) fun hpos => ?_
  rotate_left
  · have hz : m = 0 := by
      have : ¬ ((m : Nat) : Int) > 0 := hpos
      omega
    subst hz
    have hI : chgsD was L2 = some (chg, L') := by rw [hI]; show some (chg ++ [], L') = _; rw [List.append_nil]
    rw [hI] at hD2
    refine aggI D.blk (x := r) rfl (stoAll Bou rfl rfl fun u1 C1 e1 m1 => aggI C1 (x := r) rfl ?_)
    have nbr : ∀ {i : Nat}, i ≠ 0 → ∀ k, k < u.heap.size → lab k = i → ¬ k = w1.heap.size ∧ w.heap.size ≤ k := fun hi k hk e => by have := D.up k (by omega); omega
    exact hk _ _ hD2 r u1 ⟨SlT.st D.og.sl e1 (nbr (by decide)), ⟨rcs, SlT.st D.oc.sl e1 (nbr (by decide)), D.ec.len, fun i a b ha hb => ⟨(D.ec.at_ i a b ha hb).1, SlT.st (D.ec.at_ i a b ha hb).2 e1 (nbr (by decide))⟩⟩,
      ⟨rd, SlT.st D.od.sl e1 (nbr (by decide)), D.ed.imp fun a b hab => chgR_st a b hab e1 (nbr (by decide))⟩⟩ (RD.st.fr hru e1 (hFn (by omega))) (fu.thenNew e1 fun k e => by omega)
  have hpos : (m : Int) > 0 := hpos
  obtain ⟨m, rfl⟩ : ∃ q, m = q + 1 := ⟨m - 1, by omega⟩
  have bad : chgD was last L' = none → deltaD was L = none := fun e => hn2 (by rw [hI, repD, e]; rfl)
  refine aggI Bru (x := some ⟨b, 0, none⟩) rfl (spec_rd_id hru Blu hbl (fun hg v f => h0 (bad (by unfold chgD; rw [hg])) v (fu.trans f (fun _ h => h) fun x hx e => e.elim (fun e => e) fun e => by omega)) fun id M1 hg1 hid v1 hr1 Bl1 g1 => ?_)
  have s1 := g1.size
  have t1 : Fr (fun k => k = b) w v1 := fu.trans g1 (fun _ h => h) fun x hx e => e.elim (fun e => e) fun e => by omega
  have D1 := D.keep (by omega) g1 ndis
  have Br1 := Bru.fr g1 fun e => e.elim (nb (Nat.le_refl _)) fun e => by omega
  have Bo1 := Bou.fr g1 fun e => e.elim (nb (by omega)) fun e => by omega
  refine newI fun v2 Bc g2 y2 => stoAll Bc rfl rfl fun v3 Bc g3 y3 => ?_
  have g13 : Fr (fun k => k = v1.heap.size) v1 v3 := g2.any.then g3
  have nc : ∀ {x : Nat}, x < v1.heap.size → ¬ x = v1.heap.size := fun hx e => by omega
  have Br3 := Br1.fr g13 (nc (by omega))
  have hr3 := RD.st.fr hr1 g13 (hFn (by omega))
  have t3 := t1.thenNew g13 fun k e => by omega
  refine aggI Br3 (x := some ⟨b, 0, none⟩) rfl (spec_rd_plain hr3 (n := 5) (by decide) (fun hg v f => h0 (bad (by unfold chgD; rw [hg1]; dsimp only; rw [hg])) v (t3.then f)) fun lost M2 hg2 hlo v4 hr4 g4 => ?_)
  have s4 := g4.size
  have Bc4 := Bc.fr g4 (nb (by omega))
  rw [add_lit]
  refine setI (i := 1) Bc4 (by simp) rfl fun v5 Bc5 g5 y5 => ?_
  have hlo : lost < 32 := hlo
  rw [wu8 (by omega)] at Bc5
  have gd : Fr None v5 v5.drew := (Fr.refl _ _).drew
  have g35 : Fr (fun k => k = b ∨ k = v1.heap.size) v3 v5.drew := ((g4.sub fun k e => .inl e).then (g5.sub fun k e => .inr e)).then0 gd
  have nbc : ∀ {x : Nat}, w.heap.size ≤ x → x < v1.heap.size → ¬ (x = b ∨ x = v1.heap.size) := fun h1 h2 e => by omega
  have Br5 := Br3.fr g35 (nbc (Nat.le_refl _) (by omega))
  have Bc5 := Bc5.fr gd fun h => h
  have hr5 := RD.st.fr0 (RD.st.fr hr4 g5 (hFn (by omega))) gd
  have t5 : Fr (fun k => k = b) w v5.drew := ((t3.then g4).thenNew g5 fun k e => by omega).then0 gd
  refine aggI Br5 (x := some ⟨b, 0, none⟩) rfl (aggI Br5 (x := some ⟨b, 0, none⟩) rfl (spec_rd_plain hr5 (n := 5) (by decide) (fun hg v f => h0 (bad (by unfold chgD; rw [hg1]; dsimp only; rw [hg2]; dsimp only; rw [hg])) v (t5.then f)) fun fresh M3 hg3 hfr v6 hr6 g6 => ?_))
  have y5d : v5.drew.heap.size = v5.heap.size := rfl
  have s6 := g6.size
  have Br6 := Br5.fr g6 (nb (Nat.le_refl _))
  have Bc6 := Bc5.fr g6 (nb (by omega))
  refine andI (fun j x hj => (Br6.cells 0 [.pointer (some ⟨b, 0, none⟩)] (fun j x hj => by simpa using hj)) j x hj) ?_
  refine spec_rd_plain hr6 (n := 5) (by decide) (fun hg v f => h0 (bad (by unfold chgD; rw [hg1]; dsimp only; rw [hg2]; dsimp only; rw [hg3]; dsimp only; rw [hg])) v ((t5.then g6).then f)) fun set M4 hg4 hse v7 hr7 g7 => ?_
  have s7 := g7.size
  have Br7 := Br6.fr g7 (nb (Nat.le_refl _))
  have Bc7 := Bc6.fr g7 (nb (by omega))
  have t7 := (t5.then g6).then g7
  refine aggI Br7 (x := some ⟨b, 0, none⟩) rfl (spec_rd_comps hr7 (fun k e => by have := hF k e; omega) hfr (fun hg v f => h0 (bad (by unfold chgD; rw [hg1]; dsimp only; rw [hg2]; dsimp only; rw [hg3]; dsimp only; rw [hg4]; dsimp only; rw [hg])) v (t7.then f)) fun ns M5 hg5 rn v8 o8 hr8 g8 => ?_)
  have hD3 : chgD was last L' = match setsD was id (kindsOf set) M5 with
      | none => none
      | some (ss, L) => some ((id, (lost : Int), ns, ss), L) := by
    unfold chgD
    rw [hg1]; dsimp only; rw [hg2]; dsimp only; rw [hg3]; dsimp only; rw [hg4]; dsimp only; rw [hg5] <;> rfl
  have s8 := g8.size
  have Bc8 := Bc7.fr g8 (nb (by omega))
  rw [add_lit]
  refine setI (i := 2) Bc8 (by simp) rfl fun v9 Bc9 g9 y9 => ?_
  have Br9 := (Br7.fr g8 (nb (Nat.le_refl _))).fr g9 (nc (by omega))
  have hr9 := RD.st.fr hr8 g9 (hFn (by omega))
  have t9 := (t7.then g8).thenNew g9 fun k e => by omega
  have o9 : SlT (fun k => v7.heap.size ≤ k) v9 compT rn ns := o8.sl.fr g9 fun k (e : v7.heap.size ≤ k) e2 => by omega
  refine spec_packet_kinds hse fun rk v10 ok10 g10 => ?_
  have s10 := g10.size
  have Br10 := Br9.fr g10 fun h => h
  have Bc10 : Blk v10 v1.heap.size 86 [.int .u32 id, .int .u8 (lost : Int), .slice rn.a rn.n rn.c, .slice none 0 0] := Bc9.fr g10 fun h => h
  have hr10 := RD.st.fr0 hr9 g10
  have t10 := t9.then0 g10
  have o10 := o9.fr0 g10
  have hkl := ok10.len
  have hk6 : (kindsOf set).length ≤ 5 := by rw [← kindsB_all hse]; exact kindsB_le set 5
  refine forI (N := rk.n) (fun s : Int => s) (fun j i z => i = (j : Int) ∧ (∃ (ss : List Comp) (rs : Sl) (M : List Bool), ss.length = j ∧ Blk z v1.heap.size 86 [.int .u32 id, .int .u8 (lost : Int), .slice rn.a rn.n rn.c, .slice rs.a rs.n rs.c] ∧ Own (fun k => v10.heap.size ≤ k) z 92 compT rs ss ∧ RD b M F z ∧ setsD was id (kindsOf set) M5 = moreD ss (setsD was id ((kindsOf set).drop j) M)) ∧ Fr (fun k => k = b ∨ k = v1.heap.size) v10 z)
    ⟨rfl, ⟨[], ⟨none, 0, 0⟩, M5, rfl, Bc10, Own.nil _ _ _ _, hr10, by rw [List.drop_zero]; cases setsD was id (kindsOf set) M5 with | none => rfl | some p => rfl⟩, Fr.refl _ _⟩ (fun j s w' h => h.1) ?_ ?_
  · rintro j i z K' hj ⟨rfl, ⟨ss, rs, M, hsl, Bc, os, hrz, hI2⟩, gz⟩ - hK
    have sz := gz.size
    have tz : Fr (fun k => k = b) w z := t10.trans gz (fun _ h => h) fun x hx e => e.elim (fun e => e) fun e => by omega
    have Brz := Br10.fr gz (nbc (Nat.le_refl _) (by omega))
    refine (ok10.sl.fr gz fun k (e : v9.heap.size ≤ k) e2 => by omega).get rfl rfl (by omega) fun k hkj => ?_
    rw [drop_at hkj, setsD] at hI2
    refine fldI Bc (i := 0) (x := id) rfl (spec_packet_old (hS.fr tz hd) (hE.fr tz hd) hr (by omega) (fun e he => by have := (hL e he).2.1; omega) fun z1 e1 => ?_)
    obtain ⟨oc, hoc⟩ : ∃ oc, oc = oldM was id k := ⟨_, rfl⟩
    rw [← hoc] at hI2 ⊢
    have tz1 := tz.then0 e1
    have bcz := Bc.lt
    refine newI fun z2 Bx e2 x2 => stoAll Bx rfl rfl fun z3 Bx e3 x3 => fldI Bx (i := 0) (x := oc.1) rfl ?_
    have e13 : Fr None z1 z3 := e2.newer e3 fun k e => by omega
    have e03 := e1.then0 e13
    have tz3 := tz.then0 e03
    refine joinI (fun (_ : Unit) v => oc.1 = k ∧ v = z3) (condN (fun hne => ?_) fun heq => ⟨heq, rfl⟩) ?_
    · exact h0 (bad (by rw [hD3, hI2, if_pos hne]; rfl)) z3 tz3
    rintro _ v ⟨hkk, rfl⟩
    rw [if_neg (fun h => h hkk)] at hI2
    have ed : Fr None v v.drew := (Fr.refl _ _).drew
    have e0d := e03.then0 ed
    have Bcd := Bc.fr e0d fun h => h
    have Bxd := Bx.fr ed fun h => h
    have hrd := RD.st.fr0 hrz e0d
    have osd := os.none e0d
    have zs := e0d.size
    have tzd := tz3.then0 ed
    refine fldI Bcd (i := 3) (x := rs) rfl (fldI (Brz.fr e0d fun h => h) (i := 0) (x := some ⟨b, 0, none⟩) rfl (aggI Bxd (x := oc) rfl ?_))
    refine spec_comp_GetStep hrd (fun k e => by have := hF k e; omega) (hoc ▸ oldM_ok hL id k) (fun hg e' p1 he hrp q1 => ?_) fun c M6 hg p1 hrp q1 => ?_
    · refine andI ((Bcd.fr q1 (nb (by omega))).rd (s := .sl) (i := 3) (x := rs) rfl) (spec_must_Comp (v := (0, 0, 0, 0)) (fun _ p2 q2 => h0 (bad ?_) p2 ((tzd.then q1).then q2.any)) fun h => absurd h he)
      rw [hD3, hI2, hg]
      rfl
    rw [hg] at hI2
    dsimp only at hI2
    have Bc1 := Bcd.fr q1 (nb (by omega))
    refine andI (Bc1.rd (s := .sl) (i := 3) (x := rs) rfl) (spec_must_Comp (v := c) (fun h => absurd rfl h) fun _ p2 q2 => ?_)
    have Bc2 := Bc1.fr q2 fun h => h
    refine andI (Bc2.rd (s := .sl) (i := 3) (x := rs) rfl) ?_
    have q12 := q1.then0 q2
    have sq := q12.size
    have osp : Own (fun k => v10.heap.size ≤ k) p2 92 compT rs ss := (osd.fr q1 fun k e e2 => by omega).none q2
    refine appP (x := c) comps_ty rfl osp (fun k e => by show v10.heap.size ≤ k; omega) (by omega) (by omega) fun rs2 p3 os3 q3 => ?_
    have s3 := q3.size
    have nown : ∀ k, k < v10.heap.size → ¬ rs.v.ownBlock = some k := fun k hk e => by have := osp.own k e; omega
    rw [add_lit]
    refine setI (i := 3) (Bc2.fr q3 (nown _ (by omega))) (by simp) rfl fun p4 Bc4 q4 x4 => ?_
    refine hK _ _ ⟨wsucc hj (by omega), ⟨ss ++ [c], rs2, M6, by simp [hsl], Bc4, os3.fr q4 fun k e e2 => by omega, RD.st.fr (RD.st.fr (RD.st.fr0 hrp q2) q3 fun k e => nown k (by have := hF k e; omega)) q4 (hFn (by omega)), ?_⟩, ?_⟩
    · rw [hI2]
      cases setsD was id ((kindsOf set).drop (j + 1)) M6 with
      | none => rfl
      | some p =>
        obtain ⟨bs, rr⟩ := p
        show some (ss ++ c :: bs, rr) = some (ss ++ [c] ++ bs, rr)
        rw [List.append_assoc]
        rfl
    · exact (((gz.then0 e0d).then (q12.sub fun k e => .inl e)).thenNew q3 fun k e => osp.own k e).then (q4.sub fun k e => .inr e)
  · rintro i z ⟨_, ⟨ss, rs, M, hsl, Bc, os, hrz, hI2⟩, gz⟩
    rw [List.drop_of_length_le (by omega)] at hI2
    have hI2 : setsD was id (kindsOf set) M5 = some (ss, M) := by rw [hI2]; show some (ss ++ [], M) = _; rw [List.append_nil]
    rw [hI2] at hD3
    dsimp only at hD3
    have sz := gz.size
    have tz : Fr (fun k => k = b) w z := t10.trans gz (fun _ h => h) fun x hx e => e.elim (fun e => e) fun e => by omega
    have g1z : Fr (fun k => k = b ∨ k = v1.heap.size) v1 z := ((((((g13.sub fun k e => .inr e).then g35).then (g6.sub fun k e => .inl e)).then (g7.sub fun k e => .inl e)).then (g8.sub fun k e => .inl e)).then (g9.sub fun k e => .inr e)).then0 g10 |>.then gz
    have Dz := D1.step (by omega) g1z (fun k e e2 => by have := D1.up k e; rcases e2 with rfl | rfl <;> omega) (n1 := v1.heap.size + 1) (by omega) 5
    obtain ⟨labz, hlz⟩ : ∃ labz, labz = relab lab (v1.heap.size + 1) z.heap.size 5 := ⟨_, rfl⟩
    rw [← hlz] at Dz
    have new5 : ∀ k, v1.heap.size < k → k < z.heap.size → labz k = 5 := fun k h1 h2 => by rw [hlz, relab_new (by omega) h2]
    have oldz : ∀ k, k ≤ v1.heap.size → labz k = lab k := fun k h1 => by rw [hlz, relab_lt (by omega)]
    refine fldI Dz.blk (i := 2) (x := r.2.2) rfl (aggI Bc (x := ((id, (lost : Int), rn, rs) : ChgRaw)) rfl ?_)
    have Rz : chgR (fun k => labz k = 5) z (id, (lost : Int), rn, rs) (id, (lost : Int), ns, ss) := ⟨rfl, rfl, SlT.st o10 gz fun k hk (e : v7.heap.size ≤ k) => ⟨fun e2 => by omega, new5 k (by omega) (by omega)⟩, os.sl.mono fun k hk e => new5 k (by omega) hk⟩
    refine Dz.addChg (by omega) (by omega) (d := (id, (lost : Int), ns, ss)) Rz fun lab' r' z2 D2 e2 hl => ?_
    have s2 := e2.size
    have nl : ∀ {x : Nat}, x < u.heap.size → lab x = 0 → ¬ labz x ≠ 0 := fun hx e e2 => by rw [oldz _ (by omega)] at e2; exact e2 e
    have lz : ∀ {x : Nat}, x < w2.heap.size → lab x = 0 := fun hx => Classical.byContradiction fun e => by have := D.up _ e; omega
    refine ⟨⟨lab', r', rd ++ [(id, (lost : Int), rn, rs)], chg ++ [(id, (lost : Int), ns, ss)], M, id, m, by rw [wU64 (by omega)]; omega, by omega, D2, by rw [hl.1 _ (by omega), oldz _ (by omega)]; exact l3, ?_, ?_, ?_, ?_, ?_, ?_, ?_⟩, ?_⟩
    · exact (Br10.fr gz (nbc (Nat.le_refl _) (by omega))).fr hl.2 (nl (by omega) (lz (by omega)))
    · exact (Bo1.fr g1z (nbc (by omega) (by omega))).fr hl.2 (nl (by omega) (lz (by omega)))
    · exact (Bl1.fr g1z (nbc (by omega) (by omega))).fr hl.2 (nl (by omega) l3)
    · exact RD.st.fr hrz e2 fun k e (e2 : w2.heap.size ≤ k) => by have := hF k e; omega
    · exact tz.thenNew e2 fun k (e : w2.heap.size ≤ k) => by omega
    · rw [hI]; exact repD_more hD3
    · have := chgD_len hD3
      simp only [List.length_append, List.length_singleton]
      omega
    · show (IntKind.wrap .u64 (((m + 1 : Nat) : Int) - 1)).toNat < ((m + 1 : Nat) : Int).toNat
      rw [wU64 (by omega)]
      omega
end Go.Proofs.YtchhhjlpnecjkaaGreat
namespace Go.Proofs.YtchhhjlpnecjkaaGreat
open Go Go.RowKit Go.Proofs.YtchhhjlpnecjkaaGreat.Den
variable {R : Type} {Q : R → World → Prop} {w : World}
theorem eqI {α : Type} [DecidableEq α] {L1 L2 : List α} {n1 n2 : Int} (h1 : n1 = L1.length) (h2 : n2 = L2.length) (hm : L1.length ≤ 9223372036854775807) {body : (Int → W R) → Int → W R} {K : Bool → W R}
    (hs : ∀ (j : Nat) x y u (K' : Int → W R) (Q : R → World → Prop), L1[j]? = some x → L2[j]? = some y → Fr None w u → (x ≠ y → ∀ u', Fr None u u' → K false Q u') → (x = y → ∀ u', Fr None u u' → K' (IntKind.wrap .i64 ((j : Int) + 1)) Q u') → body K' (j : Int) Q u)
    (hk : ∀ w', Fr None w w' → K (decide (L1 = L2)) Q w') : (cond (n1 != n2) (K false) (loopW (fun K1 s => cond (decide (s < n1)) (body K1 s) (K true)) 0)) Q w := by
  subst h1 h2
  refine condN (fun hne => ?_) fun heq => ?_
  · have e := hk w (Fr.refl _ _)
    rw [decide_eq_false (fun e => hne (by rw [e]))] at e
    exact e
  have heq : L1.length = L2.length := by omega
  refine loopI (fun (i : Int) u => ∃ j : Nat, i = (j : Int) ∧ j ≤ L1.length ∧ Fr None w u ∧ L1.take j = L2.take j) (fun i _ => L1.length - i.toNat) ⟨0, rfl, Nat.zero_le _, Fr.refl _ _, rfl⟩ ?_
  rintro _ u ⟨j, rfl, hj, fu, ht⟩
  have no : ∀ {Q' : R → World → Prop} {u'}, L1 = L2 → K (decide (L1 = L2)) Q' u' → K true Q' u' := fun e h => by rw [decide_eq_true e] at h; exact h
  refine condD (fun hlt => ?_) fun hge => ?_
  · have hlt : j < L1.length := by omega
    obtain ⟨x, hx⟩ : ∃ x, L1[j]? = some x := ⟨_, List.getElem?_eq_getElem hlt⟩
    obtain ⟨y, hy⟩ : ∃ y, L2[j]? = some y := ⟨_, List.getElem?_eq_getElem (by omega)⟩
    refine hs j x y u _ Q hx hy fu (fun hne u' f => ?_) fun he u' f => ?_
    · have e := hk u' (fu.then0 f)
      rw [decide_eq_false (fun e => by subst e; rw [hx] at hy; cases hy; exact hne rfl)] at e
      exact e
    · subst he
      refine ⟨⟨j + 1, wsucc hlt hm, hlt, fu.then0 f, by rw [take_at hx, take_at hy, ht]⟩, ?_⟩
      rw [wsucc hlt hm]
      omega
  · have e := hk u fu
    rw [List.take_of_length_le (by omega), List.take_of_length_le (by omega)] at ht
    exact no ht e
section
variable {ok ok2 : Nat → Prop} {s s2 : Sl}
theorem spec_Equal_ID {l l2 : List Int} (hS : SlT ok w idT s l) (hS2 : SlT ok2 w idT s2 l2) (hm : l.length ≤ 9223372036854775807) {K : Res [.sc .bool] → W R} (hk : ∀ w', Fr None w w' → K (decide (l = l2)) Q w') :
    callW Tryz.prog k_slices_Equal_ID [.slice s.a s.n s.c, .slice s2.a s2.n s2.c] [.sc .bool] K Q w := by
  refine C_slices_Equal_ID s s2 K Q w ?_
  unfold F_slices_Equal_ID
  have e1 := hS.len
  have e2 := hS2.len
  refine eqI (L1 := l) (L2 := l2) (K := retW) (by omega) (by omega) hm (fun j x y u K' Q' hx hy fu h0 hK => ?_) hk
  have fd : Fr None u u.drew := (Fr.refl _ _).drew
  refine ((hS.fr0 fu).fr0 fd).get rfl rfl (List.getElem?_eq_some_iff.1 hx).1 fun x' hx' => ((hS2.fr0 fu).fr0 fd).get rfl rfl (List.getElem?_eq_some_iff.1 hy).1 fun y' hy' => ?_
  rw [hx] at hx'
  rw [hy] at hy'
  cases hx'
  cases hy'
  exact condN (fun hne => h0 hne _ fd) fun he => hK he _ fd
theorem spec_Equal_Comp {l l2 : List Comp} (hS : SlT ok w compT s l) (hS2 : SlT ok2 w compT s2 l2) (hm : l.length ≤ 9223372036854775807) {K : Res [.sc .bool] → W R} (hk : ∀ w', Fr None w w' → K (decide (l = l2)) Q w') :
    callW Tryz.prog k_slices_Equal_Comp [.slice s.a s.n s.c, .slice s2.a s2.n s2.c] [.sc .bool] K Q w := by
  refine C_slices_Equal_Comp s s2 K Q w ?_
  unfold F_slices_Equal_Comp
  have e1 := hS.len
  have e2 := hS2.len
  refine eqI (L1 := l) (L2 := l2) (K := retW) (by omega) (by omega) hm (fun j x y u K' Q' hx hy fu h0 hK => ?_) hk
  have fd : Fr None u u.drew := (Fr.refl _ _).drew
  refine ((hS.fr0 fu).fr0 fd).get rfl rfl (List.getElem?_eq_some_iff.1 hx).1 fun x' hx' => ((hS2.fr0 fu).fr0 fd).get rfl rfl (List.getElem?_eq_some_iff.1 hy).1 fun y' hy' => ?_
  rw [hx] at hx'
  rw [hy] at hy'
  cases hx'
  cases hy'
  refine neqI eqG_comp (eqV_comp x y) (condI (fun hb => h0 ?_ _ fd) fun hb => hK ?_ _ fd)
  · intro e; subst e; simp at hb
  · simpa using hb
theorem spec_snap_Same_c1 {r r2 : Int × Sl} {e e2 : Ent} (h1 : r.1 = e.1) (hS : SlT ok w compT r.2 e.2) (h2 : r2.1 = e2.1) (hS2 : SlT ok2 w compT r2.2 e2.2) (hm : e.2.length ≤ 9223372036854775807) {K : Res [.sc .bool] → W R} (hk : ∀ w', Fr None w w' → K (decide (e = e2)) Q w') :
    callW Tryz.prog k_snap_Same_c1 [.agg ⟨[.int .u32 r.1, .slice r.2.a r.2.n r.2.c]⟩, .agg ⟨[.int .u32 r2.1, .slice r2.2.a r2.2.n r2.2.c]⟩] [.sc .bool] K Q w := by
  refine C_snap_Same_c1 r r2 K Q w ?_
  unfold F_snap_Same_c1
  refine newI fun w1 B1 f1 z1 => newI fun w2 B2 f2 z2 => ?_
  have f02 := f1.then0 f2
  have B1 := B1.fr f2 fun h => h
  refine joinI (fun z u => z = decide (e = e2) ∧ Fr None w u) ?_ fun z u ⟨hz, hf⟩ => by subst hz; exact hk u hf
  refine fldI B1 (i := 0) (x := r.1) rfl (fldI B2 (i := 0) (x := r2.1) rfl (condE (fun he => ?_) fun hne => ?_))
  · refine fldI B1 (i := 1) (x := r.2) rfl (fldI B2 (i := 1) (x := r2.2) rfl (spec_Equal_Comp (hS.fr0 f02) (hS2.fr0 f02) hm fun w3 f3 => ⟨?_, f02.then0 f3⟩))
    have : e.1 = e2.1 := by rw [← h1, ← h2]; exact he
    exact decide_eq_decide.2 ⟨fun h => Prod.ext this h, fun h => by rw [h]⟩
  · exact ⟨(decide_eq_false fun h => hne (by rw [h1, h2, h])).symm, f02⟩
theorem spec_snap_Same {raws raws2 : List (Int × Sl)} {L L2 : List Ent} (hS : SlT ok w entT s raws) (hE : EntsR ok w raws L) (hS2 : SlT ok2 w entT s2 raws2) (hE2 : EntsR ok2 w raws2 L2) (hm : L.length ≤ 9223372036854775807) (hL : ∀ e ∈ L, Small e.2) {K : Res [.sc .bool] → W R} (hk : ∀ w', Fr None w w' → K (decide (L = L2)) Q w') :
    callW Tryz.prog k_snap_Same [.slice s.a s.n s.c, .slice s2.a s2.n s2.c] [.sc .bool] K Q w := by
  refine C_snap_Same s s2 K Q w ?_
  unfold F_snap_Same
  refine C_slices_EqualFunc_Ent__snap_Same_c1 s s2 _ _ w ?_
  unfold F_slices_EqualFunc_Ent__snap_Same_c1
  have e1 := hS.len.trans hE.len
  have e2 := hS2.len.trans hE2.len
  refine eqI (L1 := L) (L2 := L2) (K := retW) (by omega) (by omega) hm (fun j x y u K' Q' hx hy fu h0 hK => ?_) hk
  obtain ⟨r, hr, r1, r2⟩ := hE.get hx
  obtain ⟨q, hq, q1, q2⟩ := hE2.get hy
  refine (hS.fr0 fu).get rfl rfl (List.getElem?_eq_some_iff.1 hr).1 fun x' hx' => ?_
  rw [hr] at hx'
  cases hx'
  refine newI fun u1 B1 f1 z1 => stoAll B1 rfl rfl fun u2 B1 f2 z2 => ?_
  have g2 : Fr None u u2 := f1.newer f2 fun k e => by omega
  refine ((hS2.fr0 fu).fr0 g2).get rfl rfl (List.getElem?_eq_some_iff.1 hq).1 fun y' hy' => ?_
  rw [hq] at hy'
  cases hy'
  refine newI fun u3 B3 f3 z3 => stoAll B3 rfl rfl fun u4 B3 f4 z4 => ?_
  have g4 : Fr None u2 u4 := f3.newer f4 fun k e => by omega
  have g := g2.then0 g4
  have fg := fu.then0 g
  refine aggI (B1.fr g4 fun h => h) (x := r) rfl (aggI B3 (x := q) rfl (spec_snap_Same_c1 r1 (r2.fr0 fg) q1 (q2.fr0 fg) (by have := hL x (List.mem_of_getElem? hx); omega) fun u5 f5 => ?_))
  refine condI (fun hb => h0 ?_ _ (g.then0 f5)) fun hb => hK ?_ _ (g.then0 f5)
  · simpa using hb
  · simpa using hb
instance chgDec : DecidableEq Chg := @instDecidableEqProd Int (Int × List Comp × List Comp) _ (@instDecidableEqProd Int (List Comp × List Comp) _ (@instDecidableEqProd (List Comp) (List Comp) _ _))
theorem spec_diff_same_c1 {r r2 : ChgRaw} {d d2 : Chg} (h1 : chgR ok w r d) (h2 : chgR ok2 w r2 d2) (hm : Small d.2.2.1 ∧ Small d.2.2.2) {K : Res [.sc .bool] → W R} (hk : ∀ w', Fr None w w' → K (decide (d = d2)) Q w') :
    callW Tryz.prog k_diff_same_c1 [.agg ⟨[.int .u32 r.1, .int .u8 r.2.1, .slice r.2.2.1.a r.2.2.1.n r.2.2.1.c, .slice r.2.2.2.a r.2.2.2.n r.2.2.2.c]⟩, .agg ⟨[.int .u32 r2.1, .int .u8 r2.2.1, .slice r2.2.2.1.a r2.2.2.1.n r2.2.2.1.c, .slice r2.2.2.2.a r2.2.2.2.n r2.2.2.2.c]⟩] [.sc .bool] K Q w := by
  refine C_diff_same_c1 r r2 K Q w ?_
  unfold F_diff_same_c1
  obtain ⟨a1, a2, a3, a4⟩ := h1
  obtain ⟨b1, b2, b3, b4⟩ := h2
  refine newI fun w1 B1 f1 z1 => newI fun w2 B2 f2 z2 => ?_
  have f02 := f1.then0 f2
  have B1 := B1.fr f2 fun h => h
  refine joinI (fun z u => z = decide (d = d2) ∧ Fr None w u) ?_ fun z u ⟨hz, hf⟩ => by subst hz; exact hk u hf
  refine fldI B1 (i := 0) (x := r.1) rfl (fldI B2 (i := 0) (x := r2.1) rfl (condE (fun e1 => ?_) fun hne => ⟨(decide_eq_false fun h => hne (by rw [a1, b1, h])).symm, f02⟩))
  refine fldI B1 (i := 1) (x := r.2.1) rfl (fldI B2 (i := 1) (x := r2.2.1) rfl (condE (fun e2 => ?_) fun hne => ⟨(decide_eq_false fun h => hne (by rw [a2, b2, h])).symm, f02⟩))
  refine fldI B1 (i := 2) (x := r.2.2.1) rfl (fldI B2 (i := 2) (x := r2.2.2.1) rfl (spec_Equal_Comp (a3.fr0 f02) (b3.fr0 f02) (by have := hm.1; omega) fun w3 f3 => ?_))
  have f03 := f02.then0 f3
  refine condD (fun e3 => ?_) fun hne => ⟨(decide_eq_false fun h => hne (by rw [h])).symm, f03⟩
  refine fldI (B1.fr f3 fun h => h) (i := 3) (x := r.2.2.2) rfl (fldI (B2.fr f3 fun h => h) (i := 3) (x := r2.2.2.2) rfl (spec_Equal_Comp (a4.fr0 f03) (b4.fr0 f03) (by have := hm.2; omega) fun w4 f4 => ⟨?_, f03.then0 f4⟩))
  have c1 : d.1 = d2.1 := by rw [← a1, ← b1]; exact e1
  have c2 : d.2.1 = d2.2.1 := by rw [← a2, ← b2]; exact e2
  exact decide_eq_decide.2 ⟨fun h => Prod.ext c1 (Prod.ext c2 (Prod.ext e3 h)), fun h => by rw [h]⟩
theorem spec_diff_same {r r2 : DRaw} {g g2 : List Int} {c c2 : List Ent} {d d2 : List Chg} (h1 : DltR ok w r g c d) (h2 : DltR ok2 w r2 g2 c2 d2) (hm : g.length ≤ 9223372036854775807 ∧ c.length ≤ 9223372036854775807 ∧ d.length ≤ 9223372036854775807) (hc : ∀ e ∈ c, Small e.2) (hd : ∀ e ∈ d, Small e.2.2.1 ∧ Small e.2.2.2) {K : Res [.sc .bool] → W R} (hk : ∀ w', Fr None w w' → K (decide (g = g2 ∧ c = c2 ∧ d = d2)) Q w') :
    callW Tryz.prog k_diff_same [.agg ⟨[.slice r.1.a r.1.n r.1.c, .slice r.2.1.a r.2.1.n r.2.1.c, .slice r.2.2.a r.2.2.n r.2.2.c]⟩, .agg ⟨[.slice r2.1.a r2.1.n r2.1.c, .slice r2.2.1.a r2.2.1.n r2.2.1.c, .slice r2.2.2.a r2.2.2.n r2.2.2.c]⟩] [.sc .bool] K Q w := by
  refine C_diff_same r r2 K Q w ?_
  unfold F_diff_same
  obtain ⟨a1, ⟨rc, a2, a3⟩, ⟨rd, a4, a5⟩⟩ := h1
  obtain ⟨b1, ⟨rc2, b2, b3⟩, ⟨rd2, b4, b5⟩⟩ := h2
  refine newI fun w1 B1 f1 z1 => newI fun w2 B2 f2 z2 => ?_
  have f02 := f1.then0 f2
  have B1 := B1.fr f2 fun h => h
  refine joinI (fun z u => z = decide (g = g2 ∧ c = c2 ∧ d = d2) ∧ Fr None w u) ?_ fun z u ⟨hz, hf⟩ => by subst hz; exact hk u hf
  refine fldI B1 (i := 0) (x := r.1) rfl (fldI B2 (i := 0) (x := r2.1) rfl (spec_Equal_ID (a1.fr0 f02) (b1.fr0 f02) hm.1 fun w3 f3 => ?_))
  have f03 := f02.then0 f3
  refine condD (fun e1 => ?_) fun hne => ⟨(decide_eq_false fun h => hne h.1).symm, f03⟩
  refine fldI (B1.fr f3 fun h => h) (i := 1) (x := r.2.1) rfl (fldI (B2.fr f3 fun h => h) (i := 1) (x := r2.2.1) rfl (spec_snap_Same (a2.fr0 f03) (a3.fr f03 fun _ _ h => h) (b2.fr0 f03) (b3.fr f03 fun _ _ h => h) hm.2.1 hc fun w4 f4 => ?_))
  have f04 := f03.then0 f4
  refine condD (fun e2 => ?_) fun hne => ⟨(decide_eq_false fun h => hne h.2.1).symm, f04⟩
  refine fldI ((B1.fr f3 fun h => h).fr f4 fun h => h) (i := 2) (x := r.2.2) rfl (fldI ((B2.fr f3 fun h => h).fr f4 fun h => h) (i := 2) (x := r2.2.2) rfl ?_)
  refine C_slices_EqualFunc_Change__diff_same_c1 r.2.2 r2.2.2 _ _ _ ?_
  unfold F_slices_EqualFunc_Change__diff_same_c1
  have n1 := a4.len.trans a5.len
  have n2 := b4.len.trans b5.len
  refine eqI (L1 := d) (L2 := d2) (K := retW) (by omega) (by omega) hm.2.2 (fun j x y u K' Q' hx hy fu h0 hK => ?_) fun w5 f5 => ⟨decide_eq_decide.2 ⟨fun h => ⟨e1, e2, h⟩, fun h => h.2.2⟩, f04.then0 f5⟩
  obtain ⟨q1, hq1, hq⟩ := a5.get hx
  obtain ⟨p1, hp1, hp⟩ := b5.get hy
  have f0u := f04.then0 fu
  refine (a4.fr0 f0u).get rfl rfl (List.getElem?_eq_some_iff.1 hq1).1 fun x' hx' => ?_
  rw [hq1] at hx'
  cases hx'
  refine newI fun u1 C1 g1 z1 => stoAll C1 rfl rfl fun u2 C1 g2 z2 => ?_
  have k2 : Fr None u u2 := g1.newer g2 fun k e => by omega
  refine ((b4.fr0 f0u).fr0 k2).get rfl rfl (List.getElem?_eq_some_iff.1 hp1).1 fun y' hy' => ?_
  rw [hp1] at hy'
  cases hy'
  refine newI fun u3 C3 g3 z3 => stoAll C3 rfl rfl fun u4 C3 g4 z4 => ?_
  have k4 : Fr None u2 u4 := g3.newer g4 fun k e => by omega
  have kk := k2.then0 k4
  have fk := f0u.then0 kk
  refine aggI (C1.fr k4 fun h => h) (x := q1) rfl (aggI C3 (x := p1) rfl (spec_diff_same_c1 (St.fr0 (A := fun F w => chgR F w q1 x) (chgR_st q1 x) hq fk) (St.fr0 (A := fun F w => chgR F w p1 y) (chgR_st p1 y) hp fk) (hd x (List.mem_of_getElem? hx)) fun u5 f5 => ?_))
  refine condI (fun hb => h0 ?_ _ (kk.then0 f5)) fun hb => hK ?_ _ (kk.then0 f5)
  · simpa using hb
  · simpa using hb
theorem spec_Clone_Ent {l : List (Int × Sl)} (hS : SlT ok w entT s l) (hm : l.length * 32 ≤ 140737488355328) {K : Res [.sc .sl] → W R} (hk : ∀ r w', Own (Up w.heap.size) w' 57 entT r l → Fr None w w' → K r Q w') :
    callW Tryz.prog k_slices_Clone_Ent [.slice s.a s.n s.c] [.sc .sl] K Q w := by
  refine C_slices_Clone_Ent _ K Q w ?_
  unfold F_slices_Clone_Ent
  rcases hS.at_ with rfl | ⟨b, o, ha, _⟩
  · cases hsa : s.a with
    | none => exact condT rfl (hk _ w (Own.nil _ _ _ _) (Fr.refl _ _))
    | some a =>
      refine condF rfl ?_
      rw [← hsa]
      refine newI fun w1 B1 f1 s1 => ?_
      have own := Own.mk' (S := Up w.heap.size) (w := w1) (E := 57) (t := entT) (l := []) (g := w.heap.size) (c := 0) (cur := ⟨[]⟩) (Nat.le_refl _) B1 (Nat.le_refl _) (Nat.zero_le _) (by simp) (by simp)
      refine appI (s := ⟨some ⟨w.heap.size, 0, none⟩, 0, 0⟩) (s2 := s) (S' := Up w.heap.size) ents_ty own (hS.fr0 f1) (by simp) (by simp) (fun _ h => h) (by show _ ≤ _; omega) fun r w2 o2 f2 s2 => hk r w2 (by simpa using o2) (f1.newer f2 (fun x e => own.own x e))
  · rw [ha]
    refine condF rfl ?_
    rw [← ha]
    exact cloneI ents_ty hS hm (by omega) hk
theorem spec_snap_Copy {raws : List (Int × Sl)} {L : List Ent} (hS : SlT ok w entT s raws) (hE : EntsR ok w raws L) (hm : L.length ≤ 1048576) (hL : ∀ e ∈ L, Small e.2) {K : Res [.sc .sl] → W R}
    (hk : ∀ r raws' w', Own (Up w.heap.size) w' 57 entT r raws' → EntsR (Up w.heap.size) w' raws' L → Fr None w w' → K r Q w') : callW Tryz.prog k_snap_Copy [.slice s.a s.n s.c] [.sc .sl] K Q w := by
  refine C_snap_Copy s K Q w ?_
  unfold F_snap_Copy
  have hel := hE.len
  refine spec_Clone_Ent hS (by omega) fun r w1 o1 f1 => ?_
  have s1 := f1.size
  have hrl := o1.len
  refine forI (N := r.n) (fun i : Int => i) (fun j i u => i = (j : Int) ∧ Fr None w u ∧ w1.heap.size ≤ u.heap.size ∧ ∃ rs, Own (fun k => w.heap.size ≤ k ∧ k < w1.heap.size) u 57 entT r rs ∧ rs.length = raws.length ∧ (∀ q x, j ≤ q → raws[q]? = some x → rs[q]? = some x) ∧ EntsR (fun k => w1.heap.size ≤ k) u (rs.take j) (L.take j))
    ⟨rfl, f1, Nat.le_refl _, raws, ⟨o1.row, fun k e => ⟨o1.own k e, o1.lt e⟩⟩, rfl, fun q x _ h => h, by rw [List.take_zero, List.take_zero]; exact EntsR.nil _ _⟩ (fun j s w' h => h.1) ?_ ?_
  · rintro j i u K' hj ⟨rfl, fu, hs, rs, ho, hl, hrest, hE2⟩ - hK
    obtain ⟨e, he⟩ : ∃ e, L[j]? = some e := ⟨_, List.getElem?_eq_getElem (by omega)⟩
    obtain ⟨q, hq, q1, q2⟩ := hE.get he
    have hrj := hrest j q (Nat.le_refl _) hq
    refine ho.sl.get rfl rfl (by omega) fun x hx => ?_
    rw [hrj] at hx
    cases hx
    refine newI fun u1 B1 g1 z1 => stoAll B1 rfl rfl fun u2 B1 g2 z2 => fldI B1 (i := 1) (x := q.2) rfl ?_
    have k2 : Fr None u u2 := g1.newer g2 fun k e => by omega
    refine spec_Clone_Comp (q2.fr0 (fu.then0 k2)) (by have := hL e (List.mem_of_getElem? he); omega) fun t u3 o3 g3 => ?_
    have k3 := k2.then0 g3
    have z3 := k3.size
    have ho3 := ho.none k3
    refine ho3.idx rfl (by omega) (by omega) fun g x hg hx hrd => ?_
    rw [add_lit]
    refine ho3.setFld (i := j) (j := 1) (x := q) (x' := (q.1, t)) hrj hg (show 1 < 2 by omega) rfl rfl fun u4 o4 g4 z4 => ?_
    have nown : ∀ k, w1.heap.size ≤ k → ¬ r.v.ownBlock = some k := fun k hk e => by have := (ho.own k e).2; omega
    refine hK _ _ ⟨wsucc hj (by omega), (fu.then0 k3).newer g4 fun k e => (ho.own k e).1, by omega, rs.set j (q.1, t), o4, by rw [List.length_set, hl], fun p x hp hx => ?_, ?_⟩
    · rw [List.getElem?_set_ne (by omega)]
      exact hrest p x (by omega) hx
    · rw [take_at (x := (q.1, t)) (by rw [List.getElem?_set_self (by omega)]), List.take_set_of_le (Nat.le_refl _), take_at he]
      refine EntsR.snoc ((hE2.fr k3 fun _ _ h => h).fr g4 nown) q1 ?_
      exact (o3.sl.fr g4 fun k (e : u2.heap.size ≤ k) => nown k (by have := k2.size; omega)).mono fun k _ (e : u2.heap.size ≤ k) => by have := k2.size; omega
  · rintro i u ⟨_, fu, hs, rs, ho, hl, _, hE2⟩
    rw [List.take_of_length_le (by omega), List.take_of_length_le (by omega)] at hE2
    exact hk r rs u (ho.mono fun k _ e => e.1) (hE2.mono fun k _ e => by show w.heap.size ≤ k; omega) fu
end
end Go.Proofs.YtchhhjlpnecjkaaGreat
namespace Go.Proofs.YtchhhjlpnecjkaaGreat
open Go Go.RowKit Go.Proofs.YtchhhjlpnecjkaaGreat.Den
def turnP (l : List Comp) (d : Chg) : List Comp := ((l.filter fun c => !(decide (c.1 < 6) && d.2.1.toNat.testBit c.1.toNat)).map fun c => if (findC d.2.2.2 c.1).2 = true then (findC d.2.2.2 c.1).1 else c) ++ d.2.2.1
def TurnOf (e : Ent) (d : Chg) (e' : Ent) : Prop := e'.1 = e.1 ∧ e'.2.Perm (turnP e.2 d) ∧ e'.2.Pairwise fun a b => a.1 ≤ b.1
def KeepR (chg : List Chg) (e e' : Ent) : Prop := (∀ d, chg.find? (fun d => d.1 == e.1) = some d → TurnOf e d e') ∧ (chg.find? (fun d => d.1 == e.1) = none → e' = e)
structure PatchOk (was : List Ent) (gone : List Int) (come : List Ent) (chg : List Chg) (now : List Ent) : Prop where
  form : FormOk now
  gone : goneM was now = gone
  come : comeM was now = come
  chg : chgsM was now = chg
theorem kinds_dist {l : List Comp} (h : listE l = 0) : l.Pairwise fun a b => a.1 ≠ b.1 := by
  have := (listE_0.1 h).2
  rw [Rising, List.pairwise_map] at this
  exact this.imp fun h => by omega
theorem dist_rise {α : Type} {key : α → Int} {l : List α} (h : l.Pairwise fun a b => key a ≤ key b) (hd : l.Pairwise fun a b => key a ≠ key b) : l.Pairwise fun a b => key a < key b := by
  have := h.and hd
  exact this.imp fun h => by have := h.1; have := h.2; omega
theorem turn_of {a b e' : Ent} (ha : listE a.2 = 0) (hb : listE b.2 = 0) (hid : a.1 = b.1) (h : TurnOf a (changeM a b) e') : e' = b := by
  obtain ⟨h1, h2, h3⟩ := h
  have ka : ∀ c ∈ a.2, 0 ≤ c.1 ∧ c.1 ≤ 5 := fun c hc => checkM_kind ((listE_0.1 ha).1 c hc)
  have kb : ∀ c ∈ b.2, 0 ≤ c.1 ∧ c.1 ≤ 5 := fun c hc => checkM_kind ((listE_0.1 hb).1 c hc)
  have hk : ∀ c : Comp, (if (findC (changeM a b).2.2.2 c.1).2 = true then (findC (changeM a b).2.2.2 c.1).1 else c).1 = c.1 := fun c => by
    split
    · rename_i h; exact (findC_some h).2
    · rfl
  have dist : (turnP a.2 (changeM a b)).Pairwise fun x y => x.1 ≠ y.1 := by
    unfold turnP
    rw [List.pairwise_append]
    refine ⟨?_, (kinds_dist hb).filter _, ?_⟩
    · rw [List.pairwise_map]
      exact ((kinds_dist ha).filter _).imp fun {x y} h => by rw [hk x, hk y]; exact h
    · intro x hx y hy e
      obtain ⟨c, hc, rfl⟩ := List.mem_map.1 hx
      rw [hk c] at e
      have hc := (List.mem_filter.1 hc).1
      have hy2 := (List.mem_filter.1 hy).2
      have : (findC a.2 y.1).2 = false := by simpa using hy2
      exact findC_none this c hc e
  have mem : ∀ c, c ∈ turnP a.2 (changeM a b) ↔ c ∈ b.2 := by
    intro c
    rw [change_mem ha hb c]
    unfold turnP
    rw [List.mem_append]
    show _ ∨ c ∈ newM a.2 b.2 ↔ _
    constructor
    · rintro (h | h)
      · obtain ⟨x, hx, rfl⟩ := List.mem_map.1 h
        obtain ⟨hx, hl⟩ := List.mem_filter.1 hx
        split
        · rename_i hf
          exact .inr (.inl (findC_some hf).1)
        · rename_i hf
          have hf : (findC (changeM a b).2.2.2 x.1).2 = false := by simpa using hf
          refine .inr (.inr ⟨hx, ?_, findC_none hf⟩)
          have := ka x hx
          rw [decide_eq_true (by omega : x.1 < 6), Bool.true_and] at hl
          have hl : (!(lostM a.2 b.2).toNat.testBit x.1.toNat) = true := hl
          simpa using hl
      · exact .inl h
    · rintro (h | h | ⟨h, hl, hs⟩)
      · exact .inr h
      · refine .inl ?_
        obtain ⟨hb', hp⟩ := List.mem_filter.1 h
        have hf : (findC a.2 c.1).2 = true := by
          rw [Bool.and_eq_true] at hp
          exact hp.1
        obtain ⟨g1, g2⟩ := findC_some hf
        refine List.mem_map.2 ⟨(findC a.2 c.1).1, List.mem_filter.2 ⟨g1, ?_⟩, ?_⟩
        · have := kb c hb'
          rw [g2]
          have e : (changeM a b).2.1.toNat.testBit c.1.toNat = false := by
            show (lostM a.2 b.2).toNat.testBit c.1.toNat = false
            rw [lost_bit _ _ (by omega)]
            have : has b.2 c.1.toNat = true := has_mem.2 ⟨c, hb', by omega⟩
            rw [this]; simp
          rw [e]; simp
        · rw [g2]
          have hf2 : (findC (changeM a b).2.2.2 c.1).2 = true := by
            refine Classical.byContradiction fun hn => ?_
            have hn : (findC (changeM a b).2.2.2 c.1).2 = false := by simpa using hn
            exact findC_none hn c h rfl
          rw [if_pos hf2]
          obtain ⟨q1, q2⟩ := findC_some hf2
          exact kind_one hb (List.mem_filter.1 q1).1 hb' q2
      · refine .inl (List.mem_map.2 ⟨c, List.mem_filter.2 ⟨h, ?_⟩, ?_⟩)
        · have e : (changeM a b).2.1.toNat.testBit c.1.toNat = false := hl
          rw [e]; simp
        · rw [if_neg]
          intro hf
          obtain ⟨q1, q2⟩ := findC_some hf
          exact hs _ q1 q2
  have dist2 : e'.2.Pairwise fun x y => x.1 ≠ y.1 := (h2.pairwise_iff (R := fun x y : Comp => x.1 ≠ y.1) fun h => fun e => h e.symm).2 dist
  have rise := dist_rise h3 dist2
  have mem2 : ∀ c, c ∈ e'.2 ↔ c ∈ b.2 := fun c => (h2.mem_iff).trans (mem c)
  have hle : listE e'.2 = 0 := listE_0.2 ⟨fun c hc => (listE_0.1 hb).1 c ((mem2 c).1 hc), by rw [Rising, List.pairwise_map]; exact rise⟩
  exact Prod.ext (h1.trans hid) (comps_ext hle hb mem2)
theorem same_nothing {a : Ent} (ha : listE a.2 = 0) : (changeM a a).2 = (0, [], []) := by
  have hf : ∀ c ∈ a.2, findC a.2 c.1 = (c, true) := by
    intro c hc
    have h2 : (findC a.2 c.1).2 = true := by
      refine Classical.byContradiction fun hn => ?_
      have hn : (findC a.2 c.1).2 = false := by simpa using hn
      exact findC_none hn c hc rfl
    obtain ⟨q1, q2⟩ := findC_some h2
    exact Prod.ext (kind_one ha q1 hc q2) h2
  refine Prod.ext ?_ (Prod.ext ?_ ?_)
  · show lostM a.2 a.2 = 0
    have h0 : (lostM a.2 a.2).toNat = 0 := by
      refine Nat.eq_of_testBit_eq fun i => ?_
      by_cases hi : i < 6
      · rw [lost_bit _ _ hi]; simp
      · rw [Nat.zero_testBit]
        refine Nat.testBit_lt_two_pow ?_
        have h1 := maskN_lt a.2
        have : (lostM a.2 a.2).toNat < 2 ^ 6 := by
          have e : lostM a.2 a.2 = IntKind.wrap .u8 (((BitVec.ofInt 8 (maskN a.2 : Int) &&& ~~~BitVec.ofInt 8 (maskN a.2 : Int)).toNat : Nat) : Int) := rfl
          rw [e, BitVec.and_not_self]
          decide
        exact Nat.lt_of_lt_of_le this (Nat.pow_le_pow_right (by decide) (by omega))
    have hnn : 0 ≤ lostM a.2 a.2 := by
      have : lostM a.2 a.2 = IntKind.wrap .u8 (((BitVec.ofInt 8 (maskN a.2 : Int) &&& ~~~BitVec.ofInt 8 (maskN a.2 : Int)).toNat : Nat) : Int) := rfl
      rw [this, IntKind.wrap_u8]
      omega
    omega
  · show newM a.2 a.2 = []
    unfold newM
    rw [List.filter_eq_nil_iff]
    intro c hc
    rw [hf c hc]; simp
  · show chM a.2 a.2 = []
    unfold chM
    rw [List.filter_eq_nil_iff]
    intro c hc
    rw [hf c hc]; simp
theorem chg_none {was now : List Ent} (hw : FormOk was) (hn : FormOk now) {a b : Ent} (ha : a ∈ was) (hb : b ∈ now) (hab : a.1 = b.1) (h : ∀ d ∈ chgsM was now, d.1 ≠ a.1) : a = b := by
  have o := chgOne_some hw.rise ha hab
  by_cases hn2 : nothingM (changeM a b) = true
  · have e1 := nothing_eq hn2
    have := change_inj (hw.list ha) (hn.list hb) (hw.list ha) (e1.trans (same_nothing (hw.list ha)).symm)
    exact Prod.ext hab this.symm
  · rw [if_neg hn2] at o
    exact absurd hab.symm (h _ (List.mem_filterMap.2 ⟨b, hb, o⟩))
theorem chg_some {was now : List Ent} (hw : FormOk was) (hn : FormOk now) {a b : Ent} (ha : a ∈ was) (hb : b ∈ now) (hab : a.1 = b.1) {d : Chg} (hd : d ∈ chgsM was now) (he : d.1 = a.1) : d = changeM a b := by
  obtain ⟨b2, hb2, h2⟩ := List.mem_filterMap.1 hd
  obtain ⟨g1, a2, ha2, g2, g3, _⟩ := chgOne_id h2
  have e1 : b2 = b := id_one hn.rise hb2 hb (by rw [← g1, he, hab])
  have e2 : a2 = a := id_one hw.rise ha2 ha (by rw [g2, ← g1, he])
  rw [g3, e1, e2]
theorem keep_of {was now : List Ent} (hw : FormOk was) (hn : FormOk now) {a b e' : Ent} (ha : a ∈ was) (hb : b ∈ now) (hab : a.1 = b.1) (h : KeepR (chgsM was now) a e') : e' = b := by
  cases hf : (chgsM was now).find? (fun d => d.1 == a.1) with
  | none =>
    rw [h.2 hf]
    refine chg_none hw hn ha hb hab fun d hd e => ?_
    have := List.find?_eq_none.1 hf d hd
    simp [e] at this
  | some d =>
    have hd := List.mem_of_find?_eq_some hf
    have he : d.1 = a.1 := by have := List.find?_some hf; simpa using this
    have ht := h.1 d hf
    rw [chg_some hw hn ha hb hab hd he] at ht
    exact turn_of (hw.list ha) (hn.list hb) hab ht
theorem patch_now {was now : List Ent} {gone : List Int} {come : List Ent} {chg : List Chg} (hw : FormOk was) (hp : PatchOk was gone come chg now) {K : List Ent} (hK : All2 (KeepR chg) (was.filter fun e => !decide (e.1 ∈ gone)) K) (hid : ∀ (i : Nat) a b, (was.filter fun e => !decide (e.1 ∈ gone))[i]? = some a → K[i]? = some b → b.1 = a.1)
    {l : List Ent} (hl : l.Perm (K ++ come)) (hs : l.Pairwise fun a b => a.1 ≤ b.1) : l = now := by
  obtain ⟨hn, rfl, rfl, rfl⟩ := hp
  have stay : ∀ a ∈ was, decide (a.1 ∈ goneM was now) = false → hasE now a.1 = true := fun a ha h => by
    refine Classical.byContradiction fun hx => ?_
    have hx : hasE now a.1 = false := by simpa using hx
    have : a.1 ∈ goneM was now := List.mem_map.2 ⟨a, List.mem_filter.2 ⟨ha, by rw [hx]; rfl⟩, rfl⟩
    rw [decide_eq_true this] at h
    cases h
  have notgone : ∀ a ∈ was, hasE now a.1 = true → decide (a.1 ∈ goneM was now) = false := fun a ha h => by
    refine decide_eq_false fun hx => ?_
    obtain ⟨a2, h2, e2⟩ := List.mem_map.1 hx
    have h3 := (List.mem_filter.1 h2).2
    rw [e2, h] at h3
    cases h3
  have one : ∀ (i : Nat) a x, (was.filter fun e => !decide (e.1 ∈ goneM was now))[i]? = some a → K[i]? = some x → x ∈ now ∧ hasE was x.1 = true := fun i a x ha hx => by
    obtain ⟨m1, m2⟩ := List.mem_filter.1 (List.mem_of_getElem? ha)
    obtain ⟨b, hb, e⟩ := hasE_iff.1 (stay a m1 (by simpa using m2))
    have := keep_of hw hn m1 hb e.symm (hK.at_ i a x ha hx)
    subst this
    exact ⟨hb, hasE_iff.2 ⟨a, m1, e.symm⟩⟩
  have mem : ∀ x, x ∈ K ++ comeM was now ↔ x ∈ now := fun x => by
    rw [List.mem_append]
    constructor
    · rintro (h | h)
      · obtain ⟨i, hi⟩ := List.mem_iff_getElem?.1 h
        obtain ⟨a, ha, _⟩ := hK.get hi
        exact (one i a x ha hi).1
      · exact (List.mem_filter.1 h).1
    · intro h
      by_cases hh : hasE was x.1 = true
      · obtain ⟨a, ha, e⟩ := hasE_iff.1 hh
        have hm : a ∈ was.filter fun e => !decide (e.1 ∈ goneM was now) := List.mem_filter.2 ⟨ha, by rw [notgone a ha (hasE_iff.2 ⟨x, h, e.symm⟩)]; rfl⟩
        obtain ⟨i, hi⟩ := List.mem_iff_getElem?.1 hm
        obtain ⟨y, hy, hr⟩ := hK.getL hi
        have := keep_of hw hn ha h e hr
        subst this
        exact .inl (List.mem_of_getElem? hy)
      · exact .inr (List.mem_filter.2 ⟨h, by simpa using hh⟩)
  have dist : (K ++ comeM was now).Pairwise fun a b => a.1 ≠ b.1 := by
    rw [List.pairwise_append]
    refine ⟨?_, ((hn.rise.filter _).imp fun {a b} h => by omega), fun x hx y hy e => ?_⟩
    · rw [List.pairwise_iff_getElem]
      intro i j hi hj hij
      have hl := hK.len
      have r := List.pairwise_iff_getElem.1 (hw.rise.filter fun e => !decide (e.1 ∈ goneM was now)) i j (by omega) (by omega) hij
      have a1 := hid i _ _ (List.getElem?_eq_getElem (by omega)) (List.getElem?_eq_getElem hi)
      have a2 := hid j _ _ (List.getElem?_eq_getElem (by omega)) (List.getElem?_eq_getElem hj)
      omega
    · obtain ⟨i, hi⟩ := List.mem_iff_getElem?.1 hx
      obtain ⟨a, ha, _⟩ := hK.get hi
      have h1 := (one i a x ha hi).2
      have h2 := (List.mem_filter.1 hy).2
      rw [← e, h1] at h2
      cases h2
  have dist2 := (hl.pairwise_iff (R := fun x y : Ent => x.1 ≠ y.1) fun h => fun e => h e.symm).2 dist
  exact ids_ext (dist_rise hs dist2) hn.rise fun x => (hl.mem_iff).trans (mem x)
end Go.Proofs.YtchhhjlpnecjkaaGreat
namespace Go.Proofs.YtchhhjlpnecjkaaGreat
open Go Go.RowKit Go.Proofs.YtchhhjlpnecjkaaGreat.Den
variable {α : Type} {l m r : List α} {a b i j k : Nat}
inductive ShK (a b : Nat) : List α → List α → Prop
  | refl (l : List α) : ShK a b l l
  | step {l m : List α} {i j : Nat} {x y : α} : ShK a b l m → a ≤ i → i < b → a ≤ j → j < b → m[i]? = some x → m[j]? = some y → ShK a b l ((m.set i y).set j x)
theorem get_swap {x y : α} (hx : m[i]? = some x) (hy : m[j]? = some y) (k : Nat) : ((m.set i y).set j x)[k]? = if k = j then m[i]? else if k = i then m[j]? else m[k]? := by
  have hi := (List.getElem?_eq_some_iff.1 hx).1
  have hj := (List.getElem?_eq_some_iff.1 hy).1
  rw [List.getElem?_set, List.length_set, List.getElem?_set]
  by_cases h1 : j = k
  · subst h1; simp [hj, hx]
  · rw [if_neg h1, if_neg (fun e : k = j => h1 e.symm)]
    by_cases h2 : i = k
    · subst h2; rw [if_pos rfl, if_pos hi, if_pos rfl]; exact hy.symm
    · rw [if_neg h2, if_neg (fun e : k = i => h2 e.symm)]
theorem ShK.trans {n : List α} (h : ShK a b l m) (g : ShK a b m n) : ShK a b l n := by
  induction g with
  | refl => exact h
  | step _ h1 h2 h3 h4 h5 h6 ih => exact .step ih h1 h2 h3 h4 h5 h6
theorem ShK.mono {a' b' : Nat} (h : ShK a b l m) (ha : a' ≤ a) (hb : b ≤ b') : ShK a' b' l m := by
  induction h with
  | refl => exact .refl _
  | step _ h1 h2 h3 h4 h5 h6 ih => exact .step ih (by omega) (by omega) (by omega) (by omega) h5 h6
theorem ShK.len (h : ShK a b l m) : m.length = l.length := by
  induction h with
  | refl => rfl
  | step _ _ _ _ _ _ _ ih => rw [List.length_set, List.length_set, ih]
theorem ShK.out (h : ShK a b l m) (hk : k < a ∨ b ≤ k) : m[k]? = l[k]? := by
  induction h with
  | refl => rfl
  | step _ h1 h2 h3 h4 h5 h6 ih => rw [get_swap h5 h6, if_neg (by omega), if_neg (by omega), ih]
theorem ShK.mem (h : ShK a b l m) (h1 : a ≤ k) (h2 : k < b) : ∃ k', a ≤ k' ∧ k' < b ∧ m[k]? = l[k']? := by
  induction h generalizing k with
  | refl => exact ⟨k, h1, h2, rfl⟩
  | step _ g1 g2 g3 g4 g5 g6 ih =>
    rw [get_swap g5 g6]
    split
    · exact ih g1 g2
    · split
      · exact ih g3 g4
      · exact ih h1 h2
theorem ShK.perm (h : ShK a b l m) : m.Perm l := by
  induction h with
  | refl => exact List.Perm.refl _
  | step _ g1 g2 g3 g4 g5 g6 ih =>
    obtain ⟨i1, i2⟩ := List.getElem?_eq_some_iff.1 g5
    obtain ⟨j1, j2⟩ := List.getElem?_eq_some_iff.1 g6
    subst i2
    subst j2
    exact (List.set_set_perm i1 j1).trans ih
section
variable (key : α → Int)
def So (a b : Nat) (l : List α) : Prop := ∀ p q x y, a ≤ p → p < q → q < b → l[p]? = some x → l[q]? = some y → key x ≤ key y
variable {key}
theorem So.mono {a' b' : Nat} (h : So key a b l) (ha : a ≤ a') (hb : b' ≤ b) : So key a' b' l := fun p q x y h1 h2 h3 => h p q x y (by omega) h2 (by omega)
theorem So.same (h : So key a b l) (hs : ∀ k, a ≤ k → k < b → m[k]? = l[k]?) : So key a b m := fun p q x y h1 h2 h3 hx hy => h p q x y h1 h2 h3 ((hs p h1 (by omega)).symm.trans hx) ((hs q (by omega) h3).symm.trans hy)
theorem So.one (h : b ≤ a + 1) : So key a b l := fun p q x y h1 h2 h3 => by omega
def InsK (key : α → Int) (a i j : Nat) (l : List α) : Prop := ∀ p q x y, a ≤ p → p < q → q ≤ i → q ≠ j → l[p]? = some x → l[q]? = some y → key x ≤ key y
theorem InsK.start (h : So key a i l) : InsK key a i i l := fun p q x y h1 h2 h3 h4 => h p q x y h1 h2 (by omega)
theorem InsK.stop {x y : α} (h : InsK key a i j l) (he : j = a ∨ l[j]? = some x ∧ l[j - 1]? = some y ∧ key y ≤ key x) (haj : a ≤ j) : So key a (i + 1) l := by
  intro p q u v h1 h2 h3 hu hv
  by_cases e : q = j
  · subst e
    rcases he with e | ⟨e1, e2, e3⟩
    · omega
    · rw [e1] at hv; cases hv
      by_cases e4 : p = q - 1
      · subst e4; rw [e2] at hu; cases hu; exact e3
      · exact Int.le_trans (h p (q - 1) u y h1 (by omega) (by omega) (by omega) hu e2) e3
  · exact h p q u v h1 h2 (by omega) e hu hv
theorem InsK.step {x y : α} (h : InsK key a i j l) (haj : a < j) (hji : j ≤ i) (hx : l[j]? = some x) (hy : l[j - 1]? = some y) (hlt : key x < key y) : InsK key a i (j - 1) ((l.set j y).set (j - 1) x) := by
  intro p q u v h1 h2 h3 h4 hu hv
  rw [get_swap hx hy] at hu hv
  rw [if_neg h4] at hv
  by_cases e : q = j
  · rw [if_pos e, hy] at hv; cases hv
    by_cases e2 : p = j - 1
    · rw [if_pos e2, hx] at hu; cases hu; omega
    · rw [if_neg e2, if_neg (by omega)] at hu
      exact h p (j - 1) u y h1 (by omega) (by omega) (by omega) hu hy
  · rw [if_neg e] at hv
    by_cases e2 : p = j - 1
    · rw [if_pos e2, hx] at hu; cases hu
      exact h j q x v (by omega) (by omega) h3 e hx hv
    · rw [if_neg e2] at hu
      by_cases e3 : p = j
      · rw [if_pos e3, hy] at hu; cases hu
        exact h (j - 1) q y v (by omega) (by omega) h3 e hy hv
      · rw [if_neg e3] at hu
        exact h p q u v h1 h2 h3 e hu hv
def rot (l : List α) (a m b k : Nat) : Option α := if a ≤ k ∧ k < b then (if k < a + (b - m) then l[k + (m - a)]? else l[k - (b - m)]?) else l[k]?
def Rot (a m b : Nat) (l r : List α) : Prop := ∀ k, r[k]? = rot l a m b k
def Swp (a b n : Nat) (l r : List α) : Prop := ∀ k, r[k]? = if a ≤ k ∧ k < a + n then l[k - a + b]? else if b ≤ k ∧ k < b + n then l[k - b + a]? else l[k]?
theorem Swp.zero : Swp a b 0 l l := fun k => by rw [if_neg (by omega), if_neg (by omega)]
theorem Swp.step {n : Nat} {x y : α} (h : Swp a b n l r) (hab : a + n < b) (hx : r[a + n]? = some x) (hy : r[b + n]? = some y) : Swp a b (n + 1) l ((r.set (a + n) y).set (b + n) x) := by
  intro k
  have e1 : r[a + n]? = l[a + n]? := by rw [h, if_neg (by omega), if_neg (by omega)]
  have e2 : r[b + n]? = l[b + n]? := by rw [h, if_neg (by omega), if_neg (by omega)]
  rw [get_swap hx hy, e1, e2]
  by_cases c1 : k = b + n
  · rw [if_pos c1, if_neg (by omega), if_pos (by omega), show k - b + a = a + n by omega]
  · rw [if_neg c1]
    by_cases c2 : k = a + n
    · rw [if_pos c2, if_pos (by omega), show k - a + b = b + n by omega]
    · rw [if_neg c2, h k]
      by_cases c3 : a ≤ k ∧ k < a + n
      · rw [if_pos c3, if_pos (by omega)]
      · rw [if_neg c3]
        by_cases c4 : b ≤ k ∧ k < b + n
        · rw [if_pos c4, if_neg (by omega), if_pos (by omega)]
        · rw [if_neg c4, if_neg (by omega), if_neg (by omega)]
theorem rot_left {c : List α} {m i k : Nat} (hi : i ≤ m) (hk : k < i) (hs : Swp (m - i) m k l c) (ht : ∀ p, r[p]? = rot c (m - (i - k)) m (m + k) p) : ∀ p, r[p]? = rot l (m - i) m (m + k) p := by
  intro p
  rw [ht p]
  unfold rot
  have h := hs
  unfold Swp at h
  by_cases e1 : m - i ≤ p ∧ p < m + k
  · rw [if_pos e1]
    by_cases e2 : m - (i - k) ≤ p
    · rw [if_pos ⟨e2, e1.2⟩]
      by_cases e3 : p < m - (i - k) + (m + k - m)
      · rw [if_pos e3, h, if_neg (by omega)]
        by_cases e4 : p < m - i + (m + k - m)
        · omega
        · rw [if_neg e4, if_pos (by omega)]
          congr 1; omega
      · rw [if_neg e3, h, if_neg (by omega), if_neg (by omega), if_neg (by omega)]
    · rw [if_neg (by omega), h, if_pos (by omega), if_pos (by omega)]
      congr 1; omega
  · rw [if_neg e1, if_neg (by omega), h, if_neg (by omega), if_neg (by omega)]
theorem rot_right {c : List α} {m i k : Nat} (hi : i ≤ m) (hk : i < k) (hs : Swp (m - i) (m + k - i) i l c) (ht : ∀ p, r[p]? = rot c (m - i) m (m + (k - i)) p) : ∀ p, r[p]? = rot l (m - i) m (m + k) p := by
  intro p
  rw [ht p]
  unfold rot
  have h := hs
  unfold Swp at h
  by_cases e1 : m - i ≤ p ∧ p < m + k
  · rw [if_pos e1]
    by_cases e2 : p < m + (k - i)
    · rw [if_pos ⟨e1.1, e2⟩]
      by_cases e3 : p < m - i + (m + (k - i) - m)
      · rw [if_pos e3, if_pos (by omega), h, if_neg (by omega)]
        by_cases e4 : m + k - i ≤ p + (m - (m - i))
        · omega
        · rw [if_neg (by omega)]
      · rw [if_neg e3, h]
        by_cases e4 : p < m - i + (m + k - m)
        · rw [if_pos e4, if_pos (by omega)]
          congr 1; omega
        · omega
    · rw [if_neg (by omega), h, if_neg (by omega), if_pos (by omega), if_neg (by omega)]
      congr 1; omega
  · rw [if_neg e1, if_neg (by omega), h, if_neg (by omega), if_neg (by omega)]
theorem rot_same {c : List α} {m i : Nat} (hi : i ≤ m) (hs : Swp (m - i) m i l c) : Rot (m - i) m (m + i) l c := by
  intro p
  rw [hs p]
  unfold rot
  by_cases e1 : m - i ≤ p ∧ p < m + i
  · rw [if_pos e1]
    by_cases e2 : p < m
    · rw [if_pos (by omega), if_pos (by omega)]
      congr 1; omega
    · rw [if_neg (by omega), if_pos (by omega), if_neg (by omega)]
      congr 1; omega
  · rw [if_neg e1, if_neg (by omega), if_neg (by omega)]
theorem merge_parts {m s e mid : Nat} {r : List α} (hb : b ≤ l.length) (h1 : So key a m l) (h2 : So key m b l) (has : a ≤ s) (hsm : s ≤ m) (hme : m ≤ e) (heb : e ≤ b) (hmid : mid = s + (e - m))
    (hl : s = a ∨ e = b ∨ ∀ x y, l[s - 1]? = some x → l[e]? = some y → key x ≤ key y) (hg : s = m ∨ e = m ∨ ∀ x y, l[e - 1]? = some x → l[s]? = some y → key x ≤ key y) (hr : Rot s m e l r) :
    So key a s r ∧ So key s mid r ∧ So key mid e r ∧ So key e b r ∧ ∀ p q x y, a ≤ p → p < mid → mid ≤ q → q < b → r[p]? = some x → r[q]? = some y → key x ≤ key y := by
  subst hmid
  unfold Rot rot at hr
  have sub : ∀ p, a ≤ p → p < s → r[p]? = l[p]? := fun p _ h => by rw [hr p, if_neg (by omega)]
  have sup : ∀ p, e ≤ p → r[p]? = l[p]? := fun p h => by rw [hr p, if_neg (by omega)]
  have lo : ∀ p, s ≤ p → p < s + (e - m) → r[p]? = l[p + (m - s)]? := fun p h h' => by rw [hr p, if_pos (by omega), if_pos h']
  have hi : ∀ p, s + (e - m) ≤ p → p < e → r[p]? = l[p - (e - m)]? := fun p h h' => by rw [hr p, if_pos (by omega), if_neg (by omega)]
  have gt : ∀ k, k < b → ∃ x, l[k]? = some x := fun k hk => ⟨l[k], List.getElem?_eq_getElem (by omega)⟩
  have A : ∀ p q x y, a ≤ p → p < s → e ≤ q → q < b → l[p]? = some x → l[q]? = some y → key x ≤ key y := by
    intro p q x y g1 g2 g3 g4 hx hy
    obtain ⟨x', hx'⟩ := gt (s - 1) (by omega)
    obtain ⟨y', hy'⟩ := gt e (by omega)
    have k1 : key x ≤ key x' := by
      by_cases c : p = s - 1
      · subst c; rw [hx] at hx'; cases hx'; exact Int.le_refl _
      · exact h1 p (s - 1) x x' g1 (by omega) (by omega) hx hx'
    have k2 : key y' ≤ key y := by
      by_cases c : q = e
      · subst c; rw [hy] at hy'; cases hy'; exact Int.le_refl _
      · exact h2 e q y' y (by omega) (by omega) g4 hy' hy
    rcases hl with c | c | c
    · omega
    · omega
    · have := c x' y' hx' hy'; omega
  have B : ∀ p q x y, m ≤ p → p < e → s ≤ q → q < m → l[p]? = some x → l[q]? = some y → key x ≤ key y := by
    intro p q x y g1 g2 g3 g4 hx hy
    obtain ⟨x', hx'⟩ := gt (e - 1) (by omega)
    obtain ⟨y', hy'⟩ := gt s (by omega)
    have k1 : key x ≤ key x' := by
      by_cases c : p = e - 1
      · subst c; rw [hx] at hx'; cases hx'; exact Int.le_refl _
      · exact h2 p (e - 1) x x' g1 (by omega) (by omega) hx hx'
    have k2 : key y' ≤ key y := by
      by_cases c : q = s
      · subst c; rw [hy] at hy'; cases hy'; exact Int.le_refl _
      · exact h1 s q y' y has (by omega) g4 hy' hy
    rcases hg with c | c | c
    · omega
    · omega
    · have := c x' y' hx' hy'; omega
  refine ⟨(h1.mono (Nat.le_refl _) hsm).same fun k g1 g2 => sub k g1 g2, ?_, ?_, (h2.mono hme (Nat.le_refl _)).same fun k g1 g2 => sup k g1, ?_⟩
  · intro p q x y g1 g2 g3 hx hy
    rw [lo p g1 (by omega)] at hx
    rw [lo q (by omega) g3] at hy
    exact h2 _ _ x y (by omega) (by omega) (by omega) hx hy
  · intro p q x y g1 g2 g3 hx hy
    rw [hi p g1 (by omega)] at hx
    rw [hi q (by omega) g3] at hy
    exact h1 _ _ x y (by omega) (by omega) (by omega) hx hy
  · intro p q x y g1 g2 g3 g4 hx hy
    by_cases c1 : p < s
    · rw [sub p g1 c1] at hx
      by_cases c2 : q < e
      · rw [hi q g3 c2] at hy
        exact h1 _ _ x y g1 (by omega) (by omega) hx hy
      · rw [sup q (by omega)] at hy
        exact A p q x y g1 c1 (by omega) g4 hx hy
    · rw [lo p (by omega) g2] at hx
      by_cases c2 : q < e
      · rw [hi q g3 c2] at hy
        exact B _ _ x y (by omega) (by omega) (by omega) (by omega) hx hy
      · rw [sup q (by omega)] at hy
        exact h2 _ _ x y (by omega) (by omega) g4 hx hy
theorem merge_join {mid : Nat} {r3 r4 : List α} (hc : ∀ p q x y, a ≤ p → p < mid → mid ≤ q → q < b → r[p]? = some x → r[q]? = some y → key x ≤ key y) (h3 : ShK a mid r r3) (s3 : So key a mid r3) (h4 : ShK mid b r3 r4) (s4 : So key mid b r4) : So key a b r4 := by
  intro p q x y g1 g2 g3 hx hy
  by_cases c1 : mid ≤ p
  · exact s4 p q x y c1 g2 g3 hx hy
  rw [h4.out (.inl (by omega))] at hx
  by_cases c2 : q < mid
  · rw [h4.out (.inl c2)] at hy
    exact s3 p q x y g1 g2 c2 hx hy
  obtain ⟨p', p1, p2, p3⟩ := h3.mem g1 (by omega)
  obtain ⟨q', q1, q2, q3⟩ := h4.mem (by omega : mid ≤ q) g3
  rw [p3] at hx
  rw [q3, h3.out (.inr q1)] at hy
  exact hc p' q' x y p1 p2 q1 q2 hx hy
end
theorem rot_triv {m : Nat} (h : a = m ∨ b = m) (hab : a ≤ m ∧ m ≤ b) : Rot a m b l l := by
  intro k
  unfold rot
  by_cases e : a ≤ k ∧ k < b
  · rw [if_pos e]
    rcases h with rfl | rfl
    · rw [if_pos (by omega), Nat.sub_self]; rfl
    · rw [if_neg (by omega), Nat.sub_self]; rfl
  · rw [if_neg e]
theorem rot_up {x y : α} (h : Rot a (a + 1) (k + 1) l r) (hak : a ≤ k) (hx : r[k]? = some x) (hy : r[k + 1]? = some y) : Rot a (a + 1) (k + 2) l ((r.set k y).set (k + 1) x) := by
  intro p
  have e1 := h k
  have e2 := h (k + 1)
  unfold rot at e1 e2
  rw [if_pos (by omega), if_neg (by omega)] at e1
  rw [if_neg (by omega)] at e2
  rw [get_swap hx hy, e1, e2]
  unfold rot
  by_cases c1 : p = k + 1
  · rw [if_pos c1, if_pos (by omega), if_neg (by omega)]
    congr 1; omega
  · rw [if_neg c1]
    by_cases c2 : p = k
    · rw [if_pos c2, if_pos (by omega), if_pos (by omega)]
      congr 1; omega
    · rw [if_neg c2, h p]
      unfold rot
      by_cases c3 : a ≤ p ∧ p < k + 1
      · rw [if_pos c3, if_pos (by omega), if_pos (by omega), if_pos (by omega)]
      · rw [if_neg c3, if_neg (by omega)]
theorem rot_dn {m : Nat} {x y : α} (h : Rot (k + 1) m (m + 1) l r) (hkm : k < m) (hx : r[k + 1]? = some x) (hy : r[k]? = some y) : Rot k m (m + 1) l ((r.set (k + 1) y).set k x) := by
  intro p
  have e1 := h (k + 1)
  have e2 := h k
  unfold rot at e1 e2
  rw [if_pos (by omega), if_pos (by omega)] at e1
  rw [if_neg (by omega)] at e2
  rw [get_swap hx hy, e1, e2]
  unfold rot
  by_cases c1 : p = k
  · rw [if_pos c1, if_pos (by omega), if_pos (by omega)]
    congr 1; omega
  · rw [if_neg c1]
    by_cases c2 : p = k + 1
    · rw [if_pos c2, if_pos (by omega), if_neg (by omega)]
      congr 1; omega
    · rw [if_neg c2, h p]
      unfold rot
      by_cases c3 : k + 1 ≤ p ∧ p < m + 1
      · rw [if_pos c3, if_neg (by omega), if_pos (by omega), if_neg (by omega)]
      · rw [if_neg c3, if_neg (by omega)]
section
variable {key : α → Int}
theorem so_left (hb : b ≤ l.length) (h2 : So key (a + 1) b l) (hai : a + 1 ≤ i) (hib : i ≤ b) (h1 : i = a + 1 ∨ ∀ x y, l[i - 1]? = some x → l[a]? = some y → key x < key y) (h3 : i = b ∨ ∀ x y, l[a]? = some x → l[i]? = some y → key x ≤ key y) (hr : Rot a (a + 1) i l r) : So key a b r := by
  unfold Rot rot at hr
  have lo : ∀ p, a ≤ p → p < i - 1 → r[p]? = l[p + 1]? := fun p g1 g2 => by rw [hr p, if_pos (by omega), if_pos (by omega)]; congr 1; omega
  have at_ : r[i - 1]? = l[a]? := by rw [hr, if_pos (by omega), if_neg (by omega)]; congr 1; omega
  have hi : ∀ p, i ≤ p → r[p]? = l[p]? := fun p g => by rw [hr p, if_neg (by omega)]
  have gt : ∀ k, k < b → ∃ x, l[k]? = some x := fun k hk => ⟨l[k], List.getElem?_eq_getElem (by omega)⟩
  intro p q x y g1 g2 g3 hx hy
  by_cases c1 : q < i - 1
  · rw [lo p g1 (by omega)] at hx
    rw [lo q (by omega) c1] at hy
    exact h2 _ _ x y (by omega) (by omega) (by omega) hx hy
  by_cases c2 : q = i - 1
  · subst c2
    rw [lo p g1 g2] at hx
    rw [at_] at hy
    obtain ⟨z, hz⟩ := gt (i - 1) (by omega)
    have k1 : key x ≤ key z := by
      by_cases e : p + 1 = i - 1
      · rw [e] at hx; rw [hx] at hz; cases hz; exact Int.le_refl _
      · exact h2 _ _ x z (by omega) (by omega) (by omega) hx hz
    rcases h1 with e | e
    · omega
    · have := e z y hz hy; omega
  · rw [hi q (by omega)] at hy
    by_cases c3 : p < i - 1
    · rw [lo p g1 c3] at hx
      exact h2 _ _ x y (by omega) (by omega) g3 hx hy
    by_cases c4 : p = i - 1
    · rw [c4, at_] at hx
      obtain ⟨z, hz⟩ := gt i (by omega)
      have k1 : key z ≤ key y := by
        by_cases e : q = i
        · subst e; rw [hy] at hz; cases hz; exact Int.le_refl _
        · exact h2 _ _ z y (by omega) (by omega) g3 hz hy
      rcases h3 with e | e
      · omega
      · have := e x z hx hz; omega
    · rw [hi p (by omega)] at hx
      exact h2 _ _ x y (by omega) g2 g3 hx hy
theorem so_right {m : Nat} (hb : m < l.length) (h2 : So key a m l) (hai : a ≤ i) (him : i ≤ m) (h1 : i = a ∨ ∀ x y, l[i - 1]? = some x → l[m]? = some y → key x ≤ key y) (h3 : i = m ∨ ∀ x y, l[m]? = some x → l[i]? = some y → key x < key y) (hr : Rot i m (m + 1) l r) : So key a (m + 1) r := by
  unfold Rot rot at hr
  have lo : ∀ p, p < i → r[p]? = l[p]? := fun p g => by rw [hr p, if_neg (by omega)]
  have at_ : r[i]? = l[m]? := by rw [hr, if_pos (by omega), if_pos (by omega)]; congr 1; omega
  have hi : ∀ p, i < p → p ≤ m → r[p]? = l[p - 1]? := fun p g g' => by rw [hr p, if_pos (by omega), if_neg (by omega)]; congr 1; omega
  have gt : ∀ k, k ≤ m → ∃ x, l[k]? = some x := fun k hk => ⟨l[k], List.getElem?_eq_getElem (by omega)⟩
  intro p q x y g1 g2 g3 hx hy
  by_cases c1 : q < i
  · rw [lo p (by omega)] at hx
    rw [lo q c1] at hy
    exact h2 _ _ x y g1 g2 (by omega) hx hy
  by_cases c2 : q = i
  · rw [lo p (by omega)] at hx
    rw [c2, at_] at hy
    obtain ⟨z, hz⟩ := gt (i - 1) (by omega)
    have k1 : key x ≤ key z := by
      by_cases e : p = i - 1
      · rw [e, hz] at hx; cases hx; exact Int.le_refl _
      · exact h2 _ _ x z g1 (by omega) (by omega) hx hz
    rcases h1 with e | e
    · omega
    · have := e z y hz hy; omega
  · rw [hi q (by omega) (by omega)] at hy
    by_cases c3 : p < i
    · rw [lo p c3] at hx
      exact h2 _ _ x y g1 (by omega) (by omega) hx hy
    by_cases c4 : p = i
    · rw [c4, at_] at hx
      obtain ⟨z, hz⟩ := gt i him
      have k1 : key z ≤ key y := by
        by_cases e : q - 1 = i
        · rw [e, hz] at hy; cases hy; exact Int.le_refl _
        · exact h2 _ _ z y hai (by omega) (by omega) hz hy
      rcases h3 with e | e
      · omega
      · have := e x z hx hz; omega
    · rw [hi p (by omega) (by omega)] at hx
      exact h2 _ _ x y (by omega) (by omega) (by omega) hx hy
end
end Go.Proofs.YtchhhjlpnecjkaaGreat
namespace Go.Proofs.YtchhhjlpnecjkaaGreat
open Go Go.RowKit Go.Proofs.YtchhhjlpnecjkaaGreat.Den
variable {R : Type} {Q : R → World → Prop} {w : World}
section
variable {t : Ty} {E : TypeId} {S : Nat → Prop} {s : Sl} {l : List t.T} {sz : Nat}
theorem swapI (ho : Own S w E t s l) (hsz : sz = t.size) (hf : t.fine = true) {p q : Nat} {ip iq : Int} (hp : ip = (p : Int)) (hq : iq = (q : Int)) {x y : t.T} (hx : l[q]? = some x) (hy : l[p]? = some y) {K : W R}
    (hk : ∀ w', Own S w' E t s ((l.set q y).set p x) → Fr (fun k => s.v.ownBlock = some k) w w' → w'.heap.size = w.heap.size → K Q w') :
    (idxW s.a s.n sz ip fun a => ld t a fun y' => idxW s.a s.n sz iq fun b => ld t b fun x' => idxW s.a s.n sz iq fun c => stoL c (t.cells y') 0 <| idxW s.a s.n sz ip fun d => stoL d (t.cells x') 0 K) Q w := by
  subst hp hq hsz
  have hpl := (List.getElem?_eq_some_iff.1 hy).1
  have hql := (List.getElem?_eq_some_iff.1 hx).1
  refine ho.idx rfl (by omega) (by omega) fun g y' hg hy' hr => ldI y' hr ?_
  refine ho.idx rfl (by omega) (by omega) fun g2 x' hg2 hx' hr2 => ldI x' hr2 ?_
  rw [Int.toNat_natCast] at hy' hx'
  rw [hy] at hy'
  rw [hx] at hx'
  cases hy'
  cases hx'
  refine ho.idx rfl (by omega) (by omega) fun g3 x3 hg3 _ _ => ?_
  rw [Int.toNat_natCast]
  refine ho.set hf hql hg3 y fun w2 o2 f2 s2 => ?_
  refine o2.idx rfl (by omega) (by simp; omega) fun g4 x4 hg4 _ _ => ?_
  rw [Int.toNat_natCast]
  exact o2.set hf (by simp; omega) hg4 x fun w3 o3 f3 s3 => hk w3 o3 (f2.then f3) (by omega)
theorem insI (hsz : sz = t.size) (hf : t.fine = true) (key : t.T → Int) (callc : t.T → t.T → (Int → W R) → W R) (hc : ∀ x y (K : Int → W R) Q w, (∀ z w', (z < 0 ↔ key x < key y) → Fr None w w' → K z Q w') → callc x y K Q w)
    {a b : Nat} {ia ib : Int} (ha : ia = (a : Int)) (hb : ib = (b : Int)) (hab : a ≤ b) (hbl : b ≤ l.length) (hm : l.length ≤ 4611686018427387903) (ho : Own S w E t s l) {K : W R} (hk : ∀ l' w', ShK a b l l' → So key a b l' → Own S w' E t s l' → Fr (fun k => s.v.ownBlock = some k) w w' → K Q w') :
    loopW (fun K_1 s_2 => cond (decide (s_2 < ib)) (loopW (fun K_3 s_4 =>
      joinW (σ := Bool) (fun J_5 => drawW <| cond (decide (s_4 > ia)) (idxW s.a s.n sz s_4 fun x_6 => ld t x_6 fun x_7 => idxW s.a s.n sz (IntKind.wrap .i64 (s_4 - 1)) fun x_8 => ld t x_8 fun x_9 => callc x_7 x_9 fun x_10 => J_5 (decide (x_10 < 0))) (J_5 false))
      fun s_11 => cond s_11 (drawW <| idxW s.a s.n sz (IntKind.wrap .i64 (s_4 - 1)) fun a => ld t a fun y' => idxW s.a s.n sz s_4 fun b => ld t b fun x' => idxW s.a s.n sz s_4 fun c => stoL c (t.cells y') 0 <| idxW s.a s.n sz (IntKind.wrap .i64 (s_4 - 1)) fun d => stoL d (t.cells x') 0 (K_3 (IntKind.wrap .i64 (s_4 - 1)))) (K_1 (IntKind.wrap .i64 (s_2 + 1)))) s_2) K) (IntKind.wrap .i64 (ia + 1)) Q w := by
  subst ha hb hsz
  have hnd : ∀ {u v : World}, Fr (fun k => s.v.ownBlock = some k) u v → Fr (fun k => s.v.ownBlock = some k) u v.drew := fun f => f.then0 (Fr.refl _ _).drew
  refine loopI (fun (i : Int) u => ∃ (n : Nat) (m : List t.T), i = (n : Int) ∧ a + 1 ≤ n ∧ (n ≤ b ∨ n = a + 1) ∧ ShK a b l m ∧ So key a n m ∧ Own S u E t s m ∧ Fr (fun k => s.v.ownBlock = some k) w u) (fun i _ => b - i.toNat) ⟨a + 1, l, by rw [w64 (by omega)]; rfl, Nat.le_refl _, .inr rfl, .refl _, So.one (Nat.le_refl _), ho, Fr.refl _ _⟩ ?_
  rintro _ u ⟨n, m, rfl, hn1, hn2, hsh, hso, hou, fu⟩
  have hml := hsh.len
  refine condD (fun hlt => ?_) fun hge => hk m u hsh (hso.mono (Nat.le_refl _) (by omega)) hou fu
  have hlt : n < b := by omega
  refine loopI (fun (i : Int) v => ∃ (j : Nat) (m : List t.T), i = (j : Int) ∧ a ≤ j ∧ j ≤ n ∧ ShK a b l m ∧ InsK key a n j m ∧ Own S v E t s m ∧ Fr (fun k => s.v.ownBlock = some k) w v) (fun i _ => i.toNat) ⟨n, m, rfl, by omega, Nat.le_refl _, hsh, InsK.start hso, hou, fu⟩ ?_
  rintro _ v ⟨j, m2, rfl, hj1, hj2, hsh2, hin, hov, fv⟩
  have hml2 := hsh2.len
  refine joinI (fun z u' => Own S u' E t s m2 ∧ Fr (fun k => s.v.ownBlock = some k) w u' ∧ (z = true → a < j ∧ ∃ x y, m2[j]? = some x ∧ m2[j - 1]? = some y ∧ key x < key y) ∧ (z = false → j = a ∨ ∃ x y, m2[j]? = some x ∧ m2[j - 1]? = some y ∧ key y ≤ key x)) ?_ ?_
  · have hod : Own S v.drew E t s m2 := hov.none (Fr.refl None v).drew
    show (cond (decide ((j : Int) > (a : Int))) _ _ : W R) _ v.drew
    refine condD (fun hgt => ?_) fun hle => ⟨hod, hnd fv, fun h => (by cases h), fun _ => .inl (by omega)⟩
    refine hod.idx rfl (by omega) (by omega) fun g x hg hx hr => ldI x hr ?_
    rw [w64 (x := (j : Int) - 1) (by omega)]
    refine hod.idx rfl (by omega) (by omega) fun g2 y hg2 hy hr2 => ldI y hr2 ?_
    rw [Int.toNat_natCast] at hx
    rw [show ((j : Int) - 1).toNat = j - 1 by omega] at hy
    refine hc x y _ _ _ fun z w' hz f => ?_
    refine ⟨hod.none f, (hnd fv).then0 f, fun h => ⟨by omega, x, y, hx, hy, hz.1 (by simpa using h)⟩, fun h => .inr ⟨x, y, hx, hy, ?_⟩⟩
    have h : ¬ z < 0 := by simpa using h
    exact Int.not_lt.1 fun h2 => h (hz.2 h2)
  rintro z v2 ⟨ho2, f2, ht, hff⟩
  refine condI (fun hz => ?_) fun hz => ?_
  · obtain ⟨haj, x, y, hx, hy, hkey⟩ := ht hz
    refine swapI (p := j - 1) (q := j) (ho2.none (Fr.refl None v2).drew) rfl hf (by rw [w64 (by omega)]; omega) rfl hx hy fun v3 o3 f3 s3 => ?_
    refine ⟨⟨j - 1, _, by rw [w64 (by omega)]; omega, by omega, by omega, hsh2.step (by omega) (by omega) (by omega) (by omega) hx hy, hin.step haj hj2 hx hy hkey, o3, (hnd f2).then f3⟩, ?_⟩
    rw [w64 (by omega)]
    omega
  · refine ⟨⟨n + 1, m2, by rw [w64 (by omega)]; rfl, by omega, .inl (by omega), hsh2, ?_, ho2, f2⟩, ?_⟩
    · rcases hff hz with e | ⟨x, y, e1, e2, e3⟩
      · subst e
        by_cases hl : j < m2.length
        · obtain ⟨x, hx⟩ : ∃ x, m2[j]? = some x := ⟨_, List.getElem?_eq_getElem hl⟩
          exact hin.stop (x := x) (y := x) (.inl rfl) hj1
        · intro p q x y h1 h2 h3 hx hy
          exact absurd (List.getElem?_eq_some_iff.1 hx).1 (by omega)
      · exact hin.stop (.inr ⟨e1, e2, e3⟩) hj1
    · rw [w64 (by omega)]
      omega
end
theorem spec_diff_Patch_c2 {x y : Int × Sl} {K : Res [.sc (.int .i64)] → W R} (hk : ∀ z w', (z < 0 ↔ x.1 < y.1) → Fr None w w' → K z Q w') : callW Tryz.prog k_diff_Patch_c2 [.agg ⟨[.int .u32 x.1, .slice x.2.a x.2.n x.2.c]⟩, .agg ⟨[.int .u32 y.1, .slice y.2.a y.2.n y.2.c]⟩] [.sc (.int .i64)] K Q w := by
  refine C_diff_Patch_c2 x y K Q w ?_
  unfold F_diff_Patch_c2
  refine newI fun w1 B1 f1 z1 => newI fun w2 B2 f2 z2 => fldI (B1.fr f2 fun h => h) (i := 0) (x := x.1) rfl (fldI B2 (i := 0) (x := y.1) rfl (spec_Compare_ID ?_))
  exact hk _ w2 cmp3_lt (f1.then0 f2)
abbrev entKey (e : Int × Sl) : Int := e.1
section
variable {S : Nat → Prop} {s : Sl} {l : List (Int × Sl)} {a b m : Nat}
theorem spec_swapRange_Ent (ho : Own S w 57 entT s l) {n : Nat} (hab : a + n ≤ b) (hbl : b + n ≤ l.length) (hm : l.length ≤ 4611686018427387903) {K : Res [] → W R} (hk : ∀ l' w', ShK a (b + n) l l' → Swp a b n l l' → Own S w' 57 entT s l' → Fr (fun k => s.v.ownBlock = some k) w w' → K () Q w') :
    callW Tryz.prog k_slices_swapRangeCmpFunc_Ent [.slice s.a s.n s.c, .int .i64 (a : Int), .int .i64 (b : Int), .int .i64 (n : Int), .func (.func 121) #[] #[]] [] K Q w := by
  refine C_slices_swapRangeCmpFunc_Ent__diff_Patch_c2 s _ _ _ K Q w ?_
  unfold F_slices_swapRangeCmpFunc_Ent__diff_Patch_c2
  refine forI (N := n) (fun i : Int => i) (fun j i u => i = (j : Int) ∧ ∃ l', ShK a (b + n) l l' ∧ Swp a b j l l' ∧ Own S u 57 entT s l' ∧ Fr (fun k => s.v.ownBlock = some k) w u) ⟨rfl, l, .refl _, Swp.zero, ho, Fr.refl _ _⟩ (fun j s w' h => h.1) ?_ ?_
  · rintro j i u K' hj ⟨rfl, l', hsh, hsw, hou, fu⟩ - hK
    have hl := hsh.len
    obtain ⟨x, hx⟩ : ∃ x, l'[a + j]? = some x := ⟨_, List.getElem?_eq_getElem (by omega)⟩
    obtain ⟨y, hy⟩ : ∃ y, l'[b + j]? = some y := ⟨_, List.getElem?_eq_getElem (by omega)⟩
    refine swapI (t := entT) (p := b + j) (q := a + j) (hou.none (Fr.refl None u).drew) rfl rfl (by rw [w64 (by omega)]; omega) (by rw [w64 (by omega)]; omega) hx hy fun u2 o2 f2 s2 => ?_
    exact hK _ _ ⟨wsucc hj (by omega), _, hsh.step (by omega) (by omega) (by omega) (by omega) hx hy, hsw.step (by omega) hx hy, o2, (fu.then0 (Fr.refl None u).drew).then f2⟩
  · rintro i u ⟨_, l', hsh, hsw, hou, fu⟩
    exact hk l' u hsh hsw hou fu
theorem spec_rotate_Ent (ho : Own S w 57 entT s l) (ham : a < m) (hmb : m < b) (hbl : b ≤ l.length) (hm : l.length ≤ 4611686018427387903) {K : Res [] → W R} (hk : ∀ l' w', ShK a b l l' → Rot a m b l l' → Own S w' 57 entT s l' → Fr (fun k => s.v.ownBlock = some k) w w' → K () Q w') :
    callW Tryz.prog k_slices_rotateCmpFunc_Ent [.slice s.a s.n s.c, .int .i64 (a : Int), .int .i64 (m : Int), .int .i64 (b : Int), .func (.func 121) #[] #[]] [] K Q w := by
  refine C_slices_rotateCmpFunc_Ent__diff_Patch_c2 s _ _ _ K Q w ?_
  unfold F_slices_rotateCmpFunc_Ent__diff_Patch_c2
  refine loopI (fun (st : Int × Int) u => ∃ (i j : Nat) (l' : List (Int × Sl)), st = ((i : Int), (j : Int)) ∧ 0 < i ∧ 0 < j ∧ a + i ≤ m ∧ m + j ≤ b ∧ ShK a b l l' ∧ (∀ r, Rot (m - i) m (m + j) l' r → Rot a m b l r) ∧ Own S u 57 entT s l' ∧ Fr (fun k => s.v.ownBlock = some k) w u)
    (fun st _ => st.1.toNat + st.2.toNat) ⟨m - a, b - m, l, by rw [w64 (by omega), w64 (by omega)]; congr 1 <;> omega, by omega, by omega, by omega, by omega, .refl _, fun r h => by rw [show m - (m - a) = a by omega, show m + (b - m) = b by omega] at h; exact h, ho, Fr.refl _ _⟩ ?_
  rintro _ u ⟨i, j, l', rfl, hi, hj, hai, hjb, hsh, hrot, hou, fu⟩
  have hl := hsh.len
  dsimp only
  have em : IntKind.wrap .i64 ((m : Int) - (i : Int)) = ((m - i : Nat) : Int) := by rw [w64 (by omega)]; omega
  rw [em]
  refine condN (fun hne => ?_) fun heq => ?_
  · refine joinI (fun (st : Int × Int) u => ∃ (i2 j2 : Nat) (l' : List (Int × Sl)), st = ((i2 : Int), (j2 : Int)) ∧ 0 < i2 ∧ 0 < j2 ∧ i2 + j2 < i + j ∧ a + i2 ≤ m ∧ m + j2 ≤ b ∧ ShK a b l l' ∧ (∀ r, Rot (m - i2) m (m + j2) l' r → Rot a m b l r) ∧ Own S u 57 entT s l' ∧ Fr (fun k => s.v.ownBlock = some k) w u) ?_ ?_
    · refine condD (fun hgt => ?_) fun hle => ?_
      · have hgt : j < i := by omega
        refine spec_swapRange_Ent (a := m - i) (b := m) (n := j) hou (by omega) (by omega) (by omega) fun l2 u2 sh2 sw2 o2 f2 => ?_
        exact ⟨i - j, j, l2, by rw [w64 (by omega)]; congr 1; omega, by omega, hj, by omega, by omega, by omega, hsh.trans (sh2.mono (by omega) (by omega)), fun r h => hrot r (rot_left (by omega) hgt sw2 h), o2, fu.then f2⟩
      · have hlt : i < j := by omega
        rw [w64 (x := (m : Int) + (j : Int)) (by omega), w64 (x := (m : Int) + (j : Int) - (i : Int)) (by omega), show (m : Int) + (j : Int) - (i : Int) = ((m + j - i : Nat) : Int) by omega]
        refine spec_swapRange_Ent (a := m - i) (b := m + j - i) (n := i) hou (by omega) (by omega) (by omega) fun l2 u2 sh2 sw2 o2 f2 => ?_
        exact ⟨i, j - i, l2, by rw [w64 (by omega)]; congr 1; omega, hi, by omega, by omega, by omega, by omega, hsh.trans (sh2.mono (by omega) (by omega)), fun r h => hrot r (rot_right (by omega) hlt sw2 h), o2, fu.then f2⟩
    · rintro _ u2 ⟨i2, j2, l2, rfl, h1, h2, h3, h4, h5, h6, h7, h8, h9⟩
      exact ⟨⟨i2, j2, l2, rfl, h1, h2, h4, h5, h6, h7, h8, h9⟩, by simp only [Int.toNat_natCast]; exact h3⟩
  · have heq : i = j := by omega
    subst heq
    refine spec_swapRange_Ent (a := m - i) (b := m) (n := i) hou (by omega) (by omega) (by omega) fun l2 u2 sh2 sw2 o2 f2 => ?_
    exact hk l2 u2 (hsh.trans (sh2.mono (by omega) (by omega))) (hrot l2 (rot_same (by omega) sw2)) o2 (fu.then f2)
theorem spec_insertion_Ent (ho : Own S w 57 entT s l) (hab : a ≤ b) (hbl : b ≤ l.length) (hm : l.length ≤ 4611686018427387903) {K : Res [] → W R} (hk : ∀ l' w', ShK a b l l' → So entKey a b l' → Own S w' 57 entT s l' → Fr (fun k => s.v.ownBlock = some k) w w' → K () Q w') :
    callW Tryz.prog k_slices_insertionSortCmpFunc_Ent [.slice s.a s.n s.c, .int .i64 (a : Int), .int .i64 (b : Int), .func (.func 121) #[] #[]] [] K Q w := by
  refine C_slices_insertionSortCmpFunc_Ent__diff_Patch_c2 s _ _ K Q w ?_
  unfold F_slices_insertionSortCmpFunc_Ent__diff_Patch_c2
  exact insI (t := entT) (sz := 2) rfl rfl entKey (fun x y K => callW Tryz.prog k_diff_Patch_c2 [.agg ⟨[.int .u32 x.1, .slice x.2.a x.2.n x.2.c]⟩, .agg ⟨[.int .u32 y.1, .slice y.2.a y.2.n y.2.c]⟩] [.sc (.int .i64)] K) (fun x y K Q w h => spec_diff_Patch_c2 h) rfl rfl hab hbl hm ho hk
abbrev cmpEnt (x y : Int × Sl) (K : Int → W Unit) : W Unit := callW Tryz.prog k_diff_Patch_c2 [.agg ⟨[.int .u32 x.1, .slice x.2.a x.2.n x.2.c]⟩, .agg ⟨[.int .u32 y.1, .slice y.2.a y.2.n y.2.c]⟩] [.sc (.int .i64)] K
theorem cmpI (ho : Own S w 57 entT s l) {p q : Nat} {ip iq : Int} (hp : ip = (p : Int)) (hq : iq = (q : Int)) {x y : Int × Sl} (hx : l[p]? = some x) (hy : l[q]? = some y) {K : Int → W Unit} {Q : Unit → World → Prop}
    (hk : ∀ z w', (z < 0 ↔ x.1 < y.1) → Fr None w w' → K z Q w') : (drawW <| idxW s.a s.n 2 ip fun a => ld entT a fun (x : Int × Sl) => idxW s.a s.n 2 iq fun b => ld entT b fun (y : Int × Sl) => cmpEnt x y K) Q w := by
  subst hp hq
  have hpl := (List.getElem?_eq_some_iff.1 hx).1
  have hql := (List.getElem?_eq_some_iff.1 hy).1
  have fd : Fr None w w.drew := (Fr.refl _ _).drew
  have hod := ho.none fd
  refine hod.idx rfl (by omega) (by omega) fun g x' hg hx' hr => ldI x' hr ?_
  refine hod.idx rfl (by omega) (by omega) fun g2 y' hg2 hy' hr2 => ldI y' hr2 ?_
  rw [Int.toNat_natCast] at hx' hy'
  rw [hx] at hx'
  rw [hy] at hy'
  cases hx'
  cases hy'
  exact spec_diff_Patch_c2 fun z w' hz f => hk z w' hz (fd.then0 f)
theorem spec_symMerge_Ent : ∀ (d : Nat) {a b m : Nat} {l : List (Int × Sl)} {w : World} {R : Type} {Q : R → World → Prop} (_ : b - a ≤ d) (_ : Own S w 57 entT s l) (_ : a < m) (_ : m < b) (_ : b ≤ l.length) (_ : l.length ≤ 2305843009213693951) (_ : So entKey a m l) (_ : So entKey m b l) {K : Res [] → W R}
    (_ : ∀ l' w', ShK a b l l' → So entKey a b l' → Own S w' 57 entT s l' → Fr (fun k => s.v.ownBlock = some k) w w' → K () Q w'),
    callW Tryz.prog k_slices_symMergeCmpFunc_Ent [.slice s.a s.n s.c, .int .i64 (a : Int), .int .i64 (m : Int), .int .i64 (b : Int), .func (.func 121) #[] #[]] [] K Q w
  | 0, _, _, _, _, _, _, _, hd, _, h1, h2, _, _, _, _, _, _ => by omega
  | d + 1, a, b, m, l, w, R, Q, hd, ho, ham, hmb, hbl, hm, s1, s2, K, hk => by
    have gt : ∀ {l : List (Int × Sl)} {k : Nat}, k < l.length → ∃ x, l[k]? = some x := fun hk => ⟨_, List.getElem?_eq_getElem hk⟩
    refine C_slices_symMergeCmpFunc_Ent__diff_Patch_c2 s _ _ _ K Q w ?_
    unfold F_slices_symMergeCmpFunc_Ent__diff_Patch_c2
    rw [w64 (x := (m : Int) - (a : Int)) (by omega), w64 (x := (b : Int) - (m : Int)) (by omega)]
    refine condE (fun e1 => ?_) fun e1 => condE (fun e2 => ?_) fun e2 => ?_
    · have e1 : m = a + 1 := by omega
      subst e1
      obtain ⟨pv, hpv⟩ := gt (l := l) (k := a) (by omega)
      refine loopI (fun (st : Int × Int) u => ∃ i j : Nat, st = ((i : Int), (j : Int)) ∧ a + 1 ≤ i ∧ i ≤ j ∧ j ≤ b ∧ (i = a + 1 ∨ ∀ x y, l[i - 1]? = some x → l[a]? = some y → entKey x < entKey y) ∧ (j = b ∨ ∀ x y, l[a]? = some x → l[j]? = some y → entKey x ≤ entKey y) ∧ Own S u 57 entT s l ∧ Fr (fun k => s.v.ownBlock = some k) w u)
        (fun st _ => (st.2 - st.1).toNat) ⟨a + 1, b, rfl, Nat.le_refl _, by omega, Nat.le_refl _, .inl rfl, .inl rfl, ho, Fr.refl _ _⟩ ?_
      rintro _ u ⟨i, j, rfl, h1, h2, h3, h4, h5, hou, fu⟩
      dsimp only
      refine condD (fun hlt => ?_) fun hge => ?_
      · have hlt : i < j := by omega
        rw [half (by omega)]
        obtain ⟨x, hx⟩ := gt (l := l) (k := (i + j) / 2) (by omega)
        refine cmpI hou rfl rfl hx hpv fun z u2 hz f2 => ?_
        rw [w64 (x := (((i + j) / 2 : Nat) : Int) + 1) (by omega)]
        refine joinI (fun (st : Int × Int) u => u = u2 ∧ ∃ i2 j2 : Nat, st = ((i2 : Int), (j2 : Int)) ∧ i ≤ i2 ∧ i2 ≤ j2 ∧ j2 ≤ j ∧ j2 - i2 < j - i ∧ (i2 = a + 1 ∨ ∀ x y, l[i2 - 1]? = some x → l[a]? = some y → entKey x < entKey y) ∧ (j2 = b ∨ ∀ x y, l[a]? = some x → l[j2]? = some y → entKey x ≤ entKey y)) ?_ ?_
        · refine condD (fun hc => ?_) fun hc => ?_
          · refine ⟨rfl, (i + j) / 2 + 1, j, rfl, by omega, by omega, Nat.le_refl _, by omega, .inr fun x' y' g1 g2 => ?_, h5⟩
            rw [Nat.add_sub_cancel, hx] at g1
            rw [hpv] at g2
            cases g1; cases g2
            exact hz.1 hc
          · refine ⟨rfl, i, (i + j) / 2, rfl, Nat.le_refl _, by omega, by omega, by omega, h4, .inr fun x' y' g1 g2 => ?_⟩
            rw [hpv] at g1
            rw [hx] at g2
            cases g1; cases g2
            exact Int.not_lt.1 fun h => hc (hz.2 h)
        · rintro _ u3 ⟨rfl, i2, j2, rfl, g1, g2, g3, g4, g5, g6⟩
          exact ⟨⟨i2, j2, rfl, by omega, g2, by omega, g5, g6, hou.none f2, fu.then0 f2⟩, by dsimp only; omega⟩
      · have hij : j = i := by omega
        subst hij
        rw [w64 (x := (j : Int) - 1) (by omega)]
        refine loopI (fun (st : Int) u => ∃ (k : Nat) (l' : List (Int × Sl)), st = (k : Int) ∧ a ≤ k ∧ k ≤ j - 1 ∧ ShK a b l l' ∧ Rot a (a + 1) (k + 1) l l' ∧ Own S u 57 entT s l' ∧ Fr (fun k => s.v.ownBlock = some k) w u) (fun st _ => j - st.toNat) ⟨a, l, rfl, Nat.le_refl _, by omega, .refl _, rot_triv (.inr rfl) (by omega), hou, fu⟩ ?_
        rintro _ v ⟨k, l', rfl, g1, g2, sh', hr', hov, fv⟩
        have hl' := sh'.len
        refine condD (fun hlt => ?_) fun hge => ?_
        · have hlt : k < j - 1 := by omega
          obtain ⟨x, hx⟩ := gt (l := l') (k := k) (by omega)
          obtain ⟨y, hy⟩ := gt (l := l') (k := k + 1) (by omega)
          refine swapI (t := entT) (p := k + 1) (q := k) (hov.none (Fr.refl None v).drew) rfl rfl (by rw [w64 (by omega)]; omega) rfl hx hy fun v2 o2 f2 z2 => ?_
          refine ⟨⟨k + 1, _, by rw [w64 (by omega)]; omega, by omega, by omega, sh'.step (by omega) (by omega) (by omega) (by omega) hx hy, rot_up hr' g1 hx hy, o2, (fv.then0 (Fr.refl None v).drew).then f2⟩, ?_⟩
          rw [w64 (by omega)]
          omega
        · have : k + 1 = j := by omega
          rw [this] at hr'
          exact hk l' v sh' (so_left hbl s2 h1 h3 h4 h5 hr') hov fv
    · have e2 : b = m + 1 := by omega
      subst e2
      obtain ⟨pv, hpv⟩ := gt (l := l) (k := m) (by omega)
      refine loopI (fun (st : Int × Int) u => ∃ i j : Nat, st = ((i : Int), (j : Int)) ∧ a ≤ i ∧ i ≤ j ∧ j ≤ m ∧ (i = a ∨ ∀ x y, l[i - 1]? = some x → l[m]? = some y → entKey x ≤ entKey y) ∧ (j = m ∨ ∀ x y, l[m]? = some x → l[j]? = some y → entKey x < entKey y) ∧ Own S u 57 entT s l ∧ Fr (fun k => s.v.ownBlock = some k) w u)
        (fun st _ => (st.2 - st.1).toNat) ⟨a, m, rfl, Nat.le_refl _, by omega, Nat.le_refl _, .inl rfl, .inl rfl, ho, Fr.refl _ _⟩ ?_
      rintro _ u ⟨i, j, rfl, h1, h2, h3, h4, h5, hou, fu⟩
      dsimp only
      refine condD (fun hlt => ?_) fun hge => ?_
      · have hlt : i < j := by omega
        rw [half (by omega)]
        obtain ⟨x, hx⟩ := gt (l := l) (k := (i + j) / 2) (by omega)
        refine cmpI hou rfl rfl hpv hx fun z u2 hz f2 => ?_
        rw [w64 (x := (((i + j) / 2 : Nat) : Int) + 1) (by omega)]
        refine joinI (fun (st : Int × Int) u => u = u2 ∧ ∃ i2 j2 : Nat, st = ((i2 : Int), (j2 : Int)) ∧ i ≤ i2 ∧ i2 ≤ j2 ∧ j2 ≤ j ∧ j2 - i2 < j - i ∧ (i2 = a ∨ ∀ x y, l[i2 - 1]? = some x → l[m]? = some y → entKey x ≤ entKey y) ∧ (j2 = m ∨ ∀ x y, l[m]? = some x → l[j2]? = some y → entKey x < entKey y)) ?_ ?_
        · refine condI (fun hc => ?_) fun hc => ?_
          · have hc : ¬ z < 0 := by simpa using hc
            refine ⟨rfl, (i + j) / 2 + 1, j, rfl, by omega, by omega, Nat.le_refl _, by omega, .inr fun x' y' g1 g2 => ?_, h5⟩
            rw [Nat.add_sub_cancel, hx] at g1
            rw [hpv] at g2
            cases g1; cases g2
            exact Int.not_lt.1 fun h => hc (hz.2 h)
          · have hc : z < 0 := by simpa using hc
            refine ⟨rfl, i, (i + j) / 2, rfl, Nat.le_refl _, by omega, by omega, by omega, h4, .inr fun x' y' g1 g2 => ?_⟩
            rw [hpv] at g1
            rw [hx] at g2
            cases g1; cases g2
            exact hz.1 hc
        · rintro _ u3 ⟨rfl, i2, j2, rfl, g1, g2, g3, g4, g5, g6⟩
          exact ⟨⟨i2, j2, rfl, by omega, g2, by omega, g5, g6, hou.none f2, fu.then0 f2⟩, by dsimp only; omega⟩
      · have hij : j = i := by omega
        subst hij
        refine loopI (fun (st : Int) u => ∃ (k : Nat) (l' : List (Int × Sl)), st = (k : Int) ∧ j ≤ k ∧ k ≤ m ∧ ShK a (m + 1) l l' ∧ Rot k m (m + 1) l l' ∧ Own S u 57 entT s l' ∧ Fr (fun k => s.v.ownBlock = some k) w u) (fun st _ => st.toNat) ⟨m, l, rfl, h3, Nat.le_refl _, .refl _, rot_triv (.inl rfl) (by omega), hou, fu⟩ ?_
        rintro _ v ⟨k, l', rfl, g1, g2, sh', hr', hov, fv⟩
        have hl' := sh'.len
        refine condD (fun hgt => ?_) fun hge => ?_
        · have hgt : j < k := by have hgt : (k : Int) > (j : Int) := hgt; omega
          obtain ⟨k, rfl⟩ : ∃ q, k = q + 1 := ⟨k - 1, by omega⟩
          obtain ⟨x, hx⟩ := gt (l := l') (k := k + 1) (by omega)
          obtain ⟨y, hy⟩ := gt (l := l') (k := k) (by omega)
          refine swapI (t := entT) (p := k) (q := k + 1) (hov.none (Fr.refl None v).drew) rfl rfl (by rw [w64 (by omega)]; omega) rfl hx hy fun v2 o2 f2 z2 => ?_
          refine ⟨⟨k, _, by rw [w64 (by omega)]; omega, by omega, by omega, sh'.step (by omega) (by omega) (by omega) (by omega) hx hy, rot_dn hr' (by omega) hx hy, o2, (fv.then0 (Fr.refl None v).drew).then f2⟩, ?_⟩
          rw [w64 (by omega)]
          omega
        · have : k = j := by have hge : ¬ (k : Int) > (j : Int) := hge; omega
          subst this
          exact hk l' v sh' (so_right (by omega) s1 h1 h3 h4 h5 hr') hov fv
    · obtain ⟨mid, hmid⟩ : ∃ mid, mid = (a + b) / 2 := ⟨_, rfl⟩
      rw [half (i := a) (j := b) (by omega), ← hmid, w64 (x := (mid : Int) + (m : Int)) (by omega), w64 (x := (mid : Int) + (m : Int) - (b : Int)) (by omega), w64 (x := (mid : Int) + (m : Int) - 1) (by omega)]
      refine joinI (fun (st : Int × Int) u => u = w ∧ ∃ i j : Nat, st = ((i : Int), (j : Int)) ∧ ((mid < m ∧ i + b = mid + m ∧ j = mid) ∨ (m ≤ mid ∧ i = a ∧ j = m))) ?_ ?_
      · refine condD (fun hgt => ⟨rfl, mid + m - b, mid, ?_, .inl ⟨by omega, by omega, rfl⟩⟩) fun hle => ⟨rfl, a, m, rfl, .inr ⟨by omega, rfl, rfl⟩⟩
        congr 1
        omega
      rintro _ u0 ⟨rfl, i0, j0, rfl, hij0⟩
      dsimp only
      refine loopI (fun (st : Int × Int) u => ∃ i j : Nat, st = ((i : Int), (j : Int)) ∧ i0 ≤ i ∧ i ≤ j ∧ j ≤ j0 ∧ (i = i0 ∨ ∀ x y, l[i - 1]? = some x → l[mid + m - i]? = some y → entKey x ≤ entKey y) ∧ (j = j0 ∨ ∀ x y, l[mid + m - j - 1]? = some x → l[j]? = some y → entKey x ≤ entKey y) ∧ Own S u 57 entT s l ∧ Fr (fun k => s.v.ownBlock = some k) u0 u)
        (fun st _ => (st.2 - st.1).toNat) ⟨i0, j0, rfl, Nat.le_refl _, by omega, Nat.le_refl _, .inl rfl, .inl rfl, ho, Fr.refl _ _⟩ ?_
      rintro _ u ⟨i, j, rfl, h1, h2, h3, h4, h5, hou, fu⟩
      dsimp only
      refine condD (fun hlt => ?_) fun hge => ?_
      · have hlt : i < j := by omega
        rw [half (i := i) (j := j) (by omega)]
        obtain ⟨c, hc⟩ : ∃ c, c = (i + j) / 2 := ⟨_, rfl⟩
        rw [← hc, w64 (x := (mid : Int) + (m : Int) - 1 - (c : Int)) (by omega), w64 (x := (c : Int) + 1) (by omega)]
        obtain ⟨x, hx⟩ := gt (l := l) (k := mid + m - c - 1) (by omega)
        obtain ⟨y, hy⟩ := gt (l := l) (k := c) (by omega)
        refine cmpI hou (p := mid + m - c - 1) (q := c) (by omega) rfl hx hy fun z u2 hz f2 => ?_
        refine joinI (fun (st : Int × Int) u => u = u2 ∧ ∃ i2 j2 : Nat, st = ((i2 : Int), (j2 : Int)) ∧ i ≤ i2 ∧ i2 ≤ j2 ∧ j2 ≤ j ∧ j2 - i2 < j - i ∧ (i2 = i0 ∨ ∀ x y, l[i2 - 1]? = some x → l[mid + m - i2]? = some y → entKey x ≤ entKey y) ∧ (j2 = j0 ∨ ∀ x y, l[mid + m - j2 - 1]? = some x → l[j2]? = some y → entKey x ≤ entKey y)) ?_ ?_
        · refine condI (fun hc2 => ?_) fun hc2 => ?_
          · have hc2 : ¬ z < 0 := by simpa using hc2
            refine ⟨rfl, c + 1, j, rfl, by omega, by omega, Nat.le_refl _, by omega, .inr fun x' y' g1 g2 => ?_, h5⟩
            rw [Nat.add_sub_cancel, hy] at g1
            rw [show mid + m - (c + 1) = mid + m - c - 1 by omega, hx] at g2
            cases g1; cases g2
            exact Int.not_lt.1 fun h => hc2 (hz.2 h)
          · have hc2 : z < 0 := by simpa using hc2
            refine ⟨rfl, i, c, rfl, Nat.le_refl _, by omega, by omega, by omega, h4, .inr fun x' y' g1 g2 => ?_⟩
            rw [hx] at g1
            rw [hy] at g2
            cases g1; cases g2
            exact Int.le_of_lt (hz.1 hc2)
        · rintro _ u3 ⟨rfl, i2, j2, rfl, g1, g2, g3, g4, g5, g6⟩
          exact ⟨⟨i2, j2, rfl, by omega, g2, by omega, g5, g6, hou.none f2, fu.then0 f2⟩, by dsimp only; omega⟩
      · have hij : j = i := by omega
        subst hij
        obtain ⟨e, he⟩ : ∃ e, e = mid + m - j := ⟨_, rfl⟩
        rw [w64 (x := (mid : Int) + (m : Int) - (j : Int)) (by omega), show (mid : Int) + (m : Int) - (j : Int) = (e : Int) by omega]
        refine joinI (fun z v => v = u ∧ z = decide (j < m ∧ m < e)) ?_ ?_
        · refine condD (fun g => ⟨rfl, decide_eq_decide.2 (by omega)⟩) fun g => ⟨rfl, (decide_eq_false (by omega)).symm⟩
        rintro _ v ⟨rfl, rfl⟩
        refine joinI (fun (_ : Unit) v2 => ∃ l2, ShK j e l l2 ∧ Rot j m e l l2 ∧ Own S v2 57 entT s l2 ∧ Fr (fun k => s.v.ownBlock = some k) u0 v2) ?_ ?_
        · refine condD (fun g => ?_) fun g => ⟨l, .refl _, rot_triv (by omega) (by omega), hou, fu⟩
          exact spec_rotate_Ent hou g.1 g.2 (by omega) (by omega) fun l2 v2 g1 g2 g3 g4 => ⟨l2, g1, g2, g3, fu.then g4⟩
        rintro _ v2 ⟨l2, sh2, rot2, o2, fv2⟩
        have hl2 := sh2.len
        obtain ⟨p1, p2, p3, p4, p5⟩ := merge_parts (mid := mid) hbl s1 s2 (by omega) (by omega) (by omega) (by omega) (by omega) (by
          rcases h4 with g | g
          · omega
          · rw [← he] at g
            exact .inr (.inr g)) (by
          rcases h5 with g | g
          · omega
          · rw [← he] at g
            exact .inr (.inr g)) rot2
        refine joinI (fun z v => v = v2 ∧ z = decide (a < j ∧ j < mid)) ?_ ?_
        · refine condD (fun g => ⟨rfl, decide_eq_decide.2 (by omega)⟩) fun g => ⟨rfl, (decide_eq_false (by omega)).symm⟩
        rintro _ v3 ⟨rfl, rfl⟩
        refine joinI (fun (_ : Unit) v4 => ∃ l3, ShK a mid l2 l3 ∧ So entKey a mid l3 ∧ Own S v4 57 entT s l3 ∧ Fr (fun k => s.v.ownBlock = some k) u0 v4) ?_ ?_
        · refine condD (fun g => ?_) fun g => ⟨l2, .refl _, ?_, o2, fv2⟩
          · exact spec_symMerge_Ent d (by omega) o2 g.1 g.2 (by omega) (by omega) p1 p2 fun l3 v4 g1 g2 g3 g4 => ⟨l3, g1, g2, g3, fv2.then g4⟩
          · by_cases c : j = a
            · rw [c] at p2; exact p2
            · have : j = mid := by omega
              rw [this] at p1; exact p1
        rintro _ v4 ⟨l3, sh3, so3, o3, fv4⟩
        have hl3 := sh3.len
        have q3 : So entKey mid e l3 := p3.same fun k g1 g2 => sh3.out (.inr g1)
        have q4 : So entKey e b l3 := p4.same fun k g1 g2 => sh3.out (.inr (by omega))
        refine joinI (fun z v => v = v4 ∧ z = decide (mid < e ∧ e < b)) ?_ ?_
        · refine condD (fun g => ⟨rfl, decide_eq_decide.2 (by omega)⟩) fun g => ⟨rfl, (decide_eq_false (by omega)).symm⟩
        rintro _ v5 ⟨rfl, rfl⟩
        refine joinI (fun (_ : Unit) v6 => ∃ l4, ShK mid b l3 l4 ∧ So entKey mid b l4 ∧ Own S v6 57 entT s l4 ∧ Fr (fun k => s.v.ownBlock = some k) u0 v6) ?_ ?_
        · refine condD (fun g => ?_) fun g => ⟨l3, .refl _, ?_, o3, fv4⟩
          · exact spec_symMerge_Ent d (by omega) o3 g.1 g.2 (by omega) (by omega) q3 q4 fun l4 v6 g1 g2 g3 g4 => ⟨l4, g1, g2, g3, fv4.then g4⟩
          · by_cases c : e = mid
            · rw [c] at q4; exact q4
            · have : e = b := by omega
              rw [this] at q3; exact q3
        rintro _ v6 ⟨l4, sh4, so4, o4, fv6⟩
        exact hk l4 v6 (((sh2.mono (by omega) (by omega)).trans (sh3.mono (Nat.le_refl _) (by omega))).trans (sh4.mono (by omega) (Nat.le_refl _))) (merge_join p5 sh3 so3 sh4 so4) o4 fv6
end
end Go.Proofs.YtchhhjlpnecjkaaGreat
set_option linter.unusedVariables false
namespace Go.Proofs.YtchhhjlpnecjkaaGreat
open Go Go.Proofs.YtchhhjlpnecjkaaGreat.Den
def F_cmp_isNaN_byte (x0 : Int) : W (Bool) :=
  retW (x0 != x0)
def H_cmp_isNaN_byte : Hints := {}
theorem E_cmp_isNaN_byte (x0 : Int) : denF Tryz.prog H_cmp_isNaN_byte Tryz.f178 [.sc .bool] [.int .u8 x0] = F_cmp_isNaN_byte x0 := by kernel_rfl
theorem C_cmp_isNaN_byte {R : Type} (x0 : Int) (K : Res [.sc .bool] → W R) (Q : R → World → Prop) (w : World) (h : F_cmp_isNaN_byte x0 (fun r w => K r Q w) w) : callW Tryz.prog k_cmp_isNaN_byte [.int .u8 x0] [.sc .bool] K Q w :=
  den_calls mix Tryz.func178 H_cmp_isNaN_byte (ts := [.sc .bool]) trivial (by rw [Tryz.ntmps178]; simp) (by rw [E_cmp_isNaN_byte]; exact h)
end Go.Proofs.YtchhhjlpnecjkaaGreat
namespace Go.Proofs.YtchhhjlpnecjkaaGreat
open Go Go.RowKit Go.Proofs.YtchhhjlpnecjkaaGreat.Den
variable {R : Type} {Q : R → World → Prop} {w : World}
section
variable {S : Nat → Prop} {s : Sl} {l : List (Int × Sl)}
theorem spec_stable_Ent (ho : Own S w 57 entT s l) {n : Nat} (hn : n = l.length) (hm : l.length ≤ 1152921504606846975) {K : Res [] → W R} (hk : ∀ l' w', ShK 0 n l l' → So entKey 0 n l' → Own S w' 57 entT s l' → Fr (fun k => s.v.ownBlock = some k) w w' → K () Q w') :
    callW Tryz.prog k_slices_stableCmpFunc_Ent [.slice s.a s.n s.c, .int .i64 (n : Int), .func (.func 121) #[] #[]] [] K Q w := by
  refine C_slices_stableCmpFunc_Ent__diff_Patch_c2 s _ K Q w ?_
  unfold F_slices_stableCmpFunc_Ent__diff_Patch_c2
  refine loopI (fun (st : Int × Int) u => ∃ (q : Nat) (l' : List (Int × Sl)), st = (((20 * q : Nat) : Int), ((20 * q + 20 : Nat) : Int)) ∧ 20 * q ≤ n ∧ ShK 0 n l l' ∧ (∀ k, k < q → So entKey (20 * k) (20 * k + 20) l') ∧ Own S u 57 entT s l' ∧ Fr (fun k => s.v.ownBlock = some k) w u) (fun st _ => n + 20 - st.2.toNat) ⟨0, l, rfl, by omega, .refl _, fun k h => by omega, ho, Fr.refl _ _⟩ ?_
  rintro _ u ⟨q, l1, rfl, hq, sh1, so1, o1, fu⟩
  have hl1 := sh1.len
  dsimp only
  refine condD (fun hle => ?_) fun hgt => ?_
  · have hle : 20 * q + 20 ≤ n := by omega
    refine spec_insertion_Ent o1 (a := 20 * q) (b := 20 * q + 20) (by omega) (by omega) (by omega) fun l2 u2 sh2 so2 o2 f2 => ?_
    refine ⟨⟨q + 1, l2, by rw [w64 (by omega)]; congr 1, by omega, sh1.trans (sh2.mono (by omega) (by omega)), fun k hk => ?_, o2, fu.then f2⟩, ?_⟩
    · by_cases e : k = q
      · rw [e]; exact so2
      · exact (so1 k (by omega)).same fun p g1 g2 => sh2.out (.inl (by omega))
    · rw [w64 (by omega)]
      omega
  refine spec_insertion_Ent o1 (a := 20 * q) (b := n) (by omega) (by omega) (by omega) fun l2 u2 sh2 so2 o2 f2 => ?_
  have sh02 := sh1.trans (sh2.mono (Nat.zero_le _) (Nat.le_refl _))
  have hgt : n < 20 * q + 20 := by omega
  have hB : ∀ k, So entKey (k * 20) (min (k * 20 + 20) n) l2 := fun k => by
    by_cases e : k < q
    · rw [Nat.min_eq_left (by omega), Nat.mul_comm]
      exact (so1 k e).same fun p g1 g2 => sh2.out (.inl (by omega))
    · by_cases e2 : k = q
      · rw [Nat.min_eq_right (by omega), e2, Nat.mul_comm]
        exact so2
      · intro p r x y g1 g2 g3
        omega
  have fu2 := fu.then f2
  clear so1 so2 sh1 sh2 o1 fu f2 hl1 hq hgt
  refine loopI (fun (st : Int) v => ∃ (bs : Nat) (l' : List (Int × Sl)), st = (bs : Int) ∧ 20 ≤ bs ∧ bs ≤ 2 * n + 20 ∧ ShK 0 n l l' ∧ (∀ k, So entKey (k * bs) (min (k * bs + bs) n) l') ∧ Own S v 57 entT s l' ∧ Fr (fun k => s.v.ownBlock = some k) w v) (fun st _ => n - st.toNat) ⟨20, l2, rfl, Nat.le_refl _, by omega, sh02, hB, o2, fu2⟩ ?_
  clear hB sh02 o2 fu2 l2 u2
  rintro _ v ⟨bs, l3, rfl, hb20, hbn, sh3, hB, o3, fv⟩
  refine condD (fun hlt => ?_) fun hge => ?_
  · have hlt : bs < n := by omega
    rw [w64 (x := 2 * (bs : Int)) (by omega)]
    refine loopI (fun (st : Int × Int) v => ∃ (q a : Nat) (l' : List (Int × Sl)), st = ((a : Int), ((a + 2 * bs : Nat) : Int)) ∧ a = q * (2 * bs) ∧ a ≤ n ∧ ShK 0 n l l' ∧ (∀ k, k < q → So entKey (k * (2 * bs)) (k * (2 * bs) + 2 * bs) l') ∧ (∀ k, 2 * q ≤ k → So entKey (k * bs) (min (k * bs + bs) n) l') ∧ Own S v 57 entT s l' ∧ Fr (fun k => s.v.ownBlock = some k) w v)
      (fun st _ => n + 2 * bs - st.2.toNat) ⟨0, 0, l3, by congr 1; omega, by omega, by omega, sh3, fun k h => by omega, fun k _ => hB k, o3, fv⟩ ?_
    rintro _ z ⟨q, a, l4, rfl, ha, han, sh4, lo, hi, o4, fz⟩
    have hl4 := sh4.len
    have ea : (2 * q) * bs = a := by rw [ha, Nat.mul_comm 2 q, Nat.mul_assoc]
    have eb : (2 * q + 1) * bs = a + bs := by rw [Nat.add_mul, ea, Nat.one_mul]
    have ec : (q + 1) * (2 * bs) = a + 2 * bs := by rw [Nat.add_mul, Nat.one_mul, ← ha]
    have p1 := hi (2 * q) (Nat.le_refl _)
    have p2 := hi (2 * q + 1) (by omega)
    rw [ea] at p1
    rw [eb] at p2
    dsimp only
    rw [w64 (x := (a : Int) + (bs : Int)) (by omega), show (a : Int) + (bs : Int) = ((a + bs : Nat) : Int) by omega]
    refine condD (fun hle => ?_) fun hgt => ?_
    · have hle : a + 2 * bs ≤ n := by omega
      refine spec_symMerge_Ent (b := a + 2 * bs) (2 * bs) (by omega) o4 (by omega) (by omega) (by omega) (by omega) (p1.mono (Nat.le_refl _) (by omega)) (p2.mono (Nat.le_refl _) (by omega)) fun l5 z2 sh5 so5 o5 f5 => ?_
      refine ⟨⟨q + 1, a + 2 * bs, l5, by rw [w64 (by omega)]; congr 1, ec.symm, hle, sh4.trans (sh5.mono (by omega) (by omega)), fun k hk => ?_, fun k hk => ?_, o5, fz.then f5⟩, ?_⟩
      · by_cases e : k = q
        · rw [e, ← ha]; exact so5
        · have : (k + 1) * (2 * bs) ≤ q * (2 * bs) := Nat.mul_le_mul_right _ (by omega)
          rw [Nat.add_mul, Nat.one_mul, ← ha] at this
          exact (lo k (by omega)).same fun p g1 g2 => sh5.out (.inl (by omega))
      · have : (2 * q + 2) * bs ≤ k * bs := Nat.mul_le_mul_right _ (by omega)
        rw [Nat.add_mul, ea] at this
        exact (hi k (by omega)).same fun p g1 g2 => sh5.out (.inr (by omega))
      · rw [w64 (by omega)]
        omega
    · have hgt : n < a + 2 * bs := by omega
      have out : ∀ (l5 : List (Int × Sl)), ShK a n l4 l5 → So entKey a n l5 → ∀ k, So entKey (k * (2 * bs)) (min (k * (2 * bs) + 2 * bs) n) l5 := by
        intro l5 sh5 so5 k
        by_cases e : k < q
        · have : (k + 1) * (2 * bs) ≤ q * (2 * bs) := Nat.mul_le_mul_right _ (by omega)
          rw [Nat.add_mul, Nat.one_mul, ← ha] at this
          rw [Nat.min_eq_left (by omega)]
          exact (lo k e).same fun p g1 g2 => sh5.out (.inl (by omega))
        · by_cases e2 : k = q
          · rw [e2, ← ha, Nat.min_eq_right (by omega)]
            exact so5
          · have : (q + 1) * (2 * bs) ≤ k * (2 * bs) := Nat.mul_le_mul_right _ (by omega)
            rw [ec] at this
            intro p r x y g1 g2 g3
            omega
      refine joinI (fun (_ : Unit) v => ∃ l5, ShK a n l4 l5 ∧ So entKey a n l5 ∧ Own S v 57 entT s l5 ∧ Fr (fun k => s.v.ownBlock = some k) w v) ?_ ?_
      · refine condD (fun g => ?_) fun g => ⟨l4, .refl _, p1.mono (Nat.le_refl _) (by omega), o4, fz⟩
        have g : a + bs < n := by omega
        exact spec_symMerge_Ent (b := n) (2 * bs) (by omega) o4 (by omega) g (by omega) (by omega) (p1.mono (Nat.le_refl _) (by omega)) (p2.mono (Nat.le_refl _) (by omega)) fun l5 z2 sh5 so5 o5 f5 => ⟨l5, sh5, so5, o5, fz.then f5⟩
      rintro _ z2 ⟨l5, sh5, so5, o5, f5⟩
      refine ⟨⟨2 * bs, l5, by rw [w64 (by omega)]; omega, by omega, by omega, sh4.trans (sh5.mono (Nat.zero_le _) (Nat.le_refl _)), out l5 sh5 so5, o5, f5⟩, ?_⟩
      rw [w64 (by omega)]
      omega
  · have h0 := hB 0
    rw [Nat.zero_mul, Nat.min_eq_right (by omega)] at h0
    exact hk l3 v sh3 h0 o3 fv
theorem spec_SortStable_Ent (ho : Own S w 57 entT s l) (hm : l.length ≤ 1152921504606846975) {K : Res [] → W R} (hk : ∀ l' w', l'.Perm l → So entKey 0 l'.length l' → Own S w' 57 entT s l' → Fr (fun k => s.v.ownBlock = some k) w w' → K () Q w') :
    callW Tryz.prog k_slices_SortStableFunc_Ent [.slice s.a s.n s.c, .func (.func 121) #[] #[]] [] K Q w := by
  refine C_slices_SortStableFunc_Ent__diff_Patch_c2 s K Q w ?_
  unfold F_slices_SortStableFunc_Ent__diff_Patch_c2
  exact spec_stable_Ent ho ho.len hm fun l' w' sh so o f => hk l' w' sh.perm (by rw [sh.len, ← ho.len]; exact so) o f
end
section
variable {S : Nat → Prop} {s : Sl} {l : List Comp}
abbrev compKey (c : Comp) : Int := c.1
theorem spec_diff_turn_c1 {x y : Comp} {K : Res [.sc (.int .i64)] → W R} (hk : ∀ z w', (z < 0 ↔ x.1 < y.1) → Fr None w w' → K z Q w') : callW Tryz.prog k_diff_turn_c1 [.agg ⟨compC x⟩, .agg ⟨compC y⟩] [.sc (.int .i64)] K Q w := by
  refine C_diff_turn_c1 x y K Q w ?_
  unfold F_diff_turn_c1
  refine newI fun w1 B1 f1 z1 => newI fun w2 B2 f2 z2 => fldI (B1.fr f2 fun h => h) (i := 0) (x := x.1) rfl (fldI B2 (i := 0) (x := y.1) rfl ?_)
  refine C_cmp_Compare_byte _ _ _ _ _ ?_
  unfold F_cmp_Compare_byte
  refine C_cmp_isNaN_byte _ _ _ _ ?_
  unfold F_cmp_isNaN_byte
  refine C_cmp_isNaN_byte _ _ _ _ ?_
  unfold F_cmp_isNaN_byte
  have f02 := f1.then0 f2
  refine condF (by simp) (condF (by simp) (condD (fun h => ?_) fun h => condD (fun h2 => ?_) fun h2 => ?_))
  · exact hk _ w2 ⟨fun _ => h, fun _ => by decide⟩ f02
  · exact hk _ w2 ⟨fun h3 => absurd h3 (by decide), fun h3 => absurd h3 h⟩ f02
  · exact hk _ w2 ⟨fun h3 => absurd h3 (by decide), fun h3 => absurd h3 h⟩ f02
theorem spec_SortStable_Comp (ho : Own S w 92 compT s l) (hm : l.length < 20) {K : Res [] → W R} (hk : ∀ l' w', l'.Perm l → So compKey 0 l'.length l' → Own S w' 92 compT s l' → Fr (fun k => s.v.ownBlock = some k) w w' → K () Q w') :
    callW Tryz.prog k_slices_SortStableFunc_Comp [.slice s.a s.n s.c, .func (.func 150) #[] #[]] [] K Q w := by
  refine C_slices_SortStableFunc_Comp__diff_turn_c1 s K Q w ?_
  unfold F_slices_SortStableFunc_Comp__diff_turn_c1
  refine C_slices_stableCmpFunc_Comp__diff_turn_c1 s _ _ _ _ ?_
  unfold F_slices_stableCmpFunc_Comp__diff_turn_c1
  have hl := ho.len
  refine loopI (fun (st : Int × Int) v => st = (0, 20) ∧ v = w) (fun _ _ => 0) ⟨rfl, rfl⟩ ?_
  rintro _ v ⟨rfl, rfl⟩
  refine condF (decide_eq_false (by show ¬ (20 : Int) ≤ (s.n : Int); omega)) ?_
  refine C_slices_insertionSortCmpFunc_Comp__diff_turn_c1 s _ _ _ _ _ ?_
  unfold F_slices_insertionSortCmpFunc_Comp__diff_turn_c1
  refine insI (t := compT) (sz := 4) rfl rfl compKey (fun x y K => callW Tryz.prog k_diff_turn_c1 [.agg ⟨compC x⟩, .agg ⟨compC y⟩] [.sc (.int .i64)] K) (fun x y K Q w h => spec_diff_turn_c1 h) (a := 0) rfl (congrArg Int.ofNat hl) (Nat.zero_le _) (Nat.le_refl _) (by omega) ho fun l' w' sh so o f => ?_
  unfold retW
  refine loopI (fun (st : Int) z => st = 20 ∧ z = w') (fun _ _ => 0) ⟨rfl, rfl⟩ ?_
  rintro _ z ⟨rfl, rfl⟩
  refine condF (decide_eq_false (by show ¬ (20 : Int) < (s.n : Int); omega)) ?_
  exact hk l' z sh.perm (by rw [sh.len]; exact so) o f
end
end Go.Proofs.YtchhhjlpnecjkaaGreat
namespace Go.Proofs.YtchhhjlpnecjkaaGreat
open Go Go.RowKit Go.Proofs.YtchhhjlpnecjkaaGreat.Den
variable {R : Type} {Q : R → World → Prop} {w : World}
theorem Den.All2.inv {α β : Type} {p : α → β → Prop} {x : α} {l : List α} {k : List β} (h : All2 p (x :: l) k) : ∃ b k0, k = b :: k0 ∧ p x b ∧ All2 p l k0 := by
  rcases k with _ | ⟨b, k0⟩
  · have := h.len; simp at this
  · exact ⟨b, k0, rfl, h.at_ 0 x b rfl rfl, by have := h.len; simpa using this, fun i a c ha hc => h.at_ (i + 1) a c (by simpa using ha) (by simpa using hc)⟩
theorem Den.All2.cons {α β : Type} {p : α → β → Prop} {x : α} {b : β} {l : List α} {k : List β} (hx : p x b) (h : All2 p l k) : All2 p (x :: l) (b :: k) :=
  ⟨by simp [h.len], fun i a c ha hc => by
    rcases i with _ | i
    · simp at ha hc; subst ha; subst hc; exact hx
    · exact h.at_ i a c (by simpa using ha) (by simpa using hc)⟩
theorem Den.All2.perm {α β : Type} {p : α → β → Prop} {l l' : List α} (hp : l.Perm l') : ∀ {k : List β}, All2 p l k → ∃ k', k'.Perm k ∧ All2 p l' k' := by
  induction hp with
  | nil => exact fun {k} h => ⟨k, List.Perm.refl _, h⟩
  | cons x _ ih =>
    intro k h
    obtain ⟨b, k0, rfl, hb, h0⟩ := h.inv
    obtain ⟨k1, p1, h1⟩ := ih h0
    exact ⟨b :: k1, p1.cons b, All2.cons hb h1⟩
  | swap x y l =>
    intro k h
    obtain ⟨b, k0, rfl, hb, h0⟩ := h.inv
    obtain ⟨c, k1, rfl, hc, h1⟩ := h0.inv
    exact ⟨c :: b :: k1, List.Perm.swap _ _ _, All2.cons hc (All2.cons hb h1)⟩
  | trans _ _ ih1 ih2 =>
    intro k h
    obtain ⟨k1, p1, h1⟩ := ih1 h
    obtain ⟨k2, p2, h2⟩ := ih2 h1
    exact ⟨k2, p2.trans p1, h2⟩
theorem So.pair {α : Type} {key : α → Int} {l : List α} (h : So key 0 l.length l) : l.Pairwise fun a b => key a ≤ key b := by
  rw [List.pairwise_iff_getElem]
  intro i j hi hj hij
  exact h i j _ _ (Nat.zero_le _) hij hj (List.getElem?_eq_getElem hi) (List.getElem?_eq_getElem hj)
theorem lost_test : ∀ m : Fin 256, ∀ j : Fin 6, (bAnd .u8 (shR .u8 ((m.val : Nat) : Int) ((j.val : Nat) : Int)) 1 == 1) = m.val.testBit j.val := by decide +kernel
def turnF (d : Chg) (c : Comp) : Comp := if (findC d.2.2.2 c.1).2 = true then (findC d.2.2.2 c.1).1 else c
def turnB (d : Chg) (c : Comp) : Bool := !(decide (c.1 < 6) && d.2.1.toNat.testBit c.1.toNat)
theorem turnP_eq (l : List Comp) (d : Chg) : turnP l d = (l.filter (turnB d)).map (turnF d) ++ d.2.2.1 := rfl
theorem turn_snoc (l : List Comp) (d : Chg) (c : Comp) : ((l ++ [c]).filter (turnB d)).map (turnF d) = (l.filter (turnB d)).map (turnF d) ++ if turnB d c = true then [turnF d c] else [] := by
  rw [List.filter_append, List.map_append]
  congr 1
  by_cases h : turnB d c = true
  · simp [List.filter, h]
  · simp [List.filter, h]
theorem spec_diff_turn {ok ok2 : Nat → Prop} {r : Int × Sl} {e : Ent} (h1 : r.1 = e.1) (hS : SlT ok w compT r.2 e.2) (hm : e.2.length ≤ 9) (hc : ∀ c ∈ e.2, CompOk c) {rd : ChgRaw} {d : Chg} (hd : chgR ok2 w rd d) (hl : 0 ≤ d.2.1 ∧ d.2.1 ≤ 255) (hn : d.2.2.1.length ≤ 9) (hs : Small d.2.2.2) {K : Res [.agg [.int .u32, .sl]] → W R}
    (hk : ∀ t e' w', TurnOf e d e' → Own (Up w.heap.size) w' 92 compT t e'.2 → Fr None w w' → K (e.1, t) Q w') :
    callW Tryz.prog k_diff_turn [.agg ⟨[.int .u32 r.1, .slice r.2.a r.2.n r.2.c]⟩, .agg ⟨[.int .u32 rd.1, .int .u8 rd.2.1, .slice rd.2.2.1.a rd.2.2.1.n rd.2.2.1.c, .slice rd.2.2.2.a rd.2.2.2.n rd.2.2.2.c]⟩] [.agg [.int .u32, .sl]] K Q w := by
  refine C_diff_turn r rd K Q w ?_
  unfold F_diff_turn
  obtain ⟨d1, d2, d3, d4⟩ := hd
  refine newI fun w1 Be f1 z1 => newI fun w2 Bd f2 z2 => newI fun w3 Bx f3 z3 => ?_
  have Be := (Be.fr f2 fun h => h).fr f3 fun h => h
  have Bd := Bd.fr f3 fun h => h
  have f03 := (f1.then0 f2).then0 f3
  have hlen := hS.len
  refine fldI Be (i := 1) (x := r.2) rfl ?_
  have keep : ∀ {u : World}, Fr (Up w3.heap.size) w3 u → Blk u w.heap.size 57 [.int .u32 r.1, .slice r.2.a r.2.n r.2.c] ∧ Blk u w1.heap.size 86 [.int .u32 rd.1, .int .u8 rd.2.1, .slice rd.2.2.1.a rd.2.2.1.n rd.2.2.1.c, .slice rd.2.2.2.a rd.2.2.2.n rd.2.2.2.c] ∧ Blk u w2.heap.size 57 [.int .u32 0, .slice none 0 0] ∧ Fr None w u := fun f =>
    ⟨Be.frUp f (by omega), Bd.frUp f (by omega), Bx.frUp f (by omega), f03.thenUp f f03.size⟩
  refine forI (N := r.2.n) (fun s : Sl × Int => s.2) (fun j st u => st.2 = (j : Int) ∧ Own (Up w3.heap.size) u 92 compT st.1 (((e.2.take j).filter (turnB d)).map (turnF d)) ∧ Fr (Up w3.heap.size) w3 u) ⟨rfl, by rw [List.take_zero]; exact Own.nil _ _ _ _, Fr.refl _ _⟩ (fun j s w' h => h.1) ?_ ?_
  · rintro j ⟨z, _⟩ u K' hj ⟨rfl, o, fu⟩ - hK
    obtain ⟨Beu, Bdu, Bxu, f0u⟩ := keep fu
    have su := fu.size
    obtain ⟨c, hcj⟩ : ∃ c, e.2[j]? = some c := ⟨_, List.getElem?_eq_getElem (by omega)⟩
    refine joinI (fun z v => Own (Up w3.heap.size) v 92 compT z (((e.2.take (j + 1)).filter (turnB d)).map (turnF d)) ∧ Fr (Up w3.heap.size) w3 v) ?_ fun z v ⟨h1, h2⟩ => hK _ _ ⟨wsucc hj (by omega), h1, h2⟩
    refine (hS.fr0 f0u).get rfl rfl (by omega) fun x hx => ?_
    rw [hcj] at hx
    cases hx
    have hco := hc c (List.mem_of_getElem? hcj)
    refine newI fun u1 Bc g1 y1 => stoAll Bc rfl rfl fun u2 Bc g2 y2 => ?_
    have g02 : Fr None u u2 := g1.newer g2 fun k e => by omega
    have Bd2 := Bdu.fr g02 fun h => h
    refine joinI (fun z v => z = !turnB d c ∧ v = u2) ?_ ?_
    · refine fldI Bc (i := 0) (x := c.1) rfl (condD (fun hlt => ?_) fun hge => ?_)
      · refine fldI Bd2 (i := 1) (x := rd.2.1) rfl (fldI Bc (i := 0) (x := c.1) rfl (chkI hco.1.1 ⟨?_, rfl⟩))
        have hlt6 : c.1 < 6 := hlt
        have t := lost_test ⟨d.2.1.toNat, by omega⟩ ⟨c.1.toNat, by have := hco.1; omega⟩
        dsimp only at t
        rw [show ((d.2.1.toNat : Nat) : Int) = d.2.1 by omega, show ((c.1.toNat : Nat) : Int) = c.1 by have := hco.1; omega] at t
        unfold turnB
        rw [d2, t, decide_eq_true hlt]
        simp
      · unfold turnB
        rw [decide_eq_false hge]
        exact ⟨by simp, rfl⟩
    rintro z' v ⟨rfl, rfl⟩
    rw [take_at hcj, turn_snoc]
    have fu2 := fu.then g02.up
    refine condI (fun hb => ?_) fun hb => ?_
    · rw [if_neg (by simpa using hb), List.append_nil]
      exact ⟨o.none g02, fu2⟩
    have hb : turnB d c = true := by simpa using hb
    rw [if_pos hb]
    refine fldI Bd2 (i := 3) (x := rd.2.2.2) rfl (fldI Bc (i := 0) (x := c.1) rfl (spec_diff_find (d4.fr0 (f0u.then0 g02)) (by have := hs; omega) fun u3 g3 => ?_))
    have g03 := g02.then0 g3
    refine newI fun u4 By g4 y4 => stoAll By rfl rfl fun u5 By g5 y5 => ?_
    have g35 : Fr None u3 u5 := g4.newer g5 fun k e => by omega
    have Bc5 := (Bc.fr g3 fun h => h).fr g35 fun h => h
    have g05 := g03.then0 g35
    have s5 := g05.size
    have sc : u.heap.size < u5.heap.size := Bc5.lt
    refine joinI (fun (_ : Unit) v => Blk v u.heap.size 92 (compC (turnF d c)) ∧ Fr None u v ∧ u.heap.size ≤ v.heap.size) ?_ ?_
    · unfold turnF
      refine condI (fun hf => ?_) fun hf => ?_
      · rw [if_pos hf]
        refine aggI By (x := (findC d.2.2.2 c.1).1) rfl (stoAll Bc5 rfl rfl fun u6 B6 g6 y6 => ⟨B6, g05.newer g6 fun k e => by omega, by omega⟩)
      · rw [if_neg (by rw [hf]; simp)]
        exact ⟨Bc5, g05, by omega⟩
    rintro _ v ⟨Bv, gv, sv⟩
    refine aggI Bv (x := turnF d c) rfl ?_
    have ol : ((e.2.take j).filter (turnB d)).length ≤ e.2.length := Nat.le_trans (List.length_filter_le _ _) (by simp; omega)
    refine appP (x := turnF d c) comps_ty rfl (o.none gv) (fun k e => by show w3.heap.size ≤ k; omega) (by simp; omega) (by simp; omega) fun r2 u7 o7 g7 => ?_
    exact ⟨o7, (fu.then gv.up).then ((o.none gv).upFr g7)⟩
  · rintro ⟨z, _⟩ u ⟨_, o, fu⟩
    obtain ⟨Beu, Bdu, Bxu, f0u⟩ := keep fu
    have su := fu.size
    have s03 := f03.size
    rw [List.take_of_length_le (by omega)] at o
    refine fldI Bdu (i := 2) (x := rd.2.2.1) rfl ?_
    have ol : ((e.2.filter (turnB d)).map (turnF d)).length ≤ 9 := by rw [List.length_map]; exact Nat.le_trans (List.length_filter_le _ _) hm
    have hnl := (d3.fr0 f0u)
    refine appI (S' := Up w3.heap.size) comps_ty o hnl (by omega) (by rw [maxLen_eq]; omega) (fun _ h => h) (by show _ ≤ _; omega) fun r2 u2 o2 g2 y2 => ?_
    rw [← turnP_eq] at o2
    have fu2 := fu.then (o.upFr g2)
    refine spec_SortStable_Comp o2 (by rw [turnP_eq, List.length_append]; omega) fun l' u3 hp hso o3 g3 => ?_
    have fu3 := fu2.then (o2.upFr g3)
    obtain ⟨Be3, Bd3, Bx3, f3'⟩ := keep fu3
    refine fldI Be3 (i := 0) (x := r.1) rfl (stoAll Bx3 rfl rfl fun u4 B4 g4 y4 => aggI B4 (x := ((r.1, r2) : Int × Sl)) rfl ?_)
    rw [h1]
    exact hk r2 (e.1, l') u4 ⟨rfl, hp, hso.pair⟩ ((o3.fr g4 fun k (e : w3.heap.size ≤ k) e2 => by omega).mono fun k _ (e : w3.heap.size ≤ k) => by show w.heap.size ≤ k; omega) (f3'.newer g4 fun k e => by omega)
theorem spec_Contains_ID {ok : Nat → Prop} {s : Sl} {l : List Int} (hS : SlT ok w idT s l) (hm : l.length ≤ 4611686018427387904) {x : Int} {K : Res [.sc .bool] → W R} (hk : ∀ w', Fr None w w' → K (decide (x ∈ l)) Q w') :
    callW Tryz.prog k_slices_Contains_ID [.slice s.a s.n s.c, .int .u32 x] [.sc .bool] K Q w := by
  refine C_slices_Contains_ID s _ K Q w ?_
  unfold F_slices_Contains_ID
  refine C_slices_Index_ID s _ _ _ w ?_
  unfold F_slices_Index_ID
  have hlen := hS.len
  refine forI (N := s.n) (fun s : Int => s) (fun j i w' => i = j ∧ Fr None w w' ∧ ∀ q y, q < j → l[q]? = some y → y ≠ x) ⟨rfl, Fr.refl _ _, by omega⟩ (fun j s w' h => h.1) ?_ ?_
  · rintro j i w1 K' hj ⟨rfl, f1, hno⟩ - hK
    refine (hS.fr0 f1).get rfl rfl (by omega) fun y hy => condE (fun e => ?_) fun e => ?_
    · have e : x = y := e
      subst e
      have := hk w1 f1
      rw [decide_eq_true (List.mem_of_getElem? hy)] at this
      show K (decide ((j : Int) ≥ 0)) Q w1
      rw [decide_eq_true (by omega)]
      exact this
    · refine hK _ _ ⟨wsucc hj (by omega), f1, fun q z hq hz => ?_⟩
      rcases Nat.lt_succ_iff_lt_or_eq.1 hq with h1 | h1
      · exact hno q z h1 hz
      · subst h1; rw [hy] at hz; cases hz; exact fun h => e h.symm
  · rintro i w1 ⟨rfl, f1, hno⟩
    have := hk w1 f1
    rw [decide_eq_false (fun hm => by
      obtain ⟨q, hq⟩ := List.mem_iff_getElem?.1 hm
      exact hno q x (by rw [hlen]; exact (List.getElem?_eq_some_iff.1 hq).1) hq rfl)] at this
    exact this
theorem spec_IndexFunc_Change {ok : Nat → Prop} {s : Sl} {rd : List ChgRaw} {l : List Chg} (hS : SlT ok w chgT s rd) (hE : All2 (fun a b => chgR ok w a b) rd l) (hm : l.length ≤ 4611686018427387904) {be : Nat} {T : TypeId} {id : Int} {tl : List Value} (B : Blk w be T (.int .u32 id :: tl)) {K : Res [.sc (.int .i64)] → W R}
    (h0 : l.find? (fun d => d.1 == id) = none → ∀ w', Fr None w w' → K (-1) Q w') (hk : ∀ i d, l[i]? = some d → l.find? (fun d => d.1 == id) = some d → ∀ w', Fr None w w' → K (i : Nat) Q w') :
    callW Tryz.prog k_slices_IndexFunc_Change [.slice s.a s.n s.c, .func (.func 118) #[] #[.pointer (some ⟨be, 0, none⟩)]] [.sc (.int .i64)] K Q w := by
  refine C_slices_IndexFunc_Change__diff_Patch_c1 s _ K Q w ?_
  unfold F_slices_IndexFunc_Change__diff_Patch_c1
  have hlen := hS.len
  have hel := hE.len
  refine forI (N := s.n) (fun s : Int => s) (fun j i w' => i = j ∧ Fr None w w' ∧ ∀ q y, q < j → l[q]? = some y → y.1 ≠ id) ⟨rfl, Fr.refl _ _, by omega⟩ (fun j s w' h => h.1) ?_ ?_
  · rintro j i w1 K' hj ⟨rfl, f1, hno⟩ - hK
    obtain ⟨d, hd⟩ : ∃ d, l[j]? = some d := ⟨_, List.getElem?_eq_getElem (by omega)⟩
    obtain ⟨r, hr, hrd⟩ := hE.get hd
    refine (hS.fr0 f1).get rfl rfl (by omega) fun y hy => ?_
    rw [hr] at hy
    cases hy
    refine C_diff_Patch_c1 r _ _ _ _ ?_
    unfold F_diff_Patch_c1
    refine newI fun w2 B2 f2 z2 => fldI B2 (i := 0) (x := r.1) rfl (ptrI (fldI ((B.fr f1 fun h => h).fr f2 fun h => h) (i := 0) (x := id) rfl ?_))
    refine condE (fun e => ?_) fun e => ?_
    · have e : r.1 = id := e
      rw [hrd.1] at e
      have : l.find? (fun d => d.1 == id) = some d := by
        rw [List.find?_eq_some_iff_getElem]
        obtain ⟨hl, he⟩ := List.getElem?_eq_some_iff.1 hd
        exact ⟨by simp [e], j, hl, he, fun q hq => by have := hno q _ hq (List.getElem?_eq_getElem (by omega)); simpa using this⟩
      exact hk j d hd this w2 (f1.then0 f2)
    · refine hK _ _ ⟨wsucc hj (by omega), f1.then0 f2, fun q y hq hy => ?_⟩
      rcases Nat.lt_succ_iff_lt_or_eq.1 hq with h1 | h1
      · exact hno q y h1 hy
      · subst h1; rw [hd] at hy; cases hy; exact fun h => e (hrd.1.trans h)
  · rintro i w1 ⟨rfl, f1, hno⟩
    refine h0 (List.find?_eq_none.2 fun d hd => ?_) w1 f1
    obtain ⟨q, hq⟩ := List.mem_iff_getElem?.1 hd
    have := hno q d (by have := (List.getElem?_eq_some_iff.1 hq).1; omega) hq
    simpa using this
end Go.Proofs.YtchhhjlpnecjkaaGreat
namespace Go.Proofs.YtchhhjlpnecjkaaGreat
open Go Go.RowKit Go.Proofs.YtchhhjlpnecjkaaGreat.Den
variable {R : Type} {Q : R → World → Prop} {w : World}
def ChgSm (d : Chg) : Prop := (0 ≤ d.2.1 ∧ d.2.1 ≤ 255) ∧ d.2.2.1.length ≤ 9 ∧ Small d.2.2.2 ∧ (∀ c ∈ d.2.2.1, CompOk c) ∧ ∀ c ∈ d.2.2.2, CompOk c
theorem turn_fit {e e' : Ent} {d : Chg} (he : EntFit e) (h6 : e.2.length ≤ 6) (hd : ChgSm d) (h : TurnOf e d e') : EntFit e' := by
  obtain ⟨h1, h2, h3⟩ := h
  obtain ⟨d1, d2, d3, d4, d5⟩ := hd
  refine ⟨by rw [h1]; exact he.1, ?_, fun c hc => ?_⟩
  · rw [h2.length_eq]
    unfold turnP
    rw [List.length_append, List.length_map]
    have := List.length_filter_le (fun c : Comp => !(decide (c.1 < 6) && d.2.1.toNat.testBit c.1.toNat)) e.2
    omega
  · have := (h2.mem_iff).1 hc
    unfold turnP at this
    rcases List.mem_append.1 this with h | h
    · obtain ⟨x, hx, rfl⟩ := List.mem_map.1 h
      split
      · rename_i hf; exact d5 _ (findC_some hf).1
      · exact he.2.2 x (List.mem_filter.1 hx).1
    · exact d4 c h
theorem diffE_form {was now : List Ent} (h : diffE was now = 0) : FormOk now := by
  unfold diffE at h
  split at h
  · omega
  · exact formOk.1 h
theorem EntsR.append {ok : Nat → Prop} {r1 r2 : List (Int × Sl)} {l1 l2 : List Ent} (h1 : EntsR ok w r1 l1) (h2 : EntsR ok w r2 l2) : EntsR ok w (r1 ++ r2) (l1 ++ l2) := by
  have hl := h1.len
  refine ⟨by simp [h1.len, h2.len], fun i a b ha hb => ?_⟩
  by_cases hi : i < r1.length
  · rw [List.getElem?_append_left hi] at ha
    rw [List.getElem?_append_left (by omega)] at hb
    exact h1.at_ i a b ha hb
  · rw [List.getElem?_append_right (by omega)] at ha hb
    rw [hl] at ha
    exact h2.at_ _ a b ha hb
theorem spec_diff_Patch {okw okd : Nat → Prop} {sw : Sl} {raws : List (Int × Sl)} {was : List Ent} (hS : SlT okw w entT sw raws) (hE : EntsR okw w raws was) (hf : FormOk was) (hL : ∀ e ∈ was, EntFit e) {rD : DRaw} {gone : List Int} {come : List Ent} {chg : List Chg} (hD : DltR okd w rD gone come chg) (hg : gone.length ≤ 4611686018427387904) (hC : ∀ e ∈ come, EntFit e) (hd : chg.length ≤ 4611686018427387904) (hd2 : ∀ d ∈ chg, ChgSm d) (hm : was.length + come.length ≤ 1048576) {K : Res [.sc .sl, .sc (.int .i64)] → W R}
    (h0 : (∀ now, ¬ PatchOk was gone come chg now) → ∀ w', Fr None w w' → K (⟨none, 0, 0⟩, 4) Q w') (hk : ∀ now, PatchOk was gone come chg now → (∀ e ∈ now, EntFit e) → now.length ≤ was.length + come.length → ∀ r raws' w', Own (Up w.heap.size) w' 57 entT r raws' → EntsR (Up w.heap.size) w' raws' now → Fr None w w' → K (r, 0) Q w') :
    callW Tryz.prog k_diff_Patch [.slice sw.a sw.n sw.c, .agg ⟨[.slice rD.1.a rD.1.n rD.1.c, .slice rD.2.1.a rD.2.1.n rD.2.1.c, .slice rD.2.2.a rD.2.2.n rD.2.2.c]⟩] [.sc .sl, .sc (.int .i64)] K Q w := by
  refine C_diff_Patch sw rD K Q w ?_
  unfold F_diff_Patch
  have hwl := hS.len
  have hel := hE.len
  refine newI fun w1 B1 f1 z1 => ?_
  refine spec_snap_Form (hS.fr0 f1) (hE.fr f1 fun _ _ h => h) (by omega) (fun e he => (hL e he).idOk) fun w2 f2 => ?_
  rw [formOk.2 hf]
  refine condF rfl ?_
  have f02 := f1.then0 f2
  have B1 := B1.fr f2 fun h => h
  have s2 := f2.size
  have hS' : SlT (fun k => k < w.heap.size) w2 entT sw raws := (hS.mono fun k hk _ => hk).fr0 f02
  have hE' : EntsR (fun k => k < w.heap.size) w2 raws was := (hE.mono fun k hk _ => hk).fr f02 fun _ _ h => h
  have hD' : DltR (fun k => k < w.heap.size) w2 rD gone come chg := DltR.st hD f02 fun k hk _ => ⟨fun h => h, hk⟩
  obtain ⟨dg, ⟨rc, dc1, dc2⟩, ⟨rd, dd1, dd2⟩⟩ := hD'
  have six : ∀ e ∈ was, e.2.length ≤ 6 := fun e he => hf.six he
  have lt : ∀ k, k < w.heap.size → ¬ Up w2.heap.size k := fun k hk e => by have e : w2.heap.size ≤ k := e; omega
  obtain ⟨ng, hng⟩ : ∃ ng : Ent → Bool, ng = fun e => !decide (e.1 ∈ gone) := ⟨_, rfl⟩
  refine forI (N := sw.n) (fun s : Sl × Int => s.2) (fun j st u => st.2 = (j : Int) ∧ (∃ rs K, Own (Up w2.heap.size) u 57 entT st.1 rs ∧ EntsR (fun k => (k < w.heap.size ∨ w2.heap.size ≤ k) ∧ st.1.v.ownBlock ≠ some k) u rs K ∧ All2 (KeepR chg) ((was.take j).filter ng) K ∧ (∀ (i : Nat) a b, ((was.take j).filter ng)[i]? = some a → K[i]? = some b → b.1 = a.1) ∧ ∀ e ∈ K, EntFit e) ∧ Fr (Up w2.heap.size) w2 u)
    ⟨rfl, ⟨[], [], Own.nil _ _ _ _, EntsR.nil _ _, by rw [List.take_zero]; exact All2.nil _, fun i a b h => by simp at h, fun e he => by cases he⟩, Fr.refl _ _⟩ (fun j s w' h => h.1) ?_ ?_
  · rintro j ⟨z, _⟩ u K' hj ⟨rfl, ⟨rs, KL, o, eR, hK2, hid, hfit⟩, fu⟩ - hK
    have su := fu.size
    obtain ⟨e, he⟩ : ∃ e, was[j]? = some e := ⟨_, List.getElem?_eq_getElem (by omega)⟩
    obtain ⟨r, hr, r1, r2⟩ := hE'.get he
    have hem := List.mem_of_getElem? he
    refine joinI (fun z v => (∃ rs K, Own (Up w2.heap.size) v 57 entT z rs ∧ EntsR (fun k => (k < w.heap.size ∨ w2.heap.size ≤ k) ∧ z.v.ownBlock ≠ some k) v rs K ∧ All2 (KeepR chg) ((was.take (j + 1)).filter ng) K ∧ (∀ (i : Nat) a b, ((was.take (j + 1)).filter ng)[i]? = some a → K[i]? = some b → b.1 = a.1) ∧ ∀ e ∈ K, EntFit e) ∧ Fr (Up w2.heap.size) w2 v) ?_ fun z v ⟨h1, h2⟩ => hK _ _ ⟨wsucc hj (by omega), h1, h2⟩
    refine (hS'.fr fu lt).get rfl rfl (by omega) fun x hx => ?_
    rw [hr] at hx
    cases hx
    refine newI fun u1 Bc g1 y1 => stoAll Bc rfl rfl fun u2 Bc g2 y2 => ?_
    have g02 : Fr None u u2 := g1.newer g2 fun k e => by omega
    have B12 := (B1.frUp fu (by omega)).fr g02 fun h => h
    have fu2 := fu.then g02.up
    refine fldI B12 (i := 0) (x := rD.1) rfl (fldI Bc (i := 0) (x := r.1) rfl (spec_Contains_ID (dg.fr fu2 lt) hg fun u3 g3 => ?_))
    have g03 := g02.then0 g3
    have ft : (was.take (j + 1)).filter ng = (was.take j).filter ng ++ if ng e = true then [e] else [] := by
      rw [take_at he, List.filter_append]
      congr 1
      by_cases h : ng e = true
      · simp [List.filter, h]
      · simp [List.filter, h]
    have hnge : ng e = !decide (r.1 ∈ gone) := by rw [hng, r1]
    refine condI (fun hc => ?_) fun hc => ?_
    · rw [ft, if_neg (by rw [hnge, hc]; simp), List.append_nil]
      exact ⟨⟨rs, KL, o.none g03, eR.fr g03 fun _ _ h => h, hK2, hid, hfit⟩, fu.then g03.up⟩
    have hng1 : ng e = true := by rw [hnge, hc]; rfl
    rw [ft, if_pos hng1]
    have B13 := B12.fr g3 fun h => h
    have Bc3 := Bc.fr g3 fun h => h
    have fu3 := fu2.then g3.up
    refine fldI B13 (i := 2) (x := rD.2.2) rfl ?_
    have dd13 := dd1.fr fu3 lt
    have dd23 : All2 (fun a b => chgR (fun k => k < w.heap.size) u3 a b) rd chg := dd2.imp fun a b h => St.fr (A := fun F w => chgR F w a b) (chgR_st a b) h fu3 lt
    have s3 := g03.size
    have cu : u.heap.size < u3.heap.size := Bc3.lt
    obtain ⟨J, hJ⟩ : ∃ J : World → Prop, J = fun v => ∃ t e', Blk v u.heap.size 57 [.int .u32 e.1, .slice t.a t.n t.c] ∧ SlT (fun k => k < w.heap.size ∨ u.heap.size ≤ k) v compT t e'.2 ∧ e'.1 = e.1 ∧ KeepR chg e e' ∧ EntFit e' ∧ Fr None u v := ⟨_, rfl⟩
    have fin : ∀ v, J v → ld (.agg [.int .u32, .sl]) ⟨u.heap.size, 0, none⟩ (fun (x_21 : (Int × Sl)) =>
        newW 57 [.int .u32 x_21.1, .slice x_21.2.a x_21.2.n x_21.2.c] fun x_22 =>
        rawW Tryz.prog (Builtin.append_ #[23, 23] 23 #[.slice z.a z.n z.c, .slice (some x_22) 1 1]) [.sc .sl] fun (x_23 : Sl) =>
        fun _ v => (∃ rs K, Own (Up w2.heap.size) v 57 entT x_23 rs ∧ EntsR (fun k => (k < w.heap.size ∨ w2.heap.size ≤ k) ∧ x_23.v.ownBlock ≠ some k) v rs K ∧ All2 (KeepR chg) ((was.take j).filter ng ++ [e]) K ∧ (∀ (i : Nat) a b, ((was.take j).filter ng ++ [e])[i]? = some a → K[i]? = some b → b.1 = a.1) ∧ ∀ e ∈ K, EntFit e) ∧ Fr (Up w2.heap.size) w2 v) (fun r w => K r Q w) v := by
      rw [hJ]
      rintro v ⟨t, e', Bv, St', h1, h2, h3, gv⟩
      have sv := gv.size
      refine aggI Bv (x := ((e.1, t) : Int × Sl)) rfl ?_
      have hlen : rs.length ≤ 1048576 := by
        have a1 := eR.len
        have a2 := hK2.len
        have a3 := List.length_filter_le ng (was.take j)
        have a4 : (was.take j).length ≤ was.length := by simp; omega
        omega
      have ov := o.none gv
      have oz : Own (fun k => w2.heap.size ≤ k ∧ (z.v.ownBlock = some k ∨ v.heap.size ≤ k)) v 57 entT z rs := ⟨ov.row, fun k e => ⟨ov.own k e, .inl e⟩⟩
      refine appP (x := ((e.1, t) : Int × Sl)) ents_ty rfl oz (fun k e => ⟨by omega, .inr e⟩) (by omega) (by omega) fun z2 v2 o2 f2 => ?_
      have zlt : ∀ k, z.v.ownBlock = some k → k < u.heap.size := fun k e => o.lt e
      have nz2 : ∀ k, (k < w.heap.size ∨ w2.heap.size ≤ k) → z.v.ownBlock ≠ some k → k < v.heap.size → z2.v.ownBlock ≠ some k := fun k _ h2 h3 e => by
        rcases (o2.own k e).2 with h | h
        · exact h2 h
        · omega
      refine ⟨⟨rs ++ [(e.1, t)], KL ++ [e'], o2.mono fun k _ e => e.1, ?_, hK2.snoc h2, ?_, ?_⟩, (fu.then gv.up).then (f2.sub fun k e => ov.own k e)⟩
      · refine EntsR.snoc ?_ h1.symm ?_
        · have e1 : EntsR (fun k => ((k < w.heap.size ∨ w2.heap.size ≤ k) ∧ z.v.ownBlock ≠ some k) ∧ k < v.heap.size) v rs KL := (eR.fr gv fun _ _ h => h).mono fun k hk e => ⟨e, hk⟩
          exact (e1.fr f2 fun k e e2 => e.1.2 e2).mono fun k _ e => ⟨e.1.1, nz2 k e.1.1 e.1.2 e.2⟩
        · have t1 : SlT (fun k => (k < w.heap.size ∨ u.heap.size ≤ k) ∧ k < v.heap.size) v compT t e'.2 := St'.mono fun k hk e => ⟨e, hk⟩
          have nz : ∀ k, (k < w.heap.size ∨ u.heap.size ≤ k) → z.v.ownBlock ≠ some k := fun k h e => by
            have := zlt k e
            have := o.own k e
            have : w2.heap.size ≤ k := this
            omega
          exact (t1.fr f2 fun k e e2 => nz k e.1 e2).mono fun k _ e => ⟨by omega, nz2 k (by omega) (nz k e.1) e.2⟩
      · intro i a b ha hb
        have hl := hK2.len
        by_cases hi : i < ((was.take j).filter ng).length
        · rw [List.getElem?_append_left hi] at ha
          rw [List.getElem?_append_left (by omega)] at hb
          exact hid i a b ha hb
        · have : i = ((was.take j).filter ng).length := by
            have := (List.getElem?_eq_some_iff.1 ha).1
            simp at this
            omega
          rw [List.getElem?_append_right (by omega)] at ha hb
          rw [this] at ha hb
          simp [hl] at ha hb
          rw [← ha, ← hb, h1]
      · intro x hx
        rcases List.mem_append.1 hx with hx | hx
        · exact hfit x hx
        · simp at hx; subst hx; exact h3
    have hr2 : SlT (fun k => k < w.heap.size) u3 compT r.2 e.2 := r2.fr fu3 lt
    refine spec_IndexFunc_Change dd13 dd23 hd Bc3 (fun hnone u4 g4 => ?_) fun i d hi hsome u4 g4 => ?_
    · refine joinI (fun _ v => J v) (condF (by decide) ?_) (fun _ v h => fin v h)
      rw [hJ]
      refine ⟨r.2, e, by rw [← r1]; exact Bc3.fr g4 fun h => h, (hr2.fr0 g4).mono fun k _ h => .inl h, rfl, ⟨fun d hd => ?_, fun _ => rfl⟩, hL e hem, g03.then0 g4⟩
      rw [← r1, hnone] at hd
      cases hd
    · have gd : Fr None u4 u4.drew := (Fr.refl _ _).drew
      have g4d := g4.then0 gd
      refine joinI (fun _ v => J v) (condT (decide_eq_true (Int.natCast_nonneg i)) ?_) (fun _ v h => fin v h)
      refine aggI (Bc3.fr g4d fun h => h) (x := r) rfl (fldI (B13.fr g4d fun h => h) (i := 2) (x := rD.2.2) rfl ?_)
      obtain ⟨q, hq, hqr⟩ := dd23.get hi
      refine (dd13.fr0 g4d).get rfl rfl (List.getElem?_eq_some_iff.1 hq).1 fun q' hq' => ?_
      rw [hq] at hq'
      cases hq'
      have hdf := hd2 d (List.mem_of_getElem? hi)
      refine spec_diff_turn r1 (hr2.fr0 g4d) (by have := six e hem; omega) (hL e hem).2.2 (St.fr0 (A := fun F w => chgR F w q d) (chgR_st q d) hqr g4d) hdf.1 hdf.2.1 hdf.2.2.1 fun t e' u5 ht o5 g5 => ?_
      have g35 := g4d.then0 g5
      refine stoAll (Bc3.fr g35 fun h => h) rfl rfl fun u6 B6 g6 y6 => ?_
      rw [hJ]
      have s5 := g4d.size
      refine ⟨t, e', B6, (o5.sl.fr g6 fun k (e : u4.drew.heap.size ≤ k) e2 => by omega).mono fun k _ (e : u4.drew.heap.size ≤ k) => .inr (by omega), ht.1, ⟨fun d' hd' => ?_, fun hn => ?_⟩, turn_fit (hL e hem) (six e hem) hdf ht, (g03.then0 g35).newer g6 fun k e => by omega⟩
      · rw [← r1, hsome] at hd'
        cases hd'
        exact ht
      · rw [← r1, hsome] at hn
        cases hn
  · rintro ⟨z, _⟩ u ⟨_, ⟨rs, KL, o, eR, hK2, hid, hfit⟩, fu⟩
    have su := fu.size
    rw [List.take_of_length_le (by omega)] at hK2 hid
    have hlen : rs.length ≤ was.length := by
      have a1 := eR.len
      have a2 := hK2.len
      have a3 := List.length_filter_le ng was
      omega
    have hcl := dc1.len.trans dc2.len
    have hcl2 := dc2.len
    have B1u := B1.frUp fu (by omega)
    refine fldI B1u (i := 1) (x := rD.2.1) rfl ?_
    have oz : Own (fun k => w2.heap.size ≤ k ∧ (z.v.ownBlock = some k ∨ u.heap.size ≤ k)) u 57 entT z rs := ⟨o.row, fun k e => ⟨o.own k e, .inl e⟩⟩
    refine appI (S' := fun k => w2.heap.size ≤ k ∧ (z.v.ownBlock = some k ∨ u.heap.size ≤ k)) ents_ty oz (dc1.fr fu lt) (by omega) (by rw [maxLen_eq]; omega) (fun _ h => h) ⟨by omega, .inr (Nat.le_refl _)⟩ fun z2 u2 o2 g2 y2 => ?_
    have zlt : ∀ k, z.v.ownBlock = some k → k < u.heap.size := fun k e => o.lt e
    have nz2 : ∀ k, z.v.ownBlock ≠ some k → k < u.heap.size → z2.v.ownBlock ≠ some k := fun k h2 h3 e => by
      rcases (o2.own k e).2 with h | h
      · exact h2 h
      · omega
    have ltz : ∀ k, k < w.heap.size → z.v.ownBlock ≠ some k := fun k hk e => by have : w2.heap.size ≤ k := o.own k e; omega
    have E2 : EntsR (fun k => (k < w.heap.size ∨ w2.heap.size ≤ k) ∧ z2.v.ownBlock ≠ some k) u2 (rs ++ rc) (KL ++ come) := by
      refine EntsR.append ?_ ?_
      · have e1 : EntsR (fun k => ((k < w.heap.size ∨ w2.heap.size ≤ k) ∧ z.v.ownBlock ≠ some k) ∧ k < u.heap.size) u rs KL := eR.mono fun k hk e => ⟨e, hk⟩
        exact (e1.fr g2 fun k e e2 => e.1.2 e2).mono fun k _ e => ⟨e.1.1, nz2 k e.1.2 e.2⟩
      · exact ((dc2.fr fu lt).fr g2 fun k e e2 => ltz k e e2).mono fun k _ e => ⟨.inl e, nz2 k (ltz k e) (by omega)⟩
    have fu2 := fu.then (g2.sub fun k e => o.own k e)
    refine spec_SortStable_Ent o2 (by rw [List.length_append]; omega) fun rs3 u3 hp hso o3 g3 => ?_
    have E3 := E2.fr g3 fun k e e2 => e.2 e2
    obtain ⟨l, hpl, hA⟩ := Den.All2.perm hp.symm (p := fun (r : Int × Sl) (e : Ent) => r.1 = e.1 ∧ SlT (fun k => (k < w.heap.size ∨ w2.heap.size ≤ k) ∧ z2.v.ownBlock ≠ some k) u3 compT r.2 e.2) (k := KL ++ come) ⟨E3.len, E3.at_⟩
    have E3 : EntsR (fun k => (k < w.heap.size ∨ w2.heap.size ≤ k) ∧ z2.v.ownBlock ≠ some k) u3 rs3 l := ⟨hA.len, hA.at_⟩
    have hsl : l.Pairwise fun a b => a.1 ≤ b.1 := by
      rw [List.pairwise_iff_getElem]
      intro i j hi hj hij
      have hl := hA.len
      have q := List.pairwise_iff_getElem.1 hso.pair i j (by omega) (by omega) hij
      have a1 := (hA.at_ i _ _ (List.getElem?_eq_getElem (by omega)) (List.getElem?_eq_getElem hi)).1
      have a2 := (hA.at_ j _ _ (List.getElem?_eq_getElem (by omega)) (List.getElem?_eq_getElem hj)).1
      rw [← a1, ← a2]
      exact q
    have uniq : ∀ now, PatchOk was gone come chg now → l = now := fun now hp2 => by
      rw [hng] at hK2 hid
      exact patch_now hf hp2 hK2 hid hpl hsl
    have lfit : ∀ e ∈ l, EntFit e := fun e he => by
      rcases List.mem_append.1 ((hpl.mem_iff).1 he) with h | h
      · exact hfit e h
      · exact hC e h
    have llen : l.length ≤ was.length + come.length := by
      have := hpl.length_eq
      rw [List.length_append] at this
      have := eR.len
      omega
    have fu3 := fu2.then (g3.sub fun k e => (o2.own k e).1)
    have S3 : SlT (fun k => k < w.heap.size ∨ w2.heap.size ≤ k) u3 entT z2 rs3 := o3.sl.mono fun k _ e => .inr e.1
    have E4 : EntsR (fun k => k < w.heap.size ∨ w2.heap.size ≤ k) u3 rs3 l := E3.mono fun k _ e => e.1
    have f03 : Fr None w u3 := f02.thenUp fu3 f02.size
    refine spec_diff_Diff (hS'.fr fu3 lt) (hE'.fr fu3 lt) S3 E4 (by omega) (by omega) hL lfit (fun hbad u4 g4 => ?_) fun hgood rr u4 dr g4 => ?_
    · refine newI fun u5 B5 g5 y5 => stoAll B5 rfl rfl fun u6 B6 g6 y6 => ?_
      have f06 := ((f03.then0 g4).then0 g5).newer g6 fun k e => by have := g4.size; have := f03.size; omega
      refine joinI (fun z v => z = true ∧ v = u6) (condT (by simpa using hbad) ⟨rfl, rfl⟩) ?_
      rintro z v ⟨rfl, rfl⟩
      refine condT rfl (h0 (fun now hp2 => ?_) _ f06)
      have := uniq now hp2
      subst this
      refine hbad ?_
      unfold diffE
      rw [if_neg (by rw [formOk.2 hf]; simp)]
      exact formOk.2 hp2.form
    · refine newI fun u5 B5 g5 y5 => stoAll B5 rfl rfl fun u6 B6 g6 y6 => ?_
      have g46 : Fr None u4 u6 := g5.newer g6 fun k e => by omega
      have g36 := g4.then0 g46
      have f06 := f03.then0 g36
      have B16 := ((B1u.fr g2 fun e => by have := o.own _ e; have : w2.heap.size ≤ w.heap.size := this; omega).fr g3 fun e => by have := (o2.own _ e).1; omega).fr g36 fun h => h
      refine joinI (fun z v => (z = !decide (goneM was l = gone ∧ comeM was l = come ∧ chgsM was l = chg)) ∧ Fr None u6 v) (condF rfl ?_) ?_
      · refine aggI B6 (x := rr) rfl (aggI B16 (x := rD) rfl ?_)
        have fl : ∀ e ∈ comeM was l, Small e.2 := fun e he => (lfit e (List.mem_filter.1 he).1).2.1
        have cl : (comeM was l).length ≤ l.length := List.length_filter_le _ _
        have gl : (goneM was l).length ≤ was.length := by unfold goneM; rw [List.length_map]; exact List.length_filter_le _ _
        have dl : (chgsM was l).length ≤ l.length := filterMap_le _ _
        have ds : ∀ d ∈ chgsM was l, Small d.2.2.1 ∧ Small d.2.2.2 := fun d hd => by
          obtain ⟨b, hb, h2⟩ := List.mem_filterMap.1 hd
          obtain ⟨_, a, ha, _, h3, _⟩ := chgOne_id h2
          have hb2 := (lfit b hb).2.1
          rw [h3]
          exact ⟨Nat.le_trans (newM_le _ _) hb2, Nat.le_trans (chM_le _ _) hb2⟩
        refine spec_diff_same (ok2 := fun k => k < w.heap.size) (DltR.st.fr0 dr g46) (DltR.st.fr0 (DltR.st (show DltR (fun k => k < w.heap.size) w2 rD gone come chg from ⟨dg, ⟨rc, dc1, dc2⟩, ⟨rd, dd1, dd2⟩⟩) fu3 fun k _ e => ⟨lt k e, e⟩) g36) (by omega) fl ds fun u7 g7 => ⟨rfl, g7⟩
      rintro _ u7 ⟨rfl, g7⟩
      have f07 := f06.then0 g7
      have hdl := diffE_form hgood
      refine condI (fun hb => ?_) fun hb => ?_
      · have hb : ¬ (goneM was l = gone ∧ comeM was l = come ∧ chgsM was l = chg) := of_decide_eq_false (by rw [Bool.not_eq_true'] at hb; exact hb)
        refine h0 (fun now hp2 => ?_) _ f07
        have := uniq now hp2
        subst this
        exact hb ⟨hp2.gone, hp2.come, hp2.chg⟩
      · have hb : goneM was l = gone ∧ comeM was l = come ∧ chgsM was l = chg := of_decide_eq_true (by rw [Bool.not_eq_false'] at hb; exact hb)
        have g37 := g36.then0 g7
        refine spec_snap_Copy (S3.fr0 g37) (E4.fr g37 fun _ _ h => h) (by omega) (fun e he => (lfit e he).2.1) fun r8 raws8 u8 o8 e8 g8 => ?_
        have s7 := f07.size
        exact hk l ⟨hdl, hb.1, hb.2.1, hb.2.2⟩ lfit llen r8 raws8 u8 (o8.mono fun k _ (e : u7.heap.size ≤ k) => by show w.heap.size ≤ k; omega) (e8.mono fun k _ (e : u7.heap.size ≤ k) => by show w.heap.size ≤ k; omega) (f07.then0 g8)
end Go.Proofs.YtchhhjlpnecjkaaGreat
namespace Go.Proofs.YtchhhjlpnecjkaaGreat
open Go Go.RowKit Go.Proofs.YtchhhjlpnecjkaaGreat.Den
variable {R : Type} {Q : R → World → Prop} {w : World}
abbrev restAct (hv rv : Value) (s : Sl) (A B C : Nat) : Act := { tmps := #[hv, rv, .slice s.a s.n s.c, .pointer (some ⟨A, 0, none⟩), .pointer (some ⟨B, 0, none⟩), undef, .slice none 0 0, .pointer (some ⟨C, 0, none⟩), undef, undef, undef, undef, undef, undef, undef, undef, undef, undef, undef, undef, undef, undef, undef], defers := [{ target := .fn (.func 66) #[], args := #[.pointer (some ⟨C, 0, none⟩)] }] }
section
variable {hv rv : Value} {p : Option Addr} {s : Sl} {A B C : Nat} {T TB TC : TypeId} {tl : List Value} {RR : Ending → World → Prop}
theorem rest_other {k : Int} (Bh : Blk w A T (.int .u8 k :: tl)) (Be : Blk w C TC [.int .i64 0]) (h1 : ¬ k = 1) (h2 : ¬ k = 2) (hR : ∀ w', Fr (fun k => k = C) w w' → RR (.returned (.tuple #[.slice none 0 0, .int .i64 0])) w') :
    (doorOf Tryz.f29).wp Tryz.prog (bodyPostD Tryz.prog Tryz.f29 RR) (restAct hv rv s A B C) w := by
  have c1 : w.cell? ⟨A, 0, none⟩ = some (.int .u8 k) := Bh.cell 0
  have c3 : w.cell? ⟨C, 0, none⟩ = some (.int .i64 0) := Be.cell 0
  have c4 : w.frozen? ⟨C, 0, none⟩ = false := Be.frozen 0
  have h1' : (k == 1) = false := by simpa using h1
  have h2' : (k == 2) = false := by simpa using h2
  show Code.wp _ (Code.seq (Code.seq _ _) (Code.seq _ _)) _ _ _
  go_wp2
  have c5 := (Be.set 0 (.int .i64 0)).cell 0
  exact caught_ret (v := .tuple #[.slice none 0 0, .int .i64 0]) (by simp [results, Tryz.results29, go_sem, c5]) (hR _ (Fr.setCell (S := fun k => k = C) (Fr.refl _ _) (p := ⟨C, 0, none⟩) (.inl rfl) _))
theorem rest_full (Bh : Blk w A T (.int .u8 1 :: tl)) (Br : Blk w B TB [.pointer p])
   (hc : Calls Tryz.prog 72 #[.agg #[.pointer p]] w fun e w' => Blk w' C TC [.int .i64 0] ∧ ((∃ r : Sl, e = .returned (.slice r.a r.n r.c) ∧ ∀ w2, Fr (fun k => k = C) w' w2 → RR (.returned (.tuple #[.slice r.a r.n r.c, .int .i64 0])) w2) ∨ (e = .panicked giveUp ∧ ∀ w2, Fr (fun k => k = C) w' w2 → RR (.returned (.tuple #[.slice none 0 0, .int .i64 4])) w2))) :
    (doorOf Tryz.f29).wp Tryz.prog (bodyPostD Tryz.prog Tryz.f29 RR) (restAct hv (.agg #[.pointer p]) s A B C) w := by
  have c1 : w.cell? ⟨A, 0, none⟩ = some (.int .u8 1) := Bh.cell 0
  have c2 : w.cell? ⟨B, 0, none⟩ = some (.pointer p) := Br.cell 0
  show Code.wp _ (Code.seq (Code.seq _ _) (Code.seq _ _)) _ _ _
  go_wp2_with (go_at_call 72; refine hc.mono ?_; rintro e w' ⟨B', ⟨r, rfl, hR⟩ | ⟨rfl, hR⟩⟩ <;> (have c3 : w'.cell? ⟨C, 0, none⟩ = some (.int .i64 0) := B'.cell 0) <;> (have c4 : w'.frozen? ⟨C, 0, none⟩ = false := B'.frozen 0))
  · have c5 := (B'.set 0 (.int .i64 0)).cell 0
    exact caught_ret (v := .tuple #[.slice r.a r.n r.c, .int .i64 0]) (by simp [results, Tryz.results29, go_sem, c5]) (hR _ (Fr.setCell (S := fun k => k = C) (Fr.refl _ _) (p := ⟨C, 0, none⟩) (.inl rfl) _))
  · refine caught_bad (v := .tuple #[.slice none 0 0, .int .i64 4]) B' fun w2 B2 g2 => ⟨?_, hR w2 g2⟩
    have c5 := B2.cell 0
    simp [results, Tryz.results29, go_sem, c5]
theorem rest_step (Bh : Blk w A T (.int .u8 2 :: tl)) (Br : Blk w B TB [.pointer p])
   (hc : Calls Tryz.prog 74 #[.agg #[.pointer p], .slice s.a s.n s.c] w fun e w' => (∃ d : DRaw, e = .returned (.agg #[.slice d.1.a d.1.n d.1.c, .slice d.2.1.a d.2.1.n d.2.1.c, .slice d.2.2.a d.2.2.n d.2.2.c]) ∧
      Calls Tryz.prog 73 #[.slice s.a s.n s.c, .agg #[.slice d.1.a d.1.n d.1.c, .slice d.2.1.a d.2.1.n d.2.1.c, .slice d.2.2.a d.2.2.n d.2.2.c]] w' fun e w' => Blk w' C TC [.int .i64 0] ∧ ∃ (r : Sl) (x : Int), e = .returned (.tuple #[.slice r.a r.n r.c, .int .i64 x]) ∧ ∀ w2, Fr (fun k => k = C) w' w2 → RR (.returned (.tuple #[.slice r.a r.n r.c, .int .i64 x])) w2) ∨ (e = .panicked giveUp ∧ Blk w' C TC [.int .i64 0] ∧ ∀ w2, Fr (fun k => k = C) w' w2 → RR (.returned (.tuple #[.slice none 0 0, .int .i64 4])) w2)) :
    (doorOf Tryz.f29).wp Tryz.prog (bodyPostD Tryz.prog Tryz.f29 RR) (restAct hv (.agg #[.pointer p]) s A B C) w := by
  have c1 : w.cell? ⟨A, 0, none⟩ = some (.int .u8 2) := Bh.cell 0
  have c2 : w.cell? ⟨B, 0, none⟩ = some (.pointer p) := Br.cell 0
  show Code.wp _ (Code.seq (Code.seq _ _) (Code.seq _ _)) _ _ _
  go_wp2_with (first
    | (go_at_call 74; refine hc.mono ?_; rintro e w' (⟨d, rfl, hc2⟩ | ⟨rfl, B', hR⟩))
    | (go_at_call 73; refine hc2.mono ?_; rintro e w'' ⟨B', r, x, rfl, hR⟩; have c3 : w''.cell? ⟨C, 0, none⟩ = some (.int .i64 0) := B'.cell 0; have c4 : w''.frozen? ⟨C, 0, none⟩ = false := B'.frozen 0))
  · have c5 := (B'.set 0 (.int .i64 x)).cell 0
    exact caught_ret (v := .tuple #[.slice r.a r.n r.c, .int .i64 x]) (by simp [results, Tryz.results29, go_sem, c5]) (hR _ (Fr.setCell (S := fun k => k = C) (Fr.refl _ _) (p := ⟨C, 0, none⟩) (.inl rfl) _))
  · refine caught_bad (v := .tuple #[.slice none 0 0, .int .i64 4]) B' fun w2 B2 g2 => ⟨?_, hR w2 g2⟩
    have c5 := B2.cell 0
    simp [results, Tryz.results29, go_sem, c5]
end
end Go.Proofs.YtchhhjlpnecjkaaGreat
