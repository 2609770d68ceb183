/-
  packet: a delta's bits.
-/
import Derived.Test.YtchhhjlpnecjkaaGreatDif4
import Derived.Test.YtchhhjlpnecjkaaGreatSnp
namespace Go.Proofs.YtchhhjlpnecjkaaGreat
open Go Go.RowKit Go.Proofs.YtchhhjlpnecjkaaGreat.Den
variable {R : Type} {Q : R → World → Prop} {w : World}

/-! ### a writer, whose blocks are F's or new, but for some -/
abbrev PS (n : Nat) (F : Nat → Prop) (nots : List Nat) : Nat → Prop := fun k => (F k ∨ n ≤ k) ∧ k ∉ nots
def PX (n : Nat) (F : Nat → Prop) (bw b : Nat) (s : WS) (nots : List Nat) (v : World) : Prop :=
  ∃ G, PW bw b s G v ∧ (∀ k, G k → F k ∨ n ≤ k) ∧ (∀ x ∈ nots, ¬ G x ∧ x < v.heap.size)
section
variable {n : Nat} {F : Nat → Prop} {bw b : Nat} {s : WS} {nots : List Nat} {v : World}
theorem PX.use (h : PX n F bw b s nots v) (hn : n ≤ v.heap.size) : ∃ G, PW bw b s G v ∧ (∀ s' v', PW bw b s' (Gw G v v') v' → v.heap.size ≤ v'.heap.size → PX n F bw b s' nots v') ∧ (∀ v', Fr G v v' → Fr (PS n F nots) v v') ∧ (∀ x ∈ nots, ¬ G x) ∧ (∀ k, G k → PS n F nots k) := by
  obtain ⟨G, h1, h2, h3⟩ := h
  refine ⟨G, h1, fun s' v' hp hs => ⟨_, hp, fun k e => ?_, fun x hx => ⟨fun e => ?_, by have := (h3 x hx).2; omega⟩⟩, fun v' f => f.sub fun k e => ⟨h2 k e, fun hx => (h3 k hx).1 e⟩, fun x hx => (h3 x hx).1, fun k e => ⟨h2 k e, fun hx => (h3 k hx).1 e⟩⟩
  · rcases e with e | e
    · exact h2 k e
    · exact .inr (by omega)
  · rcases e with e | e
    · exact (h3 x hx).1 e
    · have := (h3 x hx).2; omega
theorem PX.fr0 (h : PX n F bw b s nots v) {v' : World} (f : Fr None v v') : PX n F bw b s nots v' := by
  obtain ⟨G, h1, h2, h3⟩ := h
  exact ⟨G, h1.fr0 f, h2, fun x hx => ⟨(h3 x hx).1, Nat.lt_of_lt_of_le (h3 x hx).2 f.size⟩⟩
/-- a block that is written is not the writer's. -/
theorem PX.frN (h : PX n F bw b s nots v) {v' : World} {x : Nat} (hx : x ∈ nots) (f : Fr (fun k => k = x) v v') : PX n F bw b s nots v' := by
  obtain ⟨G, h1, h2, h3⟩ := h
  exact ⟨G, h1.fr f fun k e e2 => by subst e2; exact (h3 k hx).1 e, h2, fun x hx => ⟨(h3 x hx).1, Nat.lt_of_lt_of_le (h3 x hx).2 f.size⟩⟩
/-- .. nor one that is new. -/
theorem PX.more (h : PX n F bw b s nots v) {v' : World} (f : Fr None v v') {x : Nat} (h1 : v.heap.size ≤ x) (h2 : x < v'.heap.size) : PX n F bw b s (x :: nots) v' := by
  obtain ⟨G, g1, g2, g3⟩ := h
  refine ⟨G, g1.fr0 f, g2, fun y hy => ?_⟩
  rcases List.mem_cons.1 hy with rfl | hy
  · exact ⟨fun e => by have := g1.2.1 y e; omega, h2⟩
  · exact ⟨(g3 y hy).1, Nat.lt_of_lt_of_le (g3 y hy).2 f.size⟩
theorem PX.less (h : PX n F bw b s nots v) {l : List Nat} (hl : ∀ x ∈ l, x ∈ nots) : PX n F bw b s l v := by
  obtain ⟨G, g1, g2, g3⟩ := h
  exact ⟨G, g1, g2, fun x hx => g3 x (hl x hx)⟩
theorem PX.of (h : PW bw b s F v) : PX v.heap.size F bw b s [] v := ⟨F, h, fun k e => .inl e, fun x hx => by cases hx⟩
theorem PX.done {v0 : World} (h : PX v0.heap.size F bw b s nots v) (hF : ∀ k, F k → k < v0.heap.size) (hs : v0.heap.size ≤ v.heap.size) : PW bw b s (Gw F v0 v) v := by
  obtain ⟨G, g1, g2, g3⟩ := h
  refine g1.mono (fun k hk e => ?_) fun k e => ?_
  · rcases g2 k e with e | e
    · exact .inl e
    · exact .inr ⟨e, hk⟩
  · rcases e with e | e
    · have := hF k e; omega
    · exact e.2
theorem PX.plain (h : PX n F bw b s nots v) (hn : n ≤ v.heap.size) {x m : Int} (hv : 0 ≤ x ∧ x ≤ 18446744073709551615) (hm : -9223372036854775808 ≤ m ∧ m ≤ 9223372036854775807) {K : Res [] → W R} (hk : ∀ v', PX n F bw b (plainM s x m) nots v' → Fr (PS n F nots) v v' → K () Q v') :
    callW Tryz.prog k_packet_writer_plain [.pointer (some ⟨bw, 0, none⟩), .int .u64 x, .int .i64 m] [] K Q v := by
  obtain ⟨G, hp, up, uf, -, -⟩ := h.use hn
  exact spec_packet_plain hp hv hm fun v' hp' f' => hk v' (up _ _ hp' f'.size) (uf _ f')
theorem PX.count (h : PX n F bw b s nots v) (hn : n ≤ v.heap.size) {x : Nat} (hx : (x : Int) ≤ 18446744073709551615) {K : Res [] → W R} (hk : ∀ v', PX n F bw b (varM s x) nots v' → Fr (PS n F nots) v v' → K () Q v') :
    callW Tryz.prog k_packet_writer_count [.pointer (some ⟨bw, 0, none⟩), .int .i64 (x : Int)] [] K Q v := by
  obtain ⟨G, hp, up, uf, -, -⟩ := h.use hn
  exact spec_packet_count hp hx fun v' hp' f' => hk v' (up _ _ hp' f'.size) (uf _ f')
theorem PX.id (h : PX n F bw b s nots v) (hn : n ≤ v.heap.size) {bl : Nat} (hbl : bl ∈ nots) {T : TypeId} {last id : Int} (B : Blk v bl T [.int .u32 last]) {K : Res [] → W R}
    (hk : ∀ v', PX n F bw b (varM s (idD last id)) nots v' → Blk v' bl T [.int .u32 id] → Fr (fun k => PS n F nots k ∨ k = bl) v v' → K () Q v') :
    callW Tryz.prog k_packet_writer_id [.pointer (some ⟨bw, 0, none⟩), .pointer (some ⟨bl, 0, none⟩), .int .u32 id] [] K Q v := by
  obtain ⟨G, hp, up, uf, un, us⟩ := h.use hn
  exact spec_packet_id hp B (un bl hbl) fun v' hp' B' f' => hk v' (up _ _ hp' f'.size) B' (f'.sub fun k e => e.imp (us k) fun h => h)
theorem PX.comps (h : PX n F bw b s nots v) (hn : n ≤ v.heap.size) {ok : Nat → Prop} {r : Sl} {l : List Comp} (hS : SlT ok v compT r l) (hd : ∀ k, ok k → k ∈ nots ∨ ¬ (F k ∨ n ≤ k)) (hc : ∀ c ∈ l, CompOk c) (hm : l.length ≤ 1048576) {K : Res [] → W R} (hk : ∀ v', PX n F bw b (compsM s l) nots v' → Fr (PS n F nots) v v' → K () Q v') :
    callW Tryz.prog k_packet_writer_comps [.pointer (some ⟨bw, 0, none⟩), .slice r.a r.n r.c] [] K Q v := by
  obtain ⟨G, hp, up, uf, un, us⟩ := h.use hn
  refine spec_packet_comps hp hS (fun k _ e e2 => ?_) hc (by omega) fun v' hp' f' => hk v' (up _ _ hp' f'.size) (uf _ f')
  rcases hd k e with h | h
  · exact un k h e2
  · exact h (us k e2).1
theorem PX.ents (h : PX n F bw b s nots v) (hn : n ≤ v.heap.size) {ok : Nat → Prop} {r : Sl} {raws : List (Int × Sl)} {L : List Ent} (hS : SlT ok v entT r raws) (hE : EntsR ok v raws L) (hd : ∀ k, ok k → ¬ (F k ∨ n ≤ k)) (hL : ∀ e ∈ L, EntFit e) (hm : L.length ≤ 1048576) {K : Res [] → W R} (hk : ∀ v', PX n F bw b (entsW s L) nots v' → Fr (PS n F nots) v v' → K () Q v') :
    callW Tryz.prog k_packet_writer_ents [.pointer (some ⟨bw, 0, none⟩), .slice r.a r.n r.c] [] K Q v := by
  obtain ⟨G, hp, up, uf, un, us⟩ := h.use hn
  exact spec_packet_ents hp hS hE (fun k _ e e2 => hd k e (us k e2).1) hL hm fun v' hp' f' => hk v' (up _ _ hp' f'.size) (uf _ f')
/-- the bits' writer, by its own pointer; then what went wrong is kept. -/
theorem PX.bits (h : PX n F bw b s nots v) (hn : n ≤ v.heap.size) : ∃ G, Wr b s.1 G v ∧ (∀ k, G k → k < v.heap.size) ∧ ∀ (p : Int × List Bool) (v' : World) {K : Res [] → W R}, Wr b p.2 (Ex G v) v' → Fr G v v' →
    (∀ v2, PX n F bw b (doM s p) nots v2 → Fr (PS n F nots) v v2 → K () Q v2) → callW Tryz.prog k_packet_writer_keep [.pointer (some ⟨bw, 0, none⟩), .int .i64 p.1] [] K Q v' := by
  obtain ⟨G, hp, up, uf, un, us⟩ := h.use hn
  obtain ⟨h1, h2, h3⟩ := PW.put (Q := Q) hp
  refine ⟨_, h1, h2, fun p v' K hw f hk => h3 p v' hw f fun v2 hp2 f2 => hk v2 (up _ _ hp2 f2.size) (uf _ f2)⟩
theorem PX.ptr (h : PX n F bw b s nots v) {K : Option Addr → W R} (hk : K (some ⟨b, 0, none⟩) Q v) : ld (.sc .ptr) (Addr.add ⟨bw, 0, none⟩ 0) K Q v := by
  obtain ⟨G, h1, _⟩ := h
  exact h1.ptr hk
theorem PX.rdp (h : PX n F bw b s nots v) : Rd v (Addr.add ⟨bw, 0, none⟩ 0) (.sc .ptr) (some ⟨b, 0, none⟩) := by
  obtain ⟨G, h1, _⟩ := h
  exact h1.2.2.1.rd (s := .ptr) (i := 0) rfl
end

/-! ### a delta -/
def idM (p : WS × Int) (id : Int) : WS × Int := (varM p.1 (idD p.2 id), id)
def goneW (s : WS) (l : List Int) : WS := (l.foldl idM (varM s l.length, 0)).1
def setsM (was : List Ent) (id : Int) (s : WS) (l : List Comp) : WS := l.foldl (fun s c => doM s (putS s.1 (oldM was id c.1) c)) s
def chgM1 (was : List Ent) (p : WS × Int) (d : Chg) : WS × Int :=
  (setsM was d.1 (compsM (plainM (plainM (plainM (varM p.1 (idD p.2 d.1)) d.2.1 5) (maskN d.2.2.1) 5) (maskN d.2.2.2) 5) d.2.2.1) d.2.2.2, d.1)
def chgsW (was : List Ent) (s : WS) (l : List Chg) : WS := (l.foldl (chgM1 was) (varM s l.length, 0)).1
def deltaW (was : List Ent) (s : WS) (gone : List Int) (come : List Ent) (chg : List Chg) : WS := chgsW was (entsW (goneW s gone) come) chg
def ChgFit (d : Chg) : Prop := (0 ≤ d.1 ∧ d.1 ≤ 4294967295) ∧ (0 ≤ d.2.1 ∧ d.2.1 ≤ 255) ∧ (d.2.2.1.length ≤ 1048576 ∧ ∀ c ∈ d.2.2.1, CompOk c) ∧ (d.2.2.2.length ≤ 1048576 ∧ ∀ c ∈ d.2.2.2, CompOk c)
theorem oldM_ok {was : List Ent} (hL : ∀ e ∈ was, EntFit e) (id k : Int) : CompOk (oldM was id k) := by
  have z : CompOk (0, 0, 0, 0) := by unfold CompOk i32; simp
  unfold oldM
  split
  · rename_i i hi
    cases he : was[i]? with
    | none => exact z
    | some e =>
      simp only [Option.bind_some]
      cases hf : e.2.find? (fun c => c.1 == k) with
      | none => exact z
      | some c => exact (hL e (List.mem_of_getElem? he)).2.2 c (List.mem_of_find?_eq_some hf)
  · exact z

theorem spec_packet_delta {bw b : Nat} {s : WS} {F : Nat → Prop} (h : PW bw b s F w) {okw ok : Nat → Prop} {sw : Sl} {raws : List (Int × Sl)} {was : List Ent} (hS : SlT okw w entT sw raws) (hE : EntsR okw w raws was) (hr : was.Pairwise fun a b => a.1 < b.1) (hm : was.length ≤ 1048576) (hL : ∀ e ∈ was, EntFit e) (hd1 : ∀ k, k < w.heap.size → okw k → ¬ F k)
    {d : DRaw} {gone : List Int} {come : List Ent} {chg : List Chg} (D : DltR ok w d gone come chg) (hd2 : ∀ k, k < w.heap.size → ok k → ¬ F k) (hg : gone.length ≤ 1048576 ∧ ∀ x ∈ gone, 0 ≤ x ∧ x ≤ 4294967295) (hc : come.length ≤ 1048576 ∧ ∀ e ∈ come, EntFit e) (hh : chg.length ≤ 1048576 ∧ ∀ c ∈ chg, ChgFit c)
    {K : Res [] → W R} (hk : ∀ w', PW bw b (deltaW was s gone come chg) (Gw F w w') w' → Fr F w w' → K () Q w') :
    callW Tryz.prog k_packet_writer_delta [.pointer (some ⟨bw, 0, none⟩), .slice sw.a sw.n sw.c, .agg ⟨[.slice d.1.a d.1.n d.1.c, .slice d.2.1.a d.2.1.n d.2.1.c, .slice d.2.2.a d.2.2.n d.2.2.c]⟩] [] K Q w := by
  refine C_packet_writer_delta _ sw d K Q w ?_
  unfold F_packet_writer_delta
  have hF := h.2.1
  have hS0 : SlT (fun k => okw k ∧ k < w.heap.size) w entT sw raws := hS.mono fun k hk e => ⟨e, hk⟩
  have hE0 : EntsR (fun k => okw k ∧ k < w.heap.size) w raws was := hE.mono fun k hk e => ⟨e, hk⟩
  have D0 : DltR (fun k => ok k ∧ k < w.heap.size) w d gone come chg := DltR.st.mono D fun k hk e => ⟨e, hk⟩
  obtain ⟨Dg, ⟨rc, Dc, DcE⟩, ⟨rd, Dd, DdE⟩⟩ := D0
  have no1 : ∀ k, okw k ∧ k < w.heap.size → ¬ (F k ∨ w.heap.size ≤ k) := fun k e e2 => by
    rcases e2 with e2 | e2
    · exact hd1 k e.2 e.1 e2
    · omega
  have no2 : ∀ k, ok k ∧ k < w.heap.size → ¬ (F k ∨ w.heap.size ≤ k) := fun k e e2 => by
    rcases e2 with e2 | e2
    · exact hd2 k e.2 e.1 e2
    · omega
  -- what changes all along
  have lg := Dg.len
  have lc := DcE.len
  have lc' := Dc.len
  have ld' := Dd.len
  have ldE := DdE.len
  refine newI fun w1 B1 f1 t1 => fldI B1 (i := 0) (x := d.1) rfl ?_
  have X1 : PX w.heap.size F bw b s [w.heap.size] w1 := (PX.of h).more f1 (Nat.le_refl _) (by omega)
  rw [lg]
  refine X1.count (by omega) (by omega) fun w2 X2 f2 => ?_
  have z2 := f2.size
  have B2 := B1.fr f2 fun e => e.2 (by simp)
  have g2 : Fr (fun k => F k ∨ w.heap.size ≤ k) w w2 := f1.any.then (f2.sub fun k e => e.1)
  refine newI fun w3 B3 f3 t3 => stoAll B3 rfl rfl fun w4 B4 f4 t4 => ?_
  have f24 : Fr None w2 w4 := f3.newer f4 fun k e => by omega
  have X4 : PX w.heap.size F bw b (varM s gone.length) [w2.heap.size, w.heap.size] w4 := (X2.more f3 (Nat.le_refl _) (by omega)).frN (by simp) f4
  have B24 := B2.fr f24 fun h => h
  have g4 := g2.then0 f24
  refine fldI B24 (i := 0) (x := d.1) rfl ?_
  have hx1 : w.heap.size ≠ w2.heap.size := by omega
  generalize hbl : w2.heap.size = bl at B4 X4 hx1
  generalize hbx : w.heap.size = bx at B24 X4 hx1
  have hn4 := g4.size
  have ps : ∀ {l : List Nat} (k : Nat), PS bx F l k → F k ∨ w.heap.size ≤ k := fun k e => by rw [hbx]; exact e.1
  have psl : ∀ {l : List Nat} (k : Nat), PS bx F l k ∨ k = bl → F k ∨ w.heap.size ≤ k := fun k e => by
    rcases e with e | e
    · exact ps k e
    · exact .inr (by omega)
  have nx : ∀ {l : List Nat}, bx ∈ l → ¬ PS bx F l bx := fun hl e => e.2 hl
  refine forI (N := d.1.n) (fun s : Int => s) (fun j i v => i = (j : Int) ∧ PX bx F bw b ((gone.take j).foldl idM (varM s gone.length, 0)).1 [bl, bx] v ∧ Blk v bl 54 [.int .u32 ((gone.take j).foldl idM (varM s gone.length, 0)).2] ∧ Blk v bx 80 [.slice d.1.a d.1.n d.1.c, .slice d.2.1.a d.2.1.n d.2.1.c, .slice d.2.2.a d.2.2.n d.2.2.c] ∧ Fr (fun k => F k ∨ w.heap.size ≤ k) w v)
    ⟨rfl, X4, B4, B24, g4⟩ (fun j s w' h => h.1) ?_ ?_
  · rintro j i v K' hj ⟨rfl, X, Bl, Bx, fv⟩ - hK
    have hnv := fv.size
    refine (Dg.fr fv no2).get rfl rfl (by omega) fun x hx => ?_
    refine X.id (by omega) (by simp) Bl fun v2 X2 Bl2 e2 => ?_
    have efold : (gone.take (j + 1)).foldl idM (varM s gone.length, 0) = idM ((gone.take j).foldl idM (varM s gone.length, 0)) x := by rw [take_at hx, List.foldl_append]; rfl
    refine hK _ _ ⟨wsucc hj (by omega), ?_, ?_, Bx.fr e2 fun e => ?_, fv.then (e2.sub psl)⟩
    · rw [efold]; exact X2
    · rw [efold]; exact Bl2
    · rcases e with e | e
      · exact nx (by simp) e
      · exact hx1 e
  rintro i v5 ⟨_, X5, Bl5, Bx5, g5⟩
  rw [List.take_of_length_le (by omega)] at X5
  have hn5 := g5.size
  refine fldI Bx5 (i := 1) (x := d.2.1) rfl ?_
  refine X5.ents (by omega) (Dc.fr g5 no2) (DcE.fr g5 no2) (fun k e => by rw [← hbx]; exact no2 k e) hc.2 hc.1 fun v6 X6 f6 => ?_
  have g6 := g5.then (f6.sub fun k e => ps k e)
  have hn6 := g6.size
  have Bx6 := Bx5.fr f6 (nx (by simp))
  have Bl6 := Bl5.fr f6 fun e => e.2 (by simp)
  refine fldI Bx6 (i := 2) (x := d.2.2) rfl ?_
  rw [ld', ldE]
  refine X6.count (by omega) (by omega) fun v7 X7 f7 => ?_
  have g7 := g6.then (f7.sub fun k e => ps k e)
  have hn7 := g7.size
  have Bx7 := Bx6.fr f7 (nx (by simp))
  have Bl7 := Bl6.fr f7 fun e => e.2 (by simp)
  refine stoAll Bl7 rfl rfl fun v8 Bl8 f8 t8 => ?_
  have X8 := X7.frN (by simp) f8
  have g8 := g7.then (f8.sub fun k e => .inr (by omega))
  have hn8 := g8.size
  have Bx8 := Bx7.fr f8 hx1
  refine fldI Bx8 (i := 2) (x := d.2.2) rfl ?_
  generalize hs0 : entsW (goneW s gone) come = s0 at *
  have hs0' : entsW (List.foldl idM (varM s gone.length, 0) gone).1 come = s0 := hs0
  rw [hs0'] at X8
  refine forI (N := d.2.2.n) (fun s : Int => s) (fun j i v => i = (j : Int) ∧ PX bx F bw b ((chg.take j).foldl (chgM1 was) (varM s0 chg.length, 0)).1 [bl, bx] v ∧ Blk v bl 54 [.int .u32 ((chg.take j).foldl (chgM1 was) (varM s0 chg.length, 0)).2] ∧ Fr (fun k => F k ∨ w.heap.size ≤ k) w v)
    ⟨rfl, X8, Bl8, g8⟩ (fun j s w' h => h.1) ?_ ?_
  · rintro j i v K' hj ⟨rfl, X, Bl, fv⟩ - hK
    obtain ⟨c, hcj⟩ : ∃ c, chg[j]? = some c := ⟨_, List.getElem?_eq_getElem (by omega)⟩
    obtain ⟨r, hrj, q1, q2, q3, q4⟩ := DdE.get hcj
    obtain ⟨⟨i0, i1⟩, ⟨o0, o1⟩, ⟨n0, n1⟩, ⟨m0, m1⟩⟩ := hh.2 c (List.mem_of_getElem? hcj)
    have efold : (chg.take (j + 1)).foldl (chgM1 was) (varM s0 chg.length, 0) = chgM1 was ((chg.take j).foldl (chgM1 was) (varM s0 chg.length, 0)) c := by rw [take_at hcj, List.foldl_append]; rfl
    generalize (chg.take j).foldl (chgM1 was) (varM s0 chg.length, 0) = p at X Bl efold
    have hnv := fv.size
    refine (Dd.fr fv no2).get rfl rfl (by omega) fun y hy => ?_
    rw [hrj] at hy
    cases hy
    refine newI fun v1 C1 e1 u1 => stoAll C1 rfl rfl fun v2 C2 e2 u2 => ?_
    have e12 : Fr None v v2 := e1.newer e2 fun k e => by omega
    have X2 : PX bx F bw b p.1 [v.heap.size, bl, bx] v2 := (X.more e1 (Nat.le_refl _) (by omega)).frN (by simp) e2
    have Bl2 := Bl.fr e12 fun h => h
    have fv2 := fv.then0 e12
    have hbv := Bl.lt
    generalize hbc : v.heap.size = bc at C2 X2 hbv
    have hnv2 := fv2.size
    refine fldI C2 (i := 0) (x := r.1) rfl ?_
    rw [q1]
    refine X2.id (by omega) (by simp) Bl2 fun v3 X3 Bl3 e3 => ?_
    have C3 := C2.fr e3 fun e => by
      rcases e with e | e
      · exact e.2 (by simp)
      · omega
    have fd : Fr None v3 v3.drew := (Fr.refl _ _).drew
    have X3 := X3.fr0 fd
    have C3 := C3.fr fd fun h => h
    have Bl3 := Bl3.fr fd fun h => h
    have fv3 := (fv2.then (e3.sub psl)).then0 fd
    have hnv3 := fv3.size
    refine fldI C3 (i := 1) (x := r.2.1) rfl (fldI C3 (i := 2) (x := r.2.2.1) rfl (fldI C3 (i := 3) (x := r.2.2.2) rfl ?_))
    rw [q2]
    refine spec_schema_Mask (q3.fr fv3 no2) n0 n1 fun v4 e4 => ?_
    have C4 := C3.fr e4 fun h => h
    have c1 : ∀ {u : World}, Blk u bc 86 [.int .u32 r.1, .int .u8 r.2.1, .slice r.2.2.1.a r.2.2.1.n r.2.2.1.c, .slice r.2.2.2.a r.2.2.2.n r.2.2.2.c] → Rd u (Addr.add ⟨bc, 0, none⟩ 1) (.sc (.int .u8)) c.2.1 := fun B => by rw [← q2]; exact B.rd (s := .int .u8) (i := 1) (x := r.2.1) rfl
    refine andI (C4.rd (s := .sl) (i := 3) (x := r.2.2.2) rfl) (andI (c1 C4) ?_)
    refine spec_schema_Mask (q4.fr (fv3.then0 e4) no2) m0 m1 fun v5 e5 => andI (c1 (C4.fr e5 fun h => h)) ?_
    refine newI fun v6 M6 e6 u6 => ?_
    have e36 := (e4.then0 e5).then0 e6
    have X6 := (X3.fr0 (e4.then0 e5)).more e6 (Nat.le_refl _) (by omega)
    have C6 := C3.fr e36 fun h => h
    have Bl6 := Bl3.fr e36 fun h => h
    have fv6 := fv3.then0 e36
    have hnv6 := fv6.size
    have hb5 : bx < v5.heap.size ∧ bl < v5.heap.size ∧ bc < v5.heap.size := by
      have a1 := e36.size; have a2 := e5.size; have a3 := e4.size
      have a4 := C3.lt; have a5 := Bl3.lt
      omega
    generalize hbm : v5.heap.size = bm at M6 X6 hb5
    have hbm' : w.heap.size ≤ bm := by omega
    refine forI (N := 3) (fun s : Int => s) (fun j i u => i = (j : Int) ∧ PX bx F bw b (([c.2.1, (maskN c.2.2.1 : Int), (maskN c.2.2.2 : Int)].take j).foldl (fun s m => plainM s m 5) (varM p.1 (idD p.2 c.1))) [bm, bc, bl, bx] u ∧ Blk u bm 5 [.int .u8 c.2.1, .int .u8 (maskN c.2.2.1 : Int), .int .u8 (maskN c.2.2.2 : Int)] ∧ Blk u bc 86 [.int .u32 r.1, .int .u8 r.2.1, .slice r.2.2.1.a r.2.2.1.n r.2.2.1.c, .slice r.2.2.2.a r.2.2.2.n r.2.2.2.c] ∧ Blk u bl 54 [.int .u32 c.1] ∧ Fr (fun k => F k ∨ w.heap.size ≤ k) w u)
      ⟨rfl, X6, M6, C6, Bl6, fv6⟩ (fun j s w' h => h.1) ?_ ?_
    · rintro q i u K2 hq ⟨rfl, Xu, Mu, Cu, Lu, fu⟩ - hK2
      have hnu := fu.size
      refine idxB (by omega) (by omega) ?_
      have mk1 := maskN_lt c.2.2.1
      have mk2 := maskN_lt c.2.2.2
      have go : ∀ {x : Int}, [c.2.1, (maskN c.2.2.1 : Int), (maskN c.2.2.2 : Int)][q]? = some x → 0 ≤ x ∧ x ≤ 255 → callW Tryz.prog k_packet_writer_plain [.pointer (some ⟨bw, 0, none⟩), .int .u64 (IntKind.wrap .u64 x), .int .i64 5] [] (fun (_ : Unit) => K2 (IntKind.wrap .i64 ((q : Int) + 1))) (fun r w => K r Q w) u := by
        intro x hx h01
        rw [wU64 (x := x) (by omega)]
        refine Xu.plain (by omega) (by omega) (by decide) fun u2 X2 g2 => ?_
        refine hK2 _ _ ⟨wsucc hq (by omega), ?_, Mu.fr g2 fun e => e.2 (by simp), Cu.fr g2 fun e => e.2 (by simp), Lu.fr g2 fun e => e.2 (by simp), fu.then (g2.sub fun k e => ps k e)⟩
        rw [take_at hx, List.foldl_append]
        exact X2
      rcases (show q = 0 ∨ q = 1 ∨ q = 2 by omega) with rfl | rfl | rfl
      · exact fld0 Mu (i := 0) (x := c.2.1) rfl (go rfl (by omega))
      · exact fld0 Mu (i := 1) (x := (maskN c.2.2.1 : Int)) rfl (go rfl (by omega))
      · exact fld0 Mu (i := 2) (x := (maskN c.2.2.2 : Int)) rfl (go rfl (by omega))
    rintro i u ⟨_, Xu, Mu, Cu, Lu, fu⟩
    have hnu := fu.size
    refine fldI Cu (i := 2) (x := r.2.2.1) rfl ?_
    have dis : ∀ k, ok k ∧ k < w.heap.size → k ∈ [bm, bc, bl, bx] ∨ ¬ (F k ∨ bx ≤ k) := fun k e => .inr (by rw [← hbx]; exact no2 k e)
    refine Xu.comps (by omega) (q3.fr fu no2) dis n1 n0 fun u1 Xu1 g1 => ?_
    have Cu1 := Cu.fr g1 fun e => e.2 (by simp)
    have Lu1 := Lu.fr g1 fun e => e.2 (by simp)
    have fu1 := fu.then (g1.sub fun k e => ps k e)
    have hnu1 := fu1.size
    refine fldI Cu1 (i := 3) (x := r.2.2.2) rfl ?_
    have lm := q4.len
    generalize hs1 : compsM (plainM (plainM (plainM (varM p.1 (idD p.2 c.1)) c.2.1 5) (maskN c.2.2.1) 5) (maskN c.2.2.2) 5) c.2.2.1 = s1 at *
    have hs1' : compsM (List.foldl (fun s m => plainM s m 5) (varM p.1 (idD p.2 c.1)) ([c.2.1, (maskN c.2.2.1 : Int), (maskN c.2.2.2 : Int)].take 3)) c.2.2.1 = s1 := hs1
    rw [hs1'] at Xu1
    refine forI (N := r.2.2.2.n) (fun s : Int => s) (fun j i u => i = (j : Int) ∧ PX bx F bw b (setsM was c.1 s1 (c.2.2.2.take j)) [bc, bl, bx] u ∧ Blk u bc 86 [.int .u32 r.1, .int .u8 r.2.1, .slice r.2.2.1.a r.2.2.1.n r.2.2.1.c, .slice r.2.2.2.a r.2.2.2.n r.2.2.2.c] ∧ Blk u bl 54 [.int .u32 c.1] ∧ Fr (fun k => F k ∨ w.heap.size ≤ k) w u)
      ⟨rfl, Xu1.less (by simp), Cu1, Lu1, fu1⟩ (fun j s w' h => h.1) ?_ ?_
    · rintro q i u K2 hq ⟨rfl, Xu, Cu, Lu, fu⟩ - hK2
      have hnu := fu.size
      refine (q4.fr fu no2).get rfl rfl (by omega) fun x hx => ?_
      have esets : setsM was c.1 s1 (c.2.2.2.take (q + 1)) = doM (setsM was c.1 s1 (c.2.2.2.take q)) (putS (setsM was c.1 s1 (c.2.2.2.take q)).1 (oldM was c.1 x.1) x) := by unfold setsM; rw [take_at hx, List.foldl_append]; rfl
      refine newI fun u2 E2 g2 y2 => stoAll E2 rfl rfl fun u3 E3 g3 y3 => ?_
      have g23 : Fr None u u3 := g2.newer g3 fun k e => by omega
      have fd : Fr None u3 u3.drew := (Fr.refl _ _).drew
      have g2d := g23.then0 fd
      have X3 := Xu.fr0 g2d
      have C3 := Cu.fr g2d fun h => h
      have L3 := Lu.fr g2d fun h => h
      have E3 := E3.fr fd fun h => h
      have fu3 := fu.then0 g2d
      have hnu3 := fu3.size
      refine ptrI (X3.ptr (fldI C3 (i := 0) (x := r.1) rfl (fldI E3 (i := 0) (x := x.1) rfl (aggI E3 (x := x) rfl ?_))))
      rw [q1]
      refine spec_packet_old (hS0.fr fu3 no1) (hE0.fr fu3 no1) hr (by omega) (fun e he => by have := (hL e he).2.1; omega) fun u4 g4 => ?_
      have X4 := X3.fr0 g4
      have E4 := E3.fr g4 fun h => h
      have hx2 := m1 x (List.mem_of_getElem? hx)
      refine andI (fun j v hj => ?_) (andI X4.rdp ?_)
      · rw [add_lit, E4.cell, Nat.zero_add]
        exact hj
      have fu4 := fu3.then0 g4
      have hnu4 := fu4.size
      obtain ⟨G, hw, hG, hk3⟩ := X4.bits (Q := (fun r w => K r Q w)) (by omega)
      refine spec_comp_PutStep hw (oldM_ok hL c.1 x.1) hx2 hG fun u5 hw5 g5 => hk3 _ u5 hw5 g5 fun u6 X6 g6 => ?_
      refine hK2 _ _ ⟨wsucc hq (by omega), ?_, (C3.fr g4 fun h => h).fr g6 fun e => e.2 (by simp), (L3.fr g4 fun h => h).fr g6 fun e => e.2 (by simp), fu4.then (g6.sub fun k e => ps k e)⟩
      rw [esets]
      exact X6
    rintro i u2 ⟨_, X2, C2, L2, fu2⟩
    rw [List.take_of_length_le (by omega)] at X2
    refine hK _ _ ⟨wsucc hj (by omega), ?_, ?_, fu2⟩
    · rw [efold]
      show PX bx F bw b (setsM was c.1 (compsM (plainM (plainM (plainM (varM p.1 (idD p.2 c.1)) c.2.1 5) (maskN c.2.2.1) 5) (maskN c.2.2.2) 5) c.2.2.1) c.2.2.2) [bl, bx] u2
      rw [hs1]
      exact X2.less (by simp)
    · rw [efold]
      exact L2
  rintro i v9 ⟨_, X9, _, g9⟩
  rw [List.take_of_length_le (by omega)] at X9
  refine hk v9 ?_ ((Fr.refl F w).exS g9 fun k e => e)
  subst hbx
  have := X9.done hF g9.size
  rw [deltaW, hs0]
  exact this

end Go.Proofs.YtchhhjlpnecjkaaGreat
