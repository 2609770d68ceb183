/-
  diff.Diff: a delta.
-/
import Derived.Test.YtchhhjlpnecjkaaGreatDelM
import Derived.Test.YtchhhjlpnecjkaaGreatCln
import Derived.Test.YtchhhjlpnecjkaaGreatCod
namespace Go.Proofs.YtchhhjlpnecjkaaGreat
open Go Go.RowKit Go.Proofs.YtchhhjlpnecjkaaGreat.Den
variable {R : Type} {Q : R → World → Prop} {w : World}

theorem All2.snoc' {α β : Type} {p : α → β → Prop} {l : List α} {k : List β} {a : α} {b : β} (h : All2 p l k) (hp : p a b) : All2 p (l ++ [a]) (k ++ [b]) := h.snoc hp
theorem EntsR.snoc {ok : Nat → Prop} {raws : List (Int × Sl)} {L : List Ent} (h : EntsR ok w raws L) {r : Int × Sl} {e : Ent} (h1 : r.1 = e.1) (h2 : SlT ok w compT r.2 e.2) : EntsR ok w (raws ++ [r]) (L ++ [e]) := by
  have := All2.snoc (p := fun (r : Int × Sl) (e : Ent) => r.1 = e.1 ∧ SlT ok w compT r.2 e.2) ⟨h.len, h.at_⟩ ⟨h1, h2⟩
  exact ⟨this.len, this.at_⟩

abbrev DRaw := Sl × Sl × Sl
/-- a delta that is being made. -/
structure DltI (n bx : Nat) (lab : Nat → Nat) (r : DRaw) (rc : List (Int × Sl)) (rd : List ChgRaw) (gone : List Int) (come : List Ent) (chg : List Chg) (w : World) : Prop where
  blk : Blk w bx 80 [.slice r.1.a r.1.n r.1.c, .slice r.2.1.a r.2.1.n r.2.1.c, .slice r.2.2.a r.2.2.n r.2.2.c]
  lb : lab bx = 6
  og : Own (fun k => lab k = 1) w 54 idT r.1 gone
  oc : Own (fun k => lab k = 2) w 57 entT r.2.1 rc
  ec : EntsR (fun k => lab k = 3) w rc come
  od : Own (fun k => lab k = 4) w 86 chgT r.2.2 rd
  ed : All2 (fun a b => chgR (fun k => lab k = 5) w a b) rd chg
  up : ∀ k, lab k ≠ 0 → n ≤ k ∧ k < w.heap.size
section
variable {n bx : Nat} {lab : Nat → Nat} {r : DRaw} {rc : List (Int × Sl)} {rd : List ChgRaw} {gone : List Int} {come : List Ent} {chg : List Chg}
theorem DltI.fr0 (h : DltI n bx lab r rc rd gone come chg w) {w' : World} (f : Fr None w w') : DltI n bx lab r rc rd gone come chg w' :=
  ⟨h.blk.fr f fun h => h, h.lb, h.og.none f, h.oc.none f, h.ec.fr f fun _ _ h => h, h.od.none f, h.ed.imp fun a b hab => St.fr0 (A := fun F w => chgR F w a b) (chgR_st a b) hab f, fun k e => ⟨(h.up k e).1, Nat.lt_of_lt_of_le (h.up k e).2 f.size⟩⟩
/-- what has another label stays, when something of label c changes or grows. -/
theorem DltI.rest (h : DltI n bx lab r rc rd gone come chg w) (hn : n ≤ w.heap.size) {c : Nat} {w' : World} (f : Fr (fun k => lab k = c) w w') :
    (1 ≠ c → Own (fun k => relab lab w.heap.size w'.heap.size c k = 1) w' 54 idT r.1 gone) ∧
    (2 ≠ c → Own (fun k => relab lab w.heap.size w'.heap.size c k = 2) w' 57 entT r.2.1 rc) ∧
    (3 ≠ c → EntsR (fun k => relab lab w.heap.size w'.heap.size c k = 3) w' rc come) ∧
    (4 ≠ c → Own (fun k => relab lab w.heap.size w'.heap.size c k = 4) w' 86 chgT r.2.2 rd) ∧
    (5 ≠ c → All2 (fun a b => chgR (fun k => relab lab w.heap.size w'.heap.size c k = 5) w' a b) rd chg) ∧
    (6 ≠ c → Blk w' bx 80 [.slice r.1.a r.1.n r.1.c, .slice r.2.1.a r.2.1.n r.2.1.c, .slice r.2.2.a r.2.2.n r.2.2.c]) ∧
    relab lab w.heap.size w'.heap.size c bx = 6 ∧ (∀ k, relab lab w.heap.size w'.heap.size c k ≠ 0 → n ≤ k ∧ k < w'.heap.size) := by
  have hs := f.size
  refine ⟨fun hc => St.other (A := fun F w => Own F w 54 idT r.1 gone) Own.st h.og f hc, fun hc => St.other (A := fun F w => Own F w 57 entT r.2.1 rc) Own.st h.oc f hc,
    fun hc => ⟨h.ec.len, fun i a b ha hb => ⟨(h.ec.at_ i a b ha hb).1, St.other (A := fun F w => SlT F w compT a.2 b.2) SlT.st (h.ec.at_ i a b ha hb).2 f hc⟩⟩,
    fun hc => St.other (A := fun F w => Own F w 86 chgT r.2.2 rd) Own.st h.od f hc, fun hc => h.ed.imp fun a b hab => St.other (A := fun F w => chgR F w a b) (chgR_st a b) hab f hc,
    fun hc => h.blk.fr f fun e => hc (h.lb.symm.trans e), by rw [relab_lt h.blk.lt]; exact h.lb, fun k e => ?_⟩
  rcases relab_ne e with e | e
  · have := h.up k e.1; omega
  · omega
/-- .. nothing changes, and what is new gets a label. -/
theorem DltI.grow (h : DltI n bx lab r rc rd gone come chg w) (hn : n ≤ w.heap.size) (c : Nat) {w' : World} (f : Fr None w w') : DltI n bx (relab lab w.heap.size w'.heap.size c) r rc rd gone come chg w' := by
  have hs := f.size
  have k1 : ∀ {A : OB} (_ : St A) {i : Nat}, A (fun k => lab k = i) w → A (fun k => relab lab w.heap.size w'.heap.size c k = i) w' := fun hA i a => hA a f fun k hk e => ⟨fun h => h, by show relab _ _ _ _ _ = _; rw [relab_lt hk]; exact e⟩
  refine ⟨h.blk.fr f fun h => h, by rw [relab_lt h.blk.lt]; exact h.lb, k1 (A := fun F w => Own F w 54 idT r.1 gone) Own.st h.og, k1 (A := fun F w => Own F w 57 entT r.2.1 rc) Own.st h.oc,
    ⟨h.ec.len, fun i a b ha hb => ⟨(h.ec.at_ i a b ha hb).1, k1 (A := fun F w => SlT F w compT a.2 b.2) SlT.st (h.ec.at_ i a b ha hb).2⟩⟩, k1 (A := fun F w => Own F w 86 chgT r.2.2 rd) Own.st h.od,
    h.ed.imp fun a b hab => k1 (A := fun F w => chgR F w a b) (chgR_st a b) hab, fun k e => ?_⟩
  rcases relab_ne e with e | e
  · have := h.up k e.1; omega
  · omega
/-- a field of the delta is set anew. -/
theorem DltI.turned {w' : World} (og : Own (fun k => lab k = 1) w 54 idT r.1 gone) (oc : Own (fun k => lab k = 2) w 57 entT r.2.1 rc) (ec : EntsR (fun k => lab k = 3) w rc come) (od : Own (fun k => lab k = 4) w 86 chgT r.2.2 rd)
    (ed : All2 (fun a b => chgR (fun k => lab k = 5) w a b) rd chg) (hl : lab bx = 6) (up : ∀ k, lab k ≠ 0 → n ≤ k ∧ k < w.heap.size) (B : Blk w' bx 80 [.slice r.1.a r.1.n r.1.c, .slice r.2.1.a r.2.1.n r.2.1.c, .slice r.2.2.a r.2.2.n r.2.2.c]) (f : Fr (fun k => k = bx) w w') : DltI n bx lab r rc rd gone come chg w' := by
  have hs := f.size
  have nb : ∀ {i : Nat}, i ≠ 6 → ∀ k, lab k = i → k ≠ bx := fun hi k e e2 => by subst e2; omega
  refine ⟨B, hl, og.fr f (nb (by decide)), oc.fr f (nb (by decide)), ec.fr f (nb (by decide)), od.fr f (nb (by decide)), ed.imp fun a b hab => St.fr (A := fun F w => chgR F w a b) (chgR_st a b) hab f (nb (by decide)), fun k e => ?_⟩
  have := up k e; omega
theorem DltI.addGone (h : DltI n bx lab r rc rd gone come chg w) (hn : n ≤ w.heap.size) (hm : gone.length < 2097152) {x : Int} {K : W R} (hk : ∀ lab' r' w', DltI n bx lab' r' rc rd (gone ++ [x]) come chg w' → Fr (Up n) w w' → K Q w') :
    newW 54 [.int .u32 x] (fun a => rawW Tryz.prog (Builtin.append_ #[77, 77] 77 #[.slice r.1.a r.1.n r.1.c, .slice (some a) 1 1]) [.sc .sl] fun (z : Sl) => stoL (Addr.add ⟨bx, 0, none⟩ 0) [.slice z.a z.n z.c] 0 K) Q w := by
  refine appLab (x := x) ids_ty rfl h.og (by omega) (by omega) fun z w1 o1 f1 => ?_
  obtain ⟨-, a2, a3, a4, a5, a6, a7, a8⟩ := h.rest hn f1
  rw [add_lit]
  refine setI (i := 0) (a6 (by decide)) (by simp) rfl fun w2 B2 f2 s2 => hk (relab lab w.heap.size w1.heap.size 1) (z, r.2) w2 (DltI.turned o1 (a2 (by decide)) (a3 (by decide)) (a4 (by decide)) (a5 (by decide)) a7 a8 B2 f2) ?_
  exact (f1.sub fun k e => (h.up k (by omega)).1).then (f2.sub fun k e => by rw [e]; exact (h.up bx (by rw [h.lb]; decide)).1)
theorem DltI.addCome (h : DltI n bx lab r rc rd gone come chg w) (hn : n ≤ w.heap.size) (hm : come.length < 2097152) {e : Ent} {t : Sl} (ht : SlT (fun k => lab k = 3) w compT t e.2) {K : W R} (hk : ∀ lab' r' w', DltI n bx lab' r' (rc ++ [(e.1, t)]) rd gone (come ++ [e]) chg w' → Fr (Up n) w w' → K Q w') :
    newW 57 [.int .u32 e.1, .slice t.a t.n t.c] (fun a => rawW Tryz.prog (Builtin.append_ #[23, 23] 23 #[.slice r.2.1.a r.2.1.n r.2.1.c, .slice (some a) 1 1]) [.sc .sl] fun (z : Sl) => stoL (Addr.add ⟨bx, 0, none⟩ 1) [.slice z.a z.n z.c] 0 K) Q w := by
  have hl := h.ec.len
  refine appLab (x := ((e.1, t) : Int × Sl)) ents_ty rfl h.oc (by omega) (by omega) fun z w1 o1 f1 => ?_
  obtain ⟨a1, -, a3, a4, a5, a6, a7, a8⟩ := h.rest hn f1
  rw [add_lit]
  have t1 := St.other (A := fun F w => SlT F w compT t e.2) (c := 2) SlT.st ht f1 (by decide)
  refine setI (i := 1) (a6 (by decide)) (by simp) rfl fun w2 B2 f2 s2 => hk (relab lab w.heap.size w1.heap.size 2) (r.1, z, r.2.2) w2 (DltI.turned (a1 (by decide)) o1 ((a3 (by decide)).snoc rfl t1) (a4 (by decide)) (a5 (by decide)) a7 a8 B2 f2) ?_
  exact (f1.sub fun k e => (h.up k (by omega)).1).then (f2.sub fun k e => by rw [e]; exact (h.up bx (by rw [h.lb]; decide)).1)
theorem DltI.addChg (h : DltI n bx lab r rc rd gone come chg w) (hn : n ≤ w.heap.size) (hm : chg.length < 2097152) {d : Chg} {t : ChgRaw} (ht : chgR (fun k => lab k = 5) w t d) {K : W R} (hk : ∀ lab' r' w', DltI n bx lab' r' rc (rd ++ [t]) gone come (chg ++ [d]) w' → Fr (Up n) w w' → K Q w') :
    newW 86 [.int .u32 t.1, .int .u8 t.2.1, .slice t.2.2.1.a t.2.2.1.n t.2.2.1.c, .slice t.2.2.2.a t.2.2.2.n t.2.2.2.c] (fun a => rawW Tryz.prog (Builtin.append_ #[78, 78] 78 #[.slice r.2.2.a r.2.2.n r.2.2.c, .slice (some a) 1 1]) [.sc .sl] fun (z : Sl) => stoL (Addr.add ⟨bx, 0, none⟩ 2) [.slice z.a z.n z.c] 0 K) Q w := by
  have hl := h.ed.len
  refine appLab (x := t) chgs_ty rfl h.od (by omega) (by omega) fun z w1 o1 f1 => ?_
  obtain ⟨a1, a2, a3, -, a5, a6, a7, a8⟩ := h.rest hn f1
  rw [add_lit]
  have t1 := St.other (A := fun F w => chgR F w t d) (c := 4) (chgR_st t d) ht f1 (by decide)
  refine setI (i := 2) (a6 (by decide)) (by simp) rfl fun w2 B2 f2 s2 => hk (relab lab w.heap.size w1.heap.size 4) (r.1, r.2.1, z) w2 (DltI.turned (a1 (by decide)) (a2 (by decide)) (a3 (by decide)) o1 ((a5 (by decide)).snoc t1) a7 a8 B2 f2) ?_
  exact (f1.sub fun k e => (h.up k (by omega)).1).then (f2.sub fun k e => by rw [e]; exact (h.up bx (by rw [h.lb]; decide)).1)
end

/-- a delta that is read. -/
structure DltR (ok : Nat → Prop) (w : World) (r : DRaw) (gone : List Int) (come : List Ent) (chg : List Chg) : Prop where
  g : SlT ok w idT r.1 gone
  c : ∃ rc, SlT ok w entT r.2.1 rc ∧ EntsR ok w rc come
  d : ∃ rd, SlT ok w chgT r.2.2 rd ∧ All2 (fun a b => chgR ok w a b) rd chg
theorem DltR.st {r : DRaw} {gone : List Int} {come : List Ent} {chg : List Chg} : St fun F w => DltR F w r gone come chg := fun {F F' S w w'} h f hs => by
  obtain ⟨g, ⟨rc, c1, c2⟩, ⟨rd, d1, d2⟩⟩ := h
  exact ⟨SlT.st g f hs, ⟨rc, SlT.st c1 f hs, c2.len, fun i a b ha hb => ⟨(c2.at_ i a b ha hb).1, SlT.st (c2.at_ i a b ha hb).2 f hs⟩⟩, ⟨rd, SlT.st d1 f hs, d2.imp fun a b hab => chgR_st a b hab f hs⟩⟩
def diffE (was now : List Ent) : Int := if formM 0 was ≠ 0 then formM 0 was else formM 0 now
theorem EntFit.idOk {e : Ent} (h : EntFit e) : IdOk e.1 ∧ Small e.2 := ⟨h.1, h.2.1⟩
theorem filterMap_le {α β : Type} (f : α → Option β) (l : List α) : (l.filterMap f).length ≤ l.length := List.length_filterMap_le _ _

theorem spec_diff_Diff {ok1 ok2 : Nat → Prop} {s1 s2 : Sl} {raws1 raws2 : List (Int × Sl)} {was now : List Ent} (hS1 : SlT ok1 w entT s1 raws1) (hE1 : EntsR ok1 w raws1 was) (hS2 : SlT ok2 w entT s2 raws2) (hE2 : EntsR ok2 w raws2 now)
    (hm1 : was.length ≤ 1048576) (hm2 : now.length ≤ 1048576) (hL1 : ∀ e ∈ was, EntFit e) (hL2 : ∀ e ∈ now, EntFit e) {K : Res [.agg [.sl, .sl, .sl], .sc (.int .i64)] → W R}
    (hbad : diffE was now ≠ 0 → ∀ w', Fr None w w' → K ((⟨none, 0, 0⟩, ⟨none, 0, 0⟩, ⟨none, 0, 0⟩), diffE was now) Q w')
    (hk : diffE was now = 0 → ∀ r w', DltR (Up w.heap.size) w' r (goneM was now) (comeM was now) (chgsM was now) → Fr None w w' → K (r, 0) Q w') :
    callW Tryz.prog k_diff_Diff [.slice s1.a s1.n s1.c, .slice s2.a s2.n s2.c] [.agg [.sl, .sl, .sl], .sc (.int .i64)] K Q w := by
  refine C_diff_Diff s1 s2 K Q w ?_
  unfold F_diff_Diff
  have l1 := hS1.len.trans hE1.len
  have l2 := hS2.len.trans hE2.len
  refine newI fun w1 B1 f1 t1 => newI fun w2 B2 f2 t2 => ?_
  have f02 := f1.then0 f2
  have B1 := B1.fr f2 fun h => h
  have hz2 := f02.size
  refine forI (N := 2) (fun s : Int => s) (fun j i v => i = (j : Int) ∧ Fr None w2 v ∧ (1 ≤ j → formM 0 was = 0) ∧ (2 ≤ j → formM 0 now = 0)) ⟨rfl, Fr.refl _ _, by omega, by omega⟩ (fun j s w' h => h.1) ?_ ?_
  · rintro j i v K' hj ⟨rfl, fv, p1, p2⟩ - hK
    have Bv := B2.fr fv fun h => h
    refine idxB (by omega) (by omega) ?_
    have go : ∀ {ok : Nat → Prop} {s : Sl} {raws : List (Int × Sl)} {L : List Ent}, SlT ok w entT s raws → EntsR ok w raws L → L.length ≤ 1048576 → (∀ e ∈ L, EntFit e) → (formM 0 L ≠ 0 → diffE was now = formM 0 L) → (formM 0 L = 0 → (1 ≤ j + 1 → formM 0 was = 0) ∧ (2 ≤ j + 1 → formM 0 now = 0)) →
        callW Tryz.prog k_snap_Form [.slice s.a s.n s.c] [.sc (.int .i64)] (fun (x_7 : Int) => cond (x_7 != 0) (stoL ⟨w.heap.size, 0, none⟩ [.slice none 0 0, .slice none 0 0, .slice none 0 0] 0 <| ld (.agg [.sl, .sl, .sl]) ⟨w.heap.size, 0, none⟩ fun (x_8 : DRaw) => retW (x_8, x_7)) (K' (IntKind.wrap .i64 ((j : Int) + 1)))) (fun r w => K r Q w) v := by
      intro ok s raws L hS hE hm hL hne he
      refine spec_snap_Form ((hS.fr0 f02).fr0 fv) ((hE.fr f02 fun _ _ h => h).fr fv fun _ _ h => h) (by omega) (fun e he => (hL e he).idOk) fun v2 g2 => ?_
      refine condN (fun h => ?_) fun h => ?_
      · refine stoAll ((B1.fr fv fun h => h).fr g2 fun h => h) rfl rfl fun v3 B3 g3 t3 => aggI B3 (x := ((⟨none, 0, 0⟩, ⟨none, 0, 0⟩, ⟨none, 0, 0⟩) : DRaw)) rfl ?_
        have e := hne h
        rw [← e]
        refine hbad (by rw [e]; exact h) v3 (((f02.then0 fv).then0 g2).newer g3 fun k e => by omega)
      · obtain ⟨a, b⟩ := he h
        exact hK _ _ ⟨wsucc hj (by omega), fv.then0 g2, a, b⟩
    rcases (show j = 0 ∨ j = 1 by omega) with rfl | rfl
    · refine fld0 Bv (i := 0) (x := s1) rfl (go hS1 hE1 hm1 hL1 (fun h => if_pos h) fun h => ⟨fun _ => h, fun h => by omega⟩)
    · have h0 := p1 (by omega)
      refine fld0 Bv (i := 1) (x := s2) rfl (go hS2 hE2 hm2 hL2 (fun h => if_neg (by rw [h0]; simp)) fun h => ⟨fun _ => h0, fun _ => h⟩)
  rintro i2 v ⟨_, fv, p1, p2⟩
  have z1 := p1 (by omega)
  have z2 := p2 (by omega)
  have hE0 : diffE was now = 0 := by unfold diffE; rw [if_neg (by rw [z1]; simp)]; exact z2
  have hk := hk hE0
  have fw := formOk.1 z1
  have fn := formOk.1 z2
  have f0v := f02.then0 fv
  refine newI fun v1 B3 g1 t3 => ?_
  have f01 := f0v.then0 g1
  have hz1 := f01.size
  have hzv := f0v.size
  have BX := ((B1.fr fv fun h => h).fr g1 fun h => h)
  have hzw : w.heap.size < w2.heap.size := by omega
  have BX0 := B1.fr fv fun h => h
  have hzv2 := fv.size
  refine loopI (fun (st : Int × Int) u => ∃ i k : Nat, st = ((i : Int), (k : Int)) ∧ i ≤ was.length ∧ k ≤ now.length ∧ Side was now i k ∧ (∃ lab r rc rd, DltI v.heap.size v.heap.size lab r rc rd (goneP (was.take i) now) (comeM was (now.take k)) (chgsM was (now.take k)) u) ∧ Fr None v u ∧ v.heap.size ≤ u.heap.size)
    (fun st _ => (was.length - st.1.toNat) + (now.length - st.2.toNat)) ⟨0, 0, rfl, by omega, by omega, Side.zero _ _, ⟨fun k => if k = v.heap.size then 6 else 0, (⟨none, 0, 0⟩, ⟨none, 0, 0⟩, ⟨none, 0, 0⟩), [], [], B3, by simp, Own.nil _ _ _ _, Own.nil _ _ _ _, EntsR.nil _ _, Own.nil _ _ _ _, All2.nil _, fun k e => by
      by_cases hkb : k = v.heap.size
      · omega
      · exact absurd (if_neg hkb) e⟩, g1, by omega⟩ ?_
  rintro st u ⟨i, k, rfl, hi, hk2, sd, ⟨lab, r, rc, rd, D⟩, fu, hzu⟩
  dsimp only
  have f0u := f0v.then0 fu
  have hS1u := hS1.fr0 f0u
  have hS2u := hS2.fr0 f0u
  refine joinI (fun z u' => z = decide (i < was.length ∨ k < now.length) ∧ u = u') ?_ ?_
  · refine condD (fun h => ⟨by simp; omega, rfl⟩) fun h => ⟨decide_eq_decide.2 (by omega), rfl⟩
  rintro z u' ⟨rfl, rfl⟩
  refine condD (fun hlt => ?_) fun hge => ?_
  rotate_left
  · rw [List.take_of_length_le (by omega), List.take_of_length_le (by omega)] at D
    refine aggI D.blk (x := r) rfl ?_
    have BXu := (BX0.fr fu fun h => h)
    refine stoAll BXu rfl rfl fun u1 C1 e1 m1 => aggI C1 (x := r) rfl ?_
    have nb : ∀ {i : Nat}, i ≠ 0 → ∀ k, k < u.heap.size → lab k = i → ¬ k = w.heap.size ∧ w.heap.size ≤ k := fun hi k hk e => by have := D.up k (by omega); omega
    refine hk r u1 ⟨SlT.st D.og.sl e1 (nb (by decide)), ⟨rc, SlT.st D.oc.sl e1 (nb (by decide)), D.ec.len, fun i a b ha hb => ⟨(D.ec.at_ i a b ha hb).1, SlT.st (D.ec.at_ i a b ha hb).2 e1 (nb (by decide))⟩⟩,
      ⟨rd, SlT.st D.od.sl e1 (nb (by decide)), D.ed.imp fun a b hab => chgR_st a b hab e1 (nb (by decide))⟩⟩ (f0u.newer e1 fun k e => by omega)
  have fd : Fr None u u.drew := (Fr.refl _ _).drew
  have fud := fu.then0 fd
  have Dd := D.fr0 fd
  have hS1d := hS1u.fr0 fd
  have hS2d := hS2u.fr0 fd
  have hE1d := (hE1.fr f0u fun _ _ h => h).fr fd fun _ _ h => h
  have hE2d := (hE2.fr f0u fun _ _ h => h).fr fd fun _ _ h => h
  have glen : (goneP (was.take i) now).length ≤ 1048576 := by
    unfold goneP; rw [List.length_map]; exact Nat.le_trans (List.length_filter_le _ _) (by simp; omega)
  have clen : (comeM was (now.take k)).length ≤ 1048576 := by
    unfold comeM; exact Nat.le_trans (List.length_filter_le _ _) (by simp; omega)
  have dlen : (chgsM was (now.take k)).length ≤ 1048576 := by
    unfold chgsM; exact Nat.le_trans (filterMap_le _ _) (by simp; omega)
  -- the first question
  refine joinI (fun z u' => (z = true ↔ (k = now.length ∨ ∃ a b, was[i]? = some a ∧ now[k]? = some b ∧ a.1 < b.1)) ∧ u' = u.drew) ?_ ?_
  · refine condE (fun h => ⟨⟨fun _ => .inl (by have h : (k : Int) = (s2.n : Int) := h; omega), fun _ => rfl⟩, rfl⟩) fun h => ?_
    have h : k ≠ now.length := fun e => h (by show (k : Int) = (s2.n : Int); omega)
    refine condD (fun h2 => ?_) fun h2 => ⟨⟨fun h => (by cases h), ?_⟩, rfl⟩
    · have h2 : (i : Int) < (s1.n : Int) := h2
      obtain ⟨a, ha⟩ : ∃ a, was[i]? = some a := ⟨_, List.getElem?_eq_getElem (by omega)⟩
      obtain ⟨b, hb⟩ : ∃ b, now[k]? = some b := ⟨_, List.getElem?_eq_getElem (by omega)⟩
      obtain ⟨q1, hq1, hq2, _⟩ := hE1.get ha
      obtain ⟨y1, hy1, hy2, _⟩ := hE2.get hb
      refine hS1d.readK rfl rfl hq1 fun ad had => (had _ hS1d).fld (i := 0) (s := .int .u32) (y := q1.1) rfl ?_
      refine hS2d.readK rfl rfl hy1 fun ad2 had2 => (had2 _ hS2d).fld (i := 0) (s := .int .u32) (y := y1.1) rfl ?_
      refine ⟨⟨fun hz => .inr ⟨a, b, ha, hb, ?_⟩, fun hz => ?_⟩, rfl⟩
      · rw [← hq2, ← hy2]; simpa using hz
      · rcases hz with hz | ⟨a', b', ha', hb', hlt⟩
        · exact absurd hz h
        · rw [ha] at ha'; rw [hb] at hb'; cases ha'; cases hb'
          rw [hq2, hy2]; simpa using hlt
    · rintro (hz | ⟨a, b, ha, _⟩)
      · exact absurd hz h
      · have h2 : ¬ (i : Int) < (s1.n : Int) := h2
        have := (List.getElem?_eq_some_iff.1 ha).1
        omega
  rintro z u1 ⟨hz, rfl⟩
  have next : ∀ (i' k' : Nat) (st : Int × Int) (u' : World), st = ((i' : Int), (k' : Int)) → i ≤ i' → k ≤ k' → i + k < i' + k' → i' ≤ was.length → k' ≤ now.length → Side was now i' k' → (∃ lab r rc rd, DltI v.heap.size v.heap.size lab r rc rd (goneP (was.take i') now) (comeM was (now.take k')) (chgsM was (now.take k')) u') → Fr None v u' → v.heap.size ≤ u'.heap.size →
      (∃ i k : Nat, st = ((i : Int), (k : Int)) ∧ i ≤ was.length ∧ k ≤ now.length ∧ Side was now i k ∧ (∃ lab r rc rd, DltI v.heap.size v.heap.size lab r rc rd (goneP (was.take i) now) (comeM was (now.take k)) (chgsM was (now.take k)) u') ∧ Fr None v u' ∧ v.heap.size ≤ u'.heap.size) ∧ (was.length - st.1.toNat) + (now.length - st.2.toNat) < (was.length - i) + (now.length - k) := by
    intro i' k' st u' e h1 h2 h3 h4 h5 h6 h7 h8 h9
    subst e
    exact ⟨⟨i', k', rfl, h4, h5, h6, h7, h8, h9⟩, by simp only [Int.toNat_natCast]; omega⟩
  refine joinI (fun (st : Int × Int) u' => (∃ i' k' : Nat, st = ((i' : Int), (k' : Int)) ∧ i ≤ i' ∧ k ≤ k' ∧ i + k < i' + k' ∧ i' ≤ was.length ∧ k' ≤ now.length ∧ Side was now i' k' ∧ (∃ lab r rc rd, DltI v.heap.size v.heap.size lab r rc rd (goneP (was.take i') now) (comeM was (now.take k')) (chgsM was (now.take k')) u') ∧ Fr None v u' ∧ v.heap.size ≤ u'.heap.size)) ?_ ?_
  rotate_left
  · rintro st u2 ⟨i', k', e, h1, h2, h3, h4, h5, h6, h7, h8, h9⟩
    exact next i' k' (st.1, st.2) u2 (by rw [e]) h1 h2 h3 h4 h5 h6 h7 h8 h9
  have hup : ∀ {a b : World}, Fr None v a → Fr (Up v.heap.size) a b → Fr None v b := fun f g => f.newer g fun k e => e
  refine condI (fun hzt => ?_) fun hzf => ?_
  · -- one that is gone
    have hz := hz.1 hzt
    have hil : i < was.length := by
      rcases hz with h | ⟨a, b, ha, _⟩
      · omega
      · exact (List.getElem?_eq_some_iff.1 ha).1
    obtain ⟨a, ha⟩ : ∃ a, was[i]? = some a := ⟨_, List.getElem?_eq_getElem hil⟩
    obtain ⟨q1, hq1, hq2, _⟩ := hE1.get ha
    have ed : Fr None u.drew u.drew.drew := (Fr.refl _ _).drew
    have D2 := Dd.fr0 ed
    obtain ⟨sd', hno⟩ := sd.left fw.rise fn.rise ha fun b hb => by
      rcases hz with h | ⟨a', b', ha', hb', hlt⟩
      · have := (List.getElem?_eq_some_iff.1 hb).1; omega
      · rw [ha] at ha'; rw [hb] at hb'; cases ha'; cases hb'; exact hlt
    refine fldI D2.blk (i := 0) (x := r.1) rfl ?_
    refine (hS1d.fr0 ed).readK rfl rfl hq1 fun ad had => (had _ (hS1d.fr0 ed)).fld (i := 0) (s := .int .u32) (y := q1.1) rfl ?_
    have hzd : u.drew.drew.heap.size = u.heap.size := rfl
    refine D2.addGone (by omega) (by omega) fun lab' r' u2 D3 g3 => ?_
    have hz3 := g3.size
    refine ⟨i + 1, k, by rw [w64 (by omega)]; rfl, by omega, by omega, by omega, by omega, hk2, sd', ⟨lab', r', rc, rd, ?_⟩, hup (fud.then0 ed) g3, by omega⟩
    rw [goneM_step ha, if_pos hno, ← hq2]
    exact D3
  have hz : ¬ (k = now.length ∨ ∃ a b, was[i]? = some a ∧ now[k]? = some b ∧ a.1 < b.1) := fun h => by have := hz.2 h; rw [hzf] at this; cases this
  have hkl : k < now.length := by have : k ≠ now.length := fun e => hz (.inl e); omega
  obtain ⟨b, hb⟩ : ∃ b, now[k]? = some b := ⟨_, List.getElem?_eq_getElem hkl⟩
  obtain ⟨y1, hy1, hy2, hy3⟩ := hE2d.get hb
  have fitb := hL2 b (List.mem_of_getElem? hb)
  have ed : Fr None u.drew u.drew.drew := (Fr.refl _ _).drew
  have D2 := Dd.fr0 ed
  have fu2 := fud.then0 ed
  have hS1e := hS1d.fr0 ed
  have hS2e := hS2d.fr0 ed
  have hzd : u.drew.drew.heap.size = u.heap.size := rfl
  refine joinI (fun z u' => (z = true ↔ ∀ a, was[i]? = some a → b.1 < a.1) ∧ u' = u.drew.drew) ?_ ?_
  · refine condE (fun h => ⟨⟨fun _ a ha => ?_, fun _ => rfl⟩, rfl⟩) fun h => ?_
    · have h : (i : Int) = (s1.n : Int) := h
      have := (List.getElem?_eq_some_iff.1 ha).1
      omega
    have h : i ≠ was.length := fun e => h (by show (i : Int) = (s1.n : Int); omega)
    obtain ⟨a, ha⟩ : ∃ a, was[i]? = some a := ⟨_, List.getElem?_eq_getElem (by omega)⟩
    obtain ⟨q1, hq1, hq2, _⟩ := hE1.get ha
    refine hS2e.readK rfl rfl hy1 fun ad2 had2 => (had2 _ hS2e).fld (i := 0) (s := .int .u32) (y := y1.1) rfl ?_
    refine hS1e.readK rfl rfl hq1 fun ad had => (had _ hS1e).fld (i := 0) (s := .int .u32) (y := q1.1) rfl ?_
    refine ⟨⟨fun hz a' ha' => ?_, fun hz => ?_⟩, rfl⟩
    · rw [ha] at ha'; cases ha'
      rw [← hq2, ← hy2]; simpa using hz
    · have := hz a ha
      rw [hq2, hy2]; simpa using this
  rintro z2 u3 ⟨hz2', rfl⟩
  refine joinI (fun (st : Int × Int) u' => (∃ i' k' : Nat, st = ((i' : Int), (k' : Int)) ∧ i ≤ i' ∧ k ≤ k' ∧ i + k < i' + k' ∧ i' ≤ was.length ∧ k' ≤ now.length ∧ Side was now i' k' ∧ (∃ lab r rc rd, DltI v.heap.size v.heap.size lab r rc rd (goneP (was.take i') now) (comeM was (now.take k')) (chgsM was (now.take k')) u') ∧ Fr None v u' ∧ v.heap.size ≤ u'.heap.size)) ?_ ?_
  rotate_left
  · rintro st u2 ⟨i', k', rfl, h⟩
    exact ⟨i', k', rfl, h⟩
  have ed2 : Fr None u.drew.drew u.drew.drew.drew := (Fr.refl _ _).drew
  have D3 := D2.fr0 ed2
  have fu3 := fu2.then0 ed2
  have hS1f := hS1e.fr0 ed2
  have hS2f := hS2e.fr0 ed2
  have hzd2 : u.drew.drew.drew.heap.size = u.heap.size := rfl
  have hE2f := (hE2d.fr ed fun _ _ h => h).fr ed2 fun _ _ h => h
  have hE1f := (hE1d.fr ed fun _ _ h => h).fr ed2 fun _ _ h => h
  refine condI (fun hzt => ?_) fun hzf2 => ?_
  · -- one that has come
    have hz2 := hz2'.1 hzt
    obtain ⟨sd', hno⟩ := sd.right fw.rise fn.rise hb hz2
    have hy3' := (hE2f.at_ _ _ _ hy1 hb).2
    refine fldI D3.blk (i := 1) (x := r.2.1) rfl ?_
    refine hS2f.readK rfl rfl hy1 fun ad had => (had _ hS2f).fld (i := 0) (s := .int .u32) (y := y1.1) rfl ?_
    refine hS2f.readK rfl rfl hy1 fun ad2 had2 => (had2 _ hS2f).fld (i := 1) (s := .sl) (y := y1.2) rfl ?_
    refine spec_Clone_Comp hy3' (by have := fitb.2.1; omega) fun t u4 o4 g4 => ?_
    have hz4 := g4.size
    have rd1 : Rd u4 (Addr.add ad 0) (.sc (.int .u32)) y1.1 := (had _ (hS2f.fr0 g4)) 0 _ rfl
    have D4 := D3.grow (by omega) 3 g4
    refine andI rd1 (andI (D4.blk.rd (s := .sl) (i := 1) (x := r.2.1) rfl) ?_)
    rw [hy2]
    refine D4.addCome (by omega) (by omega) (e := b) (o4.sl.mono fun q hq e => relab_new e hq) fun lab' r' u5 D5 g5 => ?_
    have hz5 := g5.size
    refine ⟨i, k + 1, by rw [w64 (by omega)]; rfl, by omega, by omega, by omega, hi, by omega, sd', ⟨lab', r', rc ++ [(b.1, t)], rd, ?_⟩, hup (fu3.then0 g4) g5, by omega⟩
    have ec : chgsM was (now.take (k + 1)) = chgsM was (now.take k) := by
      rw [chgsM_step hb]
      have : chgOne was b = none := by
        unfold chgOne
        have : was.find? (fun a => a.1 == b.1) = none := by
          rw [List.find?_eq_none]
          intro x hx
          simpa using hasE_not.1 hno x hx
        rw [this]
      rw [this, List.append_nil]
    rw [comeM_step hb, if_pos hno, ec]
    exact D5
  -- one that stays
  have hz2 : ∃ a, was[i]? = some a ∧ ¬ b.1 < a.1 := by
    refine Classical.byContradiction fun hc => ?_
    have : z2 = true := hz2'.2 fun a ha => Classical.byContradiction fun hn => hc ⟨a, ha, hn⟩
    rw [hzf2] at this; cases this
  obtain ⟨a, ha, hab⟩ := hz2
  have hab : a.1 = b.1 := by
    have : ¬ a.1 < b.1 := fun h => hz (.inr ⟨a, b, ha, hb, h⟩)
    omega
  obtain ⟨q1, hq1, hq2, hq3⟩ := hE1f.get ha
  have hy3' := (hE2f.at_ _ _ _ hy1 hb).2
  have fita := hL1 a (List.mem_of_getElem? ha)
  obtain ⟨sd', ho1, ho2, hone⟩ := sd.both fw.rise fn.rise ha hb hab
  have hil := (List.getElem?_eq_some_iff.1 ha).1
  refine joinI (fun s u' => ∃ bc t lab' , s = some ⟨bc, 0, none⟩ ∧ Blk u' bc 86 [.int .u32 t.1, .int .u8 t.2.1, .slice t.2.2.1.a t.2.2.1.n t.2.2.1.c, .slice t.2.2.2.a t.2.2.2.n t.2.2.2.c] ∧ chgR (fun k => lab' k = 5) u' t (changeM a b) ∧ DltI v.heap.size v.heap.size lab' r rc rd (goneP (was.take i) now) (comeM was (now.take k)) (chgsM was (now.take k)) u' ∧ Fr None v u' ∧ v.heap.size ≤ u'.heap.size) ?_ ?_
  · refine bothI ?_ ?_
    · refine hS1f.get rfl rfl (by have := hE1.len; omega) fun x hx => ?_
      rw [hq1] at hx; cases hx
      refine hS2f.get rfl rfl (by have := hE2.len; omega) fun x hx => ?_
      rw [hy1] at hx; cases hx
      refine spec_diff_change hq3 hy3' hy2 fita.2.1 fitb.2.1 fita.2.2 fitb.2.2 fun t u4 ht g4 => ?_
      have hz4 := g4.size
      refine newI fun u5 B5 g5 m5 => stoAll B5 rfl rfl fun u6 B6 g6 m6 => ?_
      have g46 : Fr None u4 u6 := g5.newer g6 fun k e => by omega
      have g6' := g4.then0 g46
      refine ⟨_, t, relab lab u.drew.drew.drew.heap.size u6.heap.size 5, rfl, B6, ?_, D3.grow (by omega) 5 g6', fu3.then0 g6', by omega⟩
      refine chgR_st _ _ ht g46 fun q hq e => ⟨fun h => h, ?_⟩
      have e : u.drew.drew.drew.heap.size ≤ q := e
      exact relab_new e (by omega)
    · refine hS1f.get rfl rfl (by have := hE1.len; omega) fun x hx => ?_
      rw [hq1] at hx; cases hx
      refine hS2f.get rfl rfl (by have := hE2.len; omega) fun x hx => ?_
      rw [hy1] at hx; cases hx
      refine newI fun u4 B4 g4 m4 => ?_
      refine spec_diff_change (hq3.fr0 g4) (hy3'.fr0 g4) hy2 fita.2.1 fitb.2.1 fita.2.2 fitb.2.2 fun t u5 ht g5 => ?_
      have hz5 := g5.size
      refine stoAll (B4.fr g5 fun h => h) rfl rfl fun u6 B6 g6 m6 => ?_
      have g06 : Fr None u.drew.drew.drew u6 := (g4.then0 g5).newer g6 fun k e => by omega
      refine ⟨_, t, relab lab u.drew.drew.drew.heap.size u6.heap.size 5, rfl, B6, ?_, D3.grow (by omega) 5 g06, fu3.then0 g06, by omega⟩
      refine chgR_st _ _ ht g6 fun q hq e => ⟨by have e : u4.heap.size ≤ q := e; omega, ?_⟩
      have e : u4.heap.size ≤ q := e
      exact relab_new (by omega) (by omega)
  rintro s u4 ⟨bc, t, lab', rfl, Bc, ht, D4, fu4, hz4⟩
  refine ptrI (aggI Bc (x := t) rfl (spec_diff_nothing fun u5 g5 => ?_))
  have D5 := D4.fr0 g5
  have ht5 := St.fr0 (A := fun F w => chgR F w t (changeM a b)) (chgR_st _ _) ht g5
  have fu5 := fu4.then0 g5
  have hz5 := g5.size
  have Bc5 := Bc.fr g5 fun h => h
  have en : decide (t.2.1 = 0 ∧ t.2.2.1.n = 0 ∧ t.2.2.2.n = 0) = nothingM (changeM a b) := by
    unfold nothingM
    rw [ht.2.1, ht.2.2.1.len, ht.2.2.2.len]
  rw [en]
  have eg : goneP (was.take (i + 1)) now = goneP (was.take i) now := by rw [goneM_step ha, if_neg (by rw [ho1]; decide), List.append_nil]
  have ec : comeM was (now.take (k + 1)) = comeM was (now.take k) := by rw [comeM_step hb, if_neg (by rw [ho2]; decide), List.append_nil]
  have ed' := chgsM_step (was := was) hb
  rw [hone] at ed'
  refine joinI (fun (_ : Unit) u' => (∃ lab r rc rd, DltI v.heap.size v.heap.size lab r rc rd (goneP (was.take (i + 1)) now) (comeM was (now.take (k + 1))) (chgsM was (now.take (k + 1))) u') ∧ Fr None v u' ∧ v.heap.size ≤ u'.heap.size) ?_ ?_
  · refine condI (fun hn => ?_) fun hn => ?_
    · have hn : nothingM (changeM a b) = false := by simpa using hn
      refine fldI D5.blk (i := 2) (x := r.2.2) rfl (ptrI (aggI Bc5 (x := t) rfl ?_))
      refine D5.addChg (by omega) (by omega) ht5 fun lab'' r' u6 D6 g6 => ?_
      have hz6 := g6.size
      refine ⟨⟨lab'', r', rc, rd ++ [t], ?_⟩, hup fu5 g6, by omega⟩
      rw [eg, ec, ed', hn]
      exact D6
    · have hn : nothingM (changeM a b) = true := by simpa using hn
      refine ⟨⟨lab', r, rc, rd, ?_⟩, fu5, by omega⟩
      rw [eg, ec, ed', hn, if_pos rfl, List.append_nil]
      exact D5
  rintro _ u6 ⟨h1, h2, h3⟩
  exact ⟨i + 1, k + 1, by rw [w64 (by omega), w64 (by omega)]; rfl, by omega, by omega, by omega, by omega, by omega, sd', h1, h2, h3⟩

end Go.Proofs.YtchhhjlpnecjkaaGreat
