/-
  ref18.Find; what ref19 makes of a change, kind by kind (plainly and in memory).
-/
import Derived.Test.YtchhhjlpnecjkaaGreatDif4
import Derived.Test.YtchhhjlpnecjkaaGreatApt
namespace Go.Proofs.YtchhhjlpnecjkaaGreat
open Go Go.RowKit Go.Proofs.YtchhhjlpnecjkaaGreat.Den
variable {R : Type} {Q : R → World → Prop} {w : World}

/-! ### kind by kind, plainly -/
def low (j : Nat) (l : List Comp) : List Comp := l.filter fun c => decide (c.1 < (j : Int))
theorem low_none {j : Nat} {l : List Comp} (h : ∀ c ∈ l, c.1 ≠ (j : Int)) : low (j + 1) l = low j l := by
  unfold low
  refine List.filter_congr fun c hc => ?_
  have := h c hc
  rw [decide_eq_decide]
  omega
theorem low_some {j : Nat} {c0 : Comp} (e : c0.1 = (j : Int)) : ∀ {l : List Comp}, Rising (l.map (·.1)) → c0 ∈ l → low (j + 1) l = low j l ++ [c0]
  | [], _, hc => by cases hc
  | c :: r, hr, hc => by
    obtain ⟨h1, h2⟩ := List.pairwise_cons.1 hr
    rcases List.mem_cons.1 hc with hcc | hcc
    · subst hcc
      have key : ∀ m, m ≤ j + 1 → low m r = [] := fun m hm => by
        unfold low
        rw [List.filter_eq_nil_iff]
        intro x hx
        have : c0.1 < x.1 := h1 x.1 (List.mem_map.2 ⟨x, hx, rfl⟩)
        simp
        omega
      have e1 : low (j + 1) (c0 :: r) = c0 :: low (j + 1) r := by
        unfold low
        rw [List.filter_cons_of_pos (by simp; omega)]
      have e2 : low j (c0 :: r) = low j r := by
        unfold low
        rw [List.filter_cons_of_neg (by simp; omega)]
      rw [e1, e2, key _ (Nat.le_refl _), key _ (by omega)]
      rfl
    · have : c.1 < c0.1 := h1 c0.1 (List.mem_map.2 ⟨c0, hcc, rfl⟩)
      have e1 : ∀ m, j ≤ m → low m (c :: r) = c :: low m r := fun m hm => by
        unfold low
        rw [List.filter_cons_of_pos (by simp; omega)]
      rw [e1 _ (by omega), e1 _ (Nat.le_refl _), low_some e h2 hcc]
      rfl
theorem low_zero {l : List Comp} (h : ∀ c ∈ l, 0 ≤ c.1) : low 0 l = [] := by
  unfold low
  rw [List.filter_eq_nil_iff]
  intro x hx
  have := h x hx
  simp
  omega
theorem low_all {l : List Comp} (h : ∀ c ∈ l, c.1 ≤ 5) : low 6 l = l := by
  unfold low
  rw [List.filter_eq_self]
  intro x hx
  have := h x hx
  simp
  omega
theorem low_le (j : Nat) (l : List Comp) : (low j l).length ≤ l.length := List.length_filter_le _ _
theorem findM_cases (l : List Comp) (k : Int) : (findM l k = -1 ∧ ∀ c ∈ l, c.1 ≠ k) ∨ ∃ (q : Nat) (c : Comp), findM l k = (q : Int) ∧ l[q]? = some c ∧ c.1 = k := by
  unfold findM
  split
  · rename_i i hi
    rw [List.findIdx?_eq_some_iff_getElem] at hi
    obtain ⟨hl, he, _⟩ := hi
    exact .inr ⟨i, l[i], rfl, List.getElem?_eq_getElem hl, by simpa using he⟩
  · rename_i hn
    rw [List.findIdx?_eq_none_iff] at hn
    exact .inl ⟨rfl, fun c hc => by simpa using hn c hc⟩
theorem findC_of {l : List Comp} (h : listE l = 0) {c : Comp} (hc : c ∈ l) {k : Int} (e : c.1 = k) : findC l k = (c, true) := by
  by_cases hf : (findC l k).2 = true
  · obtain ⟨h1, h2⟩ := findC_some hf
    have := kind_one h h1 hc (by rw [h2, e])
    exact Prod.ext this hf
  · exact absurd e (findC_none (by simpa using hf) c hc)
theorem findC_not {l : List Comp} {k : Int} (h : ∀ c ∈ l, c.1 ≠ k) : (findC l k).2 = false := by
  refine Classical.byContradiction fun hn => ?_
  obtain ⟨h1, h2⟩ := findC_some (l := l) (k := k) (by simpa using hn)
  exact h _ h1 h2
theorem has_of {l : List Comp} {j : Nat} {c : Comp} (hc : c ∈ l) (e : c.1 = (j : Int)) : has l j = true := has_mem.2 ⟨c, hc, e⟩
theorem has_not {l : List Comp} {j : Nat} (h : ∀ c ∈ l, c.1 ≠ (j : Int)) : has l j = false := by
  refine Classical.byContradiction fun hn => ?_
  obtain ⟨c, h1, h2⟩ := has_mem.1 (by simpa using hn)
  exact h c h1 h2
/-- what is lost, of the kinds below j. -/
def lostJ (a b : List Comp) (j : Nat) : Int := (((lostM a b).toNat % 2 ^ j : Nat) : Int)
theorem lostJ_le (a b : List Comp) (j : Nat) (hj : j ≤ 6) : 0 ≤ lostJ a b j ∧ lostJ a b j < 64 := by
  unfold lostJ
  have h1 : (lostM a b).toNat % 2 ^ j < 2 ^ j := Nat.mod_lt _ (Nat.two_pow_pos j)
  have h2 : 2 ^ j ≤ 2 ^ 6 := Nat.pow_le_pow_right (by decide) hj
  omega
theorem lostJ_step (a b : List Comp) {j : Nat} (hj : j < 6) : lostJ a b (j + 1) = lostJ a b j + if (has a j && !has b j) = true then ((2 ^ j : Nat) : Int) else 0 := by
  have h := lost_bit a b hj
  rw [Nat.testBit_eq_decide_div_mod_eq] at h
  unfold lostJ
  rw [Nat.mod_pow_succ, ← h]
  generalize (lostM a b).toNat / 2 ^ j = q
  rcases Nat.mod_two_eq_zero_or_one q with e | e
  · rw [e]; simp
  · rw [e]; simp
theorem lostM_lt (a b : List Comp) : (lostM a b).toNat < 64 := by
  have h1 := maskN_lt a
  have e : (lostM a b).toNat = (BitVec.ofInt 8 (maskN a : Int) &&& ~~~BitVec.ofInt 8 (maskN b : Int)).toNat := by
    unfold lostM bNot
    have := (BitVec.ofInt 8 (maskN a : Int) &&& ~~~BitVec.ofInt 8 (maskN b : Int)).isLt
    show (IntKind.wrap .u8 ((BitVec.ofInt 8 (maskN a : Int) &&& ~~~BitVec.ofInt 8 (maskN b : Int)).toNat : Int)).toNat = _
    rw [wu8 (by omega), Int.toNat_natCast]
  rw [e, BitVec.toNat_and]
  refine Nat.lt_of_le_of_lt Nat.and_le_left ?_
  rw [BitVec.toNat_ofInt]
  omega
theorem lostJ_all (a b : List Comp) : lostJ a b 6 = lostM a b := by
  have h1 := lostM_lt a b
  have h2 := (lostM_range a b).1
  unfold lostJ
  rw [Nat.mod_eq_of_lt (by simpa using h1)]
  omega
theorem shl_pow {j : Nat} (hj : j < 6) : shL .u8 1 (j : Int) = ((2 ^ j : Nat) : Int) := by
  have : j = 0 ∨ j = 1 ∨ j = 2 ∨ j = 3 ∨ j = 4 ∨ j = 5 := by omega
  rcases this with rfl | rfl | rfl | rfl | rfl | rfl <;> rfl
theorem findE_has {L : List Ent} {id : Int} : (findE L id = -1 ∧ hasE L id = false) ∨ ∃ (i : Nat) (e : Ent), findE L id = (i : Int) ∧ L[i]? = some e ∧ e.1 = id := by
  unfold findE
  split
  · rename_i i hi
    rw [List.findIdx?_eq_some_iff_getElem] at hi
    obtain ⟨hl, he, _⟩ := hi
    exact .inr ⟨i, L[i], rfl, List.getElem?_eq_getElem hl, by simpa using he⟩
  · rename_i hn
    rw [List.findIdx?_eq_none_iff] at hn
    exact .inl ⟨rfl, hasE_not.2 fun e he => by simpa using hn e he⟩

/-! ### a change that is being made -/
section
variable {n bd : Nat} {id lost : Int} {a l : List Comp} {lab : Nat → Nat} {sn ss : Sl} {c : Comp}
theorem ChgI.addNew (h : ChgI n bd id lost a l lab sn ss w) (hn : n ≤ w.heap.size) (hf : (findC a c.1).2 = false) (hl : l.length < 2097152) {K : W R} (hk : ∀ lab' r w', ChgI n bd id lost a (l ++ [c]) lab' r ss w' → Fr (Up n) w w' → K Q w') :
    newW 92 [.int .u8 c.1, .int .i32 c.2.1, .int .i32 c.2.2.1, .int .i32 c.2.2.2] (fun x => rawW Tryz.prog (Builtin.append_ #[55, 55] 55 #[.slice sn.a sn.n sn.c, .slice (some x) 1 1]) [.sc .sl] fun (z : Sl) => stoL (Addr.add ⟨bd, 0, none⟩ 2) [.slice z.a z.n z.c] 0 K) Q w := by
  have l1 := newM_le a l
  refine appLab (x := c) comps_ty rfl h.new (by omega) (by omega) fun r w1 o1 f1 => ?_
  have B1 := h.blk.fr f1 fun e => by have := h.lb; omega
  rw [add_lit]
  refine setI (i := 2) B1 (by simp) rfl fun w2 B2 f2 s2 => ?_
  have z1 := f1.size
  have nb : ∀ k, relab lab w.heap.size w1.heap.size 1 k ≠ 3 → k ≠ bd := fun k e e2 => by
    subst e2
    rw [relab_lt h.blk.lt] at e
    exact e h.lb
  refine hk (relab lab w.heap.size w1.heap.size 1) r w2 ⟨B2, ?_, ?_, ?_, fun k e => ?_⟩ ?_
  · rw [relab_lt h.blk.lt]; exact h.lb
  · rw [newM_snoc, if_pos hf]
    exact o1.fr f2 fun k e => nb k (by omega)
  · rw [chM_snoc, if_neg (by simp [hf]), List.append_nil]
    have := St.other (A := fun F w => Own F w 92 compT ss (chM a l)) Own.st (c := 1) h.set f1 (by decide)
    exact this.fr f2 fun k e => nb k (by omega)
  · rcases relab_ne e with e | e
    · have := h.up k e.1; omega
    · omega
  · exact (f1.sub fun k e => (h.up k (by omega)).1).then (f2.sub fun k e => by rw [e]; exact (h.up bd (by rw [h.lb]; decide)).1)
theorem ChgI.addSet (h : ChgI n bd id lost a l lab sn ss w) (hn : n ≤ w.heap.size) (hf : (findC a c.1).2 = true ∧ (findC a c.1).1 ≠ c) (hl : l.length < 2097152) {K : W R} (hk : ∀ lab' r w', ChgI n bd id lost a (l ++ [c]) lab' sn r w' → Fr (Up n) w w' → K Q w') :
    newW 92 [.int .u8 c.1, .int .i32 c.2.1, .int .i32 c.2.2.1, .int .i32 c.2.2.2] (fun x => rawW Tryz.prog (Builtin.append_ #[55, 55] 55 #[.slice ss.a ss.n ss.c, .slice (some x) 1 1]) [.sc .sl] fun (z : Sl) => stoL (Addr.add ⟨bd, 0, none⟩ 3) [.slice z.a z.n z.c] 0 K) Q w := by
  have l1 := chM_le a l
  refine appLab (x := c) comps_ty rfl h.set (by omega) (by omega) fun r w1 o1 f1 => ?_
  have B1 := h.blk.fr f1 fun e => by have := h.lb; omega
  rw [add_lit]
  refine setI (i := 3) B1 (by simp) rfl fun w2 B2 f2 s2 => ?_
  have z1 := f1.size
  have nb : ∀ k, relab lab w.heap.size w1.heap.size 2 k ≠ 3 → k ≠ bd := fun k e e2 => by
    subst e2
    rw [relab_lt h.blk.lt] at e
    exact e h.lb
  refine hk (relab lab w.heap.size w1.heap.size 2) r w2 ⟨B2, ?_, ?_, ?_, fun k e => ?_⟩ ?_
  · rw [relab_lt h.blk.lt]; exact h.lb
  · rw [newM_snoc, if_neg (by simp [hf.1]), List.append_nil]
    have := St.other (A := fun F w => Own F w 92 compT sn (newM a l)) Own.st (c := 2) h.new f1 (by decide)
    exact this.fr f2 fun k e => nb k (by omega)
  · rw [chM_snoc, if_pos hf]
    exact o1.fr f2 fun k e => nb k (by omega)
  · rcases relab_ne e with e | e
    · have := h.up k e.1; omega
    · omega
  · exact (f1.sub fun k e => (h.up k (by omega)).1).then (f2.sub fun k e => by rw [e]; exact (h.up bd (by rw [h.lb]; decide)).1)
theorem ChgI.same (h : ChgI n bd id lost a l lab sn ss w) (hf : (findC a c.1).2 = true ∧ (findC a c.1).1 = c) : ChgI n bd id lost a (l ++ [c]) lab sn ss w := by
  refine ⟨h.blk, h.lb, ?_, ?_, h.up⟩
  · rw [newM_snoc, if_neg (by simp [hf.1]), List.append_nil]; exact h.new
  · rw [chM_snoc, if_neg (fun h => h.2 hf.2), List.append_nil]; exact h.set
theorem ChgI.setLost (h : ChgI n bd id lost a l lab sn ss w) {x : Int} {K : W R} (hk : ∀ w', ChgI n bd id x a l lab sn ss w' → Fr (Up n) w w' → K Q w') : stoL (Addr.add ⟨bd, 0, none⟩ 1) [.int .u8 x] 0 K Q w := by
  rw [add_lit]
  refine setI (i := 1) h.blk (by simp) rfl fun w2 B2 f2 s2 => ?_
  have nb : ∀ {i : Nat}, i ≠ 3 → ∀ k, lab k = i → ¬ k = bd := fun hi k e e2 => by subst e2; have := h.lb; omega
  refine hk w2 ⟨B2, h.lb, h.new.fr f2 (nb (by decide)), h.set.fr f2 (nb (by decide)), fun k e => ?_⟩ (f2.sub fun k e => by rw [e]; exact (h.up bd (by rw [h.lb]; decide)).1)
  have := h.up k e; omega
end

theorem spec_r18_Find {ok : Nat → Prop} {s : Sl} {raws : List (Int × Sl)} {L : List Ent} (hS : SlT ok w entT s raws) (hE : EntsR ok w raws L) (hm : L.length ≤ 9223372036854775807) {id : Int} {K : Res [.sc (.int .i64)] → W R} (hk : ∀ w', Fr None w w' → K (findE L id) Q w') :
    callW Tryz.prog k_pinnaceref18_Find [.slice s.a s.n s.c, .int .u32 id] [.sc (.int .i64)] K Q w := by
  refine C_pinnaceref18_Find s id K Q w ?_
  unfold F_pinnaceref18_Find
  have hlen := hS.len
  have hel := hE.len
  refine forI (N := s.n) (fun s : Int => s) (fun j i w' => i = (j : Int) ∧ Fr None w w' ∧ ∀ (q : Nat) e, q < j → L[q]? = some e → e.1 ≠ id) ⟨rfl, Fr.refl _ _, fun q e h => absurd h (by omega)⟩ (fun j s w' h => h.1) ?_ ?_
  · rintro j i w1 K' hj ⟨rfl, f1, hno⟩ - hK
    obtain ⟨e, he⟩ : ∃ e, L[j]? = some e := ⟨_, List.getElem?_eq_getElem (by omega)⟩
    obtain ⟨r1, hr1, ha1, _⟩ := hE.get he
    refine (hS.fr0 f1).get rfl rfl (by omega) fun y hy => ?_
    rw [hr1] at hy
    cases hy
    refine newI fun w2 B2 f2 s2 => stoAll B2 rfl rfl fun w3 B3 f3 s3 => fldI B3 (i := 0) (x := r1.1) rfl ?_
    have f13 : Fr None w1 w3 := f2.newer f3 fun k e => by omega
    refine condE (fun h => ?_) fun h => ?_
    · have : L.findIdx? (fun e => e.1 == id) = some j := by
        rw [List.findIdx?_eq_some_iff_getElem]
        obtain ⟨hl, hg⟩ := List.getElem?_eq_some_iff.1 he
        refine ⟨hl, by rw [hg, ← ha1]; simpa using h, fun q hq => ?_⟩
        have := hno q _ hq (List.getElem?_eq_getElem (by omega))
        simpa using this
      have e := hk w3 (f1.then0 f13)
      rw [findE, this] at e
      exact e
    · refine hK _ _ ⟨wsucc hj (by omega), f1.then0 f13, fun q y hq hy => ?_⟩
      rcases Nat.lt_succ_iff_lt_or_eq.1 hq with h1 | h1
      · exact hno q y h1 hy
      · subst h1; rw [he] at hy; cases hy; rw [← ha1]; exact h
  · rintro i w1 ⟨rfl, f1, hno⟩
    have e := hk w1 f1
    rw [findE_none fun q e he => hno q e (by have := (List.getElem?_eq_some_iff.1 he).1; omega) he] at e
    exact e

end Go.Proofs.YtchhhjlpnecjkaaGreat

namespace Go.Proofs.YtchhhjlpnecjkaaGreat
open Go Go.RowKit Go.Proofs.YtchhhjlpnecjkaaGreat.Den
variable {R : Type} {Q : R → World → Prop} {w : World}

theorem spec_r19_Diff {ok1 ok2 : Nat → Prop} {s1 s2 : Sl} {raws1 raws2 : List (Int × Sl)} {was now : List Ent} (hS1 : SlT ok1 w entT s1 raws1) (hE1 : EntsR ok1 w raws1 was) (hS2 : SlT ok2 w entT s2 raws2) (hE2 : EntsR ok2 w raws2 now)
    (hm1 : was.length ≤ 1048576) (hm2 : now.length ≤ 1048576) (hL1 : ∀ e ∈ was, EntFit e) (hL2 : ∀ e ∈ now, EntFit e) {K : Res [.agg [.sl, .sl, .sl], .sc (.int .i64)] → W R}
    (hbad : diffE was now ≠ 0 → ∀ w', Fr None w w' → K ((⟨none, 0, 0⟩, ⟨none, 0, 0⟩, ⟨none, 0, 0⟩), diffE was now) Q w')
    (hk : diffE was now = 0 → ∀ r w', DltR (Up w.heap.size) w' r (goneM was now) (comeM was now) (chgsM was now) → Fr None w w' → K (r, 0) Q w') :
    callW Tryz.prog k_pinnaceref19_Diff [.slice s1.a s1.n s1.c, .slice s2.a s2.n s2.c] [.agg [.sl, .sl, .sl], .sc (.int .i64)] K Q w := by
  refine C_pinnaceref19_Diff s1 s2 K Q w ?_
  unfold F_pinnaceref19_Diff
  have l1 := hS1.len.trans hE1.len
  have l2 := hS2.len.trans hE2.len
  have fit : ∀ {e : Ent}, EntFit e → IdOk e.1 ∧ e.2.length ≤ 9223372036854775807 ∧ ∀ c ∈ e.2, CompOk c := fun h => ⟨h.1, by have := h.2.1; omega, h.2.2⟩
  refine newI fun w1 B1 f1 t1 => spec_r18_Form (hS1.fr0 f1) (hE1.fr f1 fun _ _ h => h) (by omega) (fun e he => fit (hL1 e he)) fun w2 f2 => ?_
  rw [← form_same was 0 true fun _ => rfl]
  have B2 := B1.fr f2 fun h => h
  have f02 := f1.then0 f2
  have zz2 := f2.size
  refine condN (fun h => ?_) fun z1 => ?_
  · refine stoAll B2 rfl rfl fun v3 B3 g3 t3 => aggI B3 (x := ((⟨none, 0, 0⟩, ⟨none, 0, 0⟩, ⟨none, 0, 0⟩) : DRaw)) rfl ?_
    have e : diffE was now = formM 0 was := if_pos h
    rw [← e]
    exact hbad (by rw [e]; exact h) v3 (f02.newer g3 fun k e => by omega)
  refine spec_r18_Form (hS2.fr0 f02) (hE2.fr f02 fun _ _ h => h) (by omega) (fun e he => fit (hL2 e he)) fun v f3 => ?_
  rw [← form_same now 0 true fun _ => rfl]
  have BX0 := B2.fr f3 fun h => h
  have f0v := f02.then0 f3
  have zz3 := f3.size
  refine condN (fun h => ?_) fun z2 => ?_
  · refine stoAll BX0 rfl rfl fun v3 B3 g3 t3 => aggI B3 (x := ((⟨none, 0, 0⟩, ⟨none, 0, 0⟩, ⟨none, 0, 0⟩) : DRaw)) rfl ?_
    have e : diffE was now = formM 0 now := if_neg (by rw [z1]; simp)
    rw [← e]
    exact hbad (by rw [e]; exact h) v3 (f0v.newer g3 fun k e => by omega)
  have hE0 : diffE was now = 0 := by unfold diffE; rw [if_neg (by rw [z1]; simp)]; exact z2
  have hk := hk hE0
  have fw := formOk.1 z1
  have fn := formOk.1 z2
  refine newI fun v1 B3 g1 t3 => ?_
  have hz1 := g1.size
  have hup : ∀ {a b : World}, Fr None v a → Fr (Up v.heap.size) a b → Fr None v b := fun f g => f.newer g fun k e => e
  refine forI (N := s1.n) (fun s : Int => s) (fun j i u => i = (j : Int) ∧ (∃ lab r, DltI v.heap.size v.heap.size lab r [] [] (goneM (was.take j) now) [] [] u) ∧ Fr None v u ∧ v.heap.size ≤ u.heap.size)
    ⟨rfl, ⟨fun k => if k = v.heap.size then 6 else 0, (⟨none, 0, 0⟩, ⟨none, 0, 0⟩, ⟨none, 0, 0⟩), B3, by simp, Own.nil _ _ _ _, Own.nil _ _ _ _, EntsR.nil _ _, Own.nil _ _ _ _, All2.nil _, fun k e => by
      by_cases hkb : k = v.heap.size
      · omega
      · exact absurd (if_neg hkb) e⟩, g1, by omega⟩ (fun j s w' h => h.1) ?_ ?_
  · -- those that are gone
    rintro j i u K' hj ⟨rfl, ⟨lab, r, D⟩, fu, hzu⟩ - hK
    obtain ⟨a, ha⟩ : ∃ a, was[j]? = some a := ⟨_, List.getElem?_eq_getElem (by omega)⟩
    obtain ⟨q1, hq1, hq2, _⟩ := hE1.get ha
    have f0u := f0v.then0 fu
    refine (hS1.fr0 f0u).get rfl rfl (by have := hE1.len; omega) fun y hy => ?_
    rw [hq1] at hy
    cases hy
    refine newI fun u1 B4 e1 t4 => stoAll B4 rfl rfl fun u2 B5 e2 t5 => fldI B5 (i := 0) (x := q1.1) rfl ?_
    have e02 : Fr None u u2 := e1.newer e2 fun k e => by omega
    refine spec_r18_Find (hS2.fr0 (f0u.then0 e02)) (hE2.fr (f0u.then0 e02) fun _ _ h => h) (by omega) fun u3 e3 => ?_
    have e03 := e02.then0 e3
    have D3 := D.fr0 e03
    have hz3 := e03.size
    have hgl : (goneM (was.take j) now).length ≤ 1048576 := by
      unfold goneM; rw [List.length_map]; exact Nat.le_trans (List.length_filter_le _ _) (by simp; omega)
    rw [hq2]
    refine joinI (fun (_ : Unit) u' => (∃ lab r, DltI v.heap.size v.heap.size lab r [] [] (goneM (was.take (j + 1)) now) [] [] u') ∧ Fr None v u' ∧ v.heap.size ≤ u'.heap.size) ?_ fun _ u' ⟨h1, h2, h3⟩ => hK _ _ ⟨wsucc hj (by omega), h1, h2, h3⟩
    have eg := goneM_step (now := now) ha
    rcases findE_has (L := now) (id := a.1) with ⟨ef, hno⟩ | ⟨i, e, ef, hi, hid⟩
    · rw [ef]
      rw [if_pos hno] at eg
      refine condT rfl (fldI D3.blk (i := 0) (x := r.1) rfl (fldI (B5.fr e3 fun h => h) (i := 0) (x := q1.1) rfl ?_))
      refine D3.addGone (by omega) (by omega) fun lab' r' u4 D4 e4 => ?_
      have hz4 := e4.size
      refine ⟨⟨lab', r', ?_⟩, hup (fu.then0 e03) e4, by omega⟩
      have eg : goneM (was.take (j + 1)) now = goneM (was.take j) now ++ [a.1] := eg
      rw [eg, ← hq2]
      exact D4
    · rw [ef]
      have hh : hasE now a.1 = true := hasE_iff.2 ⟨e, List.mem_of_getElem? hi, hid⟩
      rw [if_neg (by rw [hh]; decide), List.append_nil] at eg
      have eg : goneM (was.take (j + 1)) now = goneM (was.take j) now := eg
      refine condF (decide_eq_false (by omega)) ⟨⟨lab, r, ?_⟩, fu.then0 e03, by omega⟩
      rw [eg]
      exact D3
  rintro i0 u0 ⟨_, ⟨lab0, r0, D0⟩, fu0, hzu0⟩
  rw [List.take_of_length_le (by omega)] at D0
  refine forI (N := s2.n) (fun s : Int => s) (fun j i u => i = (j : Int) ∧ (∃ lab r rc rd, DltI v.heap.size v.heap.size lab r rc rd (goneM was now) (comeM was (now.take j)) (chgsM was (now.take j)) u) ∧ Fr None v u ∧ v.heap.size ≤ u.heap.size)
    ⟨rfl, ⟨lab0, r0, [], [], D0⟩, fu0, hzu0⟩ (fun j s w' h => h.1) ?_ ?_
  rotate_left
  · rintro i u ⟨_, ⟨lab, r, rc, rd, D⟩, fu, hzu⟩
    rw [List.take_of_length_le (by omega)] at D
    refine aggI D.blk (x := r) rfl ?_
    have BXu := (BX0.fr fu fun h => h)
    refine stoAll BXu rfl rfl fun u1 C1 e1 m1 => aggI C1 (x := r) rfl ?_
    have hbx := BX0.lt
    have nb : ∀ {i : Nat}, i ≠ 0 → ∀ k, k < u.heap.size → lab k = i → ¬ k = w.heap.size ∧ w.heap.size ≤ k := fun hi k hk e => by have := D.up k (by omega); omega
    refine hk r u1 ⟨SlT.st D.og.sl e1 (nb (by decide)), ⟨rc, SlT.st D.oc.sl e1 (nb (by decide)), D.ec.len, fun i a b ha hb => ⟨(D.ec.at_ i a b ha hb).1, SlT.st (D.ec.at_ i a b ha hb).2 e1 (nb (by decide))⟩⟩,
      ⟨rd, SlT.st D.od.sl e1 (nb (by decide)), D.ed.imp fun a b hab => chgR_st a b hab e1 (nb (by decide))⟩⟩ ((f0v.then0 fu).newer e1 fun k e => by omega)
  rintro j i u K' hj ⟨rfl, ⟨lab, r, rc, rd, D⟩, fu, hzu⟩ - hK
  refine joinI (fun (_ : Unit) u' => (∃ lab r rc rd, DltI v.heap.size v.heap.size lab r rc rd (goneM was now) (comeM was (now.take (j + 1))) (chgsM was (now.take (j + 1))) u') ∧ Fr None v u' ∧ v.heap.size ≤ u'.heap.size) ?_ fun _ u' ⟨h1, h2, h3⟩ => hK _ _ ⟨wsucc hj (by omega), h1, h2, h3⟩
  obtain ⟨b, hb⟩ : ∃ b, now[j]? = some b := ⟨_, List.getElem?_eq_getElem (by omega)⟩
  obtain ⟨y1, hy1, hy2, hy3⟩ := hE2.get hb
  have f0u := f0v.then0 fu
  have hbn := List.mem_of_getElem? hb
  have fitb := hL2 b hbn
  refine (hS2.fr0 f0u).get rfl rfl (by have := hE2.len; omega) fun y hy => ?_
  rw [hy1] at hy
  cases hy
  refine newI fun u1 B4 e1 t4 => stoAll B4 rfl rfl fun u2 B5 e2 t5 => fldI B5 (i := 0) (x := y1.1) rfl ?_
  have e02 : Fr None u u2 := e1.newer e2 fun k e => by omega
  refine spec_r18_Find (hS1.fr0 (f0u.then0 e02)) (hE1.fr (f0u.then0 e02) fun _ _ h => h) (by omega) fun u3 e3 => ?_
  have e03 := e02.then0 e3
  have D3 := D.fr0 e03
  have hz3 := e03.size
  have fu3 := fu.then0 e03
  have f0u3 := f0u.then0 e03
  have Bl := B5.fr e3 fun h => h
  have hcl : (comeM was (now.take j)).length ≤ 1048576 := by
    unfold comeM; exact Nat.le_trans (List.length_filter_le _ _) (by simp; omega)
  have hdl : (chgsM was (now.take j)).length ≤ 1048576 := by
    unfold chgsM; exact Nat.le_trans (filterMap_le _ _) (by simp; omega)
  have ec := comeM_step (was := was) hb
  have ed := chgsM_step (was := was) hb
  rw [hy2]
  rcases findE_has (L := was) (id := b.1) with ⟨ef, hno⟩ | ⟨i, a, ef, ha, hid⟩
  · -- one that has come
    rw [ef]
    rw [if_pos hno] at ec
    have ed : chgsM was (now.take (j + 1)) = chgsM was (now.take j) := by
      rw [ed]
      have : chgOne was b = none := by
        unfold chgOne
        have : was.find? (fun a => a.1 == b.1) = none := by
          rw [List.find?_eq_none]
          intro x hx
          simpa using hasE_not.1 hno x hx
        rw [this]
      rw [this, List.append_nil]
    have fd : Fr None u3 u3.drew := (Fr.refl _ _).drew
    have Dd := D3.fr0 fd
    have Bd := Bl.fr fd fun h => h
    refine condT rfl (fldI Dd.blk (i := 1) (x := r.2.1) rfl (fldI Bd (i := 0) (x := y1.1) rfl (fldI Bd (i := 1) (x := y1.2) rfl ?_)))
    refine spec_r5_Twin (hy3.fr0 (f0u3.then0 fd)) fitb.2.1 fun t u4 o4 g4 => ?_
    have hz4 := g4.size
    have hzd : u3.drew.heap.size = u3.heap.size := rfl
    have D4 := Dd.grow (by omega) 3 g4
    refine andI ((Bd.fr g4 fun h => h).rd (s := .int .u32) (i := 0) (x := y1.1) rfl) (andI (D4.blk.rd (s := .sl) (i := 1) (x := r.2.1) rfl) ?_)
    rw [hy2]
    refine D4.addCome (by omega) (by omega) (e := b) (o4.sl.mono fun q hq e => relab_new e hq) fun lab' r' u5 D5 g5 => ?_
    have hz5 := g5.size
    refine ⟨⟨lab', r', rc ++ [(b.1, t)], rd, ?_⟩, hup ((fu3.then0 fd).then0 g4) g5, by omega⟩
    rw [ec, ed]
    exact D5
  -- one that stays
  rw [ef]
  refine condF (decide_eq_false (by omega)) ?_
  have haw := List.mem_of_getElem? ha
  have fita := hL1 a haw
  obtain ⟨q1, hq1, hq2, hq3⟩ := hE1.get ha
  have la := fw.list haw
  have lb := fn.list hbn
  have hkb : ∀ c ∈ b.2, 0 ≤ c.1 ∧ c.1 ≤ 5 := fun c hc => checkM_kind ((listE_0.1 lb).1 c hc)
  have hho : hasE was b.1 = true := hasE_iff.2 ⟨a, haw, hid⟩
  rw [if_neg (by rw [hho]; decide), List.append_nil] at ec
  rw [chgOne_some fw.rise haw hid] at ed
  refine fldI Bl (i := 0) (x := y1.1) rfl ?_
  rw [hy2]
  refine newI fun u4 C1 g4 t6 => stoAll C1 rfl rfl fun u5 C2 g5 t7 => ?_
  have g35 : Fr None u3 u5 := g4.newer g5 fun k e => by omega
  have hz5 := g35.size
  have hzb := Bl.lt
  refine forI (N := 6) (fun s : Int => s) (fun k i u' => i = (k : Int) ∧ (∃ lab sn ss, ChgI u3.heap.size u3.heap.size b.1 (lostJ a.2 b.2 k) a.2 (low k b.2) lab sn ss u') ∧ Fr None u3 u' ∧ u3.heap.size ≤ u'.heap.size)
    ⟨rfl, ⟨fun k => if k = u3.heap.size then 3 else 0, ⟨none, 0, 0⟩, ⟨none, 0, 0⟩, by
      rw [low_zero fun c hc => (hkb c hc).1]
      have : lostJ a.2 b.2 0 = 0 := by unfold lostJ; rw [Nat.pow_zero, Nat.mod_one]; rfl
      rw [this]
      refine ⟨C2, by simp, Own.nil _ _ _ _, Own.nil _ _ _ _, fun k e => ?_⟩
      by_cases hkb : k = u3.heap.size
      · omega
      · exact absurd (if_neg hkb) e⟩, g35, hz5⟩ (fun j s w' h => h.1) ?_ ?_
  · rintro k i' u' K2 hk6 ⟨rfl, ⟨labc, sn, ss, C⟩, fu', hzu'⟩ - hK2
    have fd : Fr None u' u'.drew := (Fr.refl _ _).drew
    have hS1d := hS1.fr0 ((f0u3.then0 fu').then0 fd)
    have Bd := (Bl.fr fu' fun h => h).fr fd fun h => h
    refine hS1d.readK rfl rfl hq1 fun ad had => (had _ hS1d).fld (i := 1) (s := .sl) (y := q1.2) rfl (fldI Bd (i := 1) (x := y1.2) rfl ?_)
    refine spec_r5_Find (hq3.fr0 ((f0u3.then0 fu').then0 fd)) fita.2.1 fun u6 g6 => ?_
    have Bd6 := Bd.fr g6 fun h => h
    refine andI (Bd6.rd (s := .sl) (i := 1) (x := y1.2) rfl) ?_
    refine spec_r5_Find (hy3.fr0 (((f0u3.then0 fu').then0 fd).then0 g6)) fitb.2.1 fun u7 g7 => ?_
    have g07 := (fd.then0 g6).then0 g7
    have C7 := C.fr0 g07
    have f7 := fu'.then0 g07
    have f07 := f0u3.then0 f7
    have hz7 := f7.size
    have B7 := Bd6.fr g7 fun h => h
    have llow := low_le k b.2
    have hsm := fitb.2.1
    have lj := lostJ_le a.2 b.2 k (by omega)
    have lstep := lostJ_step a.2 b.2 hk6
    have hupc : ∀ {x : World}, Fr (Up u3.heap.size) u7 x → Fr None u3 x := fun g => f7.newer g fun k e => e
    have fin : ∀ (u' : World), (∃ lab sn ss, ChgI u3.heap.size u3.heap.size b.1 (lostJ a.2 b.2 (k + 1)) a.2 (low (k + 1) b.2) lab sn ss u') ∧ Fr None u3 u' ∧ u3.heap.size ≤ u'.heap.size → K2 (IntKind.wrap .u8 ((k : Int) + 1)) (fun r w => K r Q w) u' := fun u' ⟨h1, h2, h3⟩ => hK2 _ _ ⟨by rw [wu8 (by omega)]; rfl, h1, h2, h3⟩
    rcases findM_cases a.2 (k : Int) with ⟨ea, na⟩ | ⟨p, ca, ea, hpa, ka⟩
    · have hna := has_not na
      rw [hna] at lstep
      rw [ea]
      have lstep : lostJ a.2 b.2 (k + 1) = lostJ a.2 b.2 k := by simpa using lstep
      refine joinI (fun z x => z = false ∧ x = u7) (condF rfl ⟨rfl, rfl⟩) ?_
      rintro z x ⟨rfl, rfl⟩
      refine joinI (fun (_ : Unit) u' => (∃ lab sn ss, ChgI u3.heap.size u3.heap.size b.1 (lostJ a.2 b.2 (k + 1)) a.2 (low (k + 1) b.2) lab sn ss u') ∧ Fr None u3 u' ∧ u3.heap.size ≤ u'.heap.size) (condF rfl ?_) fun _ u' h => fin u' h
      rcases findM_cases b.2 (k : Int) with ⟨eb, nb⟩ | ⟨q, cb, eb, hpb, kb⟩
      · rw [eb]
        have hl : low (k + 1) b.2 = low k b.2 := low_none nb
        refine joinI (fun z x' => z = false ∧ x' = x) (condT rfl ⟨rfl, rfl⟩) ?_
        rintro z x' ⟨rfl, rfl⟩
        refine joinI (fun (_ : Unit) u' => (∃ lab sn ss, ChgI u3.heap.size u3.heap.size b.1 (lostJ a.2 b.2 (k + 1)) a.2 (low (k + 1) b.2) lab sn ss u') ∧ Fr None u3 u' ∧ u3.heap.size ≤ u'.heap.size) (condF rfl ?_) fun _ u' h => h
        have fd2 : Fr None x' x'.drew := (Fr.refl _ _).drew
        refine joinI (fun z x'' => z = false ∧ x'' = x'.drew) (condF rfl ⟨rfl, rfl⟩) ?_
        rintro z x'' ⟨rfl, rfl⟩
        refine joinI (fun (_ : Unit) u' => (∃ lab sn ss, ChgI u3.heap.size u3.heap.size b.1 (lostJ a.2 b.2 (k + 1)) a.2 (low (k + 1) b.2) lab sn ss u') ∧ Fr None u3 u' ∧ u3.heap.size ≤ u'.heap.size) (condF rfl ?_) fun _ u' h => h
        refine ⟨⟨labc, sn, ss, ?_⟩, f7.then0 fd2, hz7⟩
        rw [lstep, hl]
        exact C7.fr0 fd2
      · rw [eb]
        have hcb := List.mem_of_getElem? hpb
        have hl : low (k + 1) b.2 = low k b.2 ++ [cb] := low_some kb (listE_0.1 lb).2 hcb
        refine joinI (fun z x' => z = true ∧ x' = x) (condT rfl ⟨decide_eq_true (by omega), rfl⟩) ?_
        rintro z x' ⟨rfl, rfl⟩
        have fd2 : Fr None x' x'.drew := (Fr.refl _ _).drew
        have C8 := C7.fr0 fd2
        have B8 := B7.fr fd2 fun h => h
        refine joinI (fun (_ : Unit) u' => (∃ lab sn ss, ChgI u3.heap.size u3.heap.size b.1 (lostJ a.2 b.2 (k + 1)) a.2 (low (k + 1) b.2) lab sn ss u') ∧ Fr None u3 u' ∧ u3.heap.size ≤ u'.heap.size) (condT rfl ?_) fun _ u' h => h
        refine fldI C8.blk (i := 2) (x := sn) rfl (fldI B8 (i := 1) (x := y1.2) rfl ?_)
        refine (hy3.fr0 (f07.then0 fd2)).get rfl rfl (List.getElem?_eq_some_iff.1 hpb).1 fun y hy => ?_
        rw [hpb] at hy
        cases hy
        refine C8.addNew (by show u3.heap.size ≤ x'.heap.size; omega) (findC_not fun c hc => by rw [kb]; exact na c hc) (by omega) fun lab' r' u9 C9 g9 => ⟨⟨lab', r', ss, ?_⟩, (f7.then0 fd2).newer g9 fun k e => e, by have := g9.size; have : x'.drew.heap.size = x'.heap.size := rfl; omega⟩
        rw [lstep, hl]
        exact C9
    · have hca := List.mem_of_getElem? hpa
      rw [has_of hca ka] at lstep
      rw [ea]
      rcases findM_cases b.2 (k : Int) with ⟨eb, nb⟩ | ⟨q, cb, eb, hpb, kb⟩
      · rw [has_not nb] at lstep
        rw [eb]
        have hl : low (k + 1) b.2 = low k b.2 := low_none nb
        have lstep : lostJ a.2 b.2 (k + 1) = lostJ a.2 b.2 k + ((2 ^ k : Nat) : Int) := by simpa using lstep
        refine joinI (fun z x => z = true ∧ x = u7) (condT (decide_eq_true (by omega)) ⟨rfl, rfl⟩) ?_
        rintro z x ⟨rfl, rfl⟩
        refine joinI (fun (_ : Unit) u' => (∃ lab sn ss, ChgI u3.heap.size u3.heap.size b.1 (lostJ a.2 b.2 (k + 1)) a.2 (low (k + 1) b.2) lab sn ss u') ∧ Fr None u3 u' ∧ u3.heap.size ≤ u'.heap.size) (condT rfl ?_) fun _ u' h => fin u' h
        refine fldI C7.blk (i := 1) (x := lostJ a.2 b.2 k) rfl (chkI (by omega) ?_)
        have lj2 := lostJ_le a.2 b.2 (k + 1) (by omega)
        rw [shl_pow hk6, ← lstep, wu8 (by omega)]
        refine C7.setLost fun u9 C9 g9 => ⟨⟨labc, sn, ss, ?_⟩, hupc g9, by have := g9.size; omega⟩
        rw [hl]
        exact C9
      · have hcb := List.mem_of_getElem? hpb
        rw [has_of hcb kb] at lstep
        rw [eb]
        have hl : low (k + 1) b.2 = low k b.2 ++ [cb] := low_some kb (listE_0.1 lb).2 hcb
        have lstep : lostJ a.2 b.2 (k + 1) = lostJ a.2 b.2 k := by simpa using lstep
        refine joinI (fun z x => z = false ∧ x = u7) (condT (decide_eq_true (by omega)) ⟨decide_eq_false (by omega), rfl⟩) ?_
        rintro z x ⟨rfl, rfl⟩
        refine joinI (fun (_ : Unit) u' => (∃ lab sn ss, ChgI u3.heap.size u3.heap.size b.1 (lostJ a.2 b.2 (k + 1)) a.2 (low (k + 1) b.2) lab sn ss u') ∧ Fr None u3 u' ∧ u3.heap.size ≤ u'.heap.size) (condF rfl ?_) fun _ u' h => fin u' h
        refine joinI (fun z x' => z = false ∧ x' = x) (condF (decide_eq_false (by omega)) ⟨rfl, rfl⟩) ?_
        rintro z x' ⟨rfl, rfl⟩
        refine joinI (fun (_ : Unit) u' => (∃ lab sn ss, ChgI u3.heap.size u3.heap.size b.1 (lostJ a.2 b.2 (k + 1)) a.2 (low (k + 1) b.2) lab sn ss u') ∧ Fr None u3 u' ∧ u3.heap.size ≤ u'.heap.size) (condF rfl ?_) fun _ u' h => h
        have fd2 : Fr None x' x'.drew := (Fr.refl _ _).drew
        have hfc := findC_of la hca (by rw [ka, ← kb] : ca.1 = cb.1)
        refine joinI (fun z x'' => z = !decide (ca = cb) ∧ x'' = x'.drew) ?_ ?_
        · have B8 := B7.fr fd2 fun h => h
          have hS1x := hS1.fr0 (f07.then0 fd2)
          refine condT (decide_eq_true (by omega)) (hS1x.readK rfl rfl hq1 fun ad had => (had _ hS1x).fld (i := 1) (s := .sl) (y := q1.2) rfl ?_)
          refine (hq3.fr0 (f07.then0 fd2)).get rfl rfl (List.getElem?_eq_some_iff.1 hpa).1 fun y hy => ?_
          rw [hpa] at hy
          cases hy
          refine fldI B8 (i := 1) (x := y1.2) rfl ((hy3.fr0 (f07.then0 fd2)).get rfl rfl (List.getElem?_eq_some_iff.1 hpb).1 fun y hy => ?_)
          rw [hpb] at hy
          cases hy
          exact neqI eqG_comp (eqV_comp ca cb) ⟨rfl, rfl⟩
        rintro z x'' ⟨rfl, rfl⟩
        refine joinI (fun (_ : Unit) u' => (∃ lab sn ss, ChgI u3.heap.size u3.heap.size b.1 (lostJ a.2 b.2 (k + 1)) a.2 (low (k + 1) b.2) lab sn ss u') ∧ Fr None u3 u' ∧ u3.heap.size ≤ u'.heap.size) ?_ fun _ u' h => h
        refine condI (fun hne => ?_) fun heq => ?_
        · have hne : ca ≠ cb := by simpa using hne
          have fd3 : Fr None x'.drew x'.drew.drew := (Fr.refl _ _).drew
          have f23 := fd2.then0 fd3
          have C8 := C7.fr0 f23
          have B8 := B7.fr f23 fun h => h
          refine fldI C8.blk (i := 3) (x := ss) rfl (fldI B8 (i := 1) (x := y1.2) rfl ?_)
          refine (hy3.fr0 (f07.then0 f23)).get rfl rfl (List.getElem?_eq_some_iff.1 hpb).1 fun y hy => ?_
          rw [hpb] at hy
          cases hy
          refine C8.addSet (by show u3.heap.size ≤ x'.heap.size; omega) (by rw [hfc]; exact ⟨rfl, hne⟩) (by omega) fun lab' r' u9 C9 g9 => ⟨⟨lab', sn, r', ?_⟩, (f7.then0 f23).newer g9 fun k e => e, by have := g9.size; have : x'.drew.drew.heap.size = x'.heap.size := rfl; omega⟩
          rw [lstep, hl]
          exact C9
        · have heq : ca = cb := by simpa using heq
          refine ⟨⟨labc, sn, ss, ?_⟩, f7.then0 fd2, hz7⟩
          rw [lstep, hl]
          exact (C7.fr0 fd2).same (by rw [hfc]; exact ⟨rfl, heq⟩)
  · rintro i' u' ⟨_, ⟨labc, sn, ss, C⟩, fu', hzu'⟩
    rw [low_all fun c hc => (hkb c hc).2, lostJ_all] at C
    have lr := lostM_range a.2 b.2
    have cl1 := C.new.len
    have cl2 := C.set.len
    have cn1 := newM_le a.2 b.2
    have cn2 := chM_le a.2 b.2
    have hsm := fitb.2.1
    refine joinI (fun z x => z = !nothingM (changeM a b) ∧ x = u') ?_ ?_
    · refine fldI C.blk (i := 1) (x := lostM a.2 b.2) rfl (condD (fun h => ⟨?_, rfl⟩) fun h => ?_)
      · unfold nothingM changeM
        simp
        omega
      · refine fldI C.blk (i := 2) (x := sn) rfl (fldI C.blk (i := 3) (x := ss) rfl ⟨?_, rfl⟩)
        rw [w64 (by omega)]
        unfold nothingM changeM
        rw [Bool.eq_iff_iff]
        simp only [decide_eq_true_eq, Bool.not_eq_true', decide_eq_false_iff_not]
        omega
    rintro z x ⟨rfl, rfl⟩
    have e0x := fu'
    refine joinI (fun (_ : Unit) u' => (∃ lab r rc rd, DltI v.heap.size v.heap.size lab r rc rd (goneM was now) (comeM was (now.take (j + 1))) (chgsM was (now.take (j + 1))) u') ∧ Fr None v u' ∧ v.heap.size ≤ u'.heap.size) ?_ fun _ u' h => h
    have D8 := D3.grow (by omega) 5 e0x
    have fv8 := fu3.then0 e0x
    refine condI (fun hn => ?_) fun hn => ?_
    · have hn : nothingM (changeM a b) = false := by simpa using hn
      rw [if_neg (by rw [hn]; decide)] at ed
      refine fldI D8.blk (i := 2) (x := r.2.2) rfl (aggI C.blk (x := ((b.1, lostM a.2 b.2, sn, ss) : ChgRaw)) rfl ?_)
      refine D8.addChg (by omega) (by omega) (d := changeM a b) (t := (b.1, lostM a.2 b.2, sn, ss)) ⟨rfl, rfl, ?_, ?_⟩ fun lab'' r' u6 D6 g6 => ?_
      · exact C.new.sl.mono fun q hq e => relab_new (by have := C.up q (by omega); omega) hq
      · exact C.set.sl.mono fun q hq e => relab_new (by have := C.up q (by omega); omega) hq
      · have hz6 := g6.size
        refine ⟨⟨lab'', r', rc, rd ++ [(b.1, lostM a.2 b.2, sn, ss)], ?_⟩, hup fv8 g6, by omega⟩
        rw [ec, ed]
        exact D6
    · have hn : nothingM (changeM a b) = true := by simpa using hn
      rw [if_pos hn] at ed
      refine ⟨⟨relab lab u3.heap.size x.heap.size 5, r, rc, rd, ?_⟩, fv8, by omega⟩
      rw [ec, ed, List.append_nil]
      exact D8

end Go.Proofs.YtchhhjlpnecjkaaGreat
