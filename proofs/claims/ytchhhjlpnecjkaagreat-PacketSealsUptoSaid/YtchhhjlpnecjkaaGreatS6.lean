/-
  What the proof of packetSeals_holds leans on, laid together by a program of this session (wip/pack.py) out of its own texts; the last of these texts holds packetSeals_holds.
-/
import Derived.Test.YtchhhjlpnecjkaaGreatS5
set_option linter.unusedVariables false
namespace Go.Proofs.YtchhhjlpnecjkaaGreat
open Go Go.RowKit Go.Proofs.YtchhhjlpnecjkaaGreat.Den
theorem mkC_ok {k : Int} (hk : 0 ≤ k ∧ k ≤ 255) {vs : List Int} (h : ∀ v ∈ vs, -2147483648 ≤ v ∧ v ≤ 2147483647) : CompOk (mkC k vs) := by
  have g : ∀ i : Nat, i32 (vs.getD i 0) := fun i => by
    rw [List.getD_eq_getElem?_getD]
    cases hi : vs[i]? with
    | none => exact ⟨by decide, by decide⟩
    | some v => exact h v (List.mem_of_getElem? hi)
  exact ⟨hk, g 0, g 1, g 2⟩
theorem compD_ok {k : Int} (hk : 0 ≤ k ∧ k ≤ 255) {L : List Bool} {c : Comp} {r : List Bool} (h : compD k L = some (c, r)) : CompOk c := by
  unfold compD at h
  split at h
  · cases h
  · cases hr : readF k (List.range (cntM k)) L with
    | none => rw [hr] at h; cases h
    | some q =>
      obtain ⟨vs, L3⟩ := q
      rw [hr] at h
      cases h
      refine mkC_ok hk fun v hv => ?_
      obtain ⟨_, a2, a3⟩ := readF_len k _ hr
      obtain ⟨j, hj⟩ := List.mem_iff_getElem?.1 hv
      have hjl := (List.getElem?_eq_some_iff.1 hj).1
      have hj2 : (List.range (cntM k))[j]? = some j := by
        rw [List.getElem?_range]
        rw [List.length_range] at a2
        omega
      have := a3 j j v hj2 hj
      obtain ⟨r1, r2⟩ := rangeM_i32 k (j : Int)
      omega
theorem movedD_ok {was : Comp} (hw : CompOk was) {i : Nat} {L : List Bool} {v : Int} {r : List Bool} (h : movedD was i L = some (v, r)) : -2147483648 ≤ v ∧ v ≤ 2147483647 := by
  obtain ⟨r1, r2⟩ := rangeM_i32 was.1 (i : Int)
  have hf := flI hw i
  unfold movedD at h
  cases h1 : getN 1 L with
  | none => rw [h1] at h; cases h
  | some p =>
    obtain ⟨b, L1⟩ := p
    rw [h1] at h
    dsimp only at h
    split at h
    · cases h; exact hf
    · cases h2 : getN 1 L1 with
      | none => rw [h2] at h; cases h
      | some p =>
        obtain ⟨b2, L2⟩ := p
        rw [h2] at h
        dsimp only at h
        split at h
        · cases h3 : getIn (rangeM was.1 (i : Int)).1 (rangeM was.1 (i : Int)).2.1 L2 with
          | none => rw [h3] at h; cases h
          | some p =>
            obtain ⟨n, L3⟩ := p
            rw [h3] at h
            have a3 := (getIn_len h3).2
            dsimp only at h
            split at h
            · cases h
            · cases h; omega
        · cases h3 : getN 4 L2 with
          | none => rw [h3] at h; cases h
          | some p =>
            obtain ⟨n, L3⟩ := p
            rw [h3] at h
            dsimp only at h
            split at h
            · cases h
            · cases h; omega
theorem stepDec_ok {was c : Comp} (hw : CompOk was) {L r : List Bool} (h : stepDec was L = some (c, r)) : CompOk c := by
  have rs : ∀ (is : List Nat) {L : List Bool} {vs : List Int} {r : List Bool}, readS was is L = some (vs, r) → ∀ v ∈ vs, -2147483648 ≤ v ∧ v ≤ 2147483647 := by
    intro is
    induction is with
    | nil => intro L vs r h v hv; rw [readS] at h; cases h; cases hv
    | cons i is ih =>
      intro L vs r h v hv
      rw [readS] at h
      cases h1 : movedD was i L with
      | none => rw [h1] at h; cases h
      | some p =>
        obtain ⟨x, L2⟩ := p
        rw [h1] at h
        dsimp only at h
        cases h2 : readS was is L2 with
        | none => rw [h2] at h; cases h
        | some q =>
          obtain ⟨vs2, L3⟩ := q
          rw [h2] at h
          cases h
          rcases List.mem_cons.1 hv with rfl | hv
          · exact movedD_ok hw h1
          · exact ih h2 v hv
  unfold stepDec at h
  split at h
  · cases h
  · cases hr : readS was (List.range (cntM was.1)) L with
    | none => rw [hr] at h; cases h
    | some q =>
      obtain ⟨vs2, L3⟩ := q
      rw [hr] at h
      cases h
      exact mkC_ok hw.1 (rs _ hr)
theorem kindsOf_ok {m : Nat} {k : Int} (h : k ∈ kindsOf m) : 0 ≤ k ∧ k ≤ 255 := by
  have e : kindsOf m = kindsB m 6 := rfl
  rw [e] at h
  obtain ⟨j, hj, rfl⟩ := List.mem_map.1 h
  have := List.mem_range.1 (List.mem_filter.1 hj).1
  omega
theorem kindsOf_5 {m : Nat} (hm : m < 32) : (kindsOf m).length ≤ 5 := by rw [← kindsB_all hm]; exact kindsB_le m 5
theorem getN_lt {n : Nat} {L : List Bool} {v : Nat} {r : List Bool} (h : getN n L = some (v, r)) : v < 2 ^ n := by
  unfold getN at h
  split at h
  · rename_i hn
    cases h
    have := valB_lt' (L.take n)
    rw [List.length_take, Nat.min_eq_left hn] at this
    exact this
  · cases h
theorem comps_fit {m : Nat} (hm : m < 32) {L : List Bool} {cs : List Comp} {r : List Bool} (h : compsD (kindsOf m) L = some (cs, r)) : cs.length ≤ 5 ∧ ∀ c ∈ cs, CompOk c := by
  obtain ⟨_, h2, h3⟩ := compsD_len _ h
  have hl : cs.length = (kindsOf m).length := by rw [← h2, List.length_map]
  refine ⟨by have := kindsOf_5 hm; omega, fun c hc => ?_⟩
  obtain ⟨L1, L2, h4⟩ := h3 c hc
  exact compD_ok (kindsOf_ok (h2 ▸ List.mem_map_of_mem hc)) h4
theorem entD_fit {last : Int} {L : List Bool} {e : Ent} {r : List Bool} (h : entD last L = some (e, r)) : EntFit e ∧ e.2.length ≤ 5 := by
  unfold entD at h
  cases h1 : idDec last L with
  | none => rw [h1] at h; cases h
  | some p =>
    obtain ⟨id, L1⟩ := p
    rw [h1] at h
    dsimp only at h
    cases h2 : getN 5 L1 with
    | none => rw [h2] at h; cases h
    | some p =>
      obtain ⟨m, L2⟩ := p
      rw [h2] at h
      dsimp only at h
      cases h3 : compsD (kindsOf m) L2 with
      | none => rw [h3] at h; cases h
      | some p =>
        obtain ⟨cs, L3⟩ := p
        rw [h3] at h
        cases h
        obtain ⟨a1, a2⟩ := comps_fit (getN_lt h2) h3
        exact ⟨⟨idDec_ok h1, by show cs.length ≤ _; omega, a2⟩, a1⟩
theorem ents_fit {L : List Bool} {l : List Ent} {r : List Bool} (h : entsD L = some (l, r)) : (∀ e ∈ l, EntFit e ∧ e.2.length ≤ 5) ∧ r.length + 10 * l.length ≤ L.length := by
  unfold entsD at h
  cases h1 : getVar L with
  | none => rw [h1] at h; cases h
  | some p =>
    obtain ⟨n, L1⟩ := p
    rw [h1] at h
    obtain ⟨a1, a2, a3⟩ := repD_len (fun _ _ _ _ h => entD_len h) _ _ h
    have := varD_len _ _ _ h1
    refine ⟨fun e he => ?_, by rw [a1]; omega⟩
    obtain ⟨last, L2, L3, h4⟩ := a3 e he
    exact entD_fit h4
theorem chgD_fit {was : List Ent} (hL : ∀ e ∈ was, EntFit e) {last : Int} {L : List Bool} {d : Chg} {r : List Bool} (h : chgD was last L = some (d, r)) : ChgSm d := by
  unfold chgD at h
  cases h1 : idDec last L with
  | none => rw [h1] at h; cases h
  | some p =>
    obtain ⟨id, L1⟩ := p
    rw [h1] at h
    dsimp only at h
    cases h2 : getN 5 L1 with
    | none => rw [h2] at h; cases h
    | some p =>
      obtain ⟨lost, L2⟩ := p
      rw [h2] at h
      dsimp only at h
      cases h3 : getN 5 L2 with
      | none => rw [h3] at h; cases h
      | some p =>
        obtain ⟨fr, L3⟩ := p
        rw [h3] at h
        dsimp only at h
        cases h4 : getN 5 L3 with
        | none => rw [h4] at h; cases h
        | some p =>
          obtain ⟨st, L4⟩ := p
          rw [h4] at h
          dsimp only at h
          cases h5 : compsD (kindsOf fr) L4 with
          | none => rw [h5] at h; cases h
          | some p =>
            obtain ⟨ns, L5⟩ := p
            rw [h5] at h
            dsimp only at h
            cases h6 : setsD was id (kindsOf st) L5 with
            | none => rw [h6] at h; cases h
            | some p =>
              obtain ⟨ss, L6⟩ := p
              rw [h6] at h
              cases h
              have b1 : lost < 32 := getN_lt h2
              obtain ⟨a1, a2⟩ := comps_fit (getN_lt h3) h5
              obtain ⟨_, c2, c3⟩ := setsD_len _ _ _ h6
              have hl : ss.length = (kindsOf st).length := by rw [← c2, List.length_map]
              have := kindsOf_5 (getN_lt h4)
              refine ⟨⟨by show (0 : Int) ≤ (lost : Int); omega, by show (lost : Int) ≤ 255; omega⟩, by show ns.length ≤ 9; omega, by show ss.length ≤ _; omega, a2, fun c hc => ?_⟩
              obtain ⟨M1, M2, hs⟩ := c3 c hc
              exact stepDec_ok (oldM_ok hL _ _) hs
theorem delta_fit {was : List Ent} (hL : ∀ e ∈ was, EntFit e) {L : List Bool} {d : Delta} {r : List Bool} (h : deltaD was L = some (d, r)) : d.1.length ≤ L.length ∧ (∀ e ∈ d.2.1, EntFit e ∧ e.2.length ≤ 5) ∧ 10 * d.2.1.length ≤ L.length ∧ d.2.2.length ≤ L.length ∧ ∀ x ∈ d.2.2, ChgSm x := by
  unfold deltaD at h
  cases h1 : goneD L with
  | none => rw [h1] at h; cases h
  | some p =>
    obtain ⟨g, L1⟩ := p
    rw [h1] at h
    dsimp only at h
    cases h2 : entsD L1 with
    | none => rw [h2] at h; cases h
    | some p =>
      obtain ⟨c, L2⟩ := p
      rw [h2] at h
      dsimp only at h
      cases h3 : chgsD was L2 with
      | none => rw [h3] at h; cases h
      | some p =>
        obtain ⟨ds, L3⟩ := p
        rw [h3] at h
        cases h
        have a1 : L1.length + 5 * g.length ≤ L.length := by
          unfold goneD at h1
          cases hv : getVar L with
          | none => rw [hv] at h1; cases h1
          | some p =>
            obtain ⟨n, M⟩ := p
            rw [hv] at h1
            obtain ⟨b1, b2, _⟩ := repD_len (fun _ _ _ _ h => idDec_len h) _ _ h1
            have := varD_len _ _ _ hv
            rw [b1]
            omega
        obtain ⟨a2, a3⟩ := ents_fit h2
        unfold chgsD at h3
        cases hv : getVar L2 with
        | none => rw [hv] at h3; cases h3
        | some p =>
          obtain ⟨n, M⟩ := p
          rw [hv] at h3
          obtain ⟨b1, b2, b3⟩ := repD_len (fun _ _ _ _ h => chgD_len h) _ _ h3
          have := varD_len _ _ _ hv
          refine ⟨by show g.length ≤ _; omega, a2, by show 10 * c.length ≤ _; omega, by show ds.length ≤ _; rw [b1]; omega, fun x hx => ?_⟩
          obtain ⟨last, M1, M2, hx⟩ := b3 x hx
          exact chgD_fit hL hx
end Go.Proofs.YtchhhjlpnecjkaaGreat
namespace Go.Proofs.YtchhhjlpnecjkaaGreat
open Go Go.RowKit Go.Proofs.YtchhhjlpnecjkaaGreat.Den
variable {R : Type} {Q : R → World → Prop} {w : World}
def low (j : Nat) (l : List Comp) : List Comp := l.filter fun c => decide (c.1 < (j : Int))
theorem low_none {j : Nat} {l : List Comp} (h : ∀ c ∈ l, c.1 ≠ (j : Int)) : low (j + 1) l = low j l := by
  unfold low
  refine List.filter_congr fun c hc => ?_
  have := h c hc
  rw [decide_eq_decide]
  omega
theorem low_some {j : Nat} {c0 : Comp} (e : c0.1 = (j : Int)) : ∀ {l : List Comp}, Rising (l.map (·.1)) → c0 ∈ l → low (j + 1) l = low j l ++ [c0]
  | [], _, hc => by cases hc
  | c :: r, hr, hc => by
    obtain ⟨h1, h2⟩ := List.pairwise_cons.1 hr
    rcases List.mem_cons.1 hc with hcc | hcc
    · subst hcc
      have key : ∀ m, m ≤ j + 1 → low m r = [] := fun m hm => by
        unfold low
        rw [List.filter_eq_nil_iff]
        intro x hx
        have : c0.1 < x.1 := h1 x.1 (List.mem_map.2 ⟨x, hx, rfl⟩)
        simp
        omega
      have e1 : low (j + 1) (c0 :: r) = c0 :: low (j + 1) r := by
        unfold low
        rw [List.filter_cons_of_pos (by simp; omega)]
      have e2 : low j (c0 :: r) = low j r := by
        unfold low
        rw [List.filter_cons_of_neg (by simp; omega)]
      rw [e1, e2, key _ (Nat.le_refl _), key _ (by omega)]
      rfl
    · have : c.1 < c0.1 := h1 c0.1 (List.mem_map.2 ⟨c0, hcc, rfl⟩)
      have e1 : ∀ m, j ≤ m → low m (c :: r) = c :: low m r := fun m hm => by
        unfold low
        rw [List.filter_cons_of_pos (by simp; omega)]
      rw [e1 _ (by omega), e1 _ (Nat.le_refl _), low_some e h2 hcc]
      rfl
theorem low_zero {l : List Comp} (h : ∀ c ∈ l, 0 ≤ c.1) : low 0 l = [] := by
  unfold low
  rw [List.filter_eq_nil_iff]
  intro x hx
  have := h x hx
  simp
  omega
theorem low_all {l : List Comp} (h : ∀ c ∈ l, c.1 ≤ 5) : low 6 l = l := by
  unfold low
  rw [List.filter_eq_self]
  intro x hx
  have := h x hx
  simp
  omega
theorem low_le (j : Nat) (l : List Comp) : (low j l).length ≤ l.length := List.length_filter_le _ _
theorem findM_cases (l : List Comp) (k : Int) : (findM l k = -1 ∧ ∀ c ∈ l, c.1 ≠ k) ∨ ∃ (q : Nat) (c : Comp), findM l k = (q : Int) ∧ l[q]? = some c ∧ c.1 = k := by
  unfold findM
  split
  · rename_i i hi
    rw [List.findIdx?_eq_some_iff_getElem] at hi
    obtain ⟨hl, he, _⟩ := hi
    exact .inr ⟨i, l[i], rfl, List.getElem?_eq_getElem hl, by simpa using he⟩
  · rename_i hn
    rw [List.findIdx?_eq_none_iff] at hn
    exact .inl ⟨rfl, fun c hc => by simpa using hn c hc⟩
theorem findC_of {l : List Comp} (h : listE l = 0) {c : Comp} (hc : c ∈ l) {k : Int} (e : c.1 = k) : findC l k = (c, true) := by
  by_cases hf : (findC l k).2 = true
  · obtain ⟨h1, h2⟩ := findC_some hf
    have := kind_one h h1 hc (by rw [h2, e])
    exact Prod.ext this hf
  · exact absurd e (findC_none (by simpa using hf) c hc)
theorem findC_not {l : List Comp} {k : Int} (h : ∀ c ∈ l, c.1 ≠ k) : (findC l k).2 = false := by
  refine Classical.byContradiction fun hn => ?_
  obtain ⟨h1, h2⟩ := findC_some (l := l) (k := k) (by simpa using hn)
  exact h _ h1 h2
theorem has_of {l : List Comp} {j : Nat} {c : Comp} (hc : c ∈ l) (e : c.1 = (j : Int)) : has l j = true := has_mem.2 ⟨c, hc, e⟩
theorem has_not {l : List Comp} {j : Nat} (h : ∀ c ∈ l, c.1 ≠ (j : Int)) : has l j = false := by
  refine Classical.byContradiction fun hn => ?_
  obtain ⟨c, h1, h2⟩ := has_mem.1 (by simpa using hn)
  exact h c h1 h2
def lostJ (a b : List Comp) (j : Nat) : Int := (((lostM a b).toNat % 2 ^ j : Nat) : Int)
theorem lostJ_le (a b : List Comp) (j : Nat) (hj : j ≤ 6) : 0 ≤ lostJ a b j ∧ lostJ a b j < 64 := by
  unfold lostJ
  have h1 : (lostM a b).toNat % 2 ^ j < 2 ^ j := Nat.mod_lt _ (Nat.two_pow_pos j)
  have h2 : 2 ^ j ≤ 2 ^ 6 := Nat.pow_le_pow_right (by decide) hj
  omega
theorem lostJ_step (a b : List Comp) {j : Nat} (hj : j < 6) : lostJ a b (j + 1) = lostJ a b j + if (has a j && !has b j) = true then ((2 ^ j : Nat) : Int) else 0 := by
  have h := lost_bit a b hj
  rw [Nat.testBit_eq_decide_div_mod_eq] at h
  unfold lostJ
  rw [Nat.mod_pow_succ, ← h]
  generalize (lostM a b).toNat / 2 ^ j = q
  rcases Nat.mod_two_eq_zero_or_one q with e | e
  · rw [e]; simp
  · rw [e]; simp
theorem lostM_lt (a b : List Comp) : (lostM a b).toNat < 64 := by
  have h1 := maskN_lt a
  have e : (lostM a b).toNat = (BitVec.ofInt 8 (maskN a : Int) &&& ~~~BitVec.ofInt 8 (maskN b : Int)).toNat := by
    unfold lostM bNot
    have := (BitVec.ofInt 8 (maskN a : Int) &&& ~~~BitVec.ofInt 8 (maskN b : Int)).isLt
    show (IntKind.wrap .u8 ((BitVec.ofInt 8 (maskN a : Int) &&& ~~~BitVec.ofInt 8 (maskN b : Int)).toNat : Int)).toNat = _
    rw [wu8 (by omega), Int.toNat_natCast]
  rw [e, BitVec.toNat_and]
  refine Nat.lt_of_le_of_lt Nat.and_le_left ?_
  rw [BitVec.toNat_ofInt]
  omega
theorem lostJ_all (a b : List Comp) : lostJ a b 6 = lostM a b := by
  have h1 := lostM_lt a b
  have h2 := (lostM_range a b).1
  unfold lostJ
  rw [Nat.mod_eq_of_lt (by simpa using h1)]
  omega
theorem shl_pow {j : Nat} (hj : j < 6) : shL .u8 1 (j : Int) = ((2 ^ j : Nat) : Int) := by
  have : j = 0 ∨ j = 1 ∨ j = 2 ∨ j = 3 ∨ j = 4 ∨ j = 5 := by omega
  rcases this with rfl | rfl | rfl | rfl | rfl | rfl <;> rfl
theorem findE_has {L : List Ent} {id : Int} : (findE L id = -1 ∧ hasE L id = false) ∨ ∃ (i : Nat) (e : Ent), findE L id = (i : Int) ∧ L[i]? = some e ∧ e.1 = id := by
  unfold findE
  split
  · rename_i i hi
    rw [List.findIdx?_eq_some_iff_getElem] at hi
    obtain ⟨hl, he, _⟩ := hi
    exact .inr ⟨i, L[i], rfl, List.getElem?_eq_getElem hl, by simpa using he⟩
  · rename_i hn
    rw [List.findIdx?_eq_none_iff] at hn
    exact .inl ⟨rfl, hasE_not.2 fun e he => by simpa using hn e he⟩
section
variable {n bd : Nat} {id lost : Int} {a l : List Comp} {lab : Nat → Nat} {sn ss : Sl} {c : Comp}
theorem ChgI.addNew (h : ChgI n bd id lost a l lab sn ss w) (hn : n ≤ w.heap.size) (hf : (findC a c.1).2 = false) (hl : l.length < 2097152) {K : W R} (hk : ∀ lab' r w', ChgI n bd id lost a (l ++ [c]) lab' r ss w' → Fr (Up n) w w' → K Q w') :
    newW 92 [.int .u8 c.1, .int .i32 c.2.1, .int .i32 c.2.2.1, .int .i32 c.2.2.2] (fun x => rawW Tryz.prog (Builtin.append_ #[55, 55] 55 #[.slice sn.a sn.n sn.c, .slice (some x) 1 1]) [.sc .sl] fun (z : Sl) => stoL (Addr.add ⟨bd, 0, none⟩ 2) [.slice z.a z.n z.c] 0 K) Q w := by
  have l1 := newM_le a l
  refine appLab (x := c) comps_ty rfl h.new (by omega) (by omega) fun r w1 o1 f1 => ?_
  have B1 := h.blk.fr f1 fun e => by have := h.lb; omega
  rw [add_lit]
  refine setI (i := 2) B1 (by simp) rfl fun w2 B2 f2 s2 => ?_
  have z1 := f1.size
  have nb : ∀ k, relab lab w.heap.size w1.heap.size 1 k ≠ 3 → k ≠ bd := fun k e e2 => by
    subst e2
    rw [relab_lt h.blk.lt] at e
    exact e h.lb
  refine hk (relab lab w.heap.size w1.heap.size 1) r w2 ⟨B2, ?_, ?_, ?_, fun k e => ?_⟩ ?_
  · rw [relab_lt h.blk.lt]; exact h.lb
  · rw [newM_snoc, if_pos hf]
    exact o1.fr f2 fun k e => nb k (by omega)
  · rw [chM_snoc, if_neg (by simp [hf]), List.append_nil]
    have := St.other (A := fun F w => Own F w 92 compT ss (chM a l)) Own.st (c := 1) h.set f1 (by decide)
    exact this.fr f2 fun k e => nb k (by omega)
  · rcases relab_ne e with e | e
    · have := h.up k e.1; omega
    · omega
  · exact (f1.sub fun k e => (h.up k (by omega)).1).then (f2.sub fun k e => by rw [e]; exact (h.up bd (by rw [h.lb]; decide)).1)
theorem ChgI.addSet (h : ChgI n bd id lost a l lab sn ss w) (hn : n ≤ w.heap.size) (hf : (findC a c.1).2 = true ∧ (findC a c.1).1 ≠ c) (hl : l.length < 2097152) {K : W R} (hk : ∀ lab' r w', ChgI n bd id lost a (l ++ [c]) lab' sn r w' → Fr (Up n) w w' → K Q w') :
    newW 92 [.int .u8 c.1, .int .i32 c.2.1, .int .i32 c.2.2.1, .int .i32 c.2.2.2] (fun x => rawW Tryz.prog (Builtin.append_ #[55, 55] 55 #[.slice ss.a ss.n ss.c, .slice (some x) 1 1]) [.sc .sl] fun (z : Sl) => stoL (Addr.add ⟨bd, 0, none⟩ 3) [.slice z.a z.n z.c] 0 K) Q w := by
  have l1 := chM_le a l
  refine appLab (x := c) comps_ty rfl h.set (by omega) (by omega) fun r w1 o1 f1 => ?_
  have B1 := h.blk.fr f1 fun e => by have := h.lb; omega
  rw [add_lit]
  refine setI (i := 3) B1 (by simp) rfl fun w2 B2 f2 s2 => ?_
  have z1 := f1.size
  have nb : ∀ k, relab lab w.heap.size w1.heap.size 2 k ≠ 3 → k ≠ bd := fun k e e2 => by
    subst e2
    rw [relab_lt h.blk.lt] at e
    exact e h.lb
  refine hk (relab lab w.heap.size w1.heap.size 2) r w2 ⟨B2, ?_, ?_, ?_, fun k e => ?_⟩ ?_
  · rw [relab_lt h.blk.lt]; exact h.lb
  · rw [newM_snoc, if_neg (by simp [hf.1]), List.append_nil]
    have := St.other (A := fun F w => Own F w 92 compT sn (newM a l)) Own.st (c := 2) h.new f1 (by decide)
    exact this.fr f2 fun k e => nb k (by omega)
  · rw [chM_snoc, if_pos hf]
    exact o1.fr f2 fun k e => nb k (by omega)
  · rcases relab_ne e with e | e
    · have := h.up k e.1; omega
    · omega
  · exact (f1.sub fun k e => (h.up k (by omega)).1).then (f2.sub fun k e => by rw [e]; exact (h.up bd (by rw [h.lb]; decide)).1)
theorem ChgI.same (h : ChgI n bd id lost a l lab sn ss w) (hf : (findC a c.1).2 = true ∧ (findC a c.1).1 = c) : ChgI n bd id lost a (l ++ [c]) lab sn ss w := by
  refine ⟨h.blk, h.lb, ?_, ?_, h.up⟩
  · rw [newM_snoc, if_neg (by simp [hf.1]), List.append_nil]; exact h.new
  · rw [chM_snoc, if_neg (fun h => h.2 hf.2), List.append_nil]; exact h.set
theorem ChgI.setLost (h : ChgI n bd id lost a l lab sn ss w) {x : Int} {K : W R} (hk : ∀ w', ChgI n bd id x a l lab sn ss w' → Fr (Up n) w w' → K Q w') : stoL (Addr.add ⟨bd, 0, none⟩ 1) [.int .u8 x] 0 K Q w := by
  rw [add_lit]
  refine setI (i := 1) h.blk (by simp) rfl fun w2 B2 f2 s2 => ?_
  have nb : ∀ {i : Nat}, i ≠ 3 → ∀ k, lab k = i → ¬ k = bd := fun hi k e e2 => by subst e2; have := h.lb; omega
  refine hk w2 ⟨B2, h.lb, h.new.fr f2 (nb (by decide)), h.set.fr f2 (nb (by decide)), fun k e => ?_⟩ (f2.sub fun k e => by rw [e]; exact (h.up bd (by rw [h.lb]; decide)).1)
  have := h.up k e; omega
end
theorem spec_r18_Find {ok : Nat → Prop} {s : Sl} {raws : List (Int × Sl)} {L : List Ent} (hS : SlT ok w entT s raws) (hE : EntsR ok w raws L) (hm : L.length ≤ 9223372036854775807) {id : Int} {K : Res [.sc (.int .i64)] → W R} (hk : ∀ w', Fr None w w' → K (findE L id) Q w') :
    callW Tryz.prog k_pinnaceref18_Find [.slice s.a s.n s.c, .int .u32 id] [.sc (.int .i64)] K Q w := by
  refine C_pinnaceref18_Find s id K Q w ?_
  unfold F_pinnaceref18_Find
  have hlen := hS.len
  have hel := hE.len
  refine forI (N := s.n) (fun s : Int => s) (fun j i w' => i = (j : Int) ∧ Fr None w w' ∧ ∀ (q : Nat) e, q < j → L[q]? = some e → e.1 ≠ id) ⟨rfl, Fr.refl _ _, fun q e h => absurd h (by omega)⟩ (fun j s w' h => h.1) ?_ ?_
  · rintro j i w1 K' hj ⟨rfl, f1, hno⟩ - hK
    obtain ⟨e, he⟩ : ∃ e, L[j]? = some e := ⟨_, List.getElem?_eq_getElem (by omega)⟩
    obtain ⟨r1, hr1, ha1, _⟩ := hE.get he
    refine (hS.fr0 f1).get rfl rfl (by omega) fun y hy => ?_
    rw [hr1] at hy
    cases hy
    refine newI fun w2 B2 f2 s2 => stoAll B2 rfl rfl fun w3 B3 f3 s3 => fldI B3 (i := 0) (x := r1.1) rfl ?_
    have f13 : Fr None w1 w3 := f2.newer f3 fun k e => by omega
    refine condE (fun h => ?_) fun h => ?_
    · have : L.findIdx? (fun e => e.1 == id) = some j := by
        rw [List.findIdx?_eq_some_iff_getElem]
        obtain ⟨hl, hg⟩ := List.getElem?_eq_some_iff.1 he
        refine ⟨hl, by rw [hg, ← ha1]; simpa using h, fun q hq => ?_⟩
        have := hno q _ hq (List.getElem?_eq_getElem (by omega))
        simpa using this
      have e := hk w3 (f1.then0 f13)
      rw [findE, this] at e
      exact e
    · refine hK _ _ ⟨wsucc hj (by omega), f1.then0 f13, fun q y hq hy => ?_⟩
      rcases Nat.lt_succ_iff_lt_or_eq.1 hq with h1 | h1
      · exact hno q y h1 hy
      · subst h1; rw [he] at hy; cases hy; rw [← ha1]; exact h
  · rintro i w1 ⟨rfl, f1, hno⟩
    have e := hk w1 f1
    rw [findE_none fun q e he => hno q e (by have := (List.getElem?_eq_some_iff.1 he).1; omega) he] at e
    exact e
end Go.Proofs.YtchhhjlpnecjkaaGreat
namespace Go.Proofs.YtchhhjlpnecjkaaGreat
open Go Go.RowKit Go.Proofs.YtchhhjlpnecjkaaGreat.Den
variable {R : Type} {Q : R → World → Prop} {w : World}
theorem spec_r19_Diff {ok1 ok2 : Nat → Prop} {s1 s2 : Sl} {raws1 raws2 : List (Int × Sl)} {was now : List Ent} (hS1 : SlT ok1 w entT s1 raws1) (hE1 : EntsR ok1 w raws1 was) (hS2 : SlT ok2 w entT s2 raws2) (hE2 : EntsR ok2 w raws2 now)
    (hm1 : was.length ≤ 1048576) (hm2 : now.length ≤ 1048576) (hL1 : ∀ e ∈ was, EntFit e) (hL2 : ∀ e ∈ now, EntFit e) {K : Res [.agg [.sl, .sl, .sl], .sc (.int .i64)] → W R}
    (hbad : diffE was now ≠ 0 → ∀ w', Fr None w w' → K ((⟨none, 0, 0⟩, ⟨none, 0, 0⟩, ⟨none, 0, 0⟩), diffE was now) Q w')
    (hk : diffE was now = 0 → ∀ r w', DltR (Up w.heap.size) w' r (goneM was now) (comeM was now) (chgsM was now) → Fr None w w' → K (r, 0) Q w') :
    callW Tryz.prog k_pinnaceref19_Diff [.slice s1.a s1.n s1.c, .slice s2.a s2.n s2.c] [.agg [.sl, .sl, .sl], .sc (.int .i64)] K Q w := by
  refine C_pinnaceref19_Diff s1 s2 K Q w ?_
  unfold F_pinnaceref19_Diff
  have l1 := hS1.len.trans hE1.len
  have l2 := hS2.len.trans hE2.len
  have fit : ∀ {e : Ent}, EntFit e → IdOk e.1 ∧ e.2.length ≤ 9223372036854775807 ∧ ∀ c ∈ e.2, CompOk c := fun h => ⟨h.1, by have := h.2.1; omega, h.2.2⟩
  refine newI fun w1 B1 f1 t1 => spec_r18_Form (hS1.fr0 f1) (hE1.fr f1 fun _ _ h => h) (by omega) (fun e he => fit (hL1 e he)) fun w2 f2 => ?_
  rw [← form_same was 0 true fun _ => rfl]
  have B2 := B1.fr f2 fun h => h
  have f02 := f1.then0 f2
  have zz2 := f2.size
  refine condN (fun h => ?_) fun z1 => ?_
  · refine stoAll B2 rfl rfl fun v3 B3 g3 t3 => aggI B3 (x := ((⟨none, 0, 0⟩, ⟨none, 0, 0⟩, ⟨none, 0, 0⟩) : DRaw)) rfl ?_
    have e : diffE was now = formM 0 was := if_pos h
    rw [← e]
    exact hbad (by rw [e]; exact h) v3 (f02.newer g3 fun k e => by omega)
  refine spec_r18_Form (hS2.fr0 f02) (hE2.fr f02 fun _ _ h => h) (by omega) (fun e he => fit (hL2 e he)) fun v f3 => ?_
  rw [← form_same now 0 true fun _ => rfl]
  have BX0 := B2.fr f3 fun h => h
  have f0v := f02.then0 f3
  have zz3 := f3.size
  refine condN (fun h => ?_) fun z2 => ?_
  · refine stoAll BX0 rfl rfl fun v3 B3 g3 t3 => aggI B3 (x := ((⟨none, 0, 0⟩, ⟨none, 0, 0⟩, ⟨none, 0, 0⟩) : DRaw)) rfl ?_
    have e : diffE was now = formM 0 now := if_neg (by rw [z1]; simp)
    rw [← e]
    exact hbad (by rw [e]; exact h) v3 (f0v.newer g3 fun k e => by omega)
  have hE0 : diffE was now = 0 := by unfold diffE; rw [if_neg (by rw [z1]; simp)]; exact z2
  have hk := hk hE0
  have fw := formOk.1 z1
  have fn := formOk.1 z2
  refine newI fun v1 B3 g1 t3 => ?_
  have hz1 := g1.size
  have hup : ∀ {a b : World}, Fr None v a → Fr (Up v.heap.size) a b → Fr None v b := fun f g => f.newer g fun k e => e
  refine forI (N := s1.n) (fun s : Int => s) (fun j i u => i = (j : Int) ∧ (∃ lab r, DltI v.heap.size v.heap.size lab r [] [] (goneM (was.take j) now) [] [] u) ∧ Fr None v u ∧ v.heap.size ≤ u.heap.size)
    ⟨rfl, ⟨fun k => if k = v.heap.size then 6 else 0, (⟨none, 0, 0⟩, ⟨none, 0, 0⟩, ⟨none, 0, 0⟩), B3, by simp, Own.nil _ _ _ _, Own.nil _ _ _ _, EntsR.nil _ _, Own.nil _ _ _ _, All2.nil _, fun k e => by
      by_cases hkb : k = v.heap.size
      · omega
      · exact absurd (if_neg hkb) e⟩, g1, by omega⟩ (fun j s w' h => h.1) ?_ ?_
  ·
    rintro j i u K' hj ⟨rfl, ⟨lab, r, D⟩, fu, hzu⟩ - hK
    obtain ⟨a, ha⟩ : ∃ a, was[j]? = some a := ⟨_, List.getElem?_eq_getElem (by omega)⟩
    obtain ⟨q1, hq1, hq2, _⟩ := hE1.get ha
    have f0u := f0v.then0 fu
    refine (hS1.fr0 f0u).get rfl rfl (by have := hE1.len; omega) fun y hy => ?_
    rw [hq1] at hy
    cases hy
    refine newI fun u1 B4 e1 t4 => stoAll B4 rfl rfl fun u2 B5 e2 t5 => fldI B5 (i := 0) (x := q1.1) rfl ?_
    have e02 : Fr None u u2 := e1.newer e2 fun k e => by omega
    refine spec_r18_Find (hS2.fr0 (f0u.then0 e02)) (hE2.fr (f0u.then0 e02) fun _ _ h => h) (by omega) fun u3 e3 => ?_
    have e03 := e02.then0 e3
    have D3 := D.fr0 e03
    have hz3 := e03.size
    have hgl : (goneM (was.take j) now).length ≤ 1048576 := by
      unfold goneM; rw [List.length_map]; exact Nat.le_trans (List.length_filter_le _ _) (by simp; omega)
    rw [hq2]
    refine joinI (fun (_ : Unit) u' => (∃ lab r, DltI v.heap.size v.heap.size lab r [] [] (goneM (was.take (j + 1)) now) [] [] u') ∧ Fr None v u' ∧ v.heap.size ≤ u'.heap.size) ?_ fun _ u' ⟨h1, h2, h3⟩ => hK _ _ ⟨wsucc hj (by omega), h1, h2, h3⟩
    have eg := goneM_step (now := now) ha
    rcases findE_has (L := now) (id := a.1) with ⟨ef, hno⟩ | ⟨i, e, ef, hi, hid⟩
    · rw [ef]
      rw [if_pos hno] at eg
      refine condT rfl (fldI D3.blk (i := 0) (x := r.1) rfl (fldI (B5.fr e3 fun h => h) (i := 0) (x := q1.1) rfl ?_))
      refine D3.addGone (by omega) (by omega) fun lab' r' u4 D4 e4 _ => ?_
      have hz4 := e4.size
      refine ⟨⟨lab', r', ?_⟩, hup (fu.then0 e03) e4, by omega⟩
      have eg : goneM (was.take (j + 1)) now = goneM (was.take j) now ++ [a.1] := eg
      rw [eg, ← hq2]
      exact D4
    · rw [ef]
      have hh : hasE now a.1 = true := hasE_iff.2 ⟨e, List.mem_of_getElem? hi, hid⟩
      rw [if_neg (by rw [hh]; decide), List.append_nil] at eg
      have eg : goneM (was.take (j + 1)) now = goneM (was.take j) now := eg
      refine condF (decide_eq_false (by omega)) ⟨⟨lab, r, ?_⟩, fu.then0 e03, by omega⟩
      rw [eg]
      exact D3
  rintro i0 u0 ⟨_, ⟨lab0, r0, D0⟩, fu0, hzu0⟩
  rw [List.take_of_length_le (by omega)] at D0
  refine forI (N := s2.n) (fun s : Int => s) (fun j i u => i = (j : Int) ∧ (∃ lab r rc rd, DltI v.heap.size v.heap.size lab r rc rd (goneM was now) (comeM was (now.take j)) (chgsM was (now.take j)) u) ∧ Fr None v u ∧ v.heap.size ≤ u.heap.size)
    ⟨rfl, ⟨lab0, r0, [], [], D0⟩, fu0, hzu0⟩ (fun j s w' h => h.1) ?_ ?_
  rotate_left
  · rintro i u ⟨_, ⟨lab, r, rc, rd, D⟩, fu, hzu⟩
    rw [List.take_of_length_le (by omega)] at D
    refine aggI D.blk (x := r) rfl ?_
    have BXu := (BX0.fr fu fun h => h)
    refine stoAll BXu rfl rfl fun u1 C1 e1 m1 => aggI C1 (x := r) rfl ?_
    have hbx := BX0.lt
    have nb : ∀ {i : Nat}, i ≠ 0 → ∀ k, k < u.heap.size → lab k = i → ¬ k = w.heap.size ∧ w.heap.size ≤ k := fun hi k hk e => by have := D.up k (by omega); omega
    refine hk r u1 ⟨SlT.st D.og.sl e1 (nb (by decide)), ⟨rc, SlT.st D.oc.sl e1 (nb (by decide)), D.ec.len, fun i a b ha hb => ⟨(D.ec.at_ i a b ha hb).1, SlT.st (D.ec.at_ i a b ha hb).2 e1 (nb (by decide))⟩⟩,
      ⟨rd, SlT.st D.od.sl e1 (nb (by decide)), D.ed.imp fun a b hab => chgR_st a b hab e1 (nb (by decide))⟩⟩ ((f0v.then0 fu).newer e1 fun k e => by omega)
  rintro j i u K' hj ⟨rfl, ⟨lab, r, rc, rd, D⟩, fu, hzu⟩ - hK
  refine joinI (fun (_ : Unit) u' => (∃ lab r rc rd, DltI v.heap.size v.heap.size lab r rc rd (goneM was now) (comeM was (now.take (j + 1))) (chgsM was (now.take (j + 1))) u') ∧ Fr None v u' ∧ v.heap.size ≤ u'.heap.size) ?_ fun _ u' ⟨h1, h2, h3⟩ => hK _ _ ⟨wsucc hj (by omega), h1, h2, h3⟩
  obtain ⟨b, hb⟩ : ∃ b, now[j]? = some b := ⟨_, List.getElem?_eq_getElem (by omega)⟩
  obtain ⟨y1, hy1, hy2, hy3⟩ := hE2.get hb
  have f0u := f0v.then0 fu
  have hbn := List.mem_of_getElem? hb
  have fitb := hL2 b hbn
  refine (hS2.fr0 f0u).get rfl rfl (by have := hE2.len; omega) fun y hy => ?_
  rw [hy1] at hy
  cases hy
  refine newI fun u1 B4 e1 t4 => stoAll B4 rfl rfl fun u2 B5 e2 t5 => fldI B5 (i := 0) (x := y1.1) rfl ?_
  have e02 : Fr None u u2 := e1.newer e2 fun k e => by omega
  refine spec_r18_Find (hS1.fr0 (f0u.then0 e02)) (hE1.fr (f0u.then0 e02) fun _ _ h => h) (by omega) fun u3 e3 => ?_
  have e03 := e02.then0 e3
  have D3 := D.fr0 e03
  have hz3 := e03.size
  have fu3 := fu.then0 e03
  have f0u3 := f0u.then0 e03
  have Bl := B5.fr e3 fun h => h
  have hcl : (comeM was (now.take j)).length ≤ 1048576 := by
    unfold comeM; exact Nat.le_trans (List.length_filter_le _ _) (by simp; omega)
  have hdl : (chgsM was (now.take j)).length ≤ 1048576 := by
    unfold chgsM; exact Nat.le_trans (filterMap_le _ _) (by simp; omega)
  have ec := comeM_step (was := was) hb
  have ed := chgsM_step (was := was) hb
  rw [hy2]
  rcases findE_has (L := was) (id := b.1) with ⟨ef, hno⟩ | ⟨i, a, ef, ha, hid⟩
  ·
    rw [ef]
    rw [if_pos hno] at ec
    have ed : chgsM was (now.take (j + 1)) = chgsM was (now.take j) := by
      rw [ed]
      have : chgOne was b = none := by
        unfold chgOne
        have : was.find? (fun a => a.1 == b.1) = none := by
          rw [List.find?_eq_none]
          intro x hx
          simpa using hasE_not.1 hno x hx
        rw [this]
      rw [this, List.append_nil]
    have fd : Fr None u3 u3.drew := (Fr.refl _ _).drew
    have Dd := D3.fr0 fd
    have Bd := Bl.fr fd fun h => h
    refine condT rfl (fldI Dd.blk (i := 1) (x := r.2.1) rfl (fldI Bd (i := 0) (x := y1.1) rfl (fldI Bd (i := 1) (x := y1.2) rfl ?_)))
    refine spec_r5_Twin (hy3.fr0 (f0u3.then0 fd)) fitb.2.1 fun t u4 o4 g4 => ?_
    have hz4 := g4.size
    have hzd : u3.drew.heap.size = u3.heap.size := rfl
    have D4 := Dd.grow (by omega) 3 g4
    refine andI ((Bd.fr g4 fun h => h).rd (s := .int .u32) (i := 0) (x := y1.1) rfl) (andI (D4.blk.rd (s := .sl) (i := 1) (x := r.2.1) rfl) ?_)
    rw [hy2]
    refine D4.addCome (by omega) (by omega) (e := b) (o4.sl.mono fun q hq e => relab_new e hq) fun lab' r' u5 D5 g5 => ?_
    have hz5 := g5.size
    refine ⟨⟨lab', r', rc ++ [(b.1, t)], rd, ?_⟩, hup ((fu3.then0 fd).then0 g4) g5, by omega⟩
    rw [ec, ed]
    exact D5
  rw [ef]
  refine condF (decide_eq_false (by omega)) ?_
  have haw := List.mem_of_getElem? ha
  have fita := hL1 a haw
  obtain ⟨q1, hq1, hq2, hq3⟩ := hE1.get ha
  have la := fw.list haw
  have lb := fn.list hbn
  have hkb : ∀ c ∈ b.2, 0 ≤ c.1 ∧ c.1 ≤ 5 := fun c hc => checkM_kind ((listE_0.1 lb).1 c hc)
  have hho : hasE was b.1 = true := hasE_iff.2 ⟨a, haw, hid⟩
  rw [if_neg (by rw [hho]; decide), List.append_nil] at ec
  rw [chgOne_some fw.rise haw hid] at ed
  refine fldI Bl (i := 0) (x := y1.1) rfl ?_
  rw [hy2]
  refine newI fun u4 C1 g4 t6 => stoAll C1 rfl rfl fun u5 C2 g5 t7 => ?_
  have g35 : Fr None u3 u5 := g4.newer g5 fun k e => by omega
  have hz5 := g35.size
  have hzb := Bl.lt
  refine forI (N := 6) (fun s : Int => s) (fun k i u' => i = (k : Int) ∧ (∃ lab sn ss, ChgI u3.heap.size u3.heap.size b.1 (lostJ a.2 b.2 k) a.2 (low k b.2) lab sn ss u') ∧ Fr None u3 u' ∧ u3.heap.size ≤ u'.heap.size)
    ⟨rfl, ⟨fun k => if k = u3.heap.size then 3 else 0, ⟨none, 0, 0⟩, ⟨none, 0, 0⟩, by
      rw [low_zero fun c hc => (hkb c hc).1]
      have : lostJ a.2 b.2 0 = 0 := by unfold lostJ; rw [Nat.pow_zero, Nat.mod_one]; rfl
      rw [this]
      refine ⟨C2, by simp, Own.nil _ _ _ _, Own.nil _ _ _ _, fun k e => ?_⟩
      by_cases hkb : k = u3.heap.size
      · omega
      · exact absurd (if_neg hkb) e⟩, g35, hz5⟩ (fun j s w' h => h.1) ?_ ?_
  · rintro k i' u' K2 hk6 ⟨rfl, ⟨labc, sn, ss, C⟩, fu', hzu'⟩ - hK2
    have fd : Fr None u' u'.drew := (Fr.refl _ _).drew
    have hS1d := hS1.fr0 ((f0u3.then0 fu').then0 fd)
    have Bd := (Bl.fr fu' fun h => h).fr fd fun h => h
    refine hS1d.readK rfl rfl hq1 fun ad had => (had _ hS1d).fld (i := 1) (s := .sl) (y := q1.2) rfl (fldI Bd (i := 1) (x := y1.2) rfl ?_)
    refine spec_r5_Find (hq3.fr0 ((f0u3.then0 fu').then0 fd)) fita.2.1 fun u6 g6 => ?_
    have Bd6 := Bd.fr g6 fun h => h
    refine andI (Bd6.rd (s := .sl) (i := 1) (x := y1.2) rfl) ?_
    refine spec_r5_Find (hy3.fr0 (((f0u3.then0 fu').then0 fd).then0 g6)) fitb.2.1 fun u7 g7 => ?_
    have g07 := (fd.then0 g6).then0 g7
    have C7 := C.fr0 g07
    have f7 := fu'.then0 g07
    have f07 := f0u3.then0 f7
    have hz7 := f7.size
    have B7 := Bd6.fr g7 fun h => h
    have llow := low_le k b.2
    have hsm := fitb.2.1
    have lj := lostJ_le a.2 b.2 k (by omega)
    have lstep := lostJ_step a.2 b.2 hk6
    have hupc : ∀ {x : World}, Fr (Up u3.heap.size) u7 x → Fr None u3 x := fun g => f7.newer g fun k e => e
    have fin : ∀ (u' : World), (∃ lab sn ss, ChgI u3.heap.size u3.heap.size b.1 (lostJ a.2 b.2 (k + 1)) a.2 (low (k + 1) b.2) lab sn ss u') ∧ Fr None u3 u' ∧ u3.heap.size ≤ u'.heap.size → K2 (IntKind.wrap .u8 ((k : Int) + 1)) (fun r w => K r Q w) u' := fun u' ⟨h1, h2, h3⟩ => hK2 _ _ ⟨by rw [wu8 (by omega)]; rfl, h1, h2, h3⟩
    rcases findM_cases a.2 (k : Int) with ⟨ea, na⟩ | ⟨p, ca, ea, hpa, ka⟩
    · have hna := has_not na
      rw [hna] at lstep
      rw [ea]
      have lstep : lostJ a.2 b.2 (k + 1) = lostJ a.2 b.2 k := by simpa using lstep
      refine joinI (fun z x => z = false ∧ x = u7) (condF rfl ⟨rfl, rfl⟩) ?_
      rintro z x ⟨rfl, rfl⟩
      refine joinI (fun (_ : Unit) u' => (∃ lab sn ss, ChgI u3.heap.size u3.heap.size b.1 (lostJ a.2 b.2 (k + 1)) a.2 (low (k + 1) b.2) lab sn ss u') ∧ Fr None u3 u' ∧ u3.heap.size ≤ u'.heap.size) (condF rfl ?_) fun _ u' h => fin u' h
      rcases findM_cases b.2 (k : Int) with ⟨eb, nb⟩ | ⟨q, cb, eb, hpb, kb⟩
      · rw [eb]
        have hl : low (k + 1) b.2 = low k b.2 := low_none nb
        refine joinI (fun z x' => z = false ∧ x' = x) (condT rfl ⟨rfl, rfl⟩) ?_
        rintro z x' ⟨rfl, rfl⟩
        refine joinI (fun (_ : Unit) u' => (∃ lab sn ss, ChgI u3.heap.size u3.heap.size b.1 (lostJ a.2 b.2 (k + 1)) a.2 (low (k + 1) b.2) lab sn ss u') ∧ Fr None u3 u' ∧ u3.heap.size ≤ u'.heap.size) (condF rfl ?_) fun _ u' h => h
        have fd2 : Fr None x' x'.drew := (Fr.refl _ _).drew
        refine joinI (fun z x'' => z = false ∧ x'' = x'.drew) (condF rfl ⟨rfl, rfl⟩) ?_
        rintro z x'' ⟨rfl, rfl⟩
        refine joinI (fun (_ : Unit) u' => (∃ lab sn ss, ChgI u3.heap.size u3.heap.size b.1 (lostJ a.2 b.2 (k + 1)) a.2 (low (k + 1) b.2) lab sn ss u') ∧ Fr None u3 u' ∧ u3.heap.size ≤ u'.heap.size) (condF rfl ?_) fun _ u' h => h
        refine ⟨⟨labc, sn, ss, ?_⟩, f7.then0 fd2, hz7⟩
        rw [lstep, hl]
        exact C7.fr0 fd2
      · rw [eb]
        have hcb := List.mem_of_getElem? hpb
        have hl : low (k + 1) b.2 = low k b.2 ++ [cb] := low_some kb (listE_0.1 lb).2 hcb
        refine joinI (fun z x' => z = true ∧ x' = x) (condT rfl ⟨decide_eq_true (by omega), rfl⟩) ?_
        rintro z x' ⟨rfl, rfl⟩
        have fd2 : Fr None x' x'.drew := (Fr.refl _ _).drew
        have C8 := C7.fr0 fd2
        have B8 := B7.fr fd2 fun h => h
        refine joinI (fun (_ : Unit) u' => (∃ lab sn ss, ChgI u3.heap.size u3.heap.size b.1 (lostJ a.2 b.2 (k + 1)) a.2 (low (k + 1) b.2) lab sn ss u') ∧ Fr None u3 u' ∧ u3.heap.size ≤ u'.heap.size) (condT rfl ?_) fun _ u' h => h
        refine fldI C8.blk (i := 2) (x := sn) rfl (fldI B8 (i := 1) (x := y1.2) rfl ?_)
        refine (hy3.fr0 (f07.then0 fd2)).get rfl rfl (List.getElem?_eq_some_iff.1 hpb).1 fun y hy => ?_
        rw [hpb] at hy
        cases hy
        refine C8.addNew (by show u3.heap.size ≤ x'.heap.size; omega) (findC_not fun c hc => by rw [kb]; exact na c hc) (by omega) fun lab' r' u9 C9 g9 => ⟨⟨lab', r', ss, ?_⟩, (f7.then0 fd2).newer g9 fun k e => e, by have := g9.size; have : x'.drew.heap.size = x'.heap.size := rfl; omega⟩
        rw [lstep, hl]
        exact C9
    · have hca := List.mem_of_getElem? hpa
      rw [has_of hca ka] at lstep
      rw [ea]
      rcases findM_cases b.2 (k : Int) with ⟨eb, nb⟩ | ⟨q, cb, eb, hpb, kb⟩
      · rw [has_not nb] at lstep
        rw [eb]
        have hl : low (k + 1) b.2 = low k b.2 := low_none nb
        have lstep : lostJ a.2 b.2 (k + 1) = lostJ a.2 b.2 k + ((2 ^ k : Nat) : Int) := by simpa using lstep
        refine joinI (fun z x => z = true ∧ x = u7) (condT (decide_eq_true (by omega)) ⟨rfl, rfl⟩) ?_
        rintro z x ⟨rfl, rfl⟩
        refine joinI (fun (_ : Unit) u' => (∃ lab sn ss, ChgI u3.heap.size u3.heap.size b.1 (lostJ a.2 b.2 (k + 1)) a.2 (low (k + 1) b.2) lab sn ss u') ∧ Fr None u3 u' ∧ u3.heap.size ≤ u'.heap.size) (condT rfl ?_) fun _ u' h => fin u' h
        refine fldI C7.blk (i := 1) (x := lostJ a.2 b.2 k) rfl (chkI (by omega) ?_)
        have lj2 := lostJ_le a.2 b.2 (k + 1) (by omega)
        rw [shl_pow hk6, ← lstep, wu8 (by omega)]
        refine C7.setLost fun u9 C9 g9 => ⟨⟨labc, sn, ss, ?_⟩, hupc g9, by have := g9.size; omega⟩
        rw [hl]
        exact C9
      · have hcb := List.mem_of_getElem? hpb
        rw [has_of hcb kb] at lstep
        rw [eb]
        have hl : low (k + 1) b.2 = low k b.2 ++ [cb] := low_some kb (listE_0.1 lb).2 hcb
        have lstep : lostJ a.2 b.2 (k + 1) = lostJ a.2 b.2 k := by simpa using lstep
        refine joinI (fun z x => z = false ∧ x = u7) (condT (decide_eq_true (by omega)) ⟨decide_eq_false (by omega), rfl⟩) ?_
        rintro z x ⟨rfl, rfl⟩
        refine joinI (fun (_ : Unit) u' => (∃ lab sn ss, ChgI u3.heap.size u3.heap.size b.1 (lostJ a.2 b.2 (k + 1)) a.2 (low (k + 1) b.2) lab sn ss u') ∧ Fr None u3 u' ∧ u3.heap.size ≤ u'.heap.size) (condF rfl ?_) fun _ u' h => fin u' h
        refine joinI (fun z x' => z = false ∧ x' = x) (condF (decide_eq_false (by omega)) ⟨rfl, rfl⟩) ?_
        rintro z x' ⟨rfl, rfl⟩
        refine joinI (fun (_ : Unit) u' => (∃ lab sn ss, ChgI u3.heap.size u3.heap.size b.1 (lostJ a.2 b.2 (k + 1)) a.2 (low (k + 1) b.2) lab sn ss u') ∧ Fr None u3 u' ∧ u3.heap.size ≤ u'.heap.size) (condF rfl ?_) fun _ u' h => h
        have fd2 : Fr None x' x'.drew := (Fr.refl _ _).drew
        have hfc := findC_of la hca (by rw [ka, ← kb] : ca.1 = cb.1)
        refine joinI (fun z x'' => z = !decide (ca = cb) ∧ x'' = x'.drew) ?_ ?_
        · have B8 := B7.fr fd2 fun h => h
          have hS1x := hS1.fr0 (f07.then0 fd2)
          refine condT (decide_eq_true (by omega)) (hS1x.readK rfl rfl hq1 fun ad had => (had _ hS1x).fld (i := 1) (s := .sl) (y := q1.2) rfl ?_)
          refine (hq3.fr0 (f07.then0 fd2)).get rfl rfl (List.getElem?_eq_some_iff.1 hpa).1 fun y hy => ?_
          rw [hpa] at hy
          cases hy
          refine fldI B8 (i := 1) (x := y1.2) rfl ((hy3.fr0 (f07.then0 fd2)).get rfl rfl (List.getElem?_eq_some_iff.1 hpb).1 fun y hy => ?_)
          rw [hpb] at hy
          cases hy
          exact neqI eqG_comp (eqV_comp ca cb) ⟨rfl, rfl⟩
        rintro z x'' ⟨rfl, rfl⟩
        refine joinI (fun (_ : Unit) u' => (∃ lab sn ss, ChgI u3.heap.size u3.heap.size b.1 (lostJ a.2 b.2 (k + 1)) a.2 (low (k + 1) b.2) lab sn ss u') ∧ Fr None u3 u' ∧ u3.heap.size ≤ u'.heap.size) ?_ fun _ u' h => h
        refine condI (fun hne => ?_) fun heq => ?_
        · have hne : ca ≠ cb := by simpa using hne
          have fd3 : Fr None x'.drew x'.drew.drew := (Fr.refl _ _).drew
          have f23 := fd2.then0 fd3
          have C8 := C7.fr0 f23
          have B8 := B7.fr f23 fun h => h
          refine fldI C8.blk (i := 3) (x := ss) rfl (fldI B8 (i := 1) (x := y1.2) rfl ?_)
          refine (hy3.fr0 (f07.then0 f23)).get rfl rfl (List.getElem?_eq_some_iff.1 hpb).1 fun y hy => ?_
          rw [hpb] at hy
          cases hy
          refine C8.addSet (by show u3.heap.size ≤ x'.heap.size; omega) (by rw [hfc]; exact ⟨rfl, hne⟩) (by omega) fun lab' r' u9 C9 g9 => ⟨⟨lab', sn, r', ?_⟩, (f7.then0 f23).newer g9 fun k e => e, by have := g9.size; have : x'.drew.drew.heap.size = x'.heap.size := rfl; omega⟩
          rw [lstep, hl]
          exact C9
        · have heq : ca = cb := by simpa using heq
          refine ⟨⟨labc, sn, ss, ?_⟩, f7.then0 fd2, hz7⟩
          rw [lstep, hl]
          exact (C7.fr0 fd2).same (by rw [hfc]; exact ⟨rfl, heq⟩)
  · rintro i' u' ⟨_, ⟨labc, sn, ss, C⟩, fu', hzu'⟩
    rw [low_all fun c hc => (hkb c hc).2, lostJ_all] at C
    have lr := lostM_range a.2 b.2
    have cl1 := C.new.len
    have cl2 := C.set.len
    have cn1 := newM_le a.2 b.2
    have cn2 := chM_le a.2 b.2
    have hsm := fitb.2.1
    refine joinI (fun z x => z = !nothingM (changeM a b) ∧ x = u') ?_ ?_
    · refine fldI C.blk (i := 1) (x := lostM a.2 b.2) rfl (condD (fun h => ⟨?_, rfl⟩) fun h => ?_)
      · unfold nothingM changeM
        simp
        omega
      · refine fldI C.blk (i := 2) (x := sn) rfl (fldI C.blk (i := 3) (x := ss) rfl ⟨?_, rfl⟩)
        rw [w64 (by omega)]
        unfold nothingM changeM
        rw [Bool.eq_iff_iff]
        simp only [decide_eq_true_eq, Bool.not_eq_true', decide_eq_false_iff_not]
        omega
    rintro z x ⟨rfl, rfl⟩
    have e0x := fu'
    refine joinI (fun (_ : Unit) u' => (∃ lab r rc rd, DltI v.heap.size v.heap.size lab r rc rd (goneM was now) (comeM was (now.take (j + 1))) (chgsM was (now.take (j + 1))) u') ∧ Fr None v u' ∧ v.heap.size ≤ u'.heap.size) ?_ fun _ u' h => h
    have D8 := D3.grow (by omega) 5 e0x
    have fv8 := fu3.then0 e0x
    refine condI (fun hn => ?_) fun hn => ?_
    · have hn : nothingM (changeM a b) = false := by simpa using hn
      rw [if_neg (by rw [hn]; decide)] at ed
      refine fldI D8.blk (i := 2) (x := r.2.2) rfl (aggI C.blk (x := ((b.1, lostM a.2 b.2, sn, ss) : ChgRaw)) rfl ?_)
      refine D8.addChg (by omega) (by omega) (d := changeM a b) (t := (b.1, lostM a.2 b.2, sn, ss)) ⟨rfl, rfl, ?_, ?_⟩ fun lab'' r' u6 D6 g6 _ => ?_
      · exact C.new.sl.mono fun q hq e => relab_new (by have := C.up q (by omega); omega) hq
      · exact C.set.sl.mono fun q hq e => relab_new (by have := C.up q (by omega); omega) hq
      · have hz6 := g6.size
        refine ⟨⟨lab'', r', rc, rd ++ [(b.1, lostM a.2 b.2, sn, ss)], ?_⟩, hup fv8 g6, by omega⟩
        rw [ec, ed]
        exact D6
    · have hn : nothingM (changeM a b) = true := by simpa using hn
      rw [if_pos hn] at ed
      refine ⟨⟨relab lab u3.heap.size x.heap.size 5, r, rc, rd, ?_⟩, fv8, by omega⟩
      rw [ec, ed, List.append_nil]
      exact D8
end Go.Proofs.YtchhhjlpnecjkaaGreat
namespace Go.Proofs.YtchhhjlpnecjkaaGreat
open Go Go.RowKit Go.Proofs.YtchhhjlpnecjkaaGreat.Den
variable {R : Type} {Q : R → World → Prop} {w : World}
theorem stepB2_le (a c : Comp) : (stepB2 a c).length ≤ 200 := by
  have e : stepB2 a c = (List.range (cntM c.1)).flatMap fun i => (oneP a c i).flatMap partB := by
    unfold stepB2 partsB stepP
    rw [List.flatMap_assoc]
    rfl
  have h3 := cntM_le c.1
  have := flat_le (fun i => (oneP a c i).flatMap partB) 66 (List.range (cntM c.1)) fun i _ => by
    obtain ⟨q1, q2⟩ := rangeM_i32 c.1 (i : Int)
    have hw := width_le (lo := (rangeM c.1 (i : Int)).1) (hi := (rangeM c.1 (i : Int)).2.1) (by omega)
    show ((oneP a c i).flatMap partB).length ≤ 66
    unfold oneP
    split
    · simp [partB_len]
    · split
      · simp [partB_len]
      · simp only [List.flatMap_cons, List.flatMap_nil, List.length_append, partB_len, List.length_nil]
        unfold fieldP
        rw [Int.toNat_natCast]
        show 1 + (1 + (widthM (rangeM c.1 (i : Int)).1 (rangeM c.1 (i : Int)).2.1 + 0)) ≤ 66
        omega
  rw [List.length_range] at this
  rw [e]
  omega
theorem setsB_le (was : List Ent) (id : Int) (l : List Comp) : (setsB was id l).length ≤ 200 * l.length := flat_le _ 200 _ fun c _ => stepB2_le _ _
theorem compsB_le (l : List Comp) : (compsB l).length ≤ 192 * l.length := flat_le _ 192 _ fun c _ => compB_le
theorem new_set_le (a l : List Comp) : (newM a l).length + (chM a l).length ≤ l.length := by
  unfold newM chM
  induction l with
  | nil => simp
  | cons c r ih =>
    simp only [List.filter_cons]
    by_cases h : (findC a c.1).2 = true
    · rw [h]
      by_cases h2 : (findC a c.1).1 = c
      · simp [h2]; omega
      · simp [h2]; omega
    · have h : (findC a c.1).2 = false := by simpa using h
      rw [h]
      simp
      omega
theorem chgB_le (was : List Ent) (last : Int) {d : Chg} (h : d.2.2.1.length + d.2.2.2.length ≤ 6) : (chgB was last d).length ≤ 1300 := by
  have h1 := idBits_le last d.1
  have h2 := compsB_le d.2.2.1
  have h3 := setsB_le was d.1 d.2.2.2
  unfold chgB
  simp only [List.length_append, bitsOf_len]
  omega
theorem encs_le {α : Type} {enc : Int → α → List Bool} {id : α → Int} {m : Nat} : ∀ (l : List α) (last : Int), (∀ a ∈ l, ∀ last, (enc last a).length ≤ m) → (encs enc id last l).length ≤ m * l.length
  | [], _, _ => by simp [encs]
  | a :: r, last, h => by
    have h1 := encs_le (enc := enc) (id := id) r (id a) fun x hx => h x (List.mem_cons_of_mem _ hx)
    have h2 := h a List.mem_cons_self last
    rw [encs, List.length_append, List.length_cons, Nat.mul_add]
    omega
theorem varB_le {v : Nat} (h : v ≤ 4294967295) : (varB v).length ≤ 80 := by
  have lg2 := groupsM_le (v := (v : Int)) (by omega) (by omega)
  rw [Int.toNat_natCast] at lg2
  rw [varB_len]
  omega
theorem goneB_le {l : List Int} (h : l.length ≤ 4294967295) : (goneB l).length ≤ 80 + 80 * l.length := by
  unfold goneB
  rw [List.length_append]
  have := varB_le h
  have := encs_le (enc := idBits) (id := fun i : Int => i) l 0 fun a _ last => idBits_le last a
  omega
theorem entsB_le {l : List Ent} (h : l.length ≤ 4294967295) (h6 : ∀ e ∈ l, e.2.length ≤ 6) : (entsB l).length ≤ 80 + 1300 * l.length := by
  unfold entsB
  rw [List.length_append]
  have := varB_le h
  have := encs_le (enc := entB) (id := fun e : Ent => e.1) l 0 fun a ha last => entB_le (h6 a ha)
  omega
theorem chgsB_le (was : List Ent) {l : List Chg} (h : l.length ≤ 4294967295) (h6 : ∀ d ∈ l, d.2.2.1.length + d.2.2.2.length ≤ 6) : (chgsB was l).length ≤ 80 + 1300 * l.length := by
  unfold chgsB
  rw [List.length_append]
  have := varB_le h
  have := encs_le (enc := chgB was) (id := fun d : Chg => d.1) l 0 fun a ha last => chgB_le was last (h6 a ha)
  omega
theorem come_chg_le (was now : List Ent) : (comeM was now).length + (chgsM was now).length ≤ now.length := by
  unfold comeM chgsM
  induction now with
  | nil => simp
  | cons e r ih =>
    rw [List.filter_cons, List.filterMap_cons]
    by_cases h : hasE was e.1 = true
    · rw [h]
      simp only [Bool.not_true, Bool.false_eq_true, if_false, List.length_cons]
      cases chgOne was e <;> simp <;> omega
    · have h : hasE was e.1 = false := by simpa using h
      rw [h]
      have : chgOne was e = none := by
        unfold chgOne
        have : was.find? (fun a => a.1 == e.1) = none := by
          rw [List.find?_eq_none]
          intro x hx
          simpa using hasE_not.1 h x hx
        rw [this]
      rw [this]
      simp
      omega
theorem mask_told : ∀ (l : List Comp) (m : Nat), m < 32 → (∀ c ∈ l, c.1 < 5) → l.foldl orK m < 32
  | [], m, h, _ => h
  | c :: r, m, h, hc => by
    rw [List.foldl_cons]
    refine mask_told r _ ?_ fun x hx => hc x (List.mem_cons_of_mem _ hx)
    have := hc c List.mem_cons_self
    unfold orK
    split
    · refine Nat.or_lt_two_pow (n := 5) h ?_
      rw [Nat.one_shiftLeft]
      exact Nat.pow_lt_pow_right (by decide) (by omega)
    · exact h
theorem FormOk.kinds {L : List Ent} (h : FormOk L) {e : Ent} (he : e ∈ L) : ∀ c ∈ e.2, 0 ≤ c.1 ∧ c.1 < 5 := fun c hc => by
  have h1 := h.told e he
  unfold secretM at h1
  rw [List.any_eq_false] at h1
  have h2 := h1 c hc
  have h3 : toldM c.1 = true := by simpa using h2
  unfold toldM at h3
  have := of_decide_eq_true h3
  omega
theorem FormOk.mask {L : List Ent} (h : FormOk L) {e : Ent} (he : e ∈ L) {l : List Comp} (hl : ∀ c ∈ l, c ∈ e.2) : maskN l < 32 := mask_told l 0 (by decide) fun c hc => (h.kinds he c (hl c hc)).2
theorem FormOk.entTold {L : List Ent} (h : FormOk L) {e : Ent} (he : e ∈ L) (hf : EntFit e) : EntTold e := ⟨hf, (listE_0.1 (h.list he)).1, h.mask he fun _ hc => hc, h.six he⟩
theorem FormOk.come {was now : List Ent} (h : FormOk now) (hf : ∀ e ∈ now, EntFit e) : ∀ e ∈ comeM was now, EntTold e := fun e he => by
  have := (List.mem_filter.1 he).1
  exact h.entTold this (hf e this)
theorem old_of {was : List Ent} (h : FormOk was) {a : Ent} (ha : a ∈ was) {y : Comp} (hy : y ∈ a.2) : oldM was a.1 y.1 = y := by
  obtain ⟨i, hi⟩ := List.mem_iff_getElem?.1 ha
  have hf : was.findIdx? (fun e => e.1 == a.1) = some i := by
    rw [List.findIdx?_eq_some_iff_getElem]
    obtain ⟨hl, hg⟩ := List.getElem?_eq_some_iff.1 hi
    refine ⟨hl, by rw [hg]; simp, fun q hq => ?_⟩
    have := ids_lt h.rise hq (List.getElem?_eq_getElem (by omega)) hi
    simp; omega
  unfold oldM
  rw [hf]
  simp only [hi, Option.bind_some]
  cases hq : a.2.find? (fun c => c.1 == y.1) with
  | none =>
    rw [List.find?_eq_none] at hq
    exact absurd (hq y hy) (by simp)
  | some z =>
    have h1 := List.mem_of_find?_eq_some hq
    have h2 : z.1 = y.1 := by have := List.find?_some hq; simpa using this
    exact kind_one (h.list ha) h1 hy h2
structure ChgTold (was : List Ent) (d : Chg) : Prop where
  id : IdOk d.1
  lost : 0 ≤ d.2.1 ∧ d.2.1 < 32
  new : ∀ c ∈ d.2.2.1, checkM c = 0 ∧ CompOk c
  newm : maskN d.2.2.1 < 32
  setm : maskN d.2.2.2 < 32
  six : d.2.2.1.length + d.2.2.2.length ≤ 6
  set : ∃ (i : Nat) (a : Ent), was[i]? = some a ∧ findE was d.1 = (i : Int) ∧ ∀ c ∈ d.2.2.2, CompOk c ∧ ∃ (q : Nat) (y : Comp), findM a.2 c.1 = (q : Int) ∧ a.2[q]? = some y ∧ CompOk y ∧ pairM y c = 0 ∧ oldM was d.1 c.1 = y
theorem chgs_told {was now : List Ent} (hw : FormOk was) (hn : FormOk now) (hL1 : ∀ e ∈ was, EntFit e) (hL2 : ∀ e ∈ now, EntFit e) : ∀ d ∈ chgsM was now, ChgTold was d := by
  intro d hd
  obtain ⟨e, he, hd⟩ := List.mem_filterMap.1 hd
  obtain ⟨-, a, ha, hid, rfl, -⟩ := chgOne_id hd
  have la := hw.list ha
  have le := hn.list he
  obtain ⟨i, hi⟩ := List.mem_iff_getElem?.1 ha
  have hlost : lostM a.2 e.2 < 32 := by
    have h1 := hw.mask ha (l := a.2) fun _ h => h
    have ee : (lostM a.2 e.2).toNat = (BitVec.ofInt 8 (maskN a.2 : Int) &&& ~~~BitVec.ofInt 8 (maskN e.2 : Int)).toNat := by
      unfold lostM bNot
      have := (BitVec.ofInt 8 (maskN a.2 : Int) &&& ~~~BitVec.ofInt 8 (maskN e.2 : Int)).isLt
      show (IntKind.wrap .u8 ((BitVec.ofInt 8 (maskN a.2 : Int) &&& ~~~BitVec.ofInt 8 (maskN e.2 : Int)).toNat : Int)).toNat = _
      rw [wu8 (by omega), Int.toNat_natCast]
    have h2 : (lostM a.2 e.2).toNat < 32 := by
      rw [ee, BitVec.toNat_and]
      refine Nat.lt_of_le_of_lt Nat.and_le_left ?_
      rw [BitVec.toNat_ofInt]
      omega
    have := (lostM_range a.2 e.2).1
    omega
  have cok : ∀ c ∈ e.2, checkM c = 0 ∧ CompOk c := fun c hc => ⟨(listE_0.1 le).1 c hc, (hL2 e he).2.2 c hc⟩
  refine ⟨(hL2 e he).1, ⟨(lostM_range a.2 e.2).1, hlost⟩, fun c hc => cok c (newM_mem hc), hn.mask he fun c hc => newM_mem hc, hn.mask he fun c hc => chM_mem hc, ?_, i, a, hi, ?_, fun c hc => ?_⟩
  · have := new_set_le a.2 e.2
    have := hn.six he
    show (newM a.2 e.2).length + (chM a.2 e.2).length ≤ 6
    omega
  · show findE was e.1 = _
    rw [← hid]
    exact findE_some hw.rise hi
  · have hce := chM_mem hc
    obtain ⟨hck, hco⟩ := cok c hce
    have hf : (findC a.2 c.1).2 = true := by
      have := (List.mem_filter.1 hc).2
      simp at this
      exact this.1
    obtain ⟨g1, g2⟩ := findC_some hf
    rcases findM_cases a.2 c.1 with ⟨_, hno⟩ | ⟨q, y, hq, hy, hk⟩
    · exact absurd g2 (hno _ g1)
    have hym := List.mem_of_getElem? hy
    refine ⟨hco, q, y, hq, hy, (hL1 a ha).2.2 y hym, ?_, ?_⟩
    · unfold pairM
      rw [if_neg (by rw [(listE_0.1 la).1 y hym]; simp), if_neg (by rw [hck]; simp), if_pos hk]
    · show oldM was e.1 c.1 = y
      rw [← hid, ← hk]
      exact old_of hw ha hym
def refBits (h : Head) (was now : List Ent) : List Bool := headB h ++ (if h.1 = 1 then entsB now else if h.1 = 2 then deltaB was (goneM was now) (comeM was now) (chgsM was now) else [])
def formE (h : Head) (was now : List Ent) : Int := if h.1 = 1 then formM 0 now else if h.1 = 2 then diffE was now else if 0 < now.length then 4 else 0
def refE (h : Head) (was now : List Ent) : Int := if headE h ≠ 0 then headE h else if formE h was now ≠ 0 then formE h was now else if 4096 < (packM (refBits h was now)).length then 3 else 0
def refB (h : Head) (was now : List Ent) : List Int := sealF (packM (refBits h was now))
end Go.Proofs.YtchhhjlpnecjkaaGreat
namespace Go.Proofs.YtchhhjlpnecjkaaGreat
open Go Go.RowKit Go.Proofs.YtchhhjlpnecjkaaGreat.Den
variable {R : Type} {Q : R → World → Prop} {w : World}
theorem headB_le {h : Head} (hok : HeadOk h) : (headB h).length ≤ 320 := by
  obtain ⟨⟨k0, k1⟩, ⟨c0, c1⟩, ⟨e0, e1⟩, ⟨t0, t1⟩, ⟨b0, b1⟩⟩ := hok
  have l1 := inB_len h.1 1 5
  have l2 := inB_len h.2.1 0 15
  have lw1 : widthM 1 5 ≤ 64 := width_le (by decide)
  have lw2 : widthM 0 15 ≤ 64 := width_le (by decide)
  have l3 := varB_le (v := h.2.2.1.toNat) (by omega)
  have l4 := varB_le (v := idD h.2.2.2.2 h.2.2.2.1) (by unfold idD; omega)
  unfold headB
  simp only [List.length_append]
  have lt32 : (if h.1 ≤ 3 then bitsOf h.2.2.2.1.toNat 32 else []).length ≤ 32 := by split <;> simp [bitsOf_len]
  have lt33 : (if h.1 = 2 then varB (idD h.2.2.2.2 h.2.2.2.1) else []).length ≤ 80 := by
    split
    · exact l4
    · simp
  omega
theorem spec_sets {S ok ok1 : Nat → Prop} {was : List Ent} {s1 : Sl} {raws1 : List (Int × Sl)} {bl : Nat} {T : TypeId} {cs : List Value} {ss : Sl} {id : Int} {set : List Comp} {pre : List Bool} {s : Sl}
    (B : Blk w bl T cs) (hb : cs[0]? = some (.int .u32 id)) (hbS : ¬ S bl) (o : Own S w 4 boolT s pre) (hn : ∀ k, w.heap.size ≤ k → S k)
    (hS1 : SlT ok1 w entT s1 raws1) (hE1 : EntsR ok1 w raws1 was) (nd1 : ∀ k, ok1 k → ¬ S k) (hm1 : was.length ≤ 1048576) (hsm : ∀ e ∈ was, Small e.2)
    (hS : SlT ok w compT ss set) (nd : ∀ k, ok k → ¬ S k)
    (hset : ∃ (i : Nat) (a : Ent), was[i]? = some a ∧ findE was id = (i : Int) ∧ ∀ c ∈ set, CompOk c ∧ ∃ (q : Nat) (y : Comp), findM a.2 c.1 = (q : Int) ∧ a.2[q]? = some y ∧ CompOk y ∧ pairM y c = 0 ∧ oldM was id c.1 = y)
    (hl : pre.length + 200 * set.length ≤ 1048576) {K : Sl → W R} (hk : ∀ r w', Own S w' 4 boolT r (pre ++ setsB was id set) → Fr S w w' → K r Q w') :
    loopW (σ := Sl × Int) (fun K_48 s_49 =>
              cond (decide (s_49.2 < (ss.n : Int)))
                (idxW ss.a ss.n 4 s_49.2 fun x_50 =>
              ld (.agg [.int .u8, .int .i32, .int .i32, .int .i32]) x_50 fun (x_51 : (Int × Int × Int × Int)) =>
              newW 92 [.int .u8 0, .int .i32 0, .int .i32 0, .int .i32 0] fun x_52 =>
              stoL x_52 [.int .u8 x_51.1, .int .i32 x_51.2.1, .int .i32 x_51.2.2.1, .int .i32 x_51.2.2.2] 0 <|
              ld (.sc (.int .u32)) (Addr.add ⟨bl, 0, none⟩ 0) fun (x_53 : Int) =>
              callW Tryz.prog k_pinnaceref18_Find [.slice s1.a s1.n s1.c, .int .u32 x_53] [.sc (.int .i64)] fun (x_54 : Int) =>
              idxW s1.a s1.n 2 x_54 fun x_55 =>
              ld (.agg [.int .u32, .sl]) x_55 fun (x_56 : (Int × Sl)) =>
              newW 57 [.int .u32 0, .slice none 0 0] fun x_57 =>
              stoL x_57 [.int .u32 x_56.1, .slice x_56.2.a x_56.2.n x_56.2.c] 0 <|
              drawW <|
              ld (.sc .sl) (Addr.add x_57 1) fun (x_58 : Sl) =>
              ld (.sc .sl) (Addr.add x_57 1) fun (x_59 : Sl) =>
              ld (.sc (.int .u8)) (Addr.add x_52 0) fun (x_60 : Int) =>
              ld (.agg [.int .u8, .int .i32, .int .i32, .int .i32]) x_52 fun (x_61 : (Int × Int × Int × Int)) =>
              callW Tryz.prog k_pinnaceref05_Find [.slice x_59.a x_59.n x_59.c, .int .u8 x_60] [.sc (.int .i64)] fun (x_62 : Int) =>
              andW (fun w => Rd w x_52 (.agg [.int .u8, .int .i32, .int .i32, .int .i32]) x_61) <|
              andW (fun w => Rd w (Addr.add x_57 1) (.sc .sl) x_58) <|
              idxW x_58.a x_58.n 4 x_62 fun x_63 =>
              ld (.agg [.int .u8, .int .i32, .int .i32, .int .i32]) x_63 fun (x_64 : (Int × Int × Int × Int)) =>
              callW Tryz.prog k_pinnaceref06_Step [.agg ⟨[.int .u8 x_64.1, .int .i32 x_64.2.1, .int .i32 x_64.2.2.1, .int .i32 x_64.2.2.2]⟩, .agg ⟨[.int .u8 x_61.1, .int .i32 x_61.2.1, .int .i32 x_61.2.2.1, .int .i32 x_61.2.2.2]⟩] [.sc .sl, .sc (.int .i64)] fun (x_65 : Sl × Int) =>
              rawW Tryz.prog (Builtin.append_ #[70, 70] 70 #[.slice s_49.1.a s_49.1.n s_49.1.c, .slice x_65.1.a x_65.1.n x_65.1.c]) [.sc .sl] fun (x_66 : Sl) =>
              K_48 (x_66, IntKind.wrap .i64 (s_49.2 + 1)))
                (K s_49.1))
              (s, 0) Q w := by
  obtain ⟨i, a, ha, hfi, hall⟩ := hset
  obtain ⟨q1, hq1, hq2, hq3⟩ := hE1.get ha
  have hlen := hS.len
  have hsa := hsm a (List.mem_of_getElem? ha)
  refine forI (N := ss.n) (fun s : Sl × Int => s.2) (fun j st u => st.2 = (j : Int) ∧ Own S u 4 boolT st.1 (pre ++ setsB was id (set.take j)) ∧ Fr S w u) ⟨rfl, by simpa [setsB] using o, Fr.refl _ _⟩ (fun j s w' h => h.1) ?_ ?_
  · rintro j ⟨z, _⟩ u K' hj ⟨rfl, o, fu⟩ - hK
    have zu := fu.size
    refine (hS.fr fu nd).get rfl rfl (by omega) fun c hcj => ?_
    obtain ⟨hco, q, y, hq, hy, hyo, hp, hold⟩ := hall c (List.mem_of_getElem? hcj)
    refine newI fun u1 B1 f1 z1 => stoAll B1 rfl rfl fun u2 B2 f2 z2 => ?_
    have f12 : Fr None u u2 := f1.newer f2 fun k e => by omega
    have fu2 := fu.then0 f12
    refine fldI (B.fr fu2 hbS) (i := 0) (x := id) hb ?_
    refine spec_r18_Find (hS1.fr fu2 nd1) (hE1.fr fu2 nd1) (by omega) fun u3 f3 => ?_
    have fu3 := fu2.then0 f3
    rw [hfi]
    refine (hS1.fr fu3 nd1).get rfl rfl (by have := (List.getElem?_eq_some_iff.1 hq1).1; omega) fun y1 hy1 => ?_
    rw [hq1] at hy1
    cases hy1
    refine newI fun u4 B4 f4 z4 => stoAll B4 rfl rfl fun u5 B5 f5 z5 => ?_
    have f35 : Fr None u3 u5 := f4.newer f5 fun k e => by omega
    have fd : Fr None u5 u5.drew := (Fr.refl _ _).drew
    have f3d := f35.then0 fd
    have fud := fu3.then0 f3d
    have Bc := (B2.fr f3 fun h => h).fr f3d fun h => h
    have Be := B5.fr fd fun h => h
    refine fldI Be (i := 1) (x := q1.2) rfl (fldI Be (i := 1) (x := q1.2) rfl (fldI Bc (i := 0) (x := c.1) rfl (aggI Bc (x := c) rfl ?_)))
    refine spec_r5_Find (hq3.fr fud nd1) hsa fun u6 f6 => ?_
    have fu6 := fud.then0 f6
    rw [hq]
    refine andI (fun j u hj => ?_) (andI ((Be.fr f6 fun h => h).rd (s := .sl) (i := 1) (x := q1.2) rfl) ?_)
    · rw [add_lit, (Bc.fr f6 fun h => h).cell, Nat.zero_add]
      exact hj
    refine (hq3.fr fu6 nd1).get rfl rfl (List.getElem?_eq_some_iff.1 hy).1 fun y2 hy2 => ?_
    rw [hy] at hy2
    cases hy2
    refine spec_r6_Step hp hyo hco fun r u7 o7 f7 => ?_
    have fu7 := fu6.then0 f7
    have g07 : Fr None u u7 := (((f12.then0 f3).then0 f3d).then0 f6).then0 f7
    have z7 := g07.size
    have l1 := setsB_le was id (set.take j)
    have l2 := stepB2_le y c
    have l3 : (set.take j).length = j := by rw [List.length_take]; omega
    have z6 := (((f12.then0 f3).then0 f3d).then0 f6).size
    refine appS (o.none g07) (fun k e => hn k (by omega)) o7.sl (by simp only [List.length_append]; omega) fun r2 u8 o8 f8 => ?_
    refine hK _ _ ⟨wsucc hj (by omega), ?_, fu7.then f8⟩
    have e : setsB was id (set.take (j + 1)) = setsB was id (set.take j) ++ stepB2 y c := by unfold setsB; rw [take_at hcj, List.flatMap_append]; simp [hold]
    rw [e, ← List.append_assoc]
    exact o8
  · rintro ⟨z, _⟩ u ⟨_, o, fu⟩
    rw [List.take_of_length_le (by omega)] at o
    exact hk z u o fu
theorem spec_r20_Seal {ok1 ok2 : Nat → Prop} {h : Head} (hok : HeadOk h) {s1 s2 : Sl} {raws1 raws2 : List (Int × Sl)} {was now : List Ent} (hS1 : SlT ok1 w entT s1 raws1) (hE1 : EntsR ok1 w raws1 was) (hS2 : SlT ok2 w entT s2 raws2) (hE2 : EntsR ok2 w raws2 now)
    (hm1 : was.length ≤ 1048576) (hm2 : now.length ≤ 1048576) (hL1 : ∀ e ∈ was, EntFit e) (hL2 : ∀ e ∈ now, EntFit e) (few1 : h.1 = 1 → formM 0 now = 0 → now.length ≤ 400) (few2 : h.1 = 2 → diffE was now = 0 → was.length ≤ 400 ∧ now.length ≤ 400) {K : Res [.sc .sl, .sc (.int .i64)] → W R}
    (hbad : refE h was now ≠ 0 → ∀ w', Fr None w w' → K (⟨none, 0, 0⟩, refE h was now) Q w')
    (hk : refE h was now = 0 → ∀ r w', Own (Up w.heap.size) w' 5 u8T r (refB h was now) → Fr None w w' → K (r, 0) Q w') :
    callW Tryz.prog k_pinnaceref20_Seal [.agg ⟨[.int .u8 h.1, .int .u8 h.2.1, .int .u32 h.2.2.1, .int .u32 h.2.2.2.1, .int .u32 h.2.2.2.2]⟩, .slice s1.a s1.n s1.c, .slice s2.a s2.n s2.c] [.sc .sl, .sc (.int .i64)] K Q w := by
  refine C_pinnaceref20_Seal h s1 s2 K Q w ?_
  unfold F_pinnaceref20_Seal
  have hS10 : SlT (fun k => ok1 k ∧ k < w.heap.size) w entT s1 raws1 := hS1.mono fun k hk e => ⟨e, hk⟩
  have hE10 : EntsR (fun k => ok1 k ∧ k < w.heap.size) w raws1 was := hE1.mono fun k hk e => ⟨e, hk⟩
  have hS20 : SlT (fun k => ok2 k ∧ k < w.heap.size) w entT s2 raws2 := hS2.mono fun k hk e => ⟨e, hk⟩
  have hE20 : EntsR (fun k => ok2 k ∧ k < w.heap.size) w raws2 now := hE2.mono fun k hk e => ⟨e, hk⟩
  have l2 := hS2.len.trans hE2.len
  have fit : ∀ {e : Ent}, EntFit e → IdOk e.1 ∧ e.2.length ≤ 9223372036854775807 ∧ ∀ c ∈ e.2, CompOk c := fun h => ⟨h.1, by have := h.2.1; omega, h.2.2⟩
  refine newI fun w1 B1 f1 t1 => aggI B1 (x := h) rfl (spec_r20_Check hok fun w2 f2 => ?_)
  have f02 := f1.then0 f2
  have B2 := B1.fr f2 fun h => h
  refine condN (fun hne => ?_) fun heq => ?_
  · have e : refE h was now = headE h := by unfold refE; rw [if_pos hne]
    rw [← e]
    exact hbad (by rw [e]; exact hne) w2 f02
  have eE : refE h was now = if formE h was now ≠ 0 then formE h was now else if 4096 < (packM (refBits h was now)).length then 3 else 0 := by unfold refE; rw [if_neg (by rw [heq]; simp)]
  have bad : formE h was now ≠ 0 → ∀ w', Fr None w2 w' → K (⟨none, 0, 0⟩, formE h was now) Q w' := fun hne w' f => by
    have e : refE h was now = formE h was now := by rw [eE, if_pos hne]
    rw [← e]
    exact hbad (by rw [e]; exact hne) w' (f02.then0 f)
  have z2 := f02.size
  have lh := headB_le hok
  refine aggI B2 (x := h) rfl (spec_r20_Head hok heq fun a w3 o3 f3 => ?_)
  have B3 := B2.fr f3 fun h => h
  have f03 := f02.then0 f3
  have z3 := f3.size
  refine fldI B3 (i := 0) (x := h.1) rfl ?_
  refine joinI (fun z v => formE h was now = 0 ∧ Own (Up w2.heap.size) v 4 boolT z (refBits h was now) ∧ (refBits h was now).length ≤ 1048576 ∧ Fr None w2 v) ?_ ?_
  · refine condE (fun k1 => ?_) fun k1 => ?_
    ·
      have eF : formE h was now = formM 0 now := by unfold formE; rw [if_pos k1]
      refine spec_r18_Form (hS20.fr0 f03) (hE20.fr f03 fun _ _ h => h) (by omega) (fun e he => fit (hL2 e he)) fun w4 f4 => ?_
      rw [← form_same now 0 true fun _ => rfl, ← eF]
      have f34 := f3.then0 f4
      have f04 := f03.then0 f4
      refine condN (fun hne => bad hne w4 f34) fun h0 => ?_
      have fn := formOk.1 (eF ▸ h0)
      have hfew := few1 k1 (eF ▸ h0)
      have le := entsB_le (l := now) (by omega) fun e he => fn.six he
      have z4 := f34.size
      have eB : refBits h was now = headB h ++ entsB now := by unfold refBits; rw [if_pos k1]
      refine spec_r20_ents (S := Up w2.heap.size) (o3.none f4) (fun k e => by show w2.heap.size ≤ k; omega) (hS20.fr0 f04) (hE20.fr f04 fun _ _ h => h) (fun k _ e e2 => by have e2 : w2.heap.size ≤ k := e2; omega) (fun e he => fn.entTold he (hL2 e he)) (by omega) fun r w5 o5 f5 => ?_
      refine ⟨h0, by rw [eB]; exact o5, by rw [eB, List.length_append]; omega, f34.newer f5 fun k e => e⟩
    · refine fldI B3 (i := 0) (x := h.1) rfl ?_
      refine joinI (fun z v => formE h was now = 0 ∧ Own (Up w2.heap.size) v 4 boolT z (refBits h was now) ∧ (refBits h was now).length ≤ 1048576 ∧ Fr None w2 v) ?_ fun _ _ h => h
      refine condE (fun k2 => ?_) fun k2 => ?_
      ·
        have eF : formE h was now = diffE was now := by unfold formE; rw [if_neg k1, if_pos k2]
        have eB : refBits h was now = headB h ++ deltaB was (goneM was now) (comeM was now) (chgsM was now) := by unfold refBits; rw [if_neg k1, if_pos k2]
        refine spec_r19_Diff (hS10.fr0 f03) (hE10.fr f03 fun _ _ h => h) (hS20.fr0 f03) (hE20.fr f03 fun _ _ h => h) hm1 hm2 hL1 hL2 (fun hne w6 f6 => ?_) fun h0 r w6 D f6 => ?_
        · refine newI fun w7 B7 f7 t7 => stoAll B7 rfl rfl fun w8 B8 f8 t8 => condT (by simpa using hne) ?_
          have := bad (by rw [eF]; exact hne) w8 ((f3.then0 f6).then0 (f7.newer f8 fun k e => by omega))
          rw [eF] at this
          exact this
        have h0' : formE h was now = 0 := by rw [eF]; exact h0
        obtain ⟨few21, few22⟩ := few2 k2 h0
        have fw : FormOk was := formOk.1 (by
          unfold diffE at h0
          refine Classical.byContradiction fun hc => ?_
          rw [if_pos hc] at h0
          exact hc h0)
        have fn : FormOk now := formOk.1 (by
          unfold diffE at h0
          rw [if_neg (by rw [formOk.2 fw]; simp)] at h0
          exact h0)
        have hct := chgs_told fw fn hL1 hL2
        have hgl : (goneM was now).length ≤ was.length := by unfold goneM; rw [List.length_map]; exact List.length_filter_le _ _
        have hcl := come_chg_le was now
        have hgo := (goneM_fit (now := now) hL1 hm1).2
        have lg := goneB_le (l := goneM was now) (by omega)
        have lc := entsB_le (l := comeM was now) (by omega) fun e he => fn.six (List.mem_filter.1 he).1
        have ld' := chgsB_le was (l := chgsM was now) (by omega) fun d hd => (hct d hd).six
        have hct2 := fn.come (was := was) hL2
        generalize hG : goneM was now = gone at *
        generalize hC : comeM was now = come at *
        generalize hH : chgsM was now = chg at *
        have z6 := f6.size
        refine newI fun w7 B7 f7 t7 => stoAll B7 rfl rfl fun w8 B8 f8 t8 => condF rfl ?_
        have f68 : Fr None w6 w8 := f7.newer f8 fun k e => by omega
        have f38 := f6.then0 f68
        have f28 := f3.then0 f38
        have f08 := f02.then0 f28
        have z8 := f68.size
        obtain ⟨S, hSd⟩ : ∃ S : Nat → Prop, S = fun k => (w2.heap.size ≤ k ∧ k < w3.heap.size) ∨ w8.heap.size ≤ k := ⟨_, rfl⟩
        have hSn : ∀ k, w8.heap.size ≤ k → S k := fun k e => by rw [hSd]; exact .inr e
        have hSu : ∀ k, S k → w2.heap.size ≤ k := fun k e => by rw [hSd] at e; rcases e with e | e <;> omega
        have D8 : DltR (fun k => w3.heap.size ≤ k ∧ k < w6.heap.size) w8 r gone come chg := DltR.st D f68 fun k hk e => ⟨fun h => h, e, hk⟩
        have nd : ∀ k, w3.heap.size ≤ k ∧ k < w6.heap.size → ¬ S k := fun k e e2 => by rw [hSd] at e2; rcases e2 with e2 | e2 <;> omega
        have nd1 : ∀ k, ok1 k ∧ k < w.heap.size → ¬ S k := fun k e e2 => by have := hSu k e2; omega
        have nb : ¬ S w6.heap.size := fun e => by rw [hSd] at e; rcases e with e | e <;> omega
        have o8 : Own S w8 4 boolT a (headB h) := (o3.mono (S' := S) fun k hk e => by rw [hSd]; exact .inl ⟨e, hk⟩).none f38
        obtain ⟨Dg, ⟨rc, Dc, Ec⟩, ⟨rd, Dd, Ed⟩⟩ := D8
        have ng := Dg.len
        have nc := Dc.len
        have nd' := Dd.len
        have ndl := Ed.len
        refine fldI B8 (i := 0) (x := r.1) rfl ?_
        have ew : IntKind.wrap .u64 (r.1.n : Int) = ((gone.length : Nat) : Int) := by rw [wU64 (by omega)]; omega
        rw [ew]
        refine spec_r2_Var (by omega) fun d w9 o9 f9 => ?_
        have z9 := f9.size
        have lv := varB_le (v := gone.length) (by omega)
        refine appS (o8.none f9) (fun k e => hSn k (by omega)) o9.sl (by omega) fun a2 w10 o10 f10 => ?_
        have f810 : Fr S w8 w10 := f9.any.then f10
        refine fldI (B8.fr f810 nb) (i := 0) (x := r.1) rfl ?_
        refine forI (N := r.1.n) (fun s : Sl × Int × Int => s.2.2) (fun j st u => st.2.2 = (j : Int) ∧ st.2.1 = lastF (fun i : Int => i) 0 (gone.take j) ∧ Own S u 4 boolT st.1 (headB h ++ varB gone.length ++ encs idBits (fun i : Int => i) 0 (gone.take j)) ∧ Fr S w8 u) ⟨rfl, rfl, by simpa [encs] using o10, f810⟩ (fun j s w' h => h.1) ?_ ?_
        · rintro j ⟨z, la, _⟩ u K' hj ⟨rfl, rfl, o, fu⟩ - hK
          have zu := fu.size
          refine (Dg.fr fu nd).get rfl rfl (by omega) fun x hx => ?_
          have htk := encs_take idBits (fun i : Int => i) gone 0 j
          have hgb : (goneB gone).length = (varB gone.length).length + (encs idBits (fun i : Int => i) 0 gone).length := by unfold goneB; rw [List.length_append]
          refine spec_r20_id o (fun k e => hSn k (by omega)) (by simp only [List.length_append]; omega) fun r3 u3 o3' f3' => ?_
          refine hK _ _ ⟨wsucc hj (by omega), ?_, ?_, fu.then f3'⟩
          · rw [take_at hx, lastF_snoc]
          · rw [take_at hx, encs_snoc, ← List.append_assoc]
            exact o3'
        rintro ⟨b, lb, _⟩ w11 ⟨_, _, o11, f11⟩
        rw [List.take_of_length_le (by omega), List.append_assoc] at o11
        have o11 : Own S w11 4 boolT b (headB h ++ goneB gone) := o11
        have z11 := f11.size
        refine fldI (B8.fr f11 nb) (i := 1) (x := r.2.1) rfl ?_
        refine spec_r20_ents o11 (fun k e => hSn k (by omega)) (Dc.fr f11 nd) (Ec.fr f11 nd) (fun k _ e e2 => nd k e e2) hct2 (by rw [List.length_append]; omega) fun c w12 o12 f12 => ?_
        have f812 := f11.then f12
        have z12 := f812.size
        refine fldI (B8.fr f812 nb) (i := 2) (x := r.2.2) rfl ?_
        have ew : IntKind.wrap .u64 (r.2.2.n : Int) = ((chg.length : Nat) : Int) := by rw [wU64 (by omega)]; omega
        rw [ew]
        refine spec_r2_Var (by omega) fun d2 w13 o13 f13 => ?_
        have z13 := f13.size
        have lv2 := varB_le (v := chg.length) (by omega)
        refine appS (o12.none f13) (fun k e => hSn k (by omega)) o13.sl (by simp only [List.length_append]; omega) fun a3 w14 o14 f14 => ?_
        have f814 : Fr S w8 w14 := (f812.then0 f13).then f14
        refine fldI (B8.fr f814 nb) (i := 2) (x := r.2.2) rfl ?_
        have hcb : (chgsB was chg).length = (varB chg.length).length + (encs (chgB was) (fun d : Chg => d.1) 0 chg).length := by unfold chgsB; rw [List.length_append]
        refine forI (N := r.2.2.n) (fun s : Sl × Int × Int => s.2.2) (fun j st u => st.2.2 = (j : Int) ∧ st.2.1 = lastF (fun d : Chg => d.1) 0 (chg.take j) ∧ Own S u 4 boolT st.1 (headB h ++ goneB gone ++ entsB come ++ varB chg.length ++ encs (chgB was) (fun d : Chg => d.1) 0 (chg.take j)) ∧ Fr S w8 u) ⟨rfl, rfl, by simpa [encs] using o14, f814⟩ (fun j s w' h => h.1) ?_ ?_
        · rintro j ⟨z, la, _⟩ u K' hj ⟨rfl, rfl, o, fu⟩ - hK
          have zu := fu.size
          obtain ⟨d, hd⟩ : ∃ d, chg[j]? = some d := ⟨_, List.getElem?_eq_getElem (by omega)⟩
          obtain ⟨t, ht, tr1, tr2, tr3, tr4⟩ := Ed.get hd
          have T := hct d (List.mem_of_getElem? hd)
          refine (Dd.fr fu nd).get rfl rfl (by omega) fun y hy => ?_
          rw [ht] at hy
          cases hy
          refine newI fun u1 C1 g1 y1 => stoAll C1 rfl rfl fun u2 C2 g2 y2 => ?_
          have g12 : Fr None u u2 := g1.newer g2 fun k e => by omega
          have fu2 := fu.then0 g12
          have htk := encs_take (chgB was) (fun d : Chg => d.1) chg 0 (j + 1)
          rw [take_at hd, encs_snoc, List.length_append] at htk
          obtain ⟨pre, hpre⟩ : ∃ pre, pre = headB h ++ goneB gone ++ entsB come ++ varB chg.length ++ encs (chgB was) (fun d : Chg => d.1) 0 (chg.take j) := ⟨_, rfl⟩
          have lpre : pre.length + (chgB was (lastF (fun d : Chg => d.1) 0 (chg.take j)) d).length ≤ 1000000 := by
            rw [hpre]
            simp only [List.length_append]
            omega
          rw [← hpre] at o
          have hcB : (chgB was (lastF (fun d : Chg => d.1) 0 (chg.take j)) d).length = (idBits (lastF (fun d : Chg => d.1) 0 (chg.take j)) d.1).length + (5 + (5 + (5 + ((compsB d.2.2.1).length + (setsB was d.1 d.2.2.2).length)))) := by
            unfold chgB
            simp only [List.length_append, bitsOf_len]
          have o2 : Own (fun k => S k ∧ k ≠ u.heap.size) u2 4 boolT z pre := (o.mono (S' := fun k => S k ∧ k ≠ u.heap.size) fun k hk e => ⟨e, by omega⟩).none g12
          have hn2 : ∀ {v : World}, u2.heap.size ≤ v.heap.size → ∀ k, v.heap.size ≤ k → S k ∧ k ≠ u.heap.size := fun hv k e => ⟨hSn k (by omega), by omega⟩
          refine fldI C2 (i := 0) (x := t.1) rfl ?_
          rw [tr1]
          refine spec_r20_id o2 (hn2 (Nat.le_refl _)) (by omega) fun r3 u3 o3' f3' => ?_
          have y3 := f3'.size
          have C3 := C2.fr f3' fun e => e.2 rfl
          have fu3 := fu2.then (f3'.sub fun k e => e.1)
          refine fldI C3 (i := 0) (x := t.1) rfl (fldI C3 (i := 1) (x := t.2.1) rfl ?_)
          rw [tr2]
          have el : IntKind.wrap .u64 d.2.1 = ((d.2.1.toNat : Nat) : Int) := by have := T.lost; rw [wU64 (by omega)]; omega
          rw [el]
          have up2 : ∀ {x v : World} {q : Sl} {l : List Bool}, u2.heap.size ≤ x.heap.size → Own (Up x.heap.size) v 4 boolT q l → Own (fun k => S k ∧ k ≠ u.heap.size) v 4 boolT q l := fun hx o => o.mono fun k _ e => by have e : _ ≤ k := e; exact ⟨hSn k (by omega), by omega⟩
          have six := T.six
          refine spec_r1_Put (n := 5) o3'.sl (by decide) (by have := T.lost; omega) (by simp only [List.length_append]; omega) fun r4 u4 o4 f4 => ?_
          have y4 := f4.size
          have C4 := C3.fr f4 fun h => h
          have fu4 := fu3.then0 f4
          refine fldI C4 (i := 2) (x := t.2.2.1) rfl ?_
          refine spec_r5_Mask (tr3.fr fu4 nd) (by omega) fun u5 f5 => ?_
          have em : IntKind.wrap .u64 ((maskN d.2.2.1 : Nat) : Int) = ((maskN d.2.2.1 : Nat) : Int) := by have := T.newm; rw [wU64 (by omega)]
          rw [em]
          have y5 := f5.size
          refine spec_r1_Put (n := 5) (o4.none f5).sl (by decide) (by have := T.newm; omega) (by simp only [List.length_append, bitsOf_len]; omega) fun r6 u6 o6 f6' => ?_
          have y6 := f6'.size
          have f46 := f5.then0 f6'
          have C6 := C4.fr f46 fun h => h
          have fu6 := fu4.then0 f46
          refine fldI C6 (i := 3) (x := t.2.2.2) rfl ?_
          refine spec_r5_Mask (tr4.fr fu6 nd) (by omega) fun u7 f7' => ?_
          have em : IntKind.wrap .u64 ((maskN d.2.2.2 : Nat) : Int) = ((maskN d.2.2.2 : Nat) : Int) := by have := T.setm; rw [wU64 (by omega)]
          rw [em]
          have y7 := f7'.size
          refine spec_r1_Put (n := 5) (o6.none f7').sl (by decide) (by have := T.setm; omega) (by simp only [List.length_append, bitsOf_len]; omega) fun r8 u8 o8' f8' => ?_
          have y8 := f8'.size
          have f68' := f7'.then0 f8'
          have C8 := C6.fr f68' fun h => h
          have fu8 := fu6.then0 f68'
          refine fldI C8 (i := 2) (x := t.2.2.1) rfl ?_
          have cl := compsB_le d.2.2.1
          refine spec_r20_comps (up2 (by omega) o8') (hn2 (by omega)) (by simp only [List.length_append, bitsOf_len]; omega) (tr3.fr fu8 nd) (fun k _ e e2 => nd k e e2.1) T.new fun r9 u9 o9' f9' => ?_
          have y9 := f9'.size
          have C9 := C8.fr f9' fun e => e.2 rfl
          have fu9 := fu8.then (f9'.sub fun k e => e.1)
          refine fldI C9 (i := 3) (x := t.2.2.2) rfl ?_
          refine spec_sets (K := fun z => K' (z, t.1, IntKind.wrap .i64 ((j : Int) + 1))) (id := d.1) (set := d.2.2.2) C9 (by rw [tr1]; rfl) (fun e => e.2 rfl) o9' (hn2 (by omega)) ((hS10.fr0 f08).fr fu9 nd1) ((hE10.fr f08 fun _ _ h => h).fr fu9 nd1) (fun k e e2 => nd1 k e e2.1) hm1 (fun e he => (hL1 e he).2.1) (tr4.fr fu9 nd) (fun k e e2 => nd k e e2.1) T.set (by simp only [List.length_append, bitsOf_len]; omega) fun r10 u10 o10' f10' => ?_
          refine hK _ _ ⟨wsucc hj (by omega), ?_, ?_, fu9.then (f10'.sub fun k e => e.1)⟩
          · show t.1 = _
            rw [take_at hd, lastF_snoc, tr1]
          · rw [take_at hd, encs_snoc, ← List.append_assoc, ← hpre]
            unfold chgB
            have o7 := o10'.mono (S' := S) fun k _ e => e.1
            simp only [List.append_assoc] at o7 ⊢
            exact o7
        · rintro ⟨b2, lb2, _⟩ u ⟨_, _, o, fu⟩
          rw [List.take_of_length_le (by omega)] at o
          refine ⟨h0', ?_, by rw [eB]; unfold deltaB; simp only [List.length_append]; omega, f28.newer fu hSu⟩
          rw [eB]
          unfold deltaB
          have o7 := o.mono (S' := Up w2.heap.size) fun k _ e => hSu k e
          simp only [List.append_assoc] at o7
          have ec : chgsB was chg = varB chg.length ++ encs (chgB was) (fun d : Chg => d.1) 0 chg := rfl
          rw [ec]
          exact o7
      ·
        have eF : formE h was now = if 0 < now.length then 4 else 0 := by unfold formE; rw [if_neg k1, if_neg k2]
        have eB : refBits h was now = headB h := by unfold refBits; rw [if_neg k1, if_neg k2, List.append_nil]
        refine condD (fun k3 => ?_) fun k3 => ?_
        · rw [if_pos (by omega)] at eF
          have := bad (by rw [eF]; decide) w3 f3
          rw [eF] at this
          exact this
        · rw [if_neg (by omega)] at eF
          exact ⟨eF, by rw [eB]; exact o3, by rw [eB]; omega, f3⟩
  rintro z v ⟨h0, o, hlen, fv⟩
  rw [if_neg (fun x => x h0)] at eE
  refine spec_r1_Bytes o.sl (by omega) fun p w4 o4 f4 => ?_
  have f04 := (f02.then0 fv).then0 f4
  have zv := fv.size
  refine spec_r3_Seal o4.sl (packM_ok _) (by rw [packM_len]; omega) (fun hl => ?_) fun hl q w5 o5 f5 => ?_
  · rw [if_pos hl] at eE
    have := hbad (by rw [eE]; decide) w4 f04
    rw [eE] at this
    exact this
  · rw [if_neg (by omega)] at eE
    exact hk eE q w5 (o5.up (by have := f4.size; omega)) (f04.then0 f5)
end Go.Proofs.YtchhhjlpnecjkaaGreat
namespace Go.Proofs.YtchhhjlpnecjkaaGreat
open Go Go.RowKit Go.Proofs.YtchhhjlpnecjkaaGreat.Den
end Go.Proofs.YtchhhjlpnecjkaaGreat
namespace Go.Proofs.YtchhhjlpnecjkaaGreat
open Go Go.RowKit Go.Proofs.YtchhhjlpnecjkaaGreat.Den
variable {R : Type} {Q : R → World → Prop} {w : World}
theorem spec_bytes_Equal {ok ok2 : Nat → Prop} {s s2 : Sl} {l l2 : List Int} (hS : SlT ok w u8T s l) (hS2 : SlT ok2 w u8T s2 l2) (h1 : BytesOk l) (h2 : BytesOk l2) {K : Res [.sc .bool] → W R} (hk : K (decide (l = l2)) Q w) :
    callW Tryz.prog k_bytes_Equal [.slice s.a s.n s.c, .slice s2.a s2.n s2.c] [.sc .bool] K Q w := by
  refine C_bytes_Equal s s2 K Q w ?_
  unfold F_bytes_Equal
  refine strI hS (strI hS2 ?_)
  rw [str_eq h1 h2]
  exact hk
theorem spec_frame_Open {ok : Nat → Prop} {s : Sl} {l : List Int} (hS : SlT ok w u8T s l) (hb : BytesOk l) (hm : l.length ≤ 140737488355000) {K : Res [.sc .sl, .sc (.int .i64)] → W R} (h1 : ∀ w', Fr None w w' → (l.length < 4 → K (⟨none, 0, 0⟩, 2) Q w') ∧ (4100 < l.length → K (⟨none, 0, 0⟩, 3) Q w') ∧ (4 ≤ l.length → l.length ≤ 4100 → sealF (l.take (l.length - 4)) ≠ l → K (⟨none, 0, 0⟩, 6) Q w'))
    (hk : 4 ≤ l.length → l.length ≤ 4100 → sealF (l.take (l.length - 4)) = l → ∀ r w', Own (Up w.heap.size) w' 5 u8T r (l.take (l.length - 4)) → Fr None w w' → K (r, 0) Q w') :
    callW Tryz.prog k_frame_Open [.slice s.a s.n s.c] [.sc .sl, .sc (.int .i64)] K Q w := by
  refine C_frame_Open s K Q w ?_
  unfold F_frame_Open
  have hlen := hS.len
  rw [w64 (x := (s.n : Int) - 4) (by omega)]
  refine condD (fun h => (h1 w (Fr.refl _ _)).1 (by omega)) fun ha => ?_
  refine condD (fun h => (h1 w (Fr.refl _ _)).2.1 (by omega)) fun hc => ?_
  have fd : Fr None w w.drew := (Fr.refl _ _).drew
  have hSd := hS.fr0 fd
  have hbt : BytesOk (l.take (l.length - 4)) := fun x hx => hb x (List.mem_of_mem_take hx)
  have hbd : BytesOk (l.drop (l.length - 4)) := fun x hx => hb x (List.mem_of_mem_drop hx)
  have hlt : (l.take (l.length - 4)).length = l.length - 4 := by rw [List.length_take]; omega
  refine hSd.from (n := l.length - 4) rfl (by omega) (by omega) fun r1 hr1 _ => ?_
  refine hSd.cutI (n := l.length - 4) (by omega) (by omega) fun r2 _ hr2 => ?_
  refine spec_frame_Sum (hr2 _ _ hSd) (by omega) (spec_frame_tail fun t w1 o1 f1 => ?_)
  refine spec_bytes_Equal (hr1.fr0 f1) o1.sl hbd (tailF_ok _) ?_
  have key : (l.drop (l.length - 4) = tailF (sumF (l.take (l.length - 4)))) ↔ sealF (l.take (l.length - 4)) = l := by
    constructor
    · intro e
      unfold sealF
      rw [← e, List.take_append_drop]
    · intro e
      have := congrArg (List.drop (l.length - 4)) e
      unfold sealF at this
      rw [List.drop_left' hlt] at this
      exact this.symm
  have f01 := fd.then0 f1
  refine condI (fun h => ?_) fun h => ?_
  · refine (h1 w1 f01).2.2 (by omega) (by omega) fun e => ?_
    have := key.2 e
    simp [this] at h
  · have h : l.drop (l.length - 4) = tailF (sumF (l.take (l.length - 4))) := by simpa using h
    refine (hS.fr0 f01).cutI (n := l.length - 4) (by omega) (by omega) fun r3 _ hr3 => ?_
    refine spec_bytes_Clone (hr3 _ _ (hS.fr0 f01)) (by omega) fun r w2 o2 f2 => ?_
    have z1 := f01.size
    exact hk (by omega) (by omega) (key.1 h) r w2 (o2.up z1) (f01.then0 f2)
end Go.Proofs.YtchhhjlpnecjkaaGreat
namespace Go.Proofs.YtchhhjlpnecjkaaGreat
open Go Go.RowKit Go.Proofs.YtchhhjlpnecjkaaGreat.Den
variable {R : Type} {Q : R → World → Prop} {w : World}
def RestR (k : Int) (was : List Ent) (L : List Bool) (now : List Ent) : Prop := (k = 1 ∧ ∃ L', entsD L = some (now, L')) ∨ (k = 2 ∧ ∃ d L', deltaD was L = some (d, L') ∧ PatchOk was d.1 d.2.1 d.2.2 now) ∨ (k ≠ 1 ∧ k ≠ 2 ∧ now = [])
set_option maxRecDepth 100000 in
theorem spec_packet_rest {b : Nat} {L : List Bool} {F : Nat → Prop} (h : RD b L F w) (hF : ∀ k, F k → k < w.heap.size) {hd : Head} {okw : Nat → Prop} {sw : Sl} {raws : List (Int × Sl)} {was : List Ent} (hS : SlT okw w entT sw raws) (hE : EntsR okw w raws was) (hL : ∀ e ∈ was, EntFit e) (hm : was.length ≤ 200000) (hd' : ∀ k, okw k → k ≠ b) (hf : hd.1 = 2 → FormOk was) {K : Res [.sc .sl, .sc (.int .i64)] → W R}
    (h0 : (∀ now, ¬ RestR hd.1 was L now) → ∀ w', Fr (fun k => k = b) w w' → K (⟨none, 0, 0⟩, 4) Q w') (hk : ∀ now, RestR hd.1 was L now → (∀ e ∈ now, EntFit e) → now.length ≤ 1048576 → ∀ r raws' w', SlT (Up w.heap.size) w' entT r raws' → EntsR (Up w.heap.size) w' raws' now → Fr (fun k => k = b) w w' → K (r, 0) Q w') :
    callW Tryz.prog k_packet_rest [.agg ⟨[.int .u8 hd.1, .int .u8 hd.2.1, .int .u32 hd.2.2.1, .int .u32 hd.2.2.2.1, .int .u32 hd.2.2.2.2]⟩, .agg ⟨[.pointer (some ⟨b, 0, none⟩)]⟩, .slice sw.a sw.n sw.c] [.sc .sl, .sc (.int .i64)] K Q w := by
  unfold callW
  go_enter_defers Tryz.func29, Tryz.ntmps29
  generalize hc : Code.seq (Code.seq _ (Code.block _ _)) _ = c
  go_wp2
  have hc : c = doorOf Tryz.f29 := hc.symm
  subst hc
  have hbb := hF b h.1
  have hl8 := h.len
  obtain ⟨w3, hw3⟩ : ∃ w3, w3 = ((w.alloc (.cells ⟨[.int .u8 hd.1, .int .u8 hd.2.1, .int .u32 hd.2.2.1, .int .u32 hd.2.2.2.1, .int .u32 hd.2.2.2.2]⟩ 30)).alloc (.cells ⟨[.pointer (some ⟨b, 0, none⟩)]⟩ 62)).alloc (.cells #[.int .i64 0] 31) := ⟨_, rfl⟩
  have f1 : Fr None w (w.alloc (.cells ⟨[.int .u8 hd.1, .int .u8 hd.2.1, .int .u32 hd.2.2.1, .int .u32 hd.2.2.2.1, .int .u32 hd.2.2.2.2]⟩ 30)) := (Fr.refl None w).alloc _
  have f2 := f1.alloc (.cells ⟨[.pointer (some ⟨b, 0, none⟩)]⟩ 62)
  have f3 := f2.alloc (.cells #[.int .i64 0] 31)
  have Bh : Blk w3 w.heap.size 30 [.int .u8 hd.1, .int .u8 hd.2.1, .int .u32 hd.2.2.1, .int .u32 hd.2.2.2.1, .int .u32 hd.2.2.2.2] := by rw [hw3]; exact ((Blk.new w _ _).alloc _).alloc _
  have Br : Blk w3 (w.heap.size + 1) 62 [.pointer (some ⟨b, 0, none⟩)] := by
    rw [hw3]
    refine Blk.alloc ?_ _
    have := Blk.new (w.alloc (.cells ⟨[.int .u8 hd.1, .int .u8 hd.2.1, .int .u32 hd.2.2.1, .int .u32 hd.2.2.2.1, .int .u32 hd.2.2.2.2]⟩ 30)) 62 [.pointer (some ⟨b, 0, none⟩)]
    simpa using this
  have Be : Blk w3 (w.heap.size + 2) 31 [.int .i64 0] := by
    rw [hw3]
    have := Blk.new ((w.alloc (.cells ⟨[.int .u8 hd.1, .int .u8 hd.2.1, .int .u32 hd.2.2.1, .int .u32 hd.2.2.2.1, .int .u32 hd.2.2.2.2]⟩ 30)).alloc (.cells ⟨[.pointer (some ⟨b, 0, none⟩)]⟩ 62)) 31 [.int .i64 0]
    simpa using this
  have fw : Fr None w w3 := by rw [hw3]; exact f3
  have z3 : w3.heap.size = w.heap.size + 3 := by rw [hw3]; simp
  rw [← hw3]
  clear hw3 f1 f2 f3
  have hr3 := RD.st.fr0 h fw
  have hF3 : ∀ k, F k → k < w3.heap.size := fun k e => by have := hF k e; omega
  have fin : ∀ {u v : World}, Fr (fun k => k = b) w3 u → Fr (fun k => k = w.heap.size + 2) u v → Fr (fun k => k = b) w v := fun g f => (fw.any.then g).thenNew f fun k e => by omega
  have hbC : ¬ w.heap.size + 2 = b := by omega
  by_cases k1 : hd.1 = 1
  · rw [k1] at Bh h0 hk
    refine rest_full Bh Br (TC := 31) ?_
    have := spec_rd_ents (R := Unit ⊕ List PanicEntry) (Q := fun s w' => match s with
      | .inl _ => False
      | .inr ch => ch = giveUp ∧ entsD L = none ∧ Fr (fun k => k = b) w3 w') hr3 hF3 (K := fun r _ w' => ∃ l L', entsD L = some (l, L') ∧ Fr (fun k => k = b) w3 w' ∧ ∃ raws', SlT (Up w3.heap.size) w' entT r raws' ∧ EntsR (Up w3.heap.size) w' raws' l) (fun hn w' f => ⟨rfl, hn, f⟩)
      fun l L' hl r raws' lab w' o e up _ f => ⟨l, L', hl, f, raws', o.sl.mono fun k _ e => (up k (by omega)).1, e.mono fun k _ e => (up k (by omega)).1⟩
    refine Calls.mono this ?_
    rintro e w' (⟨r, rfl, l, L', hl, f, raws', hS', hE'⟩ | ⟨ch, rfl, rfl, hn, f⟩)
    · refine ⟨Be.fr f hbC, .inl ⟨r, rfl, fun w2 f2 => ⟨(r, 0), rfl, ?_⟩⟩⟩
      obtain ⟨fit, fl⟩ := ents_fit hl
      refine hk l (.inl ⟨rfl, L', hl⟩) (fun e he => (fit e he).1) (by omega) r raws' w2 ((hS'.fr f2 fun k (e : w3.heap.size ≤ k) e2 => by omega).mono fun k _ (e : w3.heap.size ≤ k) => by show w.heap.size ≤ k; omega) ((hE'.fr f2 fun k (e : w3.heap.size ≤ k) e2 => by omega).mono fun k _ (e : w3.heap.size ≤ k) => by show w.heap.size ≤ k; omega) (fin f f2)
    · refine ⟨Be.fr f hbC, .inr ⟨rfl, fun w2 f2 => ⟨(⟨none, 0, 0⟩, 4), rfl, h0 (fun now hr => ?_) w2 (fin f f2)⟩⟩⟩
      rcases hr with ⟨_, L', h⟩ | ⟨h, _⟩ | ⟨h, _⟩
      · rw [hn] at h; cases h
      · cases h
      · exact h rfl
  by_cases k2 : hd.1 = 2
  · have hform := hf k2
    rw [k2] at Bh h0 hk
    refine rest_step Bh Br (TC := 31) ?_
    have hS3 := hS.fr0 fw
    have hE3 := hE.fr fw fun _ _ h => h
    have := spec_rd_delta (R := Unit ⊕ List PanicEntry) (Q := fun s w' => match s with
      | .inl _ => False
      | .inr ch => ch = giveUp ∧ deltaD was L = none ∧ Fr (fun k => k = b) w3 w') hr3 hF3 hS3 hE3 hform.rise (by omega) hL hd' (K := fun r _ w' => ∃ d L', deltaD was L = some (d, L') ∧ Fr (fun k => k = b) w3 w' ∧ DltR (Up w3.heap.size) w' r d.1 d.2.1 d.2.2) (fun hn w' f => ⟨rfl, hn, f⟩)
      fun d L' hd r w' dr _ f => ⟨d, L', hd, f, dr⟩
    refine Calls.mono this ?_
    rintro e w' (⟨r, rfl, d, L', hdl, f, dr⟩ | ⟨ch, rfl, rfl, hn, f⟩)
    · refine .inl ⟨r, rfl, ?_⟩
      obtain ⟨q1, q2, q3, q4, q5⟩ := delta_fit hL hdl
      have sz := f.size
      have := spec_diff_Patch (R := Unit) (Q := fun _ _ => False) (hS3.fr f hd') (hE3.fr f hd') hform hL dr (by omega) (fun e he => (q2 e he).1) (by omega) q5 (by omega) (K := fun r _ w'' => Fr None w' w'' ∧ ((r = ((⟨none, 0, 0⟩ : Sl), (4 : Int)) ∧ ∀ now, ¬ PatchOk was d.1 d.2.1 d.2.2 now) ∨ (r.2 = 0 ∧ ∃ now, PatchOk was d.1 d.2.1 d.2.2 now ∧ (∀ e ∈ now, EntFit e) ∧ now.length ≤ was.length + d.2.1.length ∧ ∃ raws', SlT (Up w'.heap.size) w'' entT r.1 raws' ∧ EntsR (Up w'.heap.size) w'' raws' now)))
        (fun hn w'' g => ⟨g, .inl ⟨rfl, hn⟩⟩) fun now hp fit hlen r raws' w'' o e g => ⟨g, .inr ⟨rfl, now, hp, fit, hlen, raws', o.sl, e⟩⟩
      refine Calls.mono this ?_
      rintro e w'' ⟨rr, rfl, g, hcase⟩
      refine ⟨(Be.fr f hbC).fr g fun h => h, rr.1, rr.2, rfl, fun w2 f2 => ⟨rr, rfl, ?_⟩⟩
      have fin2 := fin (f.then g.any) f2
      rcases hcase with ⟨rfl, hn⟩ | ⟨hr0, now, hp, fit, hlen, raws', hS', hE'⟩
      · refine h0 (fun now hr => ?_) w2 fin2
        rcases hr with ⟨h, _⟩ | ⟨_, d2, L2, h2, h3⟩ | ⟨_, h, _⟩
        · cases h
        · rw [hdl] at h2; cases h2; exact hn now h3
        · exact h rfl
      · have e : rr = (rr.1, 0) := Prod.ext rfl hr0
        rw [e]
        refine hk now (.inr (.inl ⟨rfl, d, L', hdl, hp⟩)) fit (by omega) rr.1 raws' w2 ((hS'.fr f2 fun k (e : w'.heap.size ≤ k) e2 => by omega).mono fun k _ (e : w'.heap.size ≤ k) => by show w.heap.size ≤ k; omega) ((hE'.fr f2 fun k (e : w'.heap.size ≤ k) e2 => by omega).mono fun k _ (e : w'.heap.size ≤ k) => by show w.heap.size ≤ k; omega) fin2
    · refine .inr ⟨rfl, Be.fr f hbC, fun w2 f2 => ⟨(⟨none, 0, 0⟩, 4), rfl, h0 (fun now hr => ?_) w2 (fin f f2)⟩⟩
      rcases hr with ⟨h, _⟩ | ⟨_, d2, L2, h2, h3⟩ | ⟨_, h, _⟩
      · cases h
      · rw [hn] at h2; cases h2
      · exact h rfl
  · refine rest_other Bh Be k1 k2 fun w2 f2 => ⟨(⟨none, 0, 0⟩, 0), rfl, ?_⟩
    exact hk [] (.inr (.inr ⟨k1, k2, rfl⟩)) (fun e he => by cases he) (by simp) ⟨none, 0, 0⟩ [] w2 (SlT.nil _) (EntsR.nil _ _) (fin (Fr.refl _ _) f2)
theorem RestR.uniq {k : Int} {was : List Ent} {L : List Bool} {x y : List Ent} (hf : k = 2 → FormOk was) (hx : RestR k was L x) (hy : RestR k was L y) : x = y := by
  rcases hx with ⟨k1, L1, h1⟩ | ⟨k2, d, L1, h1, p1⟩ | ⟨k1, k2, rfl⟩
  · rcases hy with ⟨_, L2, h2⟩ | ⟨k2, _⟩ | ⟨k2, _⟩
    · rw [h1] at h2; cases h2; rfl
    · omega
    · exact absurd k1 k2
  · rcases hy with ⟨k1, _⟩ | ⟨_, d2, L2, h2, p2⟩ | ⟨_, k1, _⟩
    · omega
    · rw [h1] at h2
      cases h2
      exact delta_inj (hf k2) p1.form p2.form (p1.gone.trans p2.gone.symm) (p1.come.trans p2.come.symm) (p1.chg.trans p2.chg.symm)
    · exact absurd k2 k1
  · rcases hy with ⟨k3, _⟩ | ⟨k3, _⟩ | ⟨_, _, rfl⟩
    · exact absurd k3 k1
    · exact absurd k3 k2
    · rfl
def frameErr (l : List Int) : Int := if l.length < 4 then 2 else if 4100 < l.length then 3 else if sealF (l.take (l.length - 4)) ≠ l then 6 else 0
theorem frameErr_0 {l : List Int} (h : frameErr l = 0) : 4 ≤ l.length ∧ l.length ≤ 4100 ∧ sealF (l.take (l.length - 4)) = l := by
  unfold frameErr at h
  split at h
  · cases h
  · split at h
    · cases h
    · split at h
      · cases h
      · exact ⟨by omega, by omega, Classical.byContradiction (by assumption)⟩
theorem frameErr_of {l : List Int} (h1 : 4 ≤ l.length) (h2 : l.length ≤ 4100) (h3 : sealF (l.take (l.length - 4)) = l) : frameErr l = 0 := by
  unfold frameErr
  rw [if_neg (by omega), if_neg (by omega), if_neg (fun h => h h3)]
theorem spec_frame_Open2 {ok : Nat → Prop} {s : Sl} {l : List Int} (hS : SlT ok w u8T s l) (hb : BytesOk l) (hm : l.length ≤ 140737488355000) {K : Res [.sc .sl, .sc (.int .i64)] → W R} (h0 : frameErr l ≠ 0 → ∀ w', Fr None w w' → K (⟨none, 0, 0⟩, frameErr l) Q w') (hk : frameErr l = 0 → ∀ r w', Own (Up w.heap.size) w' 5 u8T r (l.take (l.length - 4)) → Fr None w w' → K (r, 0) Q w') :
    callW Tryz.prog k_frame_Open [.slice s.a s.n s.c] [.sc .sl, .sc (.int .i64)] K Q w := by
  refine spec_frame_Open hS hb hm (fun w' f => ⟨fun h => ?_, fun h => ?_, fun h1 h2 h3 => ?_⟩) fun h1 h2 h3 r w' o f => hk (frameErr_of h1 h2 h3) r w' o f
  · have e : frameErr l = 2 := by unfold frameErr; rw [if_pos h]
    have := h0 (by rw [e]; decide) w' f
    rw [e] at this
    exact this
  · have e : frameErr l = 3 := by unfold frameErr; rw [if_neg (by omega), if_pos h]
    have := h0 (by rw [e]; decide) w' f
    rw [e] at this
    exact this
  · have e : frameErr l = 6 := by unfold frameErr; rw [if_neg (by omega), if_neg (by omega), if_pos h3]
    have := h0 (by rw [e]; decide) w' f
    rw [e] at this
    exact this
theorem spec_packet_Peek {ok : Nat → Prop} {s : Sl} {l : List Int} (hS : SlT ok w u8T s l) (hb : BytesOk l) (hm : l.length ≤ 140737488355000) {K : Res [.agg headT, .sc (.int .i64)] → W R} (h0 : frameErr l ≠ 0 → ∀ w', Fr None w w' → K ((0, 0, 0, 0, 0), frameErr l) Q w')
    (h1 : frameErr l = 0 → headD (bitsU (l.take (l.length - 4))) = none → ∀ w', Fr None w w' → K ((0, 0, 0, 0, 0), 4) Q w') (hk : frameErr l = 0 → ∀ hd L', headD (bitsU (l.take (l.length - 4))) = some (hd, L') → HeadOk hd → headE hd = 0 → ∀ w', Fr None w w' → K (hd, 0) Q w') :
    callW Tryz.prog k_packet_Peek [.slice s.a s.n s.c] [.agg headT, .sc (.int .i64)] K Q w := by
  refine C_packet_Peek s K Q w ?_
  unfold F_packet_Peek
  refine newI fun w1 B1 f1 z1 => spec_frame_Open2 (hS.fr0 f1) hb hm (fun he w2 f2 => ?_) fun he r w2 o2 f2 => ?_
  · refine condT (by simpa using he) (stoAll (B1.fr f2 fun h => h) rfl rfl fun w3 B3 f3 z3 => aggI B3 (x := ((0, 0, 0, 0, 0) : Head)) rfl ?_)
    exact h0 he w3 ((f1.then0 f2).newer f3 fun k e => by omega)
  obtain ⟨l1, l2, l3⟩ := frameErr_0 he
  refine condF rfl ?_
  have hbt : BytesOk (l.take (l.length - 4)) := fun x hx => hb x (List.mem_of_mem_take hx)
  have f02 := f1.then0 f2
  have B1 := B1.fr f2 fun h => h
  have z2 := f2.size
  have tl : (l.take (l.length - 4)).length ≤ 4096 := by rw [List.length_take]; omega
  refine spec_packet_front o2.sl hbt (by omega) (fun hn p w3 f3 => ?_) fun hd L' hh hok hE b w3 hr f3 => ?_
  · refine newI fun w4 B4 f4 z4 => newI fun w5 B5 f5 z5 => stoAll (B4.fr f5 fun h => h) rfl rfl fun w6 B6 f6 z6 => stoAll (B5.fr f6 fun e => by omega) rfl rfl fun w7 B7 f7 z7 => condT rfl ?_
    have g37 : Fr None w3 w7 := ((f4.then0 f5).newer f6 fun k e => by omega).newer f7 fun k e => by omega
    refine stoAll ((B1.fr f3 fun h => h).fr g37 fun h => h) rfl rfl fun w8 B8 f8 z8 => aggI B8 (x := ((0, 0, 0, 0, 0) : Head)) rfl ?_
    exact h1 he hn w8 (((f02.then0 f3).then0 g37).newer f8 fun k e => by omega)
  · refine newI fun w4 B4 f4 z4 => newI fun w5 B5 f5 z5 => stoAll (B4.fr f5 fun h => h) rfl rfl fun w6 B6 f6 z6 => stoAll (B5.fr f6 fun e => by omega) rfl rfl fun w7 B7 f7 z7 => condF rfl ?_
    have g37 : Fr None w3 w7 := ((f4.then0 f5).newer f6 fun k e => by omega).newer f7 fun k e => by omega
    refine aggI (B6.fr f7 fun e => by omega) (x := hd) rfl (stoAll ((B1.fr f3 fun h => h).fr g37 fun h => h) rfl rfl fun w8 B8 f8 z8 => aggI B8 (x := hd) rfl ?_)
    exact hk he hd L' hh hok hE w8 (((f02.then0 f3).then0 g37).newer f8 fun k e => by omega)
def OpenR (l : List Int) (was : List Ent) (hd : Head) (now : List Ent) : Prop := ∃ L', headD (bitsU (l.take (l.length - 4))) = some (hd, L') ∧ (hd.1 = 2 → FormOk was) ∧ RestR hd.1 was L' now ∧ sealE hd was now = 0 ∧ sealB hd was now = l
theorem OpenR.uniq {l : List Int} {was : List Ent} {hd hd' : Head} {now now' : List Ent} (h : OpenR l was hd now) (h' : OpenR l was hd' now') : hd' = hd ∧ now' = now := by
  obtain ⟨L1, a1, a2, a3, _⟩ := h
  obtain ⟨L2, b1, b2, b3, _⟩ := h'
  rw [a1] at b1
  cases b1
  exact ⟨rfl, b3.uniq a2 a3⟩
theorem spec_packet_Open {ok okw : Nat → Prop} {s sw : Sl} {l : List Int} {raws : List (Int × Sl)} {was : List Ent} (hS : SlT ok w u8T s l) (hb : BytesOk l) (hm : l.length ≤ 140737488355000) (hW : SlT okw w entT sw raws) (hE : EntsR okw w raws was) (hL : ∀ e ∈ was, EntFit e) (hwl : was.length ≤ 200000) {K : Res [.agg headT, .sc .sl, .sc (.int .i64)] → W R} (h0 : frameErr l ≠ 0 → ∀ w', Fr None w w' → K ((0, 0, 0, 0, 0), ⟨none, 0, 0⟩, frameErr l) Q w')
    (h1 : frameErr l = 0 → (∀ hd now, ¬ OpenR l was hd now) → ∀ w', Fr None w w' → K ((0, 0, 0, 0, 0), ⟨none, 0, 0⟩, 4) Q w') (hk : frameErr l = 0 → ∀ hd now, OpenR l was hd now → HeadOk hd → (∀ e ∈ now, EntFit e) → now.length ≤ 1048576 → ∀ r raws' w', SlT (Up w.heap.size) w' entT r raws' → EntsR (Up w.heap.size) w' raws' now → Fr None w w' → K (hd, r, 0) Q w') :
    callW Tryz.prog k_packet_Open [.slice s.a s.n s.c, .slice sw.a sw.n sw.c] [.agg headT, .sc .sl, .sc (.int .i64)] K Q w := by
  refine C_packet_Open s sw K Q w ?_
  unfold F_packet_Open
  refine newI fun w1 B1 f1 z1 => spec_frame_Open2 (hS.fr0 f1) hb hm (fun he w2 f2 => ?_) fun he r w2 o2 f2 => ?_
  · refine condT (by simpa using he) (stoAll (B1.fr f2 fun h => h) rfl rfl fun w3 B3 f3 z3 => aggI B3 (x := ((0, 0, 0, 0, 0) : Head)) rfl ?_)
    exact h0 he w3 ((f1.then0 f2).newer f3 fun k e => by omega)
  obtain ⟨l1, l2, l3⟩ := frameErr_0 he
  refine condF rfl ?_
  have hbt : BytesOk (l.take (l.length - 4)) := fun x hx => hb x (List.mem_of_mem_take hx)
  have f02 := f1.then0 f2
  have B1 := B1.fr f2 fun h => h
  have z2 := f2.size
  have tl : (l.take (l.length - 4)).length ≤ 4096 := by rw [List.length_take]; omega
  have bad : ∀ {u : World}, Fr None w u → Blk u w.heap.size 30 [.int .u8 0, .int .u8 0, .int .u32 0, .int .u32 0, .int .u32 0] → (∀ hd now, ¬ OpenR l was hd now) → (stoL ⟨w.heap.size, 0, none⟩ [.int .u8 0, .int .u8 0, .int .u32 0, .int .u32 0, .int .u32 0] 0 <|
      ld (.agg headT) ⟨w.heap.size, 0, none⟩ fun (x : Head) => (retW (x, (⟨none, 0, 0⟩ : Sl), (4 : Int)) : W (Head × Sl × Int))) (fun r w => K r Q w) u := by
    intro u f B hn
    refine stoAll B rfl rfl fun w8 B8 f8 z8 => aggI B8 (x := ((0, 0, 0, 0, 0) : Head)) rfl ?_
    exact h1 he hn w8 (f.newer f8 fun k e => by omega)
  refine spec_packet_front o2.sl hbt (by omega) (fun hn p w3 f3 => ?_) fun hd L' hh hok hE0 b w3 hr f3 => ?_
  · refine newI fun w4 B4 f4 z4 => newI fun w5 B5 f5 z5 => stoAll (B4.fr f5 fun h => h) rfl rfl fun w6 B6 f6 z6 => stoAll (B5.fr f6 fun e => by omega) rfl rfl fun w7 B7 f7 z7 => condT rfl ?_
    have g37 : Fr None w3 w7 := ((f4.then0 f5).newer f6 fun k e => by omega).newer f7 fun k e => by omega
    exact bad ((f02.then0 f3).then0 g37) ((B1.fr f3 fun h => h).fr g37 fun h => h) fun hd now ⟨L', h, _⟩ => by rw [hn] at h; cases h
  refine newI fun w4 B4 f4 z4 => newI fun w5 B5 f5 z5 => stoAll (B4.fr f5 fun h => h) rfl rfl fun w6 B6 f6 z6 => stoAll (B5.fr f6 fun e => by omega) rfl rfl fun w7 B7 f7 z7 => condF rfl ?_
  have g37 : Fr None w3 w7 := ((f4.then0 f5).newer f6 fun k e => by omega).newer f7 fun k e => by omega
  have z3 := f3.size
  have b2 : w2.heap.size ≤ b := hr.1
  have b3 : b < w3.heap.size := by obtain ⟨cs, B, _⟩ := hr.blk; exact B.lt
  have hr7 : RD b L' (fun k => w2.heap.size ≤ k ∧ k < w3.heap.size) w7 := RD.st hr g37 fun k hk (e : w2.heap.size ≤ k) => ⟨fun h => h, e, hk⟩
  have B67 := B6.fr f7 (show ¬ w3.heap.size = w4.heap.size by omega)
  have f07 := (f02.then0 f3).then0 g37
  have B17 := (B1.fr f3 fun h => h).fr g37 fun h => h
  have hW' : SlT (fun k => k < w.heap.size) w7 entT sw raws := (hW.mono fun k hk _ => hk).fr0 f07
  have hE' : EntsR (fun k => k < w.heap.size) w7 raws was := (hE.mono fun k hk _ => hk).fr f07 fun _ _ h => h
  refine joinI (fun z v => z = decide (hd.1 = 2 ∧ formM 0 was ≠ 0) ∧ Fr None w7 v) ?_ ?_
  · refine fldI B67 (i := 0) (x := hd.1) rfl (condE (fun k2 => ?_) fun k2 => ⟨(decide_eq_false fun h => k2 h.1).symm, Fr.refl _ _⟩)
    refine spec_snap_Form hW' hE' (by omega) (fun e he => (hL e he).idOk) fun w8 f8 => ⟨?_, f8⟩
    by_cases hfm : formM 0 was = 0
    · rw [hfm, decide_eq_false fun h => h.2 rfl]; rfl
    · rw [decide_eq_true ⟨k2, hfm⟩]
      simpa using hfm
  rintro _ w8 ⟨rfl, f8⟩
  have B18 := B17.fr f8 fun h => h
  have f08 := f07.then0 f8
  refine condD (fun hbad => ?_) fun hgood => ?_
  · refine bad f08 B18 fun hd' now ⟨L2, h2, h3, _⟩ => ?_
    rw [hh] at h2
    cases h2
    exact hbad.2 (formOk.2 (h3 hbad.1))
  have hf2 : hd.1 = 2 → FormOk was := fun k2 => Classical.byContradiction fun h => hgood ⟨k2, fun h2 => h (formOk.1 h2)⟩
  have B68 := B67.fr f8 fun h => h
  have z7s := g37.size
  have z8 := f8.size
  have ltb : ∀ k, k < w.heap.size → k ≠ b := fun k e e2 => by omega
  refine aggI B68 (x := hd) rfl (aggI (B7.fr f8 fun h => h) (x := some ⟨b, 0, none⟩) rfl ?_)
  refine spec_packet_rest (RD.st.fr0 hr7 f8) (fun k e => by omega) (hW'.fr0 f8) (hE'.fr f8 fun _ _ h => h) hL hwl ltb hf2 (fun hn w9 f9 => ?_) fun now hR hfit hnl r9 raws9 w9 S9 E9 f9 => ?_
  · have f09 : Fr None w w9 := f08.newer f9 fun k e => by omega
    refine condT rfl (bad f09 (B18.fr f9 fun e => by omega) fun hd' now ⟨L2, h2, _, h4, _⟩ => ?_)
    rw [hh] at h2
    cases h2
    exact hn now h4
  have f09 : Fr None w w9 := f08.newer f9 fun k e => by omega
  have B19 := B18.fr f9 (show ¬ w.heap.size = b by omega)
  have B69 := B68.fr f9 (show ¬ w3.heap.size = b by omega)
  refine condF rfl (aggI B69 (x := hd) rfl ?_)
  have W9 := (hW'.fr0 f8).fr f9 ltb
  have WE9 := (hE'.fr f8 fun _ _ h => h).fr f9 ltb
  have no : sealE hd was now ≠ 0 ∨ sealB hd was now ≠ l → ∀ hd' now', ¬ OpenR l was hd' now' := by
    rintro hne hd' now' ⟨L2, c1, c2, c3, c4, c5⟩
    rw [hh] at c1
    cases c1
    have := RestR.uniq c2 c3 hR
    subst this
    exact hne.elim (fun h => h c4) fun h => h c5
  refine spec_packet_Seal hok W9 WE9 S9 E9 (by omega) hnl hL hfit (fun hbad w10 f10 => ?_) fun hse r10 w10 o10 f10 => ?_
  · refine joinI (fun z v => z = true ∧ v = w10) (condT (by simpa using hbad) ⟨rfl, rfl⟩) ?_
    rintro z v ⟨rfl, rfl⟩
    exact condT rfl (bad (f09.then0 f10) (B19.fr f10 fun h => h) (no (.inl hbad)))
  have hbs : BytesOk (sealB hd was now) := sealF_ok (packM_ok _)
  refine joinI (fun z v => z = !decide (sealB hd was now = l) ∧ v = w10) (condF rfl ?_) ?_
  · exact spec_bytes_Equal o10.sl (hS.fr0 (f09.then0 f10)) hbs hb ⟨rfl, rfl⟩
  rintro z v ⟨rfl, rfl⟩
  refine condI (fun hz => ?_) fun hz => ?_
  · have hz : sealB hd was now ≠ l := by simpa using hz
    exact bad (f09.then0 f10) (B19.fr f10 fun h => h) (no (.inr hz))
  · have hz : sealB hd was now = l := by simpa using hz
    refine aggI (B69.fr f10 fun h => h) (x := hd) rfl (stoAll (B19.fr f10 fun h => h) rfl rfl fun w11 B11 f11 z11 => aggI B11 (x := hd) rfl ?_)
    have f1011 : Fr (fun k => k = w.heap.size) w9 w11 := f10.any.then f11
    exact hk he hd now ⟨L', hh, hf2, hR, hse, hz⟩ hok hfit hnl r9 raws9 w11 ((S9.fr f1011 fun k (e : w8.heap.size ≤ k) e2 => by omega).mono fun k _ (e : w8.heap.size ≤ k) => by show w.heap.size ≤ k; omega) ((E9.fr f1011 fun k (e : w8.heap.size ≤ k) e2 => by omega).mono fun k _ (e : w8.heap.size ≤ k) => by show w.heap.size ≤ k; omega) (f09.newer f1011 fun k e => by omega)
end Go.Proofs.YtchhhjlpnecjkaaGreat
namespace Go.Proofs.YtchhhjlpnecjkaaGreat
open Go Go.RowKit Go.Proofs.YtchhhjlpnecjkaaGreat.Den
theorem in_fwd {s : WS} {n lo hi : Int} (hs : s.2 = 0) (h1 : lo ≤ n) (h2 : n ≤ hi) (h3 : hi - lo ≤ 18446744073709551615) (hl : s.1.length + (inB n lo hi).length ≤ 1048576) : inM s n lo hi = (s.1 ++ inB n lo hi, 0) := by
  have hw := width_lt h1 h2 h3
  have h64 := width_le h3
  unfold inB at hl
  rw [bitsOf_len] at hl
  unfold inM doM putInM
  rw [if_neg (by omega), if_neg (by omega)]
  unfold putB keepM
  rw [if_neg (by omega), if_neg (by rw [Int.toNat_natCast, Nat.div_eq_of_lt hw]; simp), if_neg (by omega), if_pos hs]
  unfold inB
  rw [Int.toNat_natCast]
theorem varB_fwd {s : WS} {v : Nat} (hs : s.2 = 0) (hl : s.1.length + (varB v).length ≤ 1048576) : varM s v = (s.1 ++ varB v, 0) := var_fwd hs (by rw [varB_len] at hl; exact hl)
theorem head_kinds {h : Head} (he : headE h = 0) : (1 ≤ h.1 ∧ h.1 ≤ 5) ∧ h.2.1 ≤ 15 := by
  unfold headE at he
  split at he
  · cases he
  · omega
theorem head_fwd {s : WS} {h : Head} (hok : HeadOk h) (he : headE h = 0) (hs : s.2 = 0) (hl : s.1.length + (headB h).length ≤ 1048576) : headM s h = (s.1 ++ headB h, 0) := by
  obtain ⟨hk, hc⟩ := head_kinds he
  obtain ⟨_, ⟨c0, _⟩, _, ⟨t0, t1⟩, _⟩ := hok
  unfold headB at hl ⊢
  simp only [List.length_append] at hl
  unfold headM
  rw [in_fwd hs hk.1 hk.2 (by omega) (by omega)]
  rw [in_fwd rfl c0 hc (by omega) (by simp only [List.length_append]; omega)]
  rw [varB_fwd rfl (by simp only [List.length_append]; omega)]
  dsimp only
  by_cases k3 : h.1 ≤ 3
  · rw [if_pos k3] at hl ⊢
    rw [if_pos k3]
    rw [bitsOf_len] at hl
    rw [plain_fwd rfl (by omega) (by show h.2.2.2.1.toNat < 4294967296; omega) (by simp only [List.length_append]; omega)]
    by_cases k2 : h.1 = 2
    · rw [if_pos k2] at hl ⊢
      rw [if_pos k2, varB_fwd rfl (by simp only [List.length_append]; rw [bitsOf_len]; show _ + 32 + _ ≤ _; omega)]
      simp only [List.append_assoc]
      rfl
    · rw [if_neg k2, if_neg k2]
      simp only [List.append_assoc, List.append_nil]
      rfl
  · have k2 : ¬ h.1 = 2 := by omega
    rw [if_neg k3, if_neg k3, if_neg k2, if_neg k2]
    simp only [List.append_assoc, List.append_nil]
theorem putP_fwd {s : WS} {l : List Part} (hs : s.2 = 0) (hl : s.1.length + (partsB l).length ≤ 1048576) : doM s (putP s.1 l) = (s.1 ++ partsB l, 0) := by
  unfold doM putP keepM
  rw [if_neg (by omega), if_pos hs]
theorem fold_fwd {α : Type} {f : WS → α → WS} {enc : α → List Bool} {P : α → Prop} (hf : ∀ s a, P a → s.2 = 0 → s.1.length + (enc a).length ≤ 1048576 → f s a = (s.1 ++ enc a, 0)) : ∀ (l : List α) (s : WS), (∀ a ∈ l, P a) → s.2 = 0 → s.1.length + (l.flatMap enc).length ≤ 1048576 → l.foldl f s = (s.1 ++ l.flatMap enc, 0)
  | [], s, _, hs, _ => by rw [List.flatMap_nil, List.append_nil]; exact Prod.ext rfl hs
  | a :: r, s, hp, hs, hl => by
    rw [List.flatMap_cons, List.length_append] at hl
    rw [List.foldl_cons, hf s a (hp a List.mem_cons_self) hs (by omega), fold_fwd hf r _ (fun x hx => hp x (List.mem_cons_of_mem _ hx)) rfl (by simp only [List.length_append]; omega), List.flatMap_cons, List.append_assoc]
theorem fold_last_fwd {α : Type} {f : WS × Int → α → WS × Int} {enc : Int → α → List Bool} {id : α → Int} {P : α → Prop} (hf : ∀ p a, P a → p.1.2 = 0 → p.1.1.length + (enc p.2 a).length ≤ 1048576 → f p a = ((p.1.1 ++ enc p.2 a, 0), id a)) :
    ∀ (l : List α) (p : WS × Int), (∀ a ∈ l, P a) → p.1.2 = 0 → p.1.1.length + (encs enc id p.2 l).length ≤ 1048576 → (l.foldl f p).1 = (p.1.1 ++ encs enc id p.2 l, 0)
  | [], p, _, hs, _ => by rw [encs, List.append_nil]; exact Prod.ext rfl hs
  | a :: r, p, hp, hs, hl => by
    rw [encs, List.length_append] at hl
    rw [List.foldl_cons, hf p a (hp a List.mem_cons_self) hs (by omega), fold_last_fwd hf r _ (fun x hx => hp x (List.mem_cons_of_mem _ hx)) rfl (by simp only [List.length_append]; omega), encs, List.append_assoc]
theorem comps_fwd {s : WS} {l : List Comp} (hc : ∀ c ∈ l, checkM c = 0) (hs : s.2 = 0) (hl : s.1.length + (compsB l).length ≤ 1048576) : compsM s l = (s.1 ++ compsB l, 0) :=
  fold_fwd (enc := compB) (P := fun c => checkM c = 0) (fun s a ha hs hl => by unfold putC; rw [if_neg (by rw [ha]; simp)]; exact putP_fwd hs hl) l s hc hs hl
theorem sets_fwd {was : List Ent} {id : Int} {s : WS} {l : List Comp} (hc : ∀ c ∈ l, pairM (oldM was id c.1) c = 0) (hs : s.2 = 0) (hl : s.1.length + (setsB was id l).length ≤ 1048576) : setsM was id s l = (s.1 ++ setsB was id l, 0) := by
  have hf : ∀ (s : WS) (a : Comp), pairM (oldM was id a.1) a = 0 → s.2 = 0 → s.1.length + (stepB2 (oldM was id a.1) a).length ≤ 1048576 → doM s (putS s.1 (oldM was id a.1) a) = (s.1 ++ stepB2 (oldM was id a.1) a, 0) := by
    intro s a ha hs hl
    have e : putS s.1 (oldM was id a.1) a = putP s.1 (stepP (oldM was id a.1) a) := if_neg (by rw [ha]; simp)
    rw [e]
    exact putP_fwd hs hl
  generalize hg : (fun (s : WS) (a : Comp) => doM s (putS s.1 (oldM was id a.1) a)) = g at *
  generalize he : (fun c : Comp => stepB2 (oldM was id c.1) c) = enc at *
  have h1 : setsM was id s l = l.foldl g s := by rw [← hg]; rfl
  have h2 : setsB was id l = l.flatMap enc := by rw [← he]; rfl
  rw [h1, h2]
  rw [h2] at hl
  exact fold_fwd (f := g) (enc := enc) (P := fun c => pairM (oldM was id c.1) c = 0) (fun s a ha hs hl => by rw [← hg, ← he]; rw [← he] at hl; exact hf s a ha hs hl) l s hc hs hl
theorem ents_fwd {s : WS} {l : List Ent} (hc : ∀ e ∈ l, maskN e.2 < 32 ∧ ∀ c ∈ e.2, checkM c = 0) (hs : s.2 = 0) (hl : s.1.length + (entsB l).length ≤ 1048576) : entsW s l = (s.1 ++ entsB l, 0) := by
  unfold entsB at hl ⊢
  rw [List.length_append] at hl
  unfold entsW
  rw [varB_fwd hs (by omega), fold_last_fwd (enc := entB) (id := fun e : Ent => e.1) (P := fun e => maskN e.2 < 32 ∧ ∀ c ∈ e.2, checkM c = 0) ?_ l _ hc rfl (by simp only [List.length_append]; omega)]
  · dsimp only; rw [List.append_assoc]
  · intro p a ha hs hl
    unfold entB idBits at hl ⊢
    simp only [List.length_append, bitsOf_len] at hl
    unfold entM
    rw [varB_fwd hs (by omega), plain_fwd rfl (by omega) (by rw [Int.toNat_natCast]; exact ha.1) (by simp only [List.length_append]; omega)]
    have t5 : Int.toNat 5 = 5 := rfl
    rw [comps_fwd ha.2 rfl (by simp only [List.length_append, bitsOf_len, t5]; omega)]
    simp only [List.append_assoc, Int.toNat_natCast, t5]
theorem gone_fwd {s : WS} {l : List Int} (hs : s.2 = 0) (hl : s.1.length + (goneB l).length ≤ 1048576) : goneW s l = (s.1 ++ goneB l, 0) := by
  unfold goneB at hl ⊢
  rw [List.length_append] at hl
  unfold goneW
  rw [varB_fwd hs (by omega), fold_last_fwd (enc := idBits) (id := fun e : Int => e) (P := fun _ => True) ?_ l _ (fun _ _ => trivial) rfl (by simp only [List.length_append]; omega)]
  · dsimp only; rw [List.append_assoc]
  · intro p a _ hs hl
    unfold idBits at hl ⊢
    unfold idM
    rw [varB_fwd hs hl]
theorem chgs_fwd {was : List Ent} {s : WS} {l : List Chg} (hc : ∀ d ∈ l, ChgTold was d) (hs : s.2 = 0) (hl : s.1.length + (chgsB was l).length ≤ 1048576) : chgsW was s l = (s.1 ++ chgsB was l, 0) := by
  unfold chgsB at hl ⊢
  rw [List.length_append] at hl
  unfold chgsW
  rw [varB_fwd hs (by omega), fold_last_fwd (enc := chgB was) (id := fun d : Chg => d.1) (P := ChgTold was) ?_ l _ hc rfl (by simp only [List.length_append]; omega)]
  · dsimp only; rw [List.append_assoc]
  · intro p a ha hs hl
    obtain ⟨_, ⟨a1, a2⟩, a3, a4, a5, a6, i, e, _, _, a7⟩ := ha
    unfold chgB idBits at hl ⊢
    simp only [List.length_append, bitsOf_len] at hl
    have t5 : Int.toNat 5 = 5 := rfl
    unfold chgM1
    rw [varB_fwd hs (by omega), plain_fwd (v := a.2.1) rfl (by omega) (by show a.2.1.toNat < 32; omega) (by simp only [List.length_append]; omega)]
    rw [plain_fwd (v := (maskN a.2.2.1 : Int)) rfl (by omega) (by rw [Int.toNat_natCast]; exact a4) (by simp only [List.length_append, bitsOf_len, t5]; omega), plain_fwd (v := (maskN a.2.2.2 : Int)) rfl (by omega) (by rw [Int.toNat_natCast]; exact a5) (by simp only [List.length_append, bitsOf_len, t5]; omega)]
    rw [comps_fwd (fun c hc => (a3 c hc).1) rfl (by simp only [List.length_append, bitsOf_len, t5]; omega)]
    rw [sets_fwd (fun c hc => by obtain ⟨_, q, y, _, _, _, h1, h2⟩ := a7 c hc; rw [h2]; exact h1) rfl (by simp only [List.length_append, bitsOf_len, t5]; omega)]
    simp only [List.append_assoc, Int.toNat_natCast, t5]
theorem refBits_le {h : Head} {was now : List Ent} (hok : HeadOk h) (h1 : h.1 = 1 → formM 0 now = 0 → now.length ≤ 400) (h2 : h.1 = 2 → diffE was now = 0 → was.length ≤ 400 ∧ now.length ≤ 400) (hf : formE h was now = 0) (hs1 : h.1 = 1 → FormOk now) (hs2 : h.1 = 2 → FormOk was ∧ FormOk now) (hT : ∀ d ∈ chgsM was now, h.1 = 2 → ChgTold was d) : (refBits h was now).length ≤ 700000 := by
  have hb := headB_le hok
  unfold refBits
  rw [List.length_append]
  unfold formE at hf
  by_cases k1 : h.1 = 1
  · rw [if_pos k1] at hf ⊢
    have := h1 k1 hf
    have := entsB_le (l := now) (by omega) fun e he => (hs1 k1).six he
    omega
  · rw [if_neg k1] at hf ⊢
    by_cases k2 : h.1 = 2
    · rw [if_pos k2] at hf ⊢
      obtain ⟨n1, n2⟩ := h2 k2 hf
      obtain ⟨_, fn⟩ := hs2 k2
      have gl : (goneM was now).length ≤ was.length := by unfold goneM; rw [List.length_map]; exact List.length_filter_le _ _
      have cc := come_chg_le was now
      have g := goneB_le (l := goneM was now) (by omega)
      have c := entsB_le (l := comeM was now) (by omega) fun e he => fn.six (List.mem_filter.1 he).1
      have d := chgsB_le was (l := chgsM was now) (by omega) fun d hd => (hT d hd k2).six
      unfold deltaB
      simp only [List.length_append]
      omega
    · rw [if_neg k2]
      simp
      omega
theorem seal_ref {h : Head} {was now : List Ent} (hok : HeadOk h) (hL1 : ∀ e ∈ was, EntFit e) (hL2 : ∀ e ∈ now, EntFit e) (h1 : h.1 = 1 → formM 0 now = 0 → now.length ≤ 400) (h2 : h.1 = 2 → diffE was now = 0 → was.length ≤ 400 ∧ now.length ≤ 400) :
    sealE h was now = refE h was now ∧ (sealE h was now = 0 → sealB h was now = refB h was now) := by
  by_cases he : headE h = 0
  rotate_left
  · have e1 : sealE h was now = headE h := by unfold sealE; rw [if_pos he]
    have e2 : refE h was now = headE h := by unfold refE; rw [if_pos he]
    exact ⟨by rw [e1, e2], fun h => absurd (e1.symm.trans h) he⟩
  have hb := headB_le hok
  have hd : headM ([], 0) h = (headB h, 0) := by rw [head_fwd hok he rfl (by simp; omega)]; rfl
  by_cases hf : formE h was now = 0
  rotate_left
  · have e2 : refE h was now = formE h was now := by unfold refE; rw [if_neg (by rw [he]; simp), if_pos hf]
    have ew : (sealW h was now).2 = formE h was now := by
      unfold sealW
      rw [hd]
      unfold formE at hf ⊢
      dsimp only
      by_cases k1 : h.1 = 1
      · rw [if_pos k1] at hf ⊢
        rw [if_pos k1]
        have : keepM 0 (formM 0 now) = formM 0 now := rfl
        rw [this, if_neg hf]
      · rw [if_neg k1] at hf ⊢
        rw [if_neg k1]
        by_cases k2 : h.1 = 2
        · rw [if_pos k2] at hf ⊢
          rw [if_pos k2, if_neg hf]
          rfl
        · rw [if_neg k2] at hf ⊢
          rw [if_neg k2]
          split
          · rfl
          · rename_i hn
            exact absurd (if_neg hn) hf
    have e1 : sealE h was now = formE h was now := by unfold sealE; rw [if_neg (by rw [he]; simp), if_pos (by rw [ew]; exact hf), ew]
    exact ⟨by rw [e1, e2], fun h => absurd (e1.symm.trans h) hf⟩
  have hs1 : h.1 = 1 → FormOk now := fun k => formOk.1 (by unfold formE at hf; rw [if_pos k] at hf; exact hf)
  have hs2 : h.1 = 2 → FormOk was ∧ FormOk now := fun k => by
    have : diffE was now = 0 := by unfold formE at hf; rw [if_neg (by omega), if_pos k] at hf; exact hf
    refine ⟨formOk.1 ?_, diffE_form this⟩
    unfold diffE at this
    split at this
    · exact absurd this (by assumption)
    · rename_i hn
      exact Classical.byContradiction hn
  have hT : ∀ d ∈ chgsM was now, h.1 = 2 → ChgTold was d := fun d hd k => chgs_told (hs2 k).1 (hs2 k).2 hL1 hL2 d hd
  have hle := refBits_le hok h1 h2 hf hs1 hs2 hT
  have hW : sealW h was now = (refBits h was now, 0) := by
    unfold refBits at hle ⊢
    rw [List.length_append] at hle
    unfold sealW
    rw [hd]
    unfold formE at hf
    dsimp only
    by_cases k1 : h.1 = 1
    · rw [if_pos k1] at hf hle ⊢
      rw [if_pos k1, hf]
      have : keepM 0 0 = 0 := rfl
      rw [this, if_pos rfl]
      exact ents_fwd (fun e he => ⟨(hs1 k1).mask he fun _ hc => hc, (listE_0.1 ((hs1 k1).list he)).1⟩) rfl (by dsimp only; omega)
    · rw [if_neg k1] at hf hle ⊢
      rw [if_neg k1]
      by_cases k2 : h.1 = 2
      · rw [if_pos k2] at hf hle ⊢
        rw [if_pos k2, if_pos hf, hf]
        have : keepM 0 0 = 0 := rfl
        rw [this]
        unfold deltaB at hle ⊢
        simp only [List.length_append] at hle
        unfold deltaW
        obtain ⟨_, fn⟩ := hs2 k2
        rw [gone_fwd rfl (by dsimp only; omega)]
        rw [ents_fwd (fun e he => by have hm := (List.mem_filter.1 he).1; exact ⟨fn.mask hm fun _ hc => hc, (listE_0.1 (fn.list hm)).1⟩) rfl (by simp only [List.length_append]; omega)]
        rw [chgs_fwd (fun d hd => hT d hd k2) rfl (by simp only [List.length_append]; omega)]
        simp only [List.append_assoc]
      · rw [if_neg k2] at hf hle ⊢
        rw [if_neg k2, if_neg (by intro hn; rw [if_pos hn] at hf; cases hf), List.append_nil]
  refine ⟨?_, fun _ => by unfold sealB refB; rw [hW]⟩
  have e1 : sealE h was now = if 4096 < (packM (refBits h was now)).length then 3 else 0 := by unfold sealE; rw [if_neg (by rw [he]; simp), hW, if_neg (by simp)]
  have e2 : refE h was now = if 4096 < (packM (refBits h was now)).length then 3 else 0 := by unfold refE; rw [if_neg (by rw [he]; simp), if_neg (by rw [hf]; simp)]
  rw [e1, e2]
theorem open_seal {h : Head} {was now : List Ent} (hok : HeadOk h) (hm1 : was.length ≤ 1048576) (hm2 : now.length ≤ 1048576) (hL1 : ∀ e ∈ was, EntFit e) (hL2 : ∀ e ∈ now, EntFit e) (he : sealE h was now = 0) : frameErr (sealB h was now) = 0 ∧ OpenR (sealB h was now) was h now := by
  obtain ⟨so, hput⟩ := seal_put hok hm1 hm2 hL1 hL2 he
  have hlen : (packM (sealW h was now).1).length ≤ 4096 := by
    unfold sealE at he
    split at he
    · exact absurd he (by assumption)
    · split at he
      · exact absurd he (by assumption)
      · split at he
        · cases he
        · omega
  have ht : (sealB h was now).take ((sealB h was now).length - 4) = packM (sealW h was now).1 := by
    unfold sealB
    rw [sealF_len, Nat.add_sub_cancel]
    unfold sealF
    exact List.take_left' rfl
  have hl : (sealB h was now).length = (packM (sealW h was now).1).length + 4 := by unfold sealB; exact sealF_len _
  refine ⟨frameErr_of (by omega) (by omega) (by rw [ht]; rfl), ?_⟩
  unfold OpenR
  rw [ht, bits_pack]
  have hb := hput (List.replicate (8 * (((sealW h was now).1.length + 7) / 8) - (sealW h was now).1.length) false)
  unfold bodyD at hb
  cases h1 : headD ((sealW h was now).1 ++ List.replicate (8 * (((sealW h was now).1.length + 7) / 8) - (sealW h was now).1.length) false) with
  | none => rw [h1] at hb; cases hb
  | some p =>
    obtain ⟨h', L1⟩ := p
    rw [h1] at hb
    dsimp only at hb
    cases h2 : resD h'.1 was L1 with
    | none => rw [h2] at hb; cases hb
    | some q =>
      obtain ⟨r, L2⟩ := q
      rw [h2] at hb
      cases hb
      refine ⟨L1, rfl, fun k => (so.two k).1, ?_, he, rfl⟩
      unfold resD at h2
      unfold resM at h2
      by_cases k1 : h.1 = 1
      · rw [if_pos k1] at h2
        rw [if_pos k1] at h2
        cases h3 : entsD L1 with
        | none => rw [h3] at h2; cases h2
        | some p =>
          obtain ⟨l, M⟩ := p
          rw [h3] at h2
          cases h2
          exact .inl ⟨k1, L2, h3⟩
      · rw [if_neg k1] at h2
        rw [if_neg k1] at h2
        by_cases k2 : h.1 = 2
        · rw [if_pos k2] at h2
          rw [if_pos k2] at h2
          cases h3 : deltaD was L1 with
          | none => rw [h3] at h2; cases h2
          | some p =>
            obtain ⟨d, M⟩ := p
            rw [h3] at h2
            cases h2
            exact .inr (.inl ⟨k2, _, L2, h3, (so.two k2).2, rfl, rfl, rfl⟩)
        · exact .inr (.inr ⟨k1, k2, so.rest k1 k2⟩)
end Go.Proofs.YtchhhjlpnecjkaaGreat
namespace Go.Proofs.YtchhhjlpnecjkaaGreat
open Go Go.RowKit Go.ChangeShapes Go.WideShapes Go.ChangeAt Go.Proofs.YtchhhjlpnecjkaaGreat.Den
variable {R : Type} {Q : R → World → Prop} {w : World} {H : Type} {enc : TypeId × Value → H}
theorem Den.deep_of {α β : Type} {p : α → β → Prop} {l : List α} (h : ∀ a ∈ l, ∃ b, p a b) : ∃ k, All2 p l k := by
  induction l with
  | nil => exact ⟨[], All2.nil _⟩
  | cons a r ih =>
    obtain ⟨b, hb⟩ := h a List.mem_cons_self
    obtain ⟨k, hk⟩ := ih fun x hx => h x (List.mem_cons_of_mem _ hx)
    refine ⟨b :: k, by simp [hk.len], fun i x y h1 h2 => ?_⟩
    rcases i with _ | i
    · simp at h1 h2; subst h1; subst h2; exact hb
    · simp at h1 h2; exact hk.at_ i x y h1 h2
abbrev Old (W : World) : Nat → Prop := fun k => k < W.heap.size
theorem comps_leaf {s : Sl} (h : LeafOk enc Tryz.prog w 55 (.slice s.a s.n s.c)) : ∃ l, SlT (Old w) w compT s l ∧ (∀ c ∈ l, CompOk c) ∧ s.c ≤ maxLen := by
  obtain ⟨s', l, e, h2, h3, h4⟩ := h.slice comps_arg
  have e' : s = s' := by
    have e : Value.slice s.a s.n s.c = Value.slice s'.a s'.n s'.c := e
    simp only [Value.slice.injEq] at e
    obtain ⟨e1, e2, e3⟩ := e
    cases s; cases s'; simp_all
  subst e'
  exact ⟨l, h2, fun c hc => comp_ok (h4 c hc), h3⟩
end Go.Proofs.YtchhhjlpnecjkaaGreat
namespace Go.Proofs.YtchhhjlpnecjkaaGreat
open Go Go.RowKit Go.ChangeShapes Go.WideShapes Go.ChangeAt Go.Proofs.YtchhhjlpnecjkaaGreat.Den
variable {R : Type} {Q : R → World → Prop} {w : World} {H : Type} {enc : TypeId × Value → H}
theorem u32_und : Tryz.prog.underlying 28 = some (.int .u32) := by kernel_rfl
theorem ents_arg : SlArg Tryz.prog 23 57 entT [54, 55] :=
  ⟨by kernel_rfl, by kernel_rfl, by decide, by kernel_rfl, ⟨[.int .u32, .sl], by kernel_rfl, .inl rfl⟩⟩
structure EntIn (W : World) (r : Int × Sl) (e : Ent) : Prop where
  id : r.1 = e.1
  sl : SlT (Old W) W compT r.2 e.2
  ok : IdOk e.1
  comps : ∀ c ∈ e.2, CompOk c
  cap : r.2.c ≤ maxLen
theorem ents_in {raws : List (Int × Sl)} (h : ∀ r ∈ raws, AllLeaf enc Tryz.prog w [54, 55] (entT.cells r)) : ∃ L, All2 (EntIn w) raws L := deep_of fun r hr => by
  obtain ⟨_, h⟩ := h r hr
  obtain ⟨_, e, h0⟩ := (h 0 _ _ rfl rfl).int id_und
  cases e
  obtain ⟨l, h1, h2, h3⟩ := comps_leaf (s := r.2) (h 1 _ _ rfl rfl)
  exact ⟨(r.1, l), rfl, h1, wf_u32 h0, h2, h3⟩
theorem EntIn.ents {raws : List (Int × Sl)} {L : List Ent} (h : All2 (EntIn w) raws L) : EntsR (Old w) w raws L := ⟨h.len, fun i r e h1 h2 => ⟨(h.at_ i r e h1 h2).id, (h.at_ i r e h1 h2).sl⟩⟩
end Go.Proofs.YtchhhjlpnecjkaaGreat
namespace Go.Proofs.YtchhhjlpnecjkaaGreat
open Go Go.RowKit Go.ChangeShapes Go.WideShapes Go.ChangeAt Go.Deep Go.Proofs.YtchhhjlpnecjkaaGreat.Den
variable {w : World} {H : Type} {enc : TypeId × Value → H}
theorem bulk_len : ∀ (l : List (DataW H)), l.length ≤ Rows.uptoBulkAll l
  | [] => by simp [Rows.uptoBulkAll]
  | d :: r => by
    have h1 : 1 ≤ Rows.uptoBulk d := by
      cases d with
      | lit l => cases l <;> simp [Rows.uptoBulk]
      | _ => simp [Rows.uptoBulk]
    have := bulk_len r
    simp only [Rows.uptoBulkAll, List.length_cons]
    omega
theorem bulk_part {d : DataW H} : ∀ {l : List (DataW H)}, d ∈ l → Rows.uptoBulk d ≤ Rows.uptoBulkAll l
  | [], h => by cases h
  | x :: r, h => by
    simp only [Rows.uptoBulkAll]
    rcases List.mem_cons.1 h with rfl | h
    · omega
    · have := bulk_part h; omega
theorem bulk_sum {α : Type} (D : α → DataW H) (f : α → Nat) : ∀ (l : List α), (∀ a ∈ l, f a ≤ Rows.uptoBulk (D a)) → (l.map f).sum ≤ Rows.uptoBulkAll (l.map D)
  | [], _ => by simp
  | a :: r, h => by
    have := bulk_sum D f r fun x hx => h x (List.mem_cons_of_mem _ hx)
    have := h a List.mem_cons_self
    simp only [List.map_cons, List.sum_cons, Rows.uptoBulkAll]
    omega
theorem slice_bulk {t e : TypeId} (hu : Tryz.prog.underlying t = some (.slice e)) {fuel : Nat} {s : Sl} {x : DataW H × List MemPlace} (h : DataW.trod enc Tryz.prog w 0 (fun _ => true) true fuel t [.slice s.a s.n s.c] = some x) : s.n ≤ Rows.uptoBulk x.1 := by
  rcases open_slice hu h with ⟨hc, _⟩ | ⟨a, len, cap, m, n, D, Pl, hc, _, _, _, _, rfl, _⟩
  · injection hc with hc
    injection hc with _ h1
    omega
  · injection hc with hc
    injection hc with _ h1
    have := bulk_len ((List.range len).map D)
    simp only [Rows.uptoBulk, List.length_map, List.length_range] at this ⊢
    omega
def entUndB (P : Program) (t c : TypeId) : Bool := match P.underlying t with
  | some (.struct fs) => Nat.beq fs.size 2 && (match fs[1]? with
    | some f => Nat.beq f.type c && Nat.beq f.offset 1
    | none => false)
  | _ => false
theorem ent_undB : entUndB Tryz.prog 57 55 = true := by kernel_rfl
theorem ent_und : ∃ fs : Array Field, ∃ f1 : Field, Tryz.prog.underlying 57 = some (.struct fs) ∧ fs.size = 2 ∧ fs[1]? = some f1 ∧ f1.type = 55 ∧ f1.offset = 1 := by
  have h := ent_undB
  unfold entUndB at h
  split at h
  · rename_i fs hu
    rw [Bool.and_eq_true] at h
    obtain ⟨h1, h2⟩ := h
    split at h2
    · rename_i f hf
      rw [Bool.and_eq_true] at h2
      exact ⟨fs, f, hu, Nat.eq_of_beq_eq_true h1, hf, Nat.eq_of_beq_eq_true h2.1, Nat.eq_of_beq_eq_true h2.2⟩
    · cases h2
  · cases h
theorem ent_bulk {fuel : Nat} {r : Int × Sl} {x : DataW H × List MemPlace} (h : DataW.trod enc Tryz.prog w 0 (fun _ => true) true fuel 57 (entC r) = some x) : r.2.n + 1 ≤ Rows.uptoBulk x.1 := by
  obtain ⟨fs, f1, hu, hsz, hf1, ht, ho⟩ := ent_und
  obtain ⟨xs, n, _, rfl, _, hl, hx⟩ := DataW.trod_struct hu h
  have h1 := hx 1 f1 hf1
  rw [ht, ho] at h1
  have hl : xs.length = 2 := by omega
  have hc : Tryz.prog.cellsOf 55 = 1 := by kernel_rfl
  rw [hc, List.getElem?_eq_getElem (by omega)] at h1
  have h2 := slice_bulk (s := r.2) comps_ty.under h1
  have h3 := bulk_part (List.mem_map.2 ⟨xs[1], List.getElem_mem (by omega), rfl⟩ : xs[1].1 ∈ xs.map (·.1))
  simp only [Rows.uptoBulk]
  omega
theorem range_sum (raws : List (Int × Sl)) (len : Nat) (h : len = raws.length) : (List.range len).map (fun i => ((raws[i]?).map fun r => r.2.n + 1).getD 0) = raws.map fun r => r.2.n + 1 := by
  apply List.ext_getElem (by simp [h])
  intro i h1 h2
  have hi : i < raws.length := by simpa using h2
  rw [List.getElem_map, List.getElem_map, List.getElem_range, List.getElem?_eq_getElem hi]
  rfl
theorem ents_bulk {v : Value} {d : DataW H} {p : List MemPlace} (h : DataW.Trod enc Tryz.prog w 0 (fun _ => true) true 23 v d p) {s : Sl} {raws : List (Int × Sl)} (hv : v = s.v) (hS : SlT (Old w) w entT s raws) : (raws.map fun r => r.2.n + 1).sum ≤ Rows.uptoBulk d := by
  obtain ⟨fuel, h⟩ := h
  subst hv
  rcases open_slice ents_ty.under h with ⟨hc, hx⟩ | ⟨a, len, cap, m, n, D, Pl, hc, _, hlc, _, hm, hx, hel⟩
  · have hc : [Value.slice s.a s.n s.c] = [.slice none 0 0] := hc
    injection hc with hc
    injection hc with _ h1
    have := hS.len
    have : raws = [] := List.length_eq_zero_iff.1 (by omega)
    subst this
    simp
  · have hc : [Value.slice s.a s.n s.c] = [.slice (some a) len cap] := hc
    injection hc with hc
    injection hc with ha h1
    have hm : m = cap := by simpa using hm
    have hrl := hS.len
    injection hx with hx1
    subst hx1
    have key : ∀ i ∈ List.range len, ((raws[i]?).map fun r => r.2.n + 1).getD 0 ≤ Rows.uptoBulk (D i) := by
      intro i hi
      have hi := List.mem_range.1 hi
      obtain ⟨cs', g1, g2⟩ := hel i (by omega)
      obtain ⟨g3, g4⟩ := cells_at g1
      have hrx := List.getElem?_eq_getElem (l := raws) (i := i) (by omega)
      have e : cs' = entC raws[i] := by
        rcases hS.at_ with e | ⟨b, o, hb, _, _, hr⟩
        · rw [e] at hrl; simp at hrl; omega
        · have hr := Rd.cells.1 (hr i _ hrx)
          rw [hb] at ha
          have ha := Option.some.inj ha
          have hsz : Tryz.prog.cellsOf 57 = 2 := by kernel_rfl
          rw [hsz, ← ha, add_lit] at g4
          rw [hsz] at g3
          apply List.ext_getElem?
          intro j
          by_cases hj : j < 2
          · have e1 := g4 j _ (List.getElem?_eq_getElem (by omega))
            have hl2 : (entT.cells raws[i]).length = 2 := entT.cells_len _
            have e2 := hr j _ (List.getElem?_eq_getElem (by omega))
            have : i * entT.size = i * 2 := rfl
            rw [this] at e2
            rw [e2] at e1
            rw [List.getElem?_eq_getElem (by omega)]
            have e1 := Option.some.inj e1
            rw [← e1]
            exact (List.getElem?_eq_getElem (by omega)).symm
          · have hl2 : (entC raws[i]).length = 2 := rfl
            have a1 : cs'[j]? = none := List.getElem?_eq_none (by omega)
            have a2 : (entC raws[i])[j]? = none := List.getElem?_eq_none (by omega)
            exact a1.trans a2.symm
      rw [e] at g2
      rw [hrx]
      exact ent_bulk g2
    have hs := bulk_sum D (fun i => ((raws[i]?).map fun r => r.2.n + 1).getD 0) (List.range len) key
    rw [range_sum raws len (by omega)] at hs
    simp only [Rows.uptoBulk]
    omega
end Go.Proofs.YtchhhjlpnecjkaaGreat
namespace Go.Proofs.YtchhhjlpnecjkaaGreat
open Go Go.RowKit Go.Proofs.YtchhhjlpnecjkaaGreat.Den
variable {R : Type} {Q : R → World → Prop} {w : World}
theorem spec_r10_Twins {ok : Nat → Prop} {s : Sl} {raws : List (Int × Sl)} {L : List Ent} (hS : SlT ok w entT s raws) (hE : EntsR ok w raws L) (hm : L.length ≤ 1048576) (hL : ∀ e ∈ L, Small e.2) {K : Res [.sc .sl] → W R}
    (hk : ∀ r raws' w', Own (Up w.heap.size) w' 57 entT r raws' → EntsR (Up w.heap.size) w' raws' L → Fr None w w' → K r Q w') :
    callW Tryz.prog k_pinnaceref10_Twins [.slice s.a s.n s.c] [.sc .sl] K Q w := by
  refine C_pinnaceref10_Twins s K Q w ?_
  unfold F_pinnaceref10_Twins
  have hlen := hS.len
  have hel := hE.len
  refine forI (N := s.n) (fun s : Sl × Int => s.2) (fun j st w' => st.2 = (j : Int) ∧ (∃ rs, rs.length = j ∧ Own (fun k => w.heap.size ≤ k) w' 57 entT st.1 rs ∧ EntsR (fun k => w.heap.size ≤ k ∧ st.1.v.ownBlock ≠ some k) w' rs (L.take j)) ∧ Fr None w w') ⟨rfl, ⟨[], rfl, Own.nil _ _ _ _, by rw [List.take_zero]; exact EntsR.nil _ _⟩, Fr.refl _ _⟩ (fun j s w' h => h.1) ?_ ?_
  · rintro j ⟨z, _⟩ w1 K' hj ⟨rfl, ⟨rs, hrs, o1, E1⟩, f1⟩ - hK
    have hs1 := f1.size
    obtain ⟨e, he⟩ : ∃ e, L[j]? = some e := ⟨_, List.getElem?_eq_getElem (by omega)⟩
    obtain ⟨r1, hr1, ha1, ha2⟩ := hE.get he
    refine (hS.fr0 f1).get rfl rfl (by omega) fun y hy => ?_
    rw [hr1] at hy
    cases hy
    refine newI fun w2 B2 f2 s2 => stoAll B2 rfl rfl fun w3 B3 f3 s3 => ?_
    have f13 : Fr None w1 w3 := f2.newer f3 fun k e => by omega
    have fd : Fr None w3 w3.drew := (Fr.refl _ _).drew
    have f1d := f13.then0 fd
    have Bd := B3.fr fd fun h => h
    have hs3 := f1d.size
    refine fldI Bd (i := 0) (x := r1.1) rfl (fldI Bd (i := 1) (x := r1.2) rfl ?_)
    refine spec_r5_Twin (ha2.fr0 (f1.then0 f1d)) (hL e (List.mem_of_getElem? he)) fun t w4 o4 f4 => ?_
    refine andI ((Bd.fr f4 fun h => h).rd (s := .int .u32) (i := 0) (x := r1.1) rfl) ?_
    have f14 := f1d.then0 f4
    have hs4 := f4.size
    have oz : Own (fun k => w.heap.size ≤ k ∧ (z.v.ownBlock = some k ∨ w4.heap.size ≤ k)) w4 57 entT z rs := ⟨(o1.none f14).row, fun k e => ⟨o1.own k e, .inl e⟩⟩
    refine appP (x := ((r1.1, t) : Int × Sl)) ents_ty rfl oz (fun k e => ⟨by omega, .inr e⟩) (by omega) (by omega) fun r w5 o5 f5 => ?_
    have hzl : ∀ k, z.v.ownBlock = some k → k < w1.heap.size := fun k e => (o1.row.lt k e).2
    have E4 : EntsR (fun k => (w.heap.size ≤ k ∧ z.v.ownBlock ≠ some k) ∧ k < w1.heap.size) w5 rs (L.take j) := ((E1.mono (ok' := fun k => (w.heap.size ≤ k ∧ z.v.ownBlock ≠ some k) ∧ k < w1.heap.size) fun k hk e => ⟨e, hk⟩).fr f14 fun _ _ h => h).fr f5 fun k e e2 => e.1.2 e2
    have t5 : SlT (fun k => w3.drew.heap.size ≤ k ∧ k < w4.heap.size) w5 compT t e.2 := (o4.mono (S' := fun k => w3.drew.heap.size ≤ k ∧ k < w4.heap.size) fun k hk e => ⟨e, hk⟩).sl.fr f5 fun k e e2 => by have := hzl k e2; omega
    refine hK _ _ ⟨wsucc hj (by omega), ⟨rs ++ [(r1.1, t)], by simp [hrs], o5.mono fun k _ e => e.1, ?_⟩, (f1.then0 f14).newer f5 fun k e => o1.own k e⟩
    have ro : ∀ k, r.v.ownBlock = some k → z.v.ownBlock = some k ∨ w4.heap.size ≤ k := fun k e => (o5.own k e).2
    refine ⟨by simp [hrs]; omega, fun q rq eq h1 h2 => ?_⟩
    rw [take_at he] at h2
    rcases Nat.lt_or_ge q j with hq | hq
    · rw [List.getElem?_append_left (by omega)] at h1
      rw [List.getElem?_append_left (by simp; omega)] at h2
      obtain ⟨x1, x2⟩ := E4.at_ q rq eq h1 h2
      refine ⟨x1, x2.mono fun k _ e => ⟨e.1.1, fun e2 => ?_⟩⟩
      rcases ro k e2 with h | h
      · exact e.1.2 h
      · have := e.2; omega
    · have hlt := (List.getElem?_eq_some_iff.1 h1).1
      have : q = j := by simp [hrs] at hlt; omega
      subst this
      rw [List.getElem?_append_right (by omega)] at h1
      rw [List.getElem?_append_right (by simp; omega)] at h2
      simp [hrs] at h1
      have h2 : eq = e := by
        have : q - (L.take q).length = 0 := by simp; omega
        rw [this] at h2
        simpa using h2.symm
      subst h1; subst h2
      refine ⟨ha1, t5.mono fun k _ e => ⟨by omega, fun e2 => ?_⟩⟩
      rcases ro k e2 with h | h
      · have := hzl k h; omega
      · omega
  · rintro ⟨z, _⟩ w1 ⟨_, ⟨rs, hrs, o1, E1⟩, f1⟩
    rw [List.take_of_length_le (by omega)] at E1
    exact hk z rs w1 o1 (E1.mono fun k _ e => e.1) f1
end Go.Proofs.YtchhhjlpnecjkaaGreat
set_option linter.unusedVariables false
namespace Go.Proofs.YtchhhjlpnecjkaaGreat
open Go Go.Proofs.YtchhhjlpnecjkaaGreat.Den
def F_pinnacelaw20_PacketSeals (d0 : (Int × Int × Int × Int × Int)) (o1 : Sl) (p2 : Sl) : W (Bool) :=
  newW 30 [.int .u8 d0.1, .int .u8 d0.2.1, .int .u32 d0.2.2.1, .int .u32 d0.2.2.2.1, .int .u32 d0.2.2.2.2] fun x_1 =>
  callW Tryz.prog k_pinnacelaw20_awake [] [.sc .bool] fun (x_2 : Bool) =>
  cond (!x_2)
    (retW false)
    (callW Tryz.prog k_pinnacelaw20_few [.slice o1.a o1.n o1.c, .slice p2.a p2.n p2.c] [.sc .bool] fun (x_3 : Bool) =>
  cond (!x_3)
    (retW true)
    (callW Tryz.prog k_pinnaceref10_Twins [.slice o1.a o1.n o1.c] [.sc .sl] fun (x_4 : Sl) =>
  callW Tryz.prog k_pinnaceref10_Twins [.slice p2.a p2.n p2.c] [.sc .sl] fun (x_5 : Sl) =>
  ld (.agg [.int .u8, .int .u8, .int .u32, .int .u32, .int .u32]) x_1 fun (x_6 : (Int × Int × Int × Int × Int)) =>
  callW Tryz.prog k_packet_Seal [.agg ⟨[.int .u8 x_6.1, .int .u8 x_6.2.1, .int .u32 x_6.2.2.1, .int .u32 x_6.2.2.2.1, .int .u32 x_6.2.2.2.2]⟩, .slice x_4.a x_4.n x_4.c, .slice x_5.a x_5.n x_5.c] [.sc .sl, .sc (.int .i64)] fun (x_7 : Sl × Int) =>
  ld (.agg [.int .u8, .int .u8, .int .u32, .int .u32, .int .u32]) x_1 fun (x_8 : (Int × Int × Int × Int × Int)) =>
  callW Tryz.prog k_pinnaceref20_Seal [.agg ⟨[.int .u8 x_8.1, .int .u8 x_8.2.1, .int .u32 x_8.2.2.1, .int .u32 x_8.2.2.2.1, .int .u32 x_8.2.2.2.2]⟩, .slice o1.a o1.n o1.c, .slice p2.a p2.n p2.c] [.sc .sl, .sc (.int .i64)] fun (x_9 : Sl × Int) =>
  joinW (σ := Bool) (fun J_10 =>
    drawW <|
    callW Tryz.prog k_pinnaceref01_Same [.slice x_7.1.a x_7.1.n x_7.1.c, .slice x_9.1.a x_9.1.n x_9.1.c] [.sc .bool] fun (x_11 : Bool) =>
    cond (!x_11)
      (J_10 true)
      (cond (x_7.2 != x_9.2)
            (J_10 true)
            (ld (.agg [.int .u8, .int .u8, .int .u32, .int .u32, .int .u32]) x_1 fun (x_12 : (Int × Int × Int × Int × Int)) =>
            ld (.agg [.int .u8, .int .u8, .int .u32, .int .u32, .int .u32]) x_1 fun (x_13 : (Int × Int × Int × Int × Int)) =>
              callW Tryz.prog k_packet_Check [.agg ⟨[.int .u8 x_12.1, .int .u8 x_12.2.1, .int .u32 x_12.2.2.1, .int .u32 x_12.2.2.2.1, .int .u32 x_12.2.2.2.2]⟩] [.sc (.int .i64)] fun (x_14 : Int) =>
                andW (fun w => Rd w x_1 (.agg [.int .u8, .int .u8, .int .u32, .int .u32, .int .u32]) x_13) <|
                callW Tryz.prog k_pinnaceref20_Check [.agg ⟨[.int .u8 x_13.1, .int .u8 x_13.2.1, .int .u32 x_13.2.2.1, .int .u32 x_13.2.2.2.1, .int .u32 x_13.2.2.2.2]⟩] [.sc (.int .i64)] fun (x_15 : Int) =>
                  cond (x_14 != x_15)
                      (J_10 true)
                      (callW Tryz.prog k_pinnaceref10_SameEnts [.slice x_4.a x_4.n x_4.c, .slice o1.a o1.n o1.c] [.sc .bool] fun (x_16 : Bool) =>
                          cond (!x_16)
                              (J_10 true)
                              (callW Tryz.prog k_pinnaceref10_SameEnts [.slice x_5.a x_5.n x_5.c, .slice p2.a p2.n p2.c] [.sc .bool] fun (x_17 : Bool) =>
                                  J_10 (!x_17))))))
  <| fun s_18 =>
  cond s_18
    (retW false)
    (cond (x_7.2 != 0)
    (retW true)
    (callW Tryz.prog k_packet_Peek [.slice x_7.1.a x_7.1.n x_7.1.c] [.agg [.int .u8, .int .u8, .int .u32, .int .u32, .int .u32], .sc (.int .i64)] fun (x_19 : (Int × Int × Int × Int × Int) × Int) =>
  newW 30 [.int .u8 0, .int .u8 0, .int .u32 0, .int .u32 0, .int .u32 0] fun x_20 =>
  stoL x_20 [.int .u8 x_19.1.1, .int .u8 x_19.1.2.1, .int .u32 x_19.1.2.2.1, .int .u32 x_19.1.2.2.2.1, .int .u32 x_19.1.2.2.2.2] 0 <|
  callW Tryz.prog k_packet_Open [.slice x_7.1.a x_7.1.n x_7.1.c, .slice x_4.a x_4.n x_4.c] [.agg [.int .u8, .int .u8, .int .u32, .int .u32, .int .u32], .sc .sl, .sc (.int .i64)] fun (x_21 : (Int × Int × Int × Int × Int) × Sl × Int) =>
  newW 30 [.int .u8 0, .int .u8 0, .int .u32 0, .int .u32 0, .int .u32 0] fun x_22 =>
  stoL x_22 [.int .u8 x_21.1.1, .int .u8 x_21.1.2.1, .int .u32 x_21.1.2.2.1, .int .u32 x_21.1.2.2.2.1, .int .u32 x_21.1.2.2.2.2] 0 <|
  joinW (σ := Bool) (fun J_23 =>
    ld (.agg [.int .u8, .int .u8, .int .u32, .int .u32, .int .u32]) x_20 fun (x_24 : (Int × Int × Int × Int × Int)) =>
    ld (.agg [.int .u8, .int .u8, .int .u32, .int .u32, .int .u32]) x_1 fun (x_25 : (Int × Int × Int × Int × Int)) =>
    rawQ Tryz.prog (do Go.eqGuard .eql 30 (.tmp 84) (.tmp 85) (.agg ⟨[.int .u8 x_24.1, .int .u8 x_24.2.1, .int .u32 x_24.2.2.1, .int .u32 x_24.2.2.2.1, .int .u32 x_24.2.2.2.2]⟩) (.agg ⟨[.int .u8 x_25.1, .int .u8 x_25.2.1, .int .u32 x_25.2.2.1, .int .u32 x_25.2.2.2.1, .int .u32 x_25.2.2.2.2]⟩); Go.binOp .eql 30 (.agg ⟨[.int .u8 x_24.1, .int .u8 x_24.2.1, .int .u32 x_24.2.2.1, .int .u32 x_24.2.2.2.1, .int .u32 x_24.2.2.2.2]⟩) (.agg ⟨[.int .u8 x_25.1, .int .u8 x_25.2.1, .int .u32 x_25.2.2.1, .int .u32 x_25.2.2.2.1, .int .u32 x_25.2.2.2.2]⟩)) [.sc .bool] fun (x_26 : Bool) =>
    cond x_26
      (cond (x_19.2 == 0)
          (ld (.agg [.int .u8, .int .u8, .int .u32, .int .u32, .int .u32]) x_22 fun (x_27 : (Int × Int × Int × Int × Int)) =>
          ld (.agg [.int .u8, .int .u8, .int .u32, .int .u32, .int .u32]) x_1 fun (x_28 : (Int × Int × Int × Int × Int)) =>
            rawQ Tryz.prog (do Go.eqGuard .eql 30 (.tmp 92) (.tmp 93) (.agg ⟨[.int .u8 x_27.1, .int .u8 x_27.2.1, .int .u32 x_27.2.2.1, .int .u32 x_27.2.2.2.1, .int .u32 x_27.2.2.2.2]⟩) (.agg ⟨[.int .u8 x_28.1, .int .u8 x_28.2.1, .int .u32 x_28.2.2.1, .int .u32 x_28.2.2.2.1, .int .u32 x_28.2.2.2.2]⟩); Go.binOp .eql 30 (.agg ⟨[.int .u8 x_27.1, .int .u8 x_27.2.1, .int .u32 x_27.2.2.1, .int .u32 x_27.2.2.2.1, .int .u32 x_27.2.2.2.2]⟩) (.agg ⟨[.int .u8 x_28.1, .int .u8 x_28.2.1, .int .u32 x_28.2.2.1, .int .u32 x_28.2.2.2.1, .int .u32 x_28.2.2.2.2]⟩)) [.sc .bool] fun (x_29 : Bool) =>
              cond x_29
                (cond (x_21.2.2 == 0)
                    (callW Tryz.prog k_pinnaceref10_SameEnts [.slice x_21.2.1.a x_21.2.1.n x_21.2.1.c, .slice p2.a p2.n p2.c] [.sc .bool] fun (x_30 : Bool) =>
                        J_23 x_30)
                    (J_23 false))
                (J_23 false))
          (J_23 false))
      (J_23 false))
  <| fun s_31 =>
  retW s_31))))
def H_pinnacelaw20_PacketSeals : Hints := { reg := [(8, [(69, .sc .bool)]), (14, [(6, .sc .bool)])], dr := [(8, ([], [[(0, []), (1, []), (2, []), (3, []), (4, []), (5, []), (6, []), (7, []), (8, []), (9, []), (10, []), (12, []), (11, [12]), (13, []), (14, []), (15, []), (16, []), (17, []), (18, []), (19, []), (20, []), (21, []), (22, []), (23, []), (24, []), (25, []), (26, []), (27, [])]]))] }
set_option maxRecDepth 100000 in
theorem E_pinnacelaw20_PacketSeals (d0 : (Int × Int × Int × Int × Int)) (o1 : Sl) (p2 : Sl) : denF Tryz.prog H_pinnacelaw20_PacketSeals Tryz.f5 [.sc .bool] [.agg ⟨[.int .u8 d0.1, .int .u8 d0.2.1, .int .u32 d0.2.2.1, .int .u32 d0.2.2.2.1, .int .u32 d0.2.2.2.2]⟩, .slice o1.a o1.n o1.c, .slice p2.a p2.n p2.c] = F_pinnacelaw20_PacketSeals d0 o1 p2 := by kernel_rfl
theorem C_pinnacelaw20_PacketSeals {R : Type} (d0 : (Int × Int × Int × Int × Int)) (o1 : Sl) (p2 : Sl) (K : Res [.sc .bool] → W R) (Q : R → World → Prop) (w : World) (h : F_pinnacelaw20_PacketSeals d0 o1 p2 (fun r w => K r Q w) w) : callW Tryz.prog k_pinnacelaw20_PacketSeals [.agg ⟨[.int .u8 d0.1, .int .u8 d0.2.1, .int .u32 d0.2.2.1, .int .u32 d0.2.2.2.1, .int .u32 d0.2.2.2.2]⟩, .slice o1.a o1.n o1.c, .slice p2.a p2.n p2.c] [.sc .bool] K Q w :=
  den_calls mix Tryz.func5 H_pinnacelaw20_PacketSeals (ts := [.sc .bool]) trivial (by rw [Tryz.ntmps5]; simp) (by rw [E_pinnacelaw20_PacketSeals]; exact h)
def F_pinnacelaw20_awake  : W (Bool) :=
  callW Tryz.prog k_packet_Seal [.agg ⟨[.int .u8 3, .int .u8 2, .int .u32 1, .int .u32 5, .int .u32 0]⟩, .slice none 0 0, .slice none 0 0] [.sc .sl, .sc (.int .i64)] fun (x_1 : Sl × Int) =>
  callW Tryz.prog k_pinnaceref03_Open [.slice x_1.1.a x_1.1.n x_1.1.c] [.sc .sl, .sc (.int .i64)] fun (x_2 : Sl × Int) =>
  joinW (σ := Bool) (fun J_3 =>
    cond (x_1.2 == 0)
      (cond (x_2.2 == 0)
          (newW 5 [.int .u8 146, .int .u8 80, .int .u8 0, .int .u8 0, .int .u8 0, .int .u8 0] fun x_4 =>
            callW Tryz.prog k_pinnaceref01_Same [.slice x_2.1.a x_2.1.n x_2.1.c, .slice (some x_4) 6 6] [.sc .bool] fun (x_5 : Bool) =>
              J_3 x_5)
          (J_3 false))
      (J_3 false))
  <| fun s_6 =>
  retW s_6
def H_pinnacelaw20_awake : Hints := { reg := [(3, [(0, .sc .bool)])] }
theorem E_pinnacelaw20_awake  : denF Tryz.prog H_pinnacelaw20_awake Tryz.f8 [.sc .bool] [] = F_pinnacelaw20_awake := by kernel_rfl
theorem C_pinnacelaw20_awake {R : Type}  (K : Res [.sc .bool] → W R) (Q : R → World → Prop) (w : World) (h : F_pinnacelaw20_awake (fun r w => K r Q w) w) : callW Tryz.prog k_pinnacelaw20_awake [] [.sc .bool] K Q w :=
  den_calls mix Tryz.func8 H_pinnacelaw20_awake (ts := [.sc .bool]) trivial (by rw [Tryz.ntmps8]; simp) (by rw [E_pinnacelaw20_awake]; exact h)
def F_pinnacelaw20_few (a0 : Sl) (b1 : Sl) : W (Bool) :=
  joinW (σ := Bool) (fun J_1 =>
    callW Tryz.prog k_pinnaceref18_Few [.slice a0.a a0.n a0.c] [.sc .bool] fun (x_2 : Bool) =>
    cond x_2
      (callW Tryz.prog k_pinnaceref18_Few [.slice b1.a b1.n b1.c] [.sc .bool] fun (x_3 : Bool) =>
        J_1 x_3)
      (J_1 false))
  <| fun s_4 =>
  retW s_4
def H_pinnacelaw20_few : Hints := { reg := [(1, [(4, .sc .bool)])] }
theorem E_pinnacelaw20_few (a0 : Sl) (b1 : Sl) : denF Tryz.prog H_pinnacelaw20_few Tryz.f17 [.sc .bool] [.slice a0.a a0.n a0.c, .slice b1.a b1.n b1.c] = F_pinnacelaw20_few a0 b1 := by kernel_rfl
theorem C_pinnacelaw20_few {R : Type} (a0 : Sl) (b1 : Sl) (K : Res [.sc .bool] → W R) (Q : R → World → Prop) (w : World) (h : F_pinnacelaw20_few a0 b1 (fun r w => K r Q w) w) : callW Tryz.prog k_pinnacelaw20_few [.slice a0.a a0.n a0.c, .slice b1.a b1.n b1.c] [.sc .bool] K Q w :=
  den_calls mix Tryz.func17 H_pinnacelaw20_few (ts := [.sc .bool]) trivial (by rw [Tryz.ntmps17]; simp) (by rw [E_pinnacelaw20_few]; exact h)
end Go.Proofs.YtchhhjlpnecjkaaGreat
namespace Go.Proofs.YtchhhjlpnecjkaaGreat
open Go Go.RowKit
theorem band {a b : Bool} (h1 : a = true) (h2 : b = true) : (a && b) = true := by rw [h1, h2]; rfl
theorem maps_rowed : mapsRowed Tryz.prog = true := by kernel_rfl
theorem may_enter : Tryz.prog.mayEnter = true := by kernel_rfl
end Go.Proofs.YtchhhjlpnecjkaaGreat
namespace Go.Proofs.YtchhhjlpnecjkaaGreat
open Go Go.RowKit Go.ChangeShapes Go.WideShapes Go.ChangeAt Go.Proofs.YtchhhjlpnecjkaaGreat.Den
variable {R : Type} {Q : R → World → Prop} {w : World}
abbrev awH : Head := (3, 2, 1, 5, 0)
theorem aw_err : sealE awH [] [] = 0 := by decide +kernel
theorem aw_body : packM (sealW awH [] []).1 = [146, 80, 0, 0, 0, 0] := by decide +kernel
theorem spec_l20_awake {K : Res [.sc .bool] → W R} (hk : ∀ w', Fr None w w' → K true Q w') : callW Tryz.prog k_pinnacelaw20_awake [] [.sc .bool] K Q w := by
  refine C_pinnacelaw20_awake K Q w ?_
  unfold F_pinnacelaw20_awake
  refine spec_packet_Seal (ok1 := None) (ok2 := None) (h := awH) (by unfold HeadOk; decide) (s1 := ⟨none, 0, 0⟩) (s2 := ⟨none, 0, 0⟩) (SlT.nil _) (EntsR.nil _ _) (SlT.nil _) (EntsR.nil _ _) (by decide) (by decide) (fun e h => by cases h) (fun e h => by cases h) (fun h => absurd aw_err h) fun _ r w1 o1 f1 => ?_
  unfold sealB at o1
  rw [aw_body] at o1
  have ok : BytesOk [146, 80, 0, 0, 0, 0] := by decide
  have hl : (sealF [146, 80, 0, 0, 0, 0]).length = 10 := by rw [sealF_len]; rfl
  have ht : (sealF [146, 80, 0, 0, 0, 0]).take ((sealF [146, 80, 0, 0, 0, 0]).length - 4) = [146, 80, 0, 0, 0, 0] := by
    rw [hl]
    exact List.take_left (l₁ := [146, 80, 0, 0, 0, 0])
  refine spec_r3_Open o1.sl (sealF_ok ok) (by omega) (fun w' _ => ⟨fun h => by omega, fun h => by omega, fun _ _ h => absurd (by rw [ht]) h⟩) fun _ _ _ r2 w2 o2 f2 => ?_
  rw [ht] at o2
  refine joinI (fun z v => z = true ∧ Fr None w v) ?_ fun z v ⟨hz, f⟩ => by subst hz; exact hk v f
  refine condT rfl (condT rfl ?_)
  refine newI fun w3 B3 f3 t3 => ?_
  have hS3 := blkSl (t := u8T) (l := [146, 80, 0, 0, 0, 0]) (n := 6) B3 rfl rfl
  refine spec_r1_Same (o2.none f3).sl hS3 ok ok ?_
  exact ⟨by decide, (f1.then0 f2).then0 f3⟩
theorem EntIn.later {W : World} {raws : List (Int × Sl)} {L : List Ent} (h : All2 (EntIn W) raws L) (f : Fr None W w) : EntsR (Old W) w raws L := (EntIn.ents h).fr f fun _ _ h => h
end Go.Proofs.YtchhhjlpnecjkaaGreat
namespace Go.Proofs.YtchhhjlpnecjkaaGreat
open Go Go.RowKit Go.ChangeShapes Go.WideShapes Go.ChangeAt Go.Proofs.YtchhhjlpnecjkaaGreat.Den
variable {R : Type} {Q : R → World → Prop} {w : World} {H : Type} {enc : TypeId × Value → H}
theorem spec_r10_SameEnts {ok ok2 : Nat → Prop} {s s2 : Sl} {raws raws2 : List (Int × Sl)} {L L2 : List Ent} (hS : SlT ok w entT s raws) (hE : EntsR ok w raws L) (hS2 : SlT ok2 w entT s2 raws2) (hE2 : EntsR ok2 w raws2 L2) (hm : L.length ≤ 1048576) (hL : ∀ e ∈ L, Small e.2) {K : Res [.sc .bool] → W R} (hk : ∀ w', Fr None w w' → K (decide (L = L2)) Q w') :
    callW Tryz.prog k_pinnaceref10_SameEnts [.slice s.a s.n s.c, .slice s2.a s2.n s2.c] [.sc .bool] K Q w := by
  refine C_pinnaceref10_SameEnts s s2 K Q w ?_
  unfold F_pinnaceref10_SameEnts
  have h1 := hS.len.trans hE.len
  have h2 := hS2.len.trans hE2.len
  refine condN (fun hne => ?_) fun heq => ?_
  · have e := hk w (Fr.refl _ _)
    rw [decide_eq_false (fun e => hne (by rw [h1, h2, e]))] at e
    exact e
  · refine forI (N := s.n) (fun s : Int => s) (fun j s w' => s = j ∧ Fr None w w' ∧ L.take j = L2.take j) ⟨rfl, Fr.refl _ _, rfl⟩ (fun j s w' h => h.1) ?_ ?_
    · rintro j i w1 K' hj ⟨rfl, f1, ht⟩ - hK
      have f1d := f1.drew
      obtain ⟨x, hx⟩ : ∃ x, L[j]? = some x := ⟨_, List.getElem?_eq_getElem (by omega)⟩
      obtain ⟨y, hy⟩ : ∃ y, L2[j]? = some y := ⟨_, List.getElem?_eq_getElem (by omega)⟩
      obtain ⟨r, hr, a1, a2⟩ := hE.get hx
      obtain ⟨q, hq, b1, b2⟩ := hE2.get hy
      refine (hS.fr0 f1d).get rfl rfl (by have := hE.len; omega) fun z hz => ?_
      rw [hr] at hz; cases hz
      refine (hS2.fr0 f1d).get rfl rfl (by have := hE2.len; omega) fun z hz => ?_
      rw [hq] at hz; cases hz
      refine spec_r10_SameEnt (id := r.1) (s := r.2) (id2 := q.1) (s2 := q.2) (a2.fr0 f1d) (b2.fr0 f1d) (hL x (List.mem_of_getElem? hx)) fun w2 f2 => ?_
      have f02 := f1d.then0 f2
      refine condI (fun hb => ?_) fun hb => ?_
      · have e := hk _ f02
        rw [decide_eq_false (fun e => by
          subst e; rw [hx] at hy; cases hy
          simp [a1, b1] at hb)] at e
        exact e
      · have hxy : x = y := by
          have : r.1 = q.1 ∧ x.2 = y.2 := by simpa using hb
          exact Prod.ext (by rw [← a1, ← b1]; exact this.1) this.2
        subst hxy
        exact hK _ _ ⟨wsucc hj (by omega), f02, by rw [take_at hx, take_at hy, ht]⟩
    · rintro i w1 ⟨rfl, f1, ht⟩
      have e := hk _ f1
      have heq : (s.n : Int) = (s2.n : Int) := heq
      rw [List.take_of_length_le (by omega), List.take_of_length_le (by omega)] at ht
      rw [decide_eq_true ht] at e
      exact e
theorem head_eq {x y : Head} : (x.1 == y.1 && (x.2.1 == y.2.1 && (x.2.2.1 == y.2.2.1 && (x.2.2.2.1 == y.2.2.2.1 && (x.2.2.2.2 == y.2.2.2.2 && true))))) = decide (x = y) := by
  rw [Bool.eq_iff_iff]
  simp [Prod.ext_iff]
abbrev headC (x : Head) : List Value := [.int .u8 x.1, .int .u8 x.2.1, .int .u32 x.2.2.1, .int .u32 x.2.2.2.1, .int .u32 x.2.2.2.2]
theorem eqV_head (x y : Head) : eqV Tryz.prog 9 30 (.agg ⟨headC x⟩) (.agg ⟨headC y⟩) = some (decide (x = y)) := by
  rw [← head_eq]
  kernel_rfl
theorem eqG_head : Tryz.prog.eqGuardType Tryz.prog.depth 30 = false := by kernel_rfl
theorem head_arg : AggArg Tryz.prog 30 [.int .u8, .int .u8, .int .u32, .int .u32, .int .u32] [5, 5, 28, 28, 28] := ⟨by kernel_rfl, by kernel_rfl, by kernel_rfl⟩
theorem head_in {x : Head} (h : AllLeaf enc Tryz.prog w [5, 5, 28, 28, 28] (headC x)) : HeadOk x := by
  obtain ⟨_, h⟩ := h
  obtain ⟨_, e, h0⟩ := (h 0 _ _ rfl rfl).int u8_und
  cases e
  obtain ⟨_, e, h1⟩ := (h 1 _ _ rfl rfl).int u8_und
  cases e
  obtain ⟨_, e, h2⟩ := (h 2 _ _ rfl rfl).int u32_und
  cases e
  obtain ⟨_, e, h3⟩ := (h 3 _ _ rfl rfl).int u32_und
  cases e
  obtain ⟨_, e, h4⟩ := (h 4 _ _ rfl rfl).int u32_und
  cases e
  exact ⟨wf_u8 h0, wf_u8 h1, wf_u32 h2, wf_u32 h3, wf_u32 h4⟩
theorem EntIn.fit {W : World} {raws : List (Int × Sl)} {L : List Ent} (h : All2 (EntIn W) raws L) (hb : (raws.map fun r => r.2.n + 1).sum ≤ 1048576) : L.length ≤ 1048576 ∧ ∀ e ∈ L, EntFit e := by
  have h1 : ∀ (l : List (Int × Sl)), l.length ≤ (l.map fun r => r.2.n + 1).sum := by
    intro l
    induction l with
    | nil => simp
    | cons a r ih => simp only [List.length_cons, List.map_cons, List.sum_cons]; omega
  have h2 : ∀ (l : List (Int × Sl)) r, r ∈ l → r.2.n ≤ (l.map fun r => r.2.n + 1).sum := by
    intro l
    induction l with
    | nil => intro r h; cases h
    | cons a q ih =>
      intro r hr
      simp only [List.map_cons, List.sum_cons]
      rcases List.mem_cons.1 hr with rfl | hr
      · omega
      · have := ih r hr; omega
  refine ⟨by have := h1 raws; have := h.len; omega, fun e he => ?_⟩
  obtain ⟨i, hi⟩ := List.mem_iff_getElem?.1 he
  obtain ⟨r, hr, hin⟩ := h.get hi
  have := h2 raws r (List.mem_of_getElem? hr)
  have := hin.sl.len
  exact ⟨hin.ok, by omega, hin.comps⟩
end Go.Proofs.YtchhhjlpnecjkaaGreat
namespace Go.Proofs.YtchhhjlpnecjkaaGreat
open Go Go.RowKit Go.ChangeShapes Go.WideShapes Go.ChangeAt Go.Proofs.YtchhhjlpnecjkaaGreat.Den
variable {R : Type} {Q : R → World → Prop} {w : World} {H : Type} {enc : TypeId × Value → H}
theorem spec_l20_few {s1 s2 : Sl} {ok1 ok2 : Nat → Prop} {raws1 raws2 : List (Int × Sl)} {was now : List Ent} (hS1 : SlT ok1 w entT s1 raws1) (hE1 : EntsR ok1 w raws1 was) (hS2 : SlT ok2 w entT s2 raws2) (hE2 : EntsR ok2 w raws2 now) (n1 : was.length ≤ 1048576) (n2 : now.length ≤ 1048576) {K : Res [.sc .bool] → W R}
    (h0 : ∀ w', Fr None w w' → K false Q w') (hk : fewM was ≤ 400 → fewM now ≤ 400 → ∀ w', Fr None w w' → K true Q w') : callW Tryz.prog k_pinnacelaw20_few [.slice s1.a s1.n s1.c, .slice s2.a s2.n s2.c] [.sc .bool] K Q w := by
  refine C_pinnacelaw20_few s1 s2 K Q w ?_
  unfold F_pinnacelaw20_few
  refine joinI (fun z v => (z = true → fewM was ≤ 400 ∧ fewM now ≤ 400) ∧ Fr None w v) ?_ ?_
  · refine spec_r18_Few hS1 hE1 (by omega) fun w3 f3 => condD (fun a => ?_) fun a => ⟨fun h => (by cases h), f3⟩
    exact spec_r18_Few (hS2.fr0 f3) (hE2.fr f3 fun _ _ h => h) (by omega) fun w4 f4 => ⟨fun h => ⟨a, by simpa using h⟩, f3.then0 f4⟩
  · rintro z v ⟨hz, fv⟩
    cases z with
    | false => exact h0 v fv
    | true => exact hk (hz rfl).1 (hz rfl).2 v fv
end Go.Proofs.YtchhhjlpnecjkaaGreat
namespace Go.Proofs.YtchhhjlpnecjkaaGreat
open Go Go.RowKit Go.ChangeShapes Go.WideShapes Go.ChangeAt Go.Proofs.YtchhhjlpnecjkaaGreat.Den
variable {R : Type} {Q : R → World → Prop} {w : World} {H : Type} {enc : TypeId × Value → H}
theorem few_sum : ∀ (L : List Ent) (n : Int), 0 ≤ n → n + ((L.map fun e => e.2.length).sum : Nat) ≤ 1000000000 → L.foldl (fun n e => IntKind.wrap .i64 (n + (e.2.length : Int))) n = n + ((L.map fun e => e.2.length).sum : Nat)
  | [], n, _, _ => by simp
  | e :: r, n, h0, h => by
    simp only [List.map_cons, List.sum_cons] at h ⊢
    rw [List.foldl_cons, w64 (by omega), few_sum r _ (by omega) (by omega)]
    omega
theorem few_le {W : World} {raws : List (Int × Sl)} {L : List Ent} (hE : All2 (EntIn W) raws L) (hb : (raws.map fun r => r.2.n + 1).sum ≤ 1048576) (hf : fewM L ≤ 400) : L.length ≤ 400 := by
  have hs : ∀ (raws : List (Int × Sl)) (L : List Ent), All2 (EntIn W) raws L → (L.map fun e => e.2.length).sum + L.length = (raws.map fun r => r.2.n + 1).sum := by
    intro raws
    induction raws with
    | nil =>
      intro L h
      have := h.len
      have : L = [] := List.length_eq_zero_iff.1 (by simpa using this.symm)
      subst this
      rfl
    | cons r raws ih =>
      intro L h
      obtain ⟨e, L0, rfl, he, h0⟩ := h.inv
      have := ih L0 h0
      have hn : r.2.n = e.2.length := he.sl.len
      simp only [List.map_cons, List.sum_cons, List.length_cons]
      omega
  have h1 := hs raws L hE
  unfold fewM at hf
  rw [few_sum L _ (by omega) (by omega)] at hf
  omega
theorem law_PacketSeals {W : World} {h : Head} (hok : HeadOk h) {s1 s2 : Sl} {raws1 raws2 : List (Int × Sl)} {was now : List Ent}
    (hS1 : SlT (Old W) W entT s1 raws1) (hE1 : All2 (EntIn W) raws1 was) (_c1 : s1.c ≤ maxLen) (hm1 : (raws1.map fun r => r.2.n + 1).sum ≤ 1048576)
    (hS2 : SlT (Old W) W entT s2 raws2) (hE2 : All2 (EntIn W) raws2 now) (_c2 : s2.c ≤ maxLen) (hm2 : (raws2.map fun r => r.2.n + 1).sum ≤ 1048576) :
    Calls Tryz.prog 5 #[.agg ⟨headC h⟩, .slice s1.a s1.n s1.c, .slice s2.a s2.n s2.c] W (fun e w' => e = .returned (.bool true) ∧ Fr None W w') := by
  refine calls_of (C_pinnacelaw20_PacketSeals h s1 s2 _ _ W ?_)
  unfold F_pinnacelaw20_PacketSeals
  obtain ⟨n1, t1⟩ := EntIn.fit hE1 hm1
  obtain ⟨n2, t2⟩ := EntIn.fit hE2 hm2
  have sm : ∀ {L : List Ent}, (∀ e ∈ L, EntFit e) → ∀ e ∈ L, Small e.2 := fun h e he => (h e he).2.1
  refine newI fun w1 B1 f1 z1 => spec_l20_awake fun w2 f2 => condF rfl ?_
  have f02 := f1.then0 f2
  refine spec_l20_few (hS1.fr0 f02) (EntIn.later hE1 f02) (hS2.fr0 f02) (EntIn.later hE2 f02) n1 n2 (fun w3 f3 => condT rfl ⟨rfl, f02.then0 f3⟩) fun few1 few2 w3 f3 => condF rfl ?_
  have l1 := few_le hE1 hm1 few1
  have l2 := few_le hE2 hm2 few2
  have f03 := f02.then0 f3
  have f13 := f2.then0 f3
  refine spec_r10_Twins (hS1.fr0 f03) (EntIn.later hE1 f03) n1 (sm t1) fun r4 q4 w4 o4 E4 f4 => ?_
  have f04 := f03.then0 f4
  refine spec_r10_Twins (hS2.fr0 f04) (EntIn.later hE2 f04) n2 (sm t2) fun r5 q5 w5 o5 E5 f5 => ?_
  have f05 := f04.then0 f5
  have f15 := (f13.then0 f4).then0 f5
  refine aggI (B1.fr f15 fun h => h) (x := h) rfl ?_
  have rd : ∀ {u : World} {bk : Nat} {h : Head}, Blk u bk 30 (headC h) → Rd u ⟨bk, 0, none⟩ (.agg [.int .u8, .int .u8, .int .u32, .int .u32, .int .u32]) h := fun B => fun j u hj => by
    rw [add_lit, B.cell, Nat.zero_add]
    exact hj
  obtain ⟨sr1, sr2⟩ := seal_ref hok t1 t2 (fun _ _ => l2) fun _ _ => ⟨l1, l2⟩
  have fin : ∀ {u : World} (p q : Sl) (pb : List Int) (e : Int), Fr None w5 u → BytesOk pb → SlT (Up w5.heap.size) u u8T p pb → SlT (Up w5.heap.size) u u8T q pb → e = sealE h was now → (e = 0 → pb = sealB h was now) →
      (joinW (σ := Bool) (fun J_10 =>
    drawW <|
    callW Tryz.prog k_pinnaceref01_Same [.slice p.a p.n p.c, .slice q.a q.n q.c] [.sc .bool] fun (x_11 : Bool) =>
    cond (!x_11)
      (J_10 true)
      (cond (e != e)
            (J_10 true)
            (ld (.agg [.int .u8, .int .u8, .int .u32, .int .u32, .int .u32]) ⟨W.heap.size, 0, none⟩ fun (x_12 : (Int × Int × Int × Int × Int)) =>
            ld (.agg [.int .u8, .int .u8, .int .u32, .int .u32, .int .u32]) ⟨W.heap.size, 0, none⟩ fun (x_13 : (Int × Int × Int × Int × Int)) =>
              callW Tryz.prog k_packet_Check [.agg ⟨[.int .u8 x_12.1, .int .u8 x_12.2.1, .int .u32 x_12.2.2.1, .int .u32 x_12.2.2.2.1, .int .u32 x_12.2.2.2.2]⟩] [.sc (.int .i64)] fun (x_14 : Int) =>
                andW (fun w => Rd w ⟨W.heap.size, 0, none⟩ (.agg [.int .u8, .int .u8, .int .u32, .int .u32, .int .u32]) x_13) <|
                callW Tryz.prog k_pinnaceref20_Check [.agg ⟨[.int .u8 x_13.1, .int .u8 x_13.2.1, .int .u32 x_13.2.2.1, .int .u32 x_13.2.2.2.1, .int .u32 x_13.2.2.2.2]⟩] [.sc (.int .i64)] fun (x_15 : Int) =>
                  cond (x_14 != x_15)
                      (J_10 true)
                      (callW Tryz.prog k_pinnaceref10_SameEnts [.slice r4.a r4.n r4.c, .slice s1.a s1.n s1.c] [.sc .bool] fun (x_16 : Bool) =>
                          cond (!x_16)
                              (J_10 true)
                              (callW Tryz.prog k_pinnaceref10_SameEnts [.slice r5.a r5.n r5.c, .slice s2.a s2.n s2.c] [.sc .bool] fun (x_17 : Bool) =>
                                  J_10 (!x_17))))))
  <| fun s_18 =>
  cond s_18
    (retW false)
    (cond (e != 0)
    (retW true)
    (callW Tryz.prog k_packet_Peek [.slice p.a p.n p.c] [.agg [.int .u8, .int .u8, .int .u32, .int .u32, .int .u32], .sc (.int .i64)] fun (x_19 : (Int × Int × Int × Int × Int) × Int) =>
  newW 30 [.int .u8 0, .int .u8 0, .int .u32 0, .int .u32 0, .int .u32 0] fun x_20 =>
  stoL x_20 [.int .u8 x_19.1.1, .int .u8 x_19.1.2.1, .int .u32 x_19.1.2.2.1, .int .u32 x_19.1.2.2.2.1, .int .u32 x_19.1.2.2.2.2] 0 <|
  callW Tryz.prog k_packet_Open [.slice p.a p.n p.c, .slice r4.a r4.n r4.c] [.agg [.int .u8, .int .u8, .int .u32, .int .u32, .int .u32], .sc .sl, .sc (.int .i64)] fun (x_21 : (Int × Int × Int × Int × Int) × Sl × Int) =>
  newW 30 [.int .u8 0, .int .u8 0, .int .u32 0, .int .u32 0, .int .u32 0] fun x_22 =>
  stoL x_22 [.int .u8 x_21.1.1, .int .u8 x_21.1.2.1, .int .u32 x_21.1.2.2.1, .int .u32 x_21.1.2.2.2.1, .int .u32 x_21.1.2.2.2.2] 0 <|
  joinW (σ := Bool) (fun J_23 =>
    ld (.agg [.int .u8, .int .u8, .int .u32, .int .u32, .int .u32]) x_20 fun (x_24 : (Int × Int × Int × Int × Int)) =>
    ld (.agg [.int .u8, .int .u8, .int .u32, .int .u32, .int .u32]) ⟨W.heap.size, 0, none⟩ fun (x_25 : (Int × Int × Int × Int × Int)) =>
    rawQ Tryz.prog (do Go.eqGuard .eql 30 (.tmp 84) (.tmp 85) (.agg ⟨[.int .u8 x_24.1, .int .u8 x_24.2.1, .int .u32 x_24.2.2.1, .int .u32 x_24.2.2.2.1, .int .u32 x_24.2.2.2.2]⟩) (.agg ⟨[.int .u8 x_25.1, .int .u8 x_25.2.1, .int .u32 x_25.2.2.1, .int .u32 x_25.2.2.2.1, .int .u32 x_25.2.2.2.2]⟩); Go.binOp .eql 30 (.agg ⟨[.int .u8 x_24.1, .int .u8 x_24.2.1, .int .u32 x_24.2.2.1, .int .u32 x_24.2.2.2.1, .int .u32 x_24.2.2.2.2]⟩) (.agg ⟨[.int .u8 x_25.1, .int .u8 x_25.2.1, .int .u32 x_25.2.2.1, .int .u32 x_25.2.2.2.1, .int .u32 x_25.2.2.2.2]⟩)) [.sc .bool] fun (x_26 : Bool) =>
    cond x_26
      (cond (x_19.2 == 0)
          (ld (.agg [.int .u8, .int .u8, .int .u32, .int .u32, .int .u32]) x_22 fun (x_27 : (Int × Int × Int × Int × Int)) =>
          ld (.agg [.int .u8, .int .u8, .int .u32, .int .u32, .int .u32]) ⟨W.heap.size, 0, none⟩ fun (x_28 : (Int × Int × Int × Int × Int)) =>
            rawQ Tryz.prog (do Go.eqGuard .eql 30 (.tmp 92) (.tmp 93) (.agg ⟨[.int .u8 x_27.1, .int .u8 x_27.2.1, .int .u32 x_27.2.2.1, .int .u32 x_27.2.2.2.1, .int .u32 x_27.2.2.2.2]⟩) (.agg ⟨[.int .u8 x_28.1, .int .u8 x_28.2.1, .int .u32 x_28.2.2.1, .int .u32 x_28.2.2.2.1, .int .u32 x_28.2.2.2.2]⟩); Go.binOp .eql 30 (.agg ⟨[.int .u8 x_27.1, .int .u8 x_27.2.1, .int .u32 x_27.2.2.1, .int .u32 x_27.2.2.2.1, .int .u32 x_27.2.2.2.2]⟩) (.agg ⟨[.int .u8 x_28.1, .int .u8 x_28.2.1, .int .u32 x_28.2.2.1, .int .u32 x_28.2.2.2.1, .int .u32 x_28.2.2.2.2]⟩)) [.sc .bool] fun (x_29 : Bool) =>
              cond x_29
                (cond (x_21.2.2 == 0)
                    (callW Tryz.prog k_pinnaceref10_SameEnts [.slice x_21.2.1.a x_21.2.1.n x_21.2.1.c, .slice s2.a s2.n s2.c] [.sc .bool] fun (x_30 : Bool) =>
                        J_23 x_30)
                    (J_23 false))
                (J_23 false))
          (J_23 false))
      (J_23 false))
  <| fun s_31 =>
  retW s_31))) (fun (r : Bool) w' => r = true ∧ Fr None W w') u := by
    intro u p q pb e f5u hpb hp hq he hpe
    have f0u := f05.then0 f5u
    have Bu := B1.fr (f15.then0 f5u) fun h => h
    refine joinI (fun z v => z = false ∧ Fr None u v) ?_ ?_
    · have fd : Fr None u u.drew := (Fr.refl _ _).drew
      have Bd := Bu.fr fd fun h => h
      refine spec_r1_Same (hp.fr0 fd) (hq.fr0 fd) hpb hpb (condF (by simp) (condF (by simp) (aggI Bd (x := h) rfl (aggI Bd (x := h) rfl (spec_packet_Check fun v1 g1 => andI (rd (Bd.fr g1 fun h => h)) (spec_r20_Check hok fun v2 g2 => condF (by simp) ?_))))))
      have g02 := (fd.then0 g1).then0 g2
      have k02 := f0u.then0 g02
      have k52 := f5u.then0 g02
      refine spec_r10_SameEnts ((o4.none f5).none k52).sl ((E4.fr f5 fun _ _ h => h).fr k52 fun _ _ h => h) (hS1.fr0 k02) (EntIn.later hE1 k02) n1 (sm t1) fun v3 g3 => condF (by simp) ?_
      have k03 := k02.then0 g3
      exact spec_r10_SameEnts ((o5.none k52).none g3).sl ((E5.fr k52 fun _ _ h => h).fr g3 fun _ _ h => h) (hS2.fr0 k03) (EntIn.later hE2 k03) n2 (sm t2) fun v4 g4 => ⟨by simp, (g02.then0 g3).then0 g4⟩
    rintro z v ⟨rfl, fv⟩
    have f0v := f0u.then0 fv
    refine condF rfl (condN (fun _ => ⟨rfl, f0v⟩) fun h0 => ?_)
    have h0 : e = 0 := h0
    have hpb2 := hpe h0
    subst hpb2
    have hse : sealE h was now = 0 := by rw [← he]; exact h0
    obtain ⟨g1, g2⟩ := open_seal hok n1 n2 t1 t2 hse
    have hpv := hp.fr0 fv
    have hlen : (sealB h was now).length ≤ 4100 := (frameErr_0 g1).2.1
    have g2c := g2
    obtain ⟨L', hh, _⟩ := g2c
    refine spec_packet_Peek hpv hpb (by omega) (fun hn => absurd g1 hn) (fun _ hn => by rw [hh] at hn; cases hn) fun _ hd L2 hh2 _ _ v1 k1 => ?_
    rw [hh] at hh2
    cases hh2
    refine newI fun v2 C2 k2 y2 => stoAll C2 rfl rfl fun v3 C3 k3 y3 => ?_
    have k13 : Fr None v1 v3 := k2.newer k3 fun k e => by omega
    have kv3 := k1.then0 k13
    have f5v3 := (f5u.then0 fv).then0 kv3
    refine spec_packet_Open (hpv.fr0 kv3) hpb (by omega) ((o4.none f5).none f5v3).sl ((E4.fr f5 fun _ _ h => h).fr f5v3 fun _ _ h => h) t1 (by omega) (fun hn => absurd g1 hn) (fun _ hn => absurd g2 (hn h now)) fun _ hd2 now2 hR _ _ _ r4' raws4 v4 S4 E4' k4 => ?_
    obtain ⟨e1, e2⟩ := g2.uniq hR
    have e1 := e1.symm
    have e2 := e2.symm
    subst e1
    subst e2
    refine newI fun v5 C5 k5 y5 => stoAll C5 rfl rfl fun v6 C6 k6 y6 => ?_
    have k46 : Fr None v4 v6 := k5.newer k6 fun k e => by omega
    have f0v6 := ((f0v.then0 kv3).then0 k4).then0 k46
    have C36 := (C3.fr k4 fun h => h).fr k46 fun h => h
    have Bv6 := ((Bu.fr fv fun h => h).fr kv3 fun h => h).fr (k4.then0 k46) fun h => h
    refine joinI (fun z v => z = true ∧ Fr None W v) ?_ fun z v ⟨hz, hv⟩ => by subst hz; exact ⟨rfl, hv⟩
    refine aggI C36 (x := h) rfl (aggI Bv6 (x := h) rfl (eqlI eqG_head (eqV_head h h) (condT (by simp) (condT rfl ?_))))
    refine aggI C6 (x := h) rfl (aggI Bv6 (x := h) rfl (eqlI eqG_head (eqV_head h h) (condT (by simp) (condT rfl ?_))))
    refine spec_r10_SameEnts (S4.fr0 k46) (E4'.fr k46 fun _ _ h => h) (hS2.fr0 f0v6) (EntIn.later hE2 f0v6) n2 (sm t2) fun v7 k7 => ⟨by simp, f0v6.then0 k7⟩
  refine spec_packet_Seal hok (o4.none f5).sl (E4.fr f5 fun _ _ h => h) o5.sl E5 n1 n2 t1 t2 (fun hbad w6 f6 => ?_) fun hgood p w6 o6 f6 => ?_
  · refine aggI ((B1.fr f15 fun h => h).fr f6 fun h => h) (x := h) rfl ?_
    have f06 := f05.then0 f6
    refine spec_r20_Seal hok (hS1.fr0 f06) (EntIn.later hE1 f06) (hS2.fr0 f06) (EntIn.later hE2 f06) n1 n2 t1 t2 (fun _ _ => l2) (fun _ _ => ⟨l1, l2⟩) (fun _ w7 f7 => ?_) fun h0 => absurd (sr1.trans h0) hbad
    have := fin ⟨none, 0, 0⟩ ⟨none, 0, 0⟩ [] (sealE h was now) (f6.then0 f7) (fun x hx => by cases hx) (SlT.nil _) (SlT.nil _) rfl fun h0 => absurd h0 hbad
    rw [← sr1]
    exact this
  · refine aggI ((B1.fr f15 fun h => h).fr f6 fun h => h) (x := h) rfl ?_
    have f06 := f05.then0 f6
    have hr0 : refE h was now = 0 := sr1.symm.trans hgood
    refine spec_r20_Seal hok (hS1.fr0 f06) (EntIn.later hE1 f06) (hS2.fr0 f06) (EntIn.later hE2 f06) n1 n2 t1 t2 (fun _ _ => l2) (fun _ _ => ⟨l1, l2⟩) (fun hn => absurd hr0 hn) fun _ q w7 o7 f7 => ?_
    have z6 := f6.size
    rw [← sr2 hgood] at o7
    have := fin p q (sealB h was now) 0 (f6.then0 f7) (sealF_ok (packM_ok _)) (o6.none f7).sl (o7.sl.mono fun k _ (e : w6.heap.size ≤ k) => by show w5.heap.size ≤ k; omega) hgood.symm fun _ => rfl
    exact this
set_option maxRecDepth 100000 in
theorem packetSeals_lifted (os : Os) (started : os.Started) (H : Type) (enc : TypeId × Value → H) (F : Stop.Interp) :
    ReturnsInHanded {} Tryz.checked os 5 .any ((Rows.OpenSpec.upto Rows.packetSealsSpec).pre6 enc Tryz.prog Tryz.f5 Rows.packetSealsUptoRow.domain false) (((Rows.OpenSpec.upto Rows.packetSealsSpec).at F).post enc Tryz.prog Tryz.f5 false true false false) := by
  refine returnsInHanded_of_cond (C := Tryz.checked) (s := Rows.OpenSpec.upto Rows.packetSealsSpec) (k := Rows.uptoSmall) rfl own_knob started (by kernel_rfl) Tryz.func5
    (OpenSpec.witness (enc := enc) (C := Tryz.checked) (s := Rows.OpenSpec.upto Rows.packetSealsSpec) (k := Rows.uptoSmall) rfl false ⟨#[], #[.agg #[.int .u8 0, .int .u8 0, .int .u32 0, .int .u32 0, .int .u32 0], .slice none 0 0, .slice none 0 0], []⟩ 8 (by kernel_rfl) (by kernel_rfl) (by kernel_rfl)
      (x := ([.agg [.lit (.int .u8 0), .lit (.int .u8 0), .lit (.int .u32 0), .lit (.int .u32 0), .lit (.int .u32 0)], .nil, .nil], [], [])) (by kernel_rfl) rfl (by kernel_rfl)) ?_
  intro W base args ds gs before hval0 hW _ hk _
  have hval : ∀ (j : Nat) t v, Tryz.f5.params[j]? = some t → args[j]? = some v → Value.okWide Tryz.prog W .any base t v := hval0
  have hW' := hW
  obtain ⟨p, q, hA0, hV, rfl, hfz, hnd⟩ := hW
  have hA : DataW.TrodAll enc Tryz.prog W 0 (fun _ => true) true Tryz.f5.params.toList args.toList ds p := hA0
  rw [Tryz.params5] at hA hval
  obtain ⟨v0, v1, v2, d0, d1, d2, p0, p1, p2, rfl, rfl, rfl, h0, h1, h2⟩ := trodAll_three hA
  have hb : Rows.uptoBulkAll ([d0, d1, d2] ++ gs) ≤ 1048576 := of_decide_eq_true hk
  simp only [List.cons_append, Rows.uptoBulkAll] at hb
  obtain ⟨x0, rfl, e0⟩ := arg_agg head_arg (hval 0 _ v0 rfl rfl) h0
  obtain ⟨s1, l1, rfl, S1, c1, e1⟩ := arg_slice ents_arg (hval 1 _ v1 rfl rfl) h1
  obtain ⟨L1, O1⟩ := ents_in fun r hr => e1 r hr
  obtain ⟨s2, l2, rfl, S2, c2, e2⟩ := arg_slice ents_arg (hval 2 _ v2 rfl rfl) h2
  obtain ⟨L2, O2⟩ := ents_in fun r hr => e2 r hr
  have b1 := (ents_bulk h1 rfl S1)
  have b1k : Rows.uptoBulk d1 ≤ 1048576 := by omega
  have b2 := (ents_bulk h2 rfl S2)
  have b2k : Rows.uptoBulk d2 ≤ 1048576 := by omega
  refine (law_PacketSeals (head_in e0) S1 O1 c1 (Nat.le_trans b1 b1k) S2 O2 c2 (Nat.le_trans b2 b2k)).mono fun e W' ⟨he, hf⟩ => ?_
  subst he
  exact ⟨_, rfl, law_post (s := Rows.packetSealsSpec) laid_out bool_und (by kernel_rfl) (by rw [Tryz.params5]; decide +kernel) rfl ⟨rfl, rfl, rfl⟩ hW' hf⟩
set_option maxHeartbeats 4000000 in
theorem packetSeals_holds : Rows.PacketSealsUptoSaid :=
  OpenClaim.holds_of_cond 5 Tryz.f5 rfl rfl rfl rfl rfl rfl rfl ⟨rfl, rfl, rfl, rfl, rfl⟩ rfl rfl rfl rfl rfl (by kernel_rfl) Tryz.func5
    (by unfold joinedFacts; repeat' (with_reducible refine band ?_ ?_)
        all_goals first | with_reducible exact laid_out | with_reducible exact maps_rowed | with_reducible exact may_enter | (as_aux_lemma => kernel_rfl))
    (of_decide_eq_true (by kernel_rfl)) (by unfold Func.isWrapper; first | (rw [if_pos (by decide +kernel)]; kernel_rfl) | (rw [if_neg (by decide +kernel)]; exact ⟨rfl, rfl⟩))
    (fun os started H enc _ F => packetSeals_lifted os started H enc F)
end Go.Proofs.YtchhhjlpnecjkaaGreat
