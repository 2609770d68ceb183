/-
  How many bits the document's packets have; what is told of a delta (plainly).
-/
import Derived.Test.YtchhhjlpnecjkaaGreatR02
import Derived.Test.YtchhhjlpnecjkaaGreatR19a
import Derived.Test.YtchhhjlpnecjkaaGreatPkM
namespace Go.Proofs.YtchhhjlpnecjkaaGreat
open Go Go.RowKit Go.Proofs.YtchhhjlpnecjkaaGreat.Den
variable {R : Type} {Q : R → World → Prop} {w : World}

/-! ### sizes -/
theorem stepB2_le (a c : Comp) : (stepB2 a c).length ≤ 200 := by
  have e : stepB2 a c = (List.range (cntM c.1)).flatMap fun i => (oneP a c i).flatMap partB := by
    unfold stepB2 partsB stepP
    rw [List.flatMap_assoc]
    rfl
  have h3 := cntM_le c.1
  have := flat_le (fun i => (oneP a c i).flatMap partB) 66 (List.range (cntM c.1)) fun i _ => by
    obtain ⟨q1, q2⟩ := rangeM_i32 c.1 (i : Int)
    have hw := width_le (lo := (rangeM c.1 (i : Int)).1) (hi := (rangeM c.1 (i : Int)).2.1) (by omega)
    show ((oneP a c i).flatMap partB).length ≤ 66
    unfold oneP
    split
    · simp [partB_len]
    · split
      · simp [partB_len]
      · simp only [List.flatMap_cons, List.flatMap_nil, List.length_append, partB_len, List.length_nil]
        unfold fieldP
        rw [Int.toNat_natCast]
        show 1 + (1 + (widthM (rangeM c.1 (i : Int)).1 (rangeM c.1 (i : Int)).2.1 + 0)) ≤ 66
        omega
  rw [List.length_range] at this
  rw [e]
  omega
theorem setsB_le (was : List Ent) (id : Int) (l : List Comp) : (setsB was id l).length ≤ 200 * l.length := flat_le _ 200 _ fun c _ => stepB2_le _ _
theorem compsB_le (l : List Comp) : (compsB l).length ≤ 192 * l.length := flat_le _ 192 _ fun c _ => compB_le
theorem new_set_le (a l : List Comp) : (newM a l).length + (chM a l).length ≤ l.length := by
  unfold newM chM
  induction l with
  | nil => simp
  | cons c r ih =>
    simp only [List.filter_cons]
    by_cases h : (findC a c.1).2 = true
    · rw [h]
      by_cases h2 : (findC a c.1).1 = c
      · simp [h2]; omega
      · simp [h2]; omega
    · have h : (findC a c.1).2 = false := by simpa using h
      rw [h]
      simp
      omega
theorem chgB_le (was : List Ent) (last : Int) {d : Chg} (h : d.2.2.1.length + d.2.2.2.length ≤ 6) : (chgB was last d).length ≤ 1300 := by
  have h1 := idBits_le last d.1
  have h2 := compsB_le d.2.2.1
  have h3 := setsB_le was d.1 d.2.2.2
  unfold chgB
  simp only [List.length_append, bitsOf_len]
  omega
theorem encs_le {α : Type} {enc : Int → α → List Bool} {id : α → Int} {m : Nat} : ∀ (l : List α) (last : Int), (∀ a ∈ l, ∀ last, (enc last a).length ≤ m) → (encs enc id last l).length ≤ m * l.length
  | [], _, _ => by simp [encs]
  | a :: r, last, h => by
    have h1 := encs_le (enc := enc) (id := id) r (id a) fun x hx => h x (List.mem_cons_of_mem _ hx)
    have h2 := h a List.mem_cons_self last
    rw [encs, List.length_append, List.length_cons, Nat.mul_add]
    omega
theorem varB_le {v : Nat} (h : v ≤ 4294967295) : (varB v).length ≤ 80 := by
  have lg2 := groupsM_le (v := (v : Int)) (by omega) (by omega)
  rw [Int.toNat_natCast] at lg2
  rw [varB_len]
  omega
theorem goneB_le {l : List Int} (h : l.length ≤ 4294967295) : (goneB l).length ≤ 80 + 80 * l.length := by
  unfold goneB
  rw [List.length_append]
  have := varB_le h
  have := encs_le (enc := idBits) (id := fun i : Int => i) l 0 fun a _ last => idBits_le last a
  omega
theorem entsB_le {l : List Ent} (h : l.length ≤ 4294967295) (h6 : ∀ e ∈ l, e.2.length ≤ 6) : (entsB l).length ≤ 80 + 1300 * l.length := by
  unfold entsB
  rw [List.length_append]
  have := varB_le h
  have := encs_le (enc := entB) (id := fun e : Ent => e.1) l 0 fun a ha last => entB_le (h6 a ha)
  omega
theorem chgsB_le (was : List Ent) {l : List Chg} (h : l.length ≤ 4294967295) (h6 : ∀ d ∈ l, d.2.2.1.length + d.2.2.2.length ≤ 6) : (chgsB was l).length ≤ 80 + 1300 * l.length := by
  unfold chgsB
  rw [List.length_append]
  have := varB_le h
  have := encs_le (enc := chgB was) (id := fun d : Chg => d.1) l 0 fun a ha last => chgB_le was last (h6 a ha)
  omega
theorem come_chg_le (was now : List Ent) : (comeM was now).length + (chgsM was now).length ≤ now.length := by
  unfold comeM chgsM
  induction now with
  | nil => simp
  | cons e r ih =>
    rw [List.filter_cons, List.filterMap_cons]
    by_cases h : hasE was e.1 = true
    · rw [h]
      simp only [Bool.not_true, Bool.false_eq_true, if_false, List.length_cons]
      cases chgOne was e <;> simp <;> omega
    · have h : hasE was e.1 = false := by simpa using h
      rw [h]
      have : chgOne was e = none := by
        unfold chgOne
        have : was.find? (fun a => a.1 == e.1) = none := by
          rw [List.find?_eq_none]
          intro x hx
          simpa using hasE_not.1 h x hx
        rw [this]
      rw [this]
      simp
      omega

/-! ### what is told -/
theorem mask_told : ∀ (l : List Comp) (m : Nat), m < 32 → (∀ c ∈ l, c.1 < 5) → l.foldl orK m < 32
  | [], m, h, _ => h
  | c :: r, m, h, hc => by
    rw [List.foldl_cons]
    refine mask_told r _ ?_ fun x hx => hc x (List.mem_cons_of_mem _ hx)
    have := hc c List.mem_cons_self
    unfold orK
    split
    · refine Nat.or_lt_two_pow (n := 5) h ?_
      rw [Nat.one_shiftLeft]
      exact Nat.pow_lt_pow_right (by decide) (by omega)
    · exact h
theorem FormOk.kinds {L : List Ent} (h : FormOk L) {e : Ent} (he : e ∈ L) : ∀ c ∈ e.2, 0 ≤ c.1 ∧ c.1 < 5 := fun c hc => by
  have h1 := h.told e he
  unfold secretM at h1
  rw [List.any_eq_false] at h1
  have h2 := h1 c hc
  have h3 : toldM c.1 = true := by simpa using h2
  unfold toldM at h3
  have := of_decide_eq_true h3
  omega
theorem FormOk.mask {L : List Ent} (h : FormOk L) {e : Ent} (he : e ∈ L) {l : List Comp} (hl : ∀ c ∈ l, c ∈ e.2) : maskN l < 32 := mask_told l 0 (by decide) fun c hc => (h.kinds he c (hl c hc)).2
theorem FormOk.entTold {L : List Ent} (h : FormOk L) {e : Ent} (he : e ∈ L) (hf : EntFit e) : EntTold e := ⟨hf, (listE_0.1 (h.list he)).1, h.mask he fun _ hc => hc, h.six he⟩
theorem FormOk.come {was now : List Ent} (h : FormOk now) (hf : ∀ e ∈ now, EntFit e) : ∀ e ∈ comeM was now, EntTold e := fun e he => by
  have := (List.mem_filter.1 he).1
  exact h.entTold this (hf e this)
theorem old_of {was : List Ent} (h : FormOk was) {a : Ent} (ha : a ∈ was) {y : Comp} (hy : y ∈ a.2) : oldM was a.1 y.1 = y := by
  obtain ⟨i, hi⟩ := List.mem_iff_getElem?.1 ha
  have hf : was.findIdx? (fun e => e.1 == a.1) = some i := by
    rw [List.findIdx?_eq_some_iff_getElem]
    obtain ⟨hl, hg⟩ := List.getElem?_eq_some_iff.1 hi
    refine ⟨hl, by rw [hg]; simp, fun q hq => ?_⟩
    have := ids_lt h.rise hq (List.getElem?_eq_getElem (by omega)) hi
    simp; omega
  unfold oldM
  rw [hf]
  simp only [hi, Option.bind_some]
  cases hq : a.2.find? (fun c => c.1 == y.1) with
  | none =>
    rw [List.find?_eq_none] at hq
    exact absurd (hq y hy) (by simp)
  | some z =>
    have h1 := List.mem_of_find?_eq_some hq
    have h2 : z.1 = y.1 := by have := List.find?_some hq; simpa using this
    exact kind_one (h.list ha) h1 hy h2
/-- a change whose bits can be told. -/
structure ChgTold (was : List Ent) (d : Chg) : Prop where
  id : IdOk d.1
  lost : 0 ≤ d.2.1 ∧ d.2.1 < 32
  new : ∀ c ∈ d.2.2.1, checkM c = 0 ∧ CompOk c
  newm : maskN d.2.2.1 < 32
  setm : maskN d.2.2.2 < 32
  six : d.2.2.1.length + d.2.2.2.length ≤ 6
  set : ∃ (i : Nat) (a : Ent), was[i]? = some a ∧ findE was d.1 = (i : Int) ∧ ∀ c ∈ d.2.2.2, CompOk c ∧ ∃ (q : Nat) (y : Comp), findM a.2 c.1 = (q : Int) ∧ a.2[q]? = some y ∧ CompOk y ∧ pairM y c = 0 ∧ oldM was d.1 c.1 = y
theorem chgs_told {was now : List Ent} (hw : FormOk was) (hn : FormOk now) (hL1 : ∀ e ∈ was, EntFit e) (hL2 : ∀ e ∈ now, EntFit e) : ∀ d ∈ chgsM was now, ChgTold was d := by
  intro d hd
  obtain ⟨e, he, hd⟩ := List.mem_filterMap.1 hd
  obtain ⟨-, a, ha, hid, rfl, -⟩ := chgOne_id hd
  have la := hw.list ha
  have le := hn.list he
  obtain ⟨i, hi⟩ := List.mem_iff_getElem?.1 ha
  have hlost : lostM a.2 e.2 < 32 := by
    have h1 := hw.mask ha (l := a.2) fun _ h => h
    have ee : (lostM a.2 e.2).toNat = (BitVec.ofInt 8 (maskN a.2 : Int) &&& ~~~BitVec.ofInt 8 (maskN e.2 : Int)).toNat := by
      unfold lostM bNot
      have := (BitVec.ofInt 8 (maskN a.2 : Int) &&& ~~~BitVec.ofInt 8 (maskN e.2 : Int)).isLt
      show (IntKind.wrap .u8 ((BitVec.ofInt 8 (maskN a.2 : Int) &&& ~~~BitVec.ofInt 8 (maskN e.2 : Int)).toNat : Int)).toNat = _
      rw [wu8 (by omega), Int.toNat_natCast]
    have h2 : (lostM a.2 e.2).toNat < 32 := by
      rw [ee, BitVec.toNat_and]
      refine Nat.lt_of_le_of_lt Nat.and_le_left ?_
      rw [BitVec.toNat_ofInt]
      omega
    have := (lostM_range a.2 e.2).1
    omega
  have cok : ∀ c ∈ e.2, checkM c = 0 ∧ CompOk c := fun c hc => ⟨(listE_0.1 le).1 c hc, (hL2 e he).2.2 c hc⟩
  refine ⟨(hL2 e he).1, ⟨(lostM_range a.2 e.2).1, hlost⟩, fun c hc => cok c (newM_mem hc), hn.mask he fun c hc => newM_mem hc, hn.mask he fun c hc => chM_mem hc, ?_, i, a, hi, ?_, fun c hc => ?_⟩
  · have := new_set_le a.2 e.2
    have := hn.six he
    show (newM a.2 e.2).length + (chM a.2 e.2).length ≤ 6
    omega
  · show findE was e.1 = _
    rw [← hid]
    exact findE_some hw.rise hi
  · have hce := chM_mem hc
    obtain ⟨hck, hco⟩ := cok c hce
    have hf : (findC a.2 c.1).2 = true := by
      have := (List.mem_filter.1 hc).2
      simp at this
      exact this.1
    obtain ⟨g1, g2⟩ := findC_some hf
    rcases findM_cases a.2 c.1 with ⟨_, hno⟩ | ⟨q, y, hq, hy, hk⟩
    · exact absurd g2 (hno _ g1)
    have hym := List.mem_of_getElem? hy
    refine ⟨hco, q, y, hq, hy, (hL1 a ha).2.2 y hym, ?_, ?_⟩
    · unfold pairM
      rw [if_neg (by rw [(listE_0.1 la).1 y hym]; simp), if_neg (by rw [hck]; simp), if_pos hk]
    · show oldM was e.1 c.1 = y
      rw [← hid, ← hk]
      exact old_of hw ha hym

/-! ### the document's seal -/
def refBits (h : Head) (was now : List Ent) : List Bool := headB h ++ (if h.1 = 1 then entsB now else if h.1 = 2 then deltaB was (goneM was now) (comeM was now) (chgsM was now) else [])
def formE (h : Head) (was now : List Ent) : Int := if h.1 = 1 then formM 0 now else if h.1 = 2 then diffE was now else if 0 < now.length then 4 else 0
def refE (h : Head) (was now : List Ent) : Int := if headE h ≠ 0 then headE h else if formE h was now ≠ 0 then formE h was now else if 4096 < (packM (refBits h was now)).length then 3 else 0
def refB (h : Head) (was now : List Ent) : List Int := sealF (packM (refBits h was now))

end Go.Proofs.YtchhhjlpnecjkaaGreat

namespace Go.Proofs.YtchhhjlpnecjkaaGreat
open Go Go.RowKit Go.Proofs.YtchhhjlpnecjkaaGreat.Den
variable {R : Type} {Q : R → World → Prop} {w : World}

theorem headB_le {h : Head} (hok : HeadOk h) : (headB h).length ≤ 320 := by
  obtain ⟨⟨k0, k1⟩, ⟨c0, c1⟩, ⟨e0, e1⟩, ⟨t0, t1⟩, ⟨b0, b1⟩⟩ := hok
  have l1 := inB_len h.1 1 5
  have l2 := inB_len h.2.1 0 15
  have lw1 : widthM 1 5 ≤ 64 := width_le (by decide)
  have lw2 : widthM 0 15 ≤ 64 := width_le (by decide)
  have l3 := varB_le (v := h.2.2.1.toNat) (by omega)
  have l4 := varB_le (v := idD h.2.2.2.2 h.2.2.2.1) (by unfold idD; omega)
  unfold headB
  simp only [List.length_append]
  have lt32 : (if h.1 ≤ 3 then bitsOf h.2.2.2.1.toNat 32 else []).length ≤ 32 := by split <;> simp [bitsOf_len]
  have lt33 : (if h.1 = 2 then varB (idD h.2.2.2.2 h.2.2.2.1) else []).length ≤ 80 := by
    split
    · exact l4
    · simp
  omega
theorem SlT.dlt {ok S : Nat → Prop} {t : Ty} {s : Sl} {l : List t.T} (h : SlT ok w t s l) {w' : World} (f : Fr S w w') (nd : ∀ k, ok k → ¬ S k) : SlT ok w' t s l := h.fr f nd
/-- the sets of a change, bit by bit. -/
theorem spec_sets {S ok ok1 : Nat → Prop} {was : List Ent} {s1 : Sl} {raws1 : List (Int × Sl)} {bl : Nat} {T : TypeId} {cs : List Value} {ss : Sl} {id : Int} {set : List Comp} {pre : List Bool} {s : Sl}
    (B : Blk w bl T cs) (hb : cs[0]? = some (.int .u32 id)) (hbS : ¬ S bl) (o : Own S w 4 boolT s pre) (hn : ∀ k, w.heap.size ≤ k → S k)
    (hS1 : SlT ok1 w entT s1 raws1) (hE1 : EntsR ok1 w raws1 was) (nd1 : ∀ k, ok1 k → ¬ S k) (hm1 : was.length ≤ 1048576) (hsm : ∀ e ∈ was, Small e.2)
    (hS : SlT ok w compT ss set) (nd : ∀ k, ok k → ¬ S k)
    (hset : ∃ (i : Nat) (a : Ent), was[i]? = some a ∧ findE was id = (i : Int) ∧ ∀ c ∈ set, CompOk c ∧ ∃ (q : Nat) (y : Comp), findM a.2 c.1 = (q : Int) ∧ a.2[q]? = some y ∧ CompOk y ∧ pairM y c = 0 ∧ oldM was id c.1 = y)
    (hl : pre.length + 200 * set.length ≤ 1048576) {K : Sl → W R} (hk : ∀ r w', Own S w' 4 boolT r (pre ++ setsB was id set) → Fr S w w' → K r Q w') :
    loopW (σ := Sl × Int) (fun K_48 s_49 =>
              cond (decide (s_49.2 < (ss.n : Int)))
                (idxW ss.a ss.n 4 s_49.2 fun x_50 =>
              ld (.agg [.int .u8, .int .i32, .int .i32, .int .i32]) x_50 fun (x_51 : (Int × Int × Int × Int)) =>
              newW 92 [.int .u8 0, .int .i32 0, .int .i32 0, .int .i32 0] fun x_52 =>
              stoL x_52 [.int .u8 x_51.1, .int .i32 x_51.2.1, .int .i32 x_51.2.2.1, .int .i32 x_51.2.2.2] 0 <|
              ld (.sc (.int .u32)) (Addr.add ⟨bl, 0, none⟩ 0) fun (x_53 : Int) =>
              callW Tryz.prog k_pinnaceref18_Find [.slice s1.a s1.n s1.c, .int .u32 x_53] [.sc (.int .i64)] fun (x_54 : Int) =>
              idxW s1.a s1.n 2 x_54 fun x_55 =>
              ld (.agg [.int .u32, .sl]) x_55 fun (x_56 : (Int × Sl)) =>
              newW 57 [.int .u32 0, .slice none 0 0] fun x_57 =>
              stoL x_57 [.int .u32 x_56.1, .slice x_56.2.a x_56.2.n x_56.2.c] 0 <|
              drawW <|
              ld (.sc .sl) (Addr.add x_57 1) fun (x_58 : Sl) =>
              ld (.sc .sl) (Addr.add x_57 1) fun (x_59 : Sl) =>
              ld (.sc (.int .u8)) (Addr.add x_52 0) fun (x_60 : Int) =>
              ld (.agg [.int .u8, .int .i32, .int .i32, .int .i32]) x_52 fun (x_61 : (Int × Int × Int × Int)) =>
              callW Tryz.prog k_pinnaceref05_Find [.slice x_59.a x_59.n x_59.c, .int .u8 x_60] [.sc (.int .i64)] fun (x_62 : Int) =>
              andW (fun w => Rd w x_52 (.agg [.int .u8, .int .i32, .int .i32, .int .i32]) x_61) <|
              andW (fun w => Rd w (Addr.add x_57 1) (.sc .sl) x_58) <|
              idxW x_58.a x_58.n 4 x_62 fun x_63 =>
              ld (.agg [.int .u8, .int .i32, .int .i32, .int .i32]) x_63 fun (x_64 : (Int × Int × Int × Int)) =>
              callW Tryz.prog k_pinnaceref06_Step [.agg ⟨[.int .u8 x_64.1, .int .i32 x_64.2.1, .int .i32 x_64.2.2.1, .int .i32 x_64.2.2.2]⟩, .agg ⟨[.int .u8 x_61.1, .int .i32 x_61.2.1, .int .i32 x_61.2.2.1, .int .i32 x_61.2.2.2]⟩] [.sc .sl, .sc (.int .i64)] fun (x_65 : Sl × Int) =>
              rawW Tryz.prog (Builtin.append_ #[70, 70] 70 #[.slice s_49.1.a s_49.1.n s_49.1.c, .slice x_65.1.a x_65.1.n x_65.1.c]) [.sc .sl] fun (x_66 : Sl) =>
              K_48 (x_66, IntKind.wrap .i64 (s_49.2 + 1)))
                (K s_49.1))
              (s, 0) Q w := by
  obtain ⟨i, a, ha, hfi, hall⟩ := hset
  obtain ⟨q1, hq1, hq2, hq3⟩ := hE1.get ha
  have hlen := hS.len
  have hsa := hsm a (List.mem_of_getElem? ha)
  refine forI (N := ss.n) (fun s : Sl × Int => s.2) (fun j st u => st.2 = (j : Int) ∧ Own S u 4 boolT st.1 (pre ++ setsB was id (set.take j)) ∧ Fr S w u) ⟨rfl, by simpa [setsB] using o, Fr.refl _ _⟩ (fun j s w' h => h.1) ?_ ?_
  · rintro j ⟨z, _⟩ u K' hj ⟨rfl, o, fu⟩ - hK
    have zu := fu.size
    refine (hS.fr fu nd).get rfl rfl (by omega) fun c hcj => ?_
    obtain ⟨hco, q, y, hq, hy, hyo, hp, hold⟩ := hall c (List.mem_of_getElem? hcj)
    refine newI fun u1 B1 f1 z1 => stoAll B1 rfl rfl fun u2 B2 f2 z2 => ?_
    have f12 : Fr None u u2 := f1.newer f2 fun k e => by omega
    have fu2 := fu.then0 f12
    refine fldI (B.fr fu2 hbS) (i := 0) (x := id) hb ?_
    refine spec_r18_Find (hS1.fr fu2 nd1) (hE1.fr fu2 nd1) (by omega) fun u3 f3 => ?_
    have fu3 := fu2.then0 f3
    rw [hfi]
    refine (hS1.fr fu3 nd1).get rfl rfl (by have := (List.getElem?_eq_some_iff.1 hq1).1; omega) fun y1 hy1 => ?_
    rw [hq1] at hy1
    cases hy1
    refine newI fun u4 B4 f4 z4 => stoAll B4 rfl rfl fun u5 B5 f5 z5 => ?_
    have f35 : Fr None u3 u5 := f4.newer f5 fun k e => by omega
    have fd : Fr None u5 u5.drew := (Fr.refl _ _).drew
    have f3d := f35.then0 fd
    have fud := fu3.then0 f3d
    have Bc := (B2.fr f3 fun h => h).fr f3d fun h => h
    have Be := B5.fr fd fun h => h
    refine fldI Be (i := 1) (x := q1.2) rfl (fldI Be (i := 1) (x := q1.2) rfl (fldI Bc (i := 0) (x := c.1) rfl (aggI Bc (x := c) rfl ?_)))
    refine spec_r5_Find (hq3.fr fud nd1) hsa fun u6 f6 => ?_
    have fu6 := fud.then0 f6
    rw [hq]
    refine andI (fun j u hj => ?_) (andI ((Be.fr f6 fun h => h).rd (s := .sl) (i := 1) (x := q1.2) rfl) ?_)
    · rw [add_lit, (Bc.fr f6 fun h => h).cell, Nat.zero_add]
      exact hj
    refine (hq3.fr fu6 nd1).get rfl rfl (List.getElem?_eq_some_iff.1 hy).1 fun y2 hy2 => ?_
    rw [hy] at hy2
    cases hy2
    refine spec_r6_Step hp hyo hco fun r u7 o7 f7 => ?_
    have fu7 := fu6.then0 f7
    have g07 : Fr None u u7 := (((f12.then0 f3).then0 f3d).then0 f6).then0 f7
    have z7 := g07.size
    have l1 := setsB_le was id (set.take j)
    have l2 := stepB2_le y c
    have l3 : (set.take j).length = j := by rw [List.length_take]; omega
    have z6 := (((f12.then0 f3).then0 f3d).then0 f6).size
    refine appS (o.none g07) (fun k e => hn k (by omega)) o7.sl (by simp only [List.length_append]; omega) fun r2 u8 o8 f8 => ?_
    refine hK _ _ ⟨wsucc hj (by omega), ?_, fu7.then f8⟩
    have e : setsB was id (set.take (j + 1)) = setsB was id (set.take j) ++ stepB2 y c := by unfold setsB; rw [take_at hcj, List.flatMap_append]; simp [hold]
    rw [e, ← List.append_assoc]
    exact o8
  · rintro ⟨z, _⟩ u ⟨_, o, fu⟩
    rw [List.take_of_length_le (by omega)] at o
    exact hk z u o fu

theorem spec_r20_Seal {ok1 ok2 : Nat → Prop} {h : Head} (hok : HeadOk h) {s1 s2 : Sl} {raws1 raws2 : List (Int × Sl)} {was now : List Ent} (hS1 : SlT ok1 w entT s1 raws1) (hE1 : EntsR ok1 w raws1 was) (hS2 : SlT ok2 w entT s2 raws2) (hE2 : EntsR ok2 w raws2 now)
    (hm1 : was.length ≤ 1048576) (hm2 : now.length ≤ 1048576) (hL1 : ∀ e ∈ was, EntFit e) (hL2 : ∀ e ∈ now, EntFit e) (few1 : h.1 = 1 → formM 0 now = 0 → now.length ≤ 400) (few2 : h.1 = 2 → diffE was now = 0 → was.length ≤ 400 ∧ now.length ≤ 400) {K : Res [.sc .sl, .sc (.int .i64)] → W R}
    (hbad : refE h was now ≠ 0 → ∀ w', Fr None w w' → K (⟨none, 0, 0⟩, refE h was now) Q w')
    (hk : refE h was now = 0 → ∀ r w', Own (Up w.heap.size) w' 5 u8T r (refB h was now) → Fr None w w' → K (r, 0) Q w') :
    callW Tryz.prog k_pinnaceref20_Seal [.agg ⟨[.int .u8 h.1, .int .u8 h.2.1, .int .u32 h.2.2.1, .int .u32 h.2.2.2.1, .int .u32 h.2.2.2.2]⟩, .slice s1.a s1.n s1.c, .slice s2.a s2.n s2.c] [.sc .sl, .sc (.int .i64)] K Q w := by
  refine C_pinnaceref20_Seal h s1 s2 K Q w ?_
  unfold F_pinnaceref20_Seal
  have hS10 : SlT (fun k => ok1 k ∧ k < w.heap.size) w entT s1 raws1 := hS1.mono fun k hk e => ⟨e, hk⟩
  have hE10 : EntsR (fun k => ok1 k ∧ k < w.heap.size) w raws1 was := hE1.mono fun k hk e => ⟨e, hk⟩
  have hS20 : SlT (fun k => ok2 k ∧ k < w.heap.size) w entT s2 raws2 := hS2.mono fun k hk e => ⟨e, hk⟩
  have hE20 : EntsR (fun k => ok2 k ∧ k < w.heap.size) w raws2 now := hE2.mono fun k hk e => ⟨e, hk⟩
  have l2 := hS2.len.trans hE2.len
  have fit : ∀ {e : Ent}, EntFit e → IdOk e.1 ∧ e.2.length ≤ 9223372036854775807 ∧ ∀ c ∈ e.2, CompOk c := fun h => ⟨h.1, by have := h.2.1; omega, h.2.2⟩
  refine newI fun w1 B1 f1 t1 => aggI B1 (x := h) rfl (spec_r20_Check hok fun w2 f2 => ?_)
  have f02 := f1.then0 f2
  have B2 := B1.fr f2 fun h => h
  refine condN (fun hne => ?_) fun heq => ?_
  · have e : refE h was now = headE h := by unfold refE; rw [if_pos hne]
    rw [← e]
    exact hbad (by rw [e]; exact hne) w2 f02
  have eE : refE h was now = if formE h was now ≠ 0 then formE h was now else if 4096 < (packM (refBits h was now)).length then 3 else 0 := by unfold refE; rw [if_neg (by rw [heq]; simp)]
  have bad : formE h was now ≠ 0 → ∀ w', Fr None w2 w' → K (⟨none, 0, 0⟩, formE h was now) Q w' := fun hne w' f => by
    have e : refE h was now = formE h was now := by rw [eE, if_pos hne]
    rw [← e]
    exact hbad (by rw [e]; exact hne) w' (f02.then0 f)
  have z2 := f02.size
  have lh := headB_le hok
  refine aggI B2 (x := h) rfl (spec_r20_Head hok heq fun a w3 o3 f3 => ?_)
  have B3 := B2.fr f3 fun h => h
  have f03 := f02.then0 f3
  have z3 := f3.size
  refine fldI B3 (i := 0) (x := h.1) rfl ?_
  refine joinI (fun z v => formE h was now = 0 ∧ Own (Up w2.heap.size) v 4 boolT z (refBits h was now) ∧ (refBits h was now).length ≤ 1048576 ∧ Fr None w2 v) ?_ ?_
  · refine condE (fun k1 => ?_) fun k1 => ?_
    · -- all of it
      have eF : formE h was now = formM 0 now := by unfold formE; rw [if_pos k1]
      refine spec_r18_Form (hS20.fr0 f03) (hE20.fr f03 fun _ _ h => h) (by omega) (fun e he => fit (hL2 e he)) fun w4 f4 => ?_
      rw [← form_same now 0 true fun _ => rfl, ← eF]
      have f34 := f3.then0 f4
      have f04 := f03.then0 f4
      refine condN (fun hne => bad hne w4 f34) fun h0 => ?_
      have fn := formOk.1 (eF ▸ h0)
      have hfew := few1 k1 (eF ▸ h0)
      have le := entsB_le (l := now) (by omega) fun e he => fn.six he
      have z4 := f34.size
      have eB : refBits h was now = headB h ++ entsB now := by unfold refBits; rw [if_pos k1]
      refine spec_r20_ents (S := Up w2.heap.size) (o3.none f4) (fun k e => by show w2.heap.size ≤ k; omega) (hS20.fr0 f04) (hE20.fr f04 fun _ _ h => h) (fun k _ e e2 => by have e2 : w2.heap.size ≤ k := e2; omega) (fun e he => fn.entTold he (hL2 e he)) (by omega) fun r w5 o5 f5 => ?_
      refine ⟨h0, by rw [eB]; exact o5, by rw [eB, List.length_append]; omega, f34.newer f5 fun k e => e⟩
    · refine fldI B3 (i := 0) (x := h.1) rfl ?_
      refine joinI (fun z v => formE h was now = 0 ∧ Own (Up w2.heap.size) v 4 boolT z (refBits h was now) ∧ (refBits h was now).length ≤ 1048576 ∧ Fr None w2 v) ?_ fun _ _ h => h
      refine condE (fun k2 => ?_) fun k2 => ?_
      · -- a step
        have eF : formE h was now = diffE was now := by unfold formE; rw [if_neg k1, if_pos k2]
        have eB : refBits h was now = headB h ++ deltaB was (goneM was now) (comeM was now) (chgsM was now) := by unfold refBits; rw [if_neg k1, if_pos k2]
        refine spec_r19_Diff (hS10.fr0 f03) (hE10.fr f03 fun _ _ h => h) (hS20.fr0 f03) (hE20.fr f03 fun _ _ h => h) hm1 hm2 hL1 hL2 (fun hne w6 f6 => ?_) fun h0 r w6 D f6 => ?_
        · refine newI fun w7 B7 f7 t7 => stoAll B7 rfl rfl fun w8 B8 f8 t8 => condT (by simpa using hne) ?_
          have := bad (by rw [eF]; exact hne) w8 ((f3.then0 f6).then0 (f7.newer f8 fun k e => by omega))
          rw [eF] at this
          exact this
        have h0' : formE h was now = 0 := by rw [eF]; exact h0
        obtain ⟨few21, few22⟩ := few2 k2 h0
        have fw : FormOk was := formOk.1 (by
          unfold diffE at h0
          refine Classical.byContradiction fun hc => ?_
          rw [if_pos hc] at h0
          exact hc h0)
        have fn : FormOk now := formOk.1 (by
          unfold diffE at h0
          rw [if_neg (by rw [formOk.2 fw]; simp)] at h0
          exact h0)
        have hct := chgs_told fw fn hL1 hL2
        have hgl : (goneM was now).length ≤ was.length := by unfold goneM; rw [List.length_map]; exact List.length_filter_le _ _
        have hcl := come_chg_le was now
        have hgo := (goneM_fit (now := now) hL1 hm1).2
        have lg := goneB_le (l := goneM was now) (by omega)
        have lc := entsB_le (l := comeM was now) (by omega) fun e he => fn.six (List.mem_filter.1 he).1
        have ld' := chgsB_le was (l := chgsM was now) (by omega) fun d hd => (hct d hd).six
        have hct2 := fn.come (was := was) hL2
        generalize hG : goneM was now = gone at *
        generalize hC : comeM was now = come at *
        generalize hH : chgsM was now = chg at *
        have z6 := f6.size
        refine newI fun w7 B7 f7 t7 => stoAll B7 rfl rfl fun w8 B8 f8 t8 => condF rfl ?_
        have f68 : Fr None w6 w8 := f7.newer f8 fun k e => by omega
        have f38 := f6.then0 f68
        have f28 := f3.then0 f38
        have f08 := f02.then0 f28
        have z8 := f68.size
        obtain ⟨S, hSd⟩ : ∃ S : Nat → Prop, S = fun k => (w2.heap.size ≤ k ∧ k < w3.heap.size) ∨ w8.heap.size ≤ k := ⟨_, rfl⟩
        have hSn : ∀ k, w8.heap.size ≤ k → S k := fun k e => by rw [hSd]; exact .inr e
        have hSu : ∀ k, S k → w2.heap.size ≤ k := fun k e => by rw [hSd] at e; rcases e with e | e <;> omega
        have D8 : DltR (fun k => w3.heap.size ≤ k ∧ k < w6.heap.size) w8 r gone come chg := DltR.st D f68 fun k hk e => ⟨fun h => h, e, hk⟩
        have nd : ∀ k, w3.heap.size ≤ k ∧ k < w6.heap.size → ¬ S k := fun k e e2 => by rw [hSd] at e2; rcases e2 with e2 | e2 <;> omega
        have nd1 : ∀ k, ok1 k ∧ k < w.heap.size → ¬ S k := fun k e e2 => by have := hSu k e2; omega
        have nb : ¬ S w6.heap.size := fun e => by rw [hSd] at e; rcases e with e | e <;> omega
        have o8 : Own S w8 4 boolT a (headB h) := (o3.mono (S' := S) fun k hk e => by rw [hSd]; exact .inl ⟨e, hk⟩).none f38
        obtain ⟨Dg, ⟨rc, Dc, Ec⟩, ⟨rd, Dd, Ed⟩⟩ := D8
        have ng := Dg.len
        have nc := Dc.len
        have nd' := Dd.len
        have ndl := Ed.len
        -- what is gone
        refine fldI B8 (i := 0) (x := r.1) rfl ?_
        have ew : IntKind.wrap .u64 (r.1.n : Int) = ((gone.length : Nat) : Int) := by rw [wU64 (by omega)]; omega
        rw [ew]
        refine spec_r2_Var (by omega) fun d w9 o9 f9 => ?_
        have z9 := f9.size
        have lv := varB_le (v := gone.length) (by omega)
        refine appS (o8.none f9) (fun k e => hSn k (by omega)) o9.sl (by omega) fun a2 w10 o10 f10 => ?_
        have f810 : Fr S w8 w10 := f9.any.then f10
        refine fldI (B8.fr f810 nb) (i := 0) (x := r.1) rfl ?_
        refine forI (N := r.1.n) (fun s : Sl × Int × Int => s.2.2) (fun j st u => st.2.2 = (j : Int) ∧ st.2.1 = lastF (fun i : Int => i) 0 (gone.take j) ∧ Own S u 4 boolT st.1 (headB h ++ varB gone.length ++ encs idBits (fun i : Int => i) 0 (gone.take j)) ∧ Fr S w8 u) ⟨rfl, rfl, by simpa [encs] using o10, f810⟩ (fun j s w' h => h.1) ?_ ?_
        · rintro j ⟨z, la, _⟩ u K' hj ⟨rfl, rfl, o, fu⟩ - hK
          have zu := fu.size
          refine (Dg.fr fu nd).get rfl rfl (by omega) fun x hx => ?_
          have htk := encs_take idBits (fun i : Int => i) gone 0 j
          have hgb : (goneB gone).length = (varB gone.length).length + (encs idBits (fun i : Int => i) 0 gone).length := by unfold goneB; rw [List.length_append]
          refine spec_r20_id o (fun k e => hSn k (by omega)) (by simp only [List.length_append]; omega) fun r3 u3 o3' f3' => ?_
          refine hK _ _ ⟨wsucc hj (by omega), ?_, ?_, fu.then f3'⟩
          · rw [take_at hx, lastF_snoc]
          · rw [take_at hx, encs_snoc, ← List.append_assoc]
            exact o3'
        rintro ⟨b, lb, _⟩ w11 ⟨_, _, o11, f11⟩
        rw [List.take_of_length_le (by omega), List.append_assoc] at o11
        have o11 : Own S w11 4 boolT b (headB h ++ goneB gone) := o11
        have z11 := f11.size
        -- what has come
        refine fldI (B8.fr f11 nb) (i := 1) (x := r.2.1) rfl ?_
        refine spec_r20_ents o11 (fun k e => hSn k (by omega)) (Dc.fr f11 nd) (Ec.fr f11 nd) (fun k _ e e2 => nd k e e2) hct2 (by rw [List.length_append]; omega) fun c w12 o12 f12 => ?_
        have f812 := f11.then f12
        have z12 := f812.size
        -- what has changed
        refine fldI (B8.fr f812 nb) (i := 2) (x := r.2.2) rfl ?_
        have ew : IntKind.wrap .u64 (r.2.2.n : Int) = ((chg.length : Nat) : Int) := by rw [wU64 (by omega)]; omega
        rw [ew]
        refine spec_r2_Var (by omega) fun d2 w13 o13 f13 => ?_
        have z13 := f13.size
        have lv2 := varB_le (v := chg.length) (by omega)
        refine appS (o12.none f13) (fun k e => hSn k (by omega)) o13.sl (by simp only [List.length_append]; omega) fun a3 w14 o14 f14 => ?_
        have f814 : Fr S w8 w14 := (f812.then0 f13).then f14
        refine fldI (B8.fr f814 nb) (i := 2) (x := r.2.2) rfl ?_
        have hcb : (chgsB was chg).length = (varB chg.length).length + (encs (chgB was) (fun d : Chg => d.1) 0 chg).length := by unfold chgsB; rw [List.length_append]
        refine forI (N := r.2.2.n) (fun s : Sl × Int × Int => s.2.2) (fun j st u => st.2.2 = (j : Int) ∧ st.2.1 = lastF (fun d : Chg => d.1) 0 (chg.take j) ∧ Own S u 4 boolT st.1 (headB h ++ goneB gone ++ entsB come ++ varB chg.length ++ encs (chgB was) (fun d : Chg => d.1) 0 (chg.take j)) ∧ Fr S w8 u) ⟨rfl, rfl, by simpa [encs] using o14, f814⟩ (fun j s w' h => h.1) ?_ ?_
        · rintro j ⟨z, la, _⟩ u K' hj ⟨rfl, rfl, o, fu⟩ - hK
          have zu := fu.size
          obtain ⟨d, hd⟩ : ∃ d, chg[j]? = some d := ⟨_, List.getElem?_eq_getElem (by omega)⟩
          obtain ⟨t, ht, tr1, tr2, tr3, tr4⟩ := Ed.get hd
          have T := hct d (List.mem_of_getElem? hd)
          refine (Dd.fr fu nd).get rfl rfl (by omega) fun y hy => ?_
          rw [ht] at hy
          cases hy
          refine newI fun u1 C1 g1 y1 => stoAll C1 rfl rfl fun u2 C2 g2 y2 => ?_
          have g12 : Fr None u u2 := g1.newer g2 fun k e => by omega
          have fu2 := fu.then0 g12
          have htk := encs_take (chgB was) (fun d : Chg => d.1) chg 0 (j + 1)
          rw [take_at hd, encs_snoc, List.length_append] at htk
          obtain ⟨pre, hpre⟩ : ∃ pre, pre = headB h ++ goneB gone ++ entsB come ++ varB chg.length ++ encs (chgB was) (fun d : Chg => d.1) 0 (chg.take j) := ⟨_, rfl⟩
          have lpre : pre.length + (chgB was (lastF (fun d : Chg => d.1) 0 (chg.take j)) d).length ≤ 1000000 := by
            rw [hpre]
            simp only [List.length_append]
            omega
          rw [← hpre] at o
          have hcB : (chgB was (lastF (fun d : Chg => d.1) 0 (chg.take j)) d).length = (idBits (lastF (fun d : Chg => d.1) 0 (chg.take j)) d.1).length + (5 + (5 + (5 + ((compsB d.2.2.1).length + (setsB was d.1 d.2.2.2).length)))) := by
            unfold chgB
            simp only [List.length_append, bitsOf_len]
          have o2 : Own (fun k => S k ∧ k ≠ u.heap.size) u2 4 boolT z pre := (o.mono (S' := fun k => S k ∧ k ≠ u.heap.size) fun k hk e => ⟨e, by omega⟩).none g12
          have hn2 : ∀ {v : World}, u2.heap.size ≤ v.heap.size → ∀ k, v.heap.size ≤ k → S k ∧ k ≠ u.heap.size := fun hv k e => ⟨hSn k (by omega), by omega⟩
          refine fldI C2 (i := 0) (x := t.1) rfl ?_
          rw [tr1]
          refine spec_r20_id o2 (hn2 (Nat.le_refl _)) (by omega) fun r3 u3 o3' f3' => ?_
          have y3 := f3'.size
          have C3 := C2.fr f3' fun e => e.2 rfl
          have fu3 := fu2.then (f3'.sub fun k e => e.1)
          refine fldI C3 (i := 0) (x := t.1) rfl (fldI C3 (i := 1) (x := t.2.1) rfl ?_)
          rw [tr2]
          have el : IntKind.wrap .u64 d.2.1 = ((d.2.1.toNat : Nat) : Int) := by have := T.lost; rw [wU64 (by omega)]; omega
          rw [el]
          have up2 : ∀ {x v : World} {q : Sl} {l : List Bool}, u2.heap.size ≤ x.heap.size → Own (Up x.heap.size) v 4 boolT q l → Own (fun k => S k ∧ k ≠ u.heap.size) v 4 boolT q l := fun hx o => o.mono fun k _ e => by have e : _ ≤ k := e; exact ⟨hSn k (by omega), by omega⟩
          have six := T.six
          refine spec_r1_Put (n := 5) o3'.sl (by decide) (by have := T.lost; omega) (by simp only [List.length_append]; omega) fun r4 u4 o4 f4 => ?_
          have y4 := f4.size
          have C4 := C3.fr f4 fun h => h
          have fu4 := fu3.then0 f4
          refine fldI C4 (i := 2) (x := t.2.2.1) rfl ?_
          refine spec_r5_Mask (tr3.fr fu4 nd) (by omega) fun u5 f5 => ?_
          have em : IntKind.wrap .u64 ((maskN d.2.2.1 : Nat) : Int) = ((maskN d.2.2.1 : Nat) : Int) := by have := T.newm; rw [wU64 (by omega)]
          rw [em]
          have y5 := f5.size
          refine spec_r1_Put (n := 5) (o4.none f5).sl (by decide) (by have := T.newm; omega) (by simp only [List.length_append, bitsOf_len]; omega) fun r6 u6 o6 f6' => ?_
          have y6 := f6'.size
          have f46 := f5.then0 f6'
          have C6 := C4.fr f46 fun h => h
          have fu6 := fu4.then0 f46
          refine fldI C6 (i := 3) (x := t.2.2.2) rfl ?_
          refine spec_r5_Mask (tr4.fr fu6 nd) (by omega) fun u7 f7' => ?_
          have em : IntKind.wrap .u64 ((maskN d.2.2.2 : Nat) : Int) = ((maskN d.2.2.2 : Nat) : Int) := by have := T.setm; rw [wU64 (by omega)]
          rw [em]
          have y7 := f7'.size
          refine spec_r1_Put (n := 5) (o6.none f7').sl (by decide) (by have := T.setm; omega) (by simp only [List.length_append, bitsOf_len]; omega) fun r8 u8 o8' f8' => ?_
          have y8 := f8'.size
          have f68' := f7'.then0 f8'
          have C8 := C6.fr f68' fun h => h
          have fu8 := fu6.then0 f68'
          refine fldI C8 (i := 2) (x := t.2.2.1) rfl ?_
          have cl := compsB_le d.2.2.1
          refine spec_r20_comps (up2 (by omega) o8') (hn2 (by omega)) (by simp only [List.length_append, bitsOf_len]; omega) (tr3.fr fu8 nd) (fun k _ e e2 => nd k e e2.1) T.new fun r9 u9 o9' f9' => ?_
          have y9 := f9'.size
          have C9 := C8.fr f9' fun e => e.2 rfl
          have fu9 := fu8.then (f9'.sub fun k e => e.1)
          refine fldI C9 (i := 3) (x := t.2.2.2) rfl ?_
          refine spec_sets (K := fun z => K' (z, t.1, IntKind.wrap .i64 ((j : Int) + 1))) (id := d.1) (set := d.2.2.2) C9 (by rw [tr1]; rfl) (fun e => e.2 rfl) o9' (hn2 (by omega)) ((hS10.fr0 f08).fr fu9 nd1) ((hE10.fr f08 fun _ _ h => h).fr fu9 nd1) (fun k e e2 => nd1 k e e2.1) hm1 (fun e he => (hL1 e he).2.1) (tr4.fr fu9 nd) (fun k e e2 => nd k e e2.1) T.set (by simp only [List.length_append, bitsOf_len]; omega) fun r10 u10 o10' f10' => ?_
          refine hK _ _ ⟨wsucc hj (by omega), ?_, ?_, fu9.then (f10'.sub fun k e => e.1)⟩
          · show t.1 = _
            rw [take_at hd, lastF_snoc, tr1]
          · rw [take_at hd, encs_snoc, ← List.append_assoc, ← hpre]
            unfold chgB
            have o7 := o10'.mono (S' := S) fun k _ e => e.1
            simp only [List.append_assoc] at o7 ⊢
            exact o7
        · rintro ⟨b2, lb2, _⟩ u ⟨_, _, o, fu⟩
          rw [List.take_of_length_le (by omega)] at o
          refine ⟨h0', ?_, by rw [eB]; unfold deltaB; simp only [List.length_append]; omega, f28.newer fu hSu⟩
          rw [eB]
          unfold deltaB
          have o7 := o.mono (S' := Up w2.heap.size) fun k _ e => hSu k e
          simp only [List.append_assoc] at o7
          have ec : chgsB was chg = varB chg.length ++ encs (chgB was) (fun d : Chg => d.1) 0 chg := rfl
          rw [ec]
          exact o7
      · -- no entities
        have eF : formE h was now = if 0 < now.length then 4 else 0 := by unfold formE; rw [if_neg k1, if_neg k2]
        have eB : refBits h was now = headB h := by unfold refBits; rw [if_neg k1, if_neg k2, List.append_nil]
        refine condD (fun k3 => ?_) fun k3 => ?_
        · rw [if_pos (by omega)] at eF
          have := bad (by rw [eF]; decide) w3 f3
          rw [eF] at this
          exact this
        · rw [if_neg (by omega)] at eF
          exact ⟨eF, by rw [eB]; exact o3, by rw [eB]; omega, f3⟩
  rintro z v ⟨h0, o, hlen, fv⟩
  rw [if_neg (fun x => x h0)] at eE
  refine spec_r1_Bytes o.sl (by omega) fun p w4 o4 f4 => ?_
  have f04 := (f02.then0 fv).then0 f4
  have zv := fv.size
  refine spec_r3_Seal o4.sl (packM_ok _) (by rw [packM_len]; omega) (fun hl => ?_) fun hl q w5 o5 f5 => ?_
  · rw [if_pos hl] at eE
    have := hbad (by rw [eE]; decide) w4 f04
    rw [eE] at this
    exact this
  · rw [if_neg (by omega)] at eE
    exact hk eE q w5 (o5.up (by have := f4.size; omega)) (f04.then0 f5)

end Go.Proofs.YtchhhjlpnecjkaaGreat
