/-
  diff: what becomes of an entity.
-/
import Derived.Test.YtchhhjlpnecjkaaGreatSnp
import Derived.Test.YtchhhjlpnecjkaaGreatDeep
namespace Go.Proofs.YtchhhjlpnecjkaaGreat
open Go Go.RowKit Go.Proofs.YtchhhjlpnecjkaaGreat.Den
variable {R : Type} {Q : R → World → Prop} {w : World}

theorem spec_diff_find_c1 {c : Comp} {k : Int} {bk : Nat} {T : TypeId} (B : Blk w bk T [.int .u8 k]) {K : Res [.sc .bool] → W R} (hk : ∀ w', Fr None w w' → K (c.1 == k) Q w') :
    callW Tryz.prog k_diff_find_c1 [.agg ⟨compC c⟩, .pointer (some ⟨bk, 0, none⟩)] [.sc .bool] K Q w := by
  refine C_diff_find_c1 c _ K Q w ?_
  unfold F_diff_find_c1
  refine newI fun w1 B1 f1 s1 => fldI B1 (i := 0) (x := c.1) rfl (ptrI (fld0 (B.fr f1 fun h => h) (i := 0) (x := k) rfl (hk w1 f1)))
theorem spec_IndexFunc_kind {ok : Nat → Prop} {s : Sl} {l : List Comp} (hS : SlT ok w compT s l) (hm : l.length ≤ 9223372036854775807) {k : Int} {bk : Nat} {T : TypeId} (B : Blk w bk T [.int .u8 k]) {K : Res [.sc (.int .i64)] → W R} (hk : ∀ w', Fr None w w' → K (findM l k) Q w') :
    callW Tryz.prog k_slices_IndexFunc_Comp [.slice s.a s.n s.c, .func (.func 165) #[] #[.pointer (some ⟨bk, 0, none⟩)]] [.sc (.int .i64)] K Q w := by
  refine C_slices_IndexFunc_Comp__diff_find_c1 s _ K Q w ?_
  unfold F_slices_IndexFunc_Comp__diff_find_c1
  have hlen := hS.len
  refine forI (N := s.n) (fun s : Int => s) (fun j i w' => i = j ∧ Fr None w w' ∧ ∀ q y, q < j → l[q]? = some y → y.1 ≠ k) ⟨rfl, Fr.refl _ _, by omega⟩ (fun j s w' h => h.1) ?_ ?_
  · rintro j i w1 K' hj ⟨rfl, f1, hno⟩ - hK
    refine (hS.fr0 f1).get rfl rfl (by omega) fun x hx => spec_diff_find_c1 (B.fr f1 fun h => h) fun w2 f2 => ?_
    refine condE (fun h => ?_) fun h => ?_
    · have : l.findIdx? (fun c => c.1 == k) = some j := by
        rw [List.findIdx?_eq_some_iff_getElem]
        obtain ⟨hl, he⟩ := List.getElem?_eq_some_iff.1 hx
        refine ⟨hl, by rw [he]; simpa using h, fun q hq => ?_⟩
        have := hno q _ hq (List.getElem?_eq_getElem (by omega))
        simpa using this
      have e := hk w2 (f1.then0 f2)
      rw [findM, this] at e
      exact e
    · refine hK _ _ ⟨wsucc hj (by omega), f1.then0 f2, fun q y hq hy => ?_⟩
      rcases Nat.lt_succ_iff_lt_or_eq.1 hq with h1 | h1
      · exact hno q y h1 hy
      · subst h1; rw [hx] at hy; cases hy; exact h
  · rintro i w1 ⟨rfl, f1, hno⟩
    have : l.findIdx? (fun c => c.1 == k) = none := by
      rw [List.findIdx?_eq_none_iff]
      intro x hx
      obtain ⟨q, hq⟩ := List.mem_iff_getElem?.1 hx
      have := hno q x (by rw [hlen]; exact (List.getElem?_eq_some_iff.1 hq).1) hq
      simpa using this
    have e := hk w1 f1
    rw [findM, this] at e
    exact e
def findC (l : List Comp) (k : Int) : Comp × Bool := match l.findIdx? (fun c => c.1 == k) with
  | some i => ((l[i]?).getD (0, 0, 0, 0), true)
  | none => ((0, 0, 0, 0), false)
theorem spec_diff_find {ok : Nat → Prop} {s : Sl} {l : List Comp} (hS : SlT ok w compT s l) (hm : l.length ≤ 9223372036854775807) {k : Int} {K : Res [.agg [.int .u8, .int .i32, .int .i32, .int .i32], .sc .bool] → W R} (hk : ∀ w', Fr None w w' → K (findC l k) Q w') :
    callW Tryz.prog k_diff_find [.slice s.a s.n s.c, .int .u8 k] [.agg [.int .u8, .int .i32, .int .i32, .int .i32], .sc .bool] K Q w := by
  refine C_diff_find s _ K Q w ?_
  unfold F_diff_find
  refine newI fun w1 B1 f1 s1 => newI fun w2 B2 f2 s2 => ?_
  have f02 := f1.then0 f2
  refine spec_IndexFunc_kind (hS.fr0 f02) hm (B1.fr f2 fun h => h) fun w3 f3 => ?_
  have B3 := B2.fr f3 fun h => h
  have f03 := f02.then0 f3
  have hs := f03.size
  unfold findC at hk
  unfold findM
  cases hf : l.findIdx? (fun c => c.1 == k) with
  | none =>
    rw [hf] at hk
    refine condT rfl (stoAll B3 rfl rfl fun w4 B4 f4 s4 => aggI B4 (x := ((0, 0, 0, 0) : Comp)) rfl ?_)
    exact hk w4 (f03.newer f4 fun k e => by omega)
  | some i =>
    rw [hf] at hk
    dsimp only at hk
    have hil : i < l.length := by
      rw [List.findIdx?_eq_some_iff_getElem] at hf
      exact hf.1
    refine condF (decide_eq_false (by show ¬ ((i : Int) < 0); omega)) ?_
    refine (hS.fr0 f03).get (j := i) rfl rfl hil fun y hy => ?_
    rw [hy] at hk
    refine stoAll B3 rfl rfl fun w4 B4 f4 s4 => aggI B4 (x := y) rfl ?_
    exact hk w4 (f03.newer f4 fun k e => by omega)

end Go.Proofs.YtchhhjlpnecjkaaGreat

namespace Go.Proofs.YtchhhjlpnecjkaaGreat
open Go Go.RowKit Go.Proofs.YtchhhjlpnecjkaaGreat.Den
variable {R : Type} {Q : R → World → Prop} {w : World}

/-- ID, Lost, New, Set. -/
abbrev ChgRaw := Int × Int × Sl × Sl
theorem spec_diff_nothing {r : ChgRaw} {K : Res [.sc .bool] → W R} (hk : ∀ w', Fr None w w' → K (decide (r.2.1 = 0 ∧ r.2.2.1.n = 0 ∧ r.2.2.2.n = 0)) Q w') :
    callW Tryz.prog k_diff_nothing [.agg ⟨[.int .u32 r.1, .int .u8 r.2.1, .slice r.2.2.1.a r.2.2.1.n r.2.2.1.c, .slice r.2.2.2.a r.2.2.2.n r.2.2.2.c]⟩] [.sc .bool] K Q w := by
  refine C_diff_nothing r K Q w ?_
  unfold F_diff_nothing
  refine newI fun w1 B f1 s1 => ?_
  refine joinI (fun z w' => z = decide (r.2.1 = 0 ∧ r.2.2.1.n = 0 ∧ r.2.2.2.n = 0) ∧ w' = w1) ?_ fun z w' ⟨hz, hw⟩ => by subst hz; subst hw; exact hk _ f1
  refine fldI B (i := 1) (x := r.2.1) rfl (condE (fun a => ?_) fun a => ⟨by simp [a], rfl⟩)
  refine fldI B (i := 2) (x := r.2.2.1) rfl (condE (fun b => ?_) fun b => ⟨?_, rfl⟩)
  · have b : r.2.2.1.n = 0 := by have b : (r.2.2.1.n : Int) = 0 := b; omega
    refine fldI B (i := 3) (x := r.2.2.2) rfl ⟨?_, rfl⟩
    by_cases c : r.2.2.2.n = 0
    · simp [a, b, c]
    · have : ¬ (r.2.2.2.n : Int) = 0 := by omega
      simp [a, b, c]
  · have b : ¬ r.2.2.1.n = 0 := by have b : ¬ (r.2.2.1.n : Int) = 0 := b; omega
    simp [b]

end Go.Proofs.YtchhhjlpnecjkaaGreat

namespace Go.Proofs.YtchhhjlpnecjkaaGreat
open Go Go.RowKit Go.Proofs.YtchhhjlpnecjkaaGreat.Den
variable {R : Type} {Q : R → World → Prop} {w : World}

/-- one more for a list that has a label. -/
theorem appLab {P : Program} {T E ty : TypeId} {t : Ty} {bytes : Nat} (H : SlTy P T E t bytes) {lab : Nat → Nat} {i : Nat} {o : Sl} {lo : List t.T} {x : t.T} {cs : List Value} (hc : cs = t.cells x) (ho : Own (fun k => lab k = i) w E t o lo)
    (hb : (lo.length + 1) * bytes ≤ 140737488355328) (hm : lo.length + 1 ≤ 9223372036854775807) {K : Sl → W R}
    (hk : ∀ r w', Own (fun k => relab lab w.heap.size w'.heap.size i k = i) w' E t r (lo ++ [x]) → Fr (fun k => lab k = i) w w' → K r Q w') : newW E cs (fun a => rawW P (Builtin.append_ #[T, T] ty #[.slice o.a o.n o.c, .slice (some a) 1 1]) [.sc .sl] K) Q w :=
  appP H hc (ho.mono fun k _ e => Or.inl e : Own (Ex (fun k => lab k = i) w) w E t o lo) (fun k e => .inr e) hb hm fun r w' o' f' =>
    hk r w' (St.grown (A := fun F w => Own F w E t r (lo ++ [x])) Own.st o') (f'.sub fun k e => ho.own k e)

abbrev Chg := Int × Int × List Comp × List Comp
abbrev chgT : Ty := .agg [.int .u32, .int .u8, .sl, .sl]
theorem chgs_ty : SlTy Tryz.prog 78 86 chgT 56 := slTy (by kernel_rfl)
/-- a change as it lies in memory. -/
def chgR : Rel ChgRaw Chg := fun F w r d => r.1 = d.1 ∧ r.2.1 = d.2.1 ∧ SlT F w compT r.2.2.1 d.2.2.1 ∧ SlT F w compT r.2.2.2 d.2.2.2
theorem chgR_st : chgR.st := fun a b => fun {F F' S w w'} h f hs => ⟨h.1, h.2.1, SlT.st h.2.2.1 f hs, SlT.st h.2.2.2 f hs⟩
def lostM (a b : List Comp) : Int := bNot .u8 (maskN a : Int) (maskN b : Int)
def newM (a l : List Comp) : List Comp := l.filter fun c => !(findC a c.1).2
def chM (a l : List Comp) : List Comp := l.filter fun c => (findC a c.1).2 && !decide ((findC a c.1).1 = c)
def changeM (a b : Ent) : Chg := (b.1, lostM a.2 b.2, newM a.2 b.2, chM a.2 b.2)
theorem newM_le (a l : List Comp) : (newM a l).length ≤ l.length := List.length_filter_le _ _
theorem chM_le (a l : List Comp) : (chM a l).length ≤ l.length := List.length_filter_le _ _

theorem newM_snoc (a l : List Comp) (c : Comp) : newM a (l ++ [c]) = newM a l ++ if (findC a c.1).2 = false then [c] else [] := by
  unfold newM
  rw [List.filter_append]
  congr 1
  by_cases h : (findC a c.1).2 = true
  · simp [List.filter, h]
  · simp [List.filter, h]
theorem chM_snoc (a l : List Comp) (c : Comp) : chM a (l ++ [c]) = chM a l ++ if (findC a c.1).2 = true ∧ (findC a c.1).1 ≠ c then [c] else [] := by
  unfold chM
  rw [List.filter_append]
  congr 1
  by_cases h : (findC a c.1).2 = true
  · by_cases hq : (findC a c.1).1 = c
    · simp [List.filter, h, hq]
    · simp [List.filter, h, hq]
  · simp [List.filter, h]
structure ChgI (n bd : Nat) (id lost : Int) (a l : List Comp) (lab : Nat → Nat) (sn ss : Sl) (w : World) : Prop where
  blk : Blk w bd 86 [.int .u32 id, .int .u8 lost, .slice sn.a sn.n sn.c, .slice ss.a ss.n ss.c]
  lb : lab bd = 3
  new : Own (fun k => lab k = 1) w 92 compT sn (newM a l)
  set : Own (fun k => lab k = 2) w 92 compT ss (chM a l)
  up : ∀ k, lab k ≠ 0 → n ≤ k ∧ k < w.heap.size
theorem ChgI.fr0 {n bd : Nat} {id lost : Int} {a l : List Comp} {lab : Nat → Nat} {sn ss : Sl} (h : ChgI n bd id lost a l lab sn ss w) {w' : World} (f : Fr None w w') : ChgI n bd id lost a l lab sn ss w' :=
  ⟨h.blk.fr f fun h => h, h.lb, h.new.none f, h.set.none f, fun k e => ⟨(h.up k e).1, Nat.lt_of_lt_of_le (h.up k e).2 f.size⟩⟩

theorem spec_diff_change {ok ok2 : Nat → Prop} {r1 r2 : Int × Sl} {e1 e2 : Ent} (h1 : SlT ok w compT r1.2 e1.2) (h2 : SlT ok2 w compT r2.2 e2.2) (hid : r2.1 = e2.1) (hm1 : Small e1.2) (hm2 : Small e2.2) (hc1 : ∀ c ∈ e1.2, CompOk c) (hc2 : ∀ c ∈ e2.2, CompOk c) {K : Res [.agg [.int .u32, .int .u8, .sl, .sl]] → W R}
    (hk : ∀ r w', chgR (Up w.heap.size) w' r (changeM e1 e2) → Fr None w w' → K r Q w') :
    callW Tryz.prog k_diff_change [.agg ⟨[.int .u32 r1.1, .slice r1.2.a r1.2.n r1.2.c]⟩, .agg ⟨[.int .u32 r2.1, .slice r2.2.a r2.2.n r2.2.c]⟩] [.agg [.int .u32, .int .u8, .sl, .sl]] K Q w := by
  refine C_diff_change r1 r2 K Q w ?_
  unfold F_diff_change
  refine newI fun w1 B1 f1 s1 => newI fun w2 B2 f2 s2 => newI fun w3 B3 f3 s3 => ?_
  have B1 := (B1.fr f2 fun h => h).fr f3 fun h => h
  have B2 := B2.fr f3 fun h => h
  have f03 := (f1.then0 f2).then0 f3
  have l1 := h1.len
  have l2 := h2.len
  have hz := f03.size
  refine joinI (fun s v => ∃ bd, s = some ⟨bd, 0, none⟩ ∧ w3.heap.size ≤ bd ∧ Blk v bd 86 [.int .u32 e2.1, .int .u8 (lostM e1.2 e2.2), .slice none 0 0, .slice none 0 0] ∧ Fr None w3 v) ?_ ?_
  · have fd : Fr None w3 w3.drew := (Fr.refl _ _).drew
    have B1 := B1.fr fd fun h => h
    have B2 := B2.fr fd fun h => h
    have f0d := f03.then0 fd
    have g1 := h1.fr0 f0d
    have g2 := h2.fr0 f0d
    refine bothI ?_ (bothI ?_ ?_)
    · refine fldI B2 (i := 0) (x := r2.1) rfl (fldI B1 (i := 1) (x := r1.2) rfl (fldI B2 (i := 1) (x := r2.2) rfl ?_))
      refine spec_schema_Mask g1 hm1 hc1 fun w4 f4 => ?_
      refine andI ((B2.fr f4 fun h => h).rd (s := .sl) (i := 1) (x := r2.2) rfl) (andI ((B2.fr f4 fun h => h).rd (s := .int .u32) (i := 0) (x := r2.1) rfl) ?_)
      refine spec_schema_Mask (g2.fr0 f4) hm2 hc2 fun w5 f5 => andI (((B2.fr f4 fun h => h).fr f5 fun h => h).rd (s := .int .u32) (i := 0) (x := r2.1) rfl) ?_
      have f35 := (fd.then0 f4).then0 f5
      have hs := f35.size
      refine newI fun w6 B6 f6 s6 => stoAll B6 rfl rfl fun w7 B7 f7 s7 => ⟨_, rfl, hs, ?_, (f35.then0 f6).newer f7 fun k e => by omega⟩
      rw [← hid]; exact B7
    · refine fldI B2 (i := 0) (x := r2.1) rfl (fldI B1 (i := 1) (x := r1.2) rfl (fldI B2 (i := 1) (x := r2.2) rfl ?_))
      refine spec_schema_Mask g1 hm1 hc1 fun w4 f4 => ?_
      refine andI ((B2.fr f4 fun h => h).rd (s := .sl) (i := 1) (x := r2.2) rfl) (andI ((B2.fr f4 fun h => h).rd (s := .int .u32) (i := 0) (x := r2.1) rfl) ?_)
      have f34 := fd.then0 f4
      have hs := f34.size
      refine newI fun w5 B5 f5 s5 => ?_
      refine spec_schema_Mask ((g2.fr0 f4).fr0 f5) hm2 hc2 fun w6 f6 => andI ((((B2.fr f4 fun h => h).fr f5 fun h => h).fr f6 fun h => h).rd (s := .int .u32) (i := 0) (x := r2.1) rfl) ?_
      refine stoAll (B5.fr f6 fun h => h) rfl rfl fun w7 B7 f7 s7 => ⟨_, rfl, hs, ?_, ((f34.then0 f5).then0 f6).newer f7 fun k e => by omega⟩
      rw [← hid]; exact B7
    · refine fldI B2 (i := 0) (x := r2.1) rfl (fldI B1 (i := 1) (x := r1.2) rfl (fldI B2 (i := 1) (x := r2.2) rfl ?_))
      have hs := fd.size
      refine newI fun w4 B4 f4 s4 => ?_
      refine spec_schema_Mask (g1.fr0 f4) hm1 hc1 fun w5 f5 => ?_
      have B25 := (B2.fr f4 fun h => h).fr f5 fun h => h
      refine andI (B25.rd (s := .sl) (i := 1) (x := r2.2) rfl) (andI (B25.rd (s := .int .u32) (i := 0) (x := r2.1) rfl) ?_)
      refine spec_schema_Mask ((g2.fr0 f4).fr0 f5) hm2 hc2 fun w6 f6 => andI ((B25.fr f6 fun h => h).rd (s := .int .u32) (i := 0) (x := r2.1) rfl) ?_
      refine stoAll ((B4.fr f5 fun h => h).fr f6 fun h => h) rfl rfl fun w7 B7 f7 s7 => ⟨_, rfl, hs, ?_, (((fd.then0 f4).then0 f5).then0 f6).newer f7 fun k e => by have : w3.drew.heap.size = w3.heap.size := rfl; omega⟩
      rw [← hid]; exact B7
  rintro s v0 ⟨bd, rfl, hbd, B0, f3v⟩
  refine fldI (B2.fr f3v fun h => h) (i := 1) (x := r2.2) rfl ?_
  have hbl := B0.lt
  refine forI (N := r2.2.n) (fun s : Int => s) (fun j i v => i = (j : Int) ∧ (∃ lab sn ss, ChgI w3.heap.size bd e2.1 (lostM e1.2 e2.2) e1.2 (e2.2.take j) lab sn ss v) ∧ Fr None w3 v)
    ⟨rfl, ⟨fun k => if k = bd then 3 else 0, ⟨none, 0, 0⟩, ⟨none, 0, 0⟩, B0, by simp, Own.nil _ _ _ _, Own.nil _ _ _ _, fun k e => by
      by_cases hkb : k = bd
      · subst hkb; exact ⟨hbd, hbl⟩
      · exact absurd (if_neg hkb) e⟩, f3v⟩ (fun j s w' h => h.1) ?_ ?_
  · rintro j i v K' hj ⟨rfl, ⟨lab, sn, ss, D⟩, fv⟩ - hK
    refine (h2.fr0 (f03.then0 fv)).get rfl rfl (by omega) fun c hc => ?_
    refine newI fun v1 C1 g1 t1 => stoAll C1 rfl rfl fun v2 C2 g2 t2 => ?_
    have gv2 : Fr None v v2 := g1.newer g2 fun k e => by omega
    have fv2 := fv.then0 gv2
    refine fldI (B1.fr fv2 fun h => h) (i := 1) (x := r1.2) rfl (fldI C2 (i := 0) (x := c.1) rfl ?_)
    refine spec_diff_find (h1.fr0 (f03.then0 fv2)) (Nat.le_trans hm1 (by decide)) fun v3 g3 => ?_
    have C3 := C2.fr g3 fun h => h
    refine newI fun v4 C4 g4 t4 => stoAll C4 rfl rfl fun v5 C5 g5 t5 => ?_
    have g35 : Fr None v3 v5 := g4.newer g5 fun k e => by omega
    have C35 := C3.fr g35 fun h => h
    have gv5 := (gv2.then0 g3).then0 g35
    have D5 := D.fr0 gv5
    have fv5 := fv.then0 gv5
    have hs5 := gv5.size
    have hcl : c ∈ e2.2 := List.mem_of_getElem? hc
    have eN := newM_snoc e1.2 (e2.2.take j) c
    have eS := chM_snoc e1.2 (e2.2.take j) c
    rw [← take_at hc] at eN eS
    have lN : (newM e1.2 (e2.2.take j)).length ≤ 1048576 := Nat.le_trans (newM_le _ _) (Nat.le_trans (by simp; omega) hm2)
    have lS : (chM e1.2 (e2.2.take j)).length ≤ 1048576 := Nat.le_trans (chM_le _ _) (Nat.le_trans (by simp; omega) hm2)
    generalize findC e1.2 c.1 = fc at C5 eN eS
    refine joinI (fun (_ : Unit) v => (∃ lab sn ss, ChgI w3.heap.size bd e2.1 (lostM e1.2 e2.2) e1.2 (e2.2.take (j + 1)) lab sn ss v) ∧ Fr None w3 v) ?_ ?_
    · refine condI (fun hb => ?_) fun hb => ?_
      · have hb : fc.2 = false := by simpa using hb
        refine ptrI (fldI D5.blk (i := 2) (x := sn) rfl (aggI C35 (x := c) rfl ?_))
        refine appLab (x := c) comps_ty rfl D5.new (by omega) (by omega) fun r v6 o6 g6 => ?_
        have hs6 := g6.size
        have B6 := D5.blk.fr g6 fun e => by have := D5.lb; omega
        refine ptrI ?_
        rw [add_lit]
        refine setI (i := 2) B6 (by simp) rfl fun v7 B7 g7 t7 => ?_
        have nb : ∀ k, relab lab v5.heap.size v6.heap.size 1 k ≠ 3 → k ≠ bd := fun k e e2 => by
          subst e2
          rw [relab_lt (D5.blk.lt)] at e
          exact e D5.lb
        refine ⟨⟨relab lab v5.heap.size v6.heap.size 1, r, ss, B7, ?_, ?_, ?_, fun k e => ?_⟩, ?_⟩
        · rw [relab_lt D5.blk.lt]; exact D5.lb
        · rw [eN, if_pos hb]
          exact o6.fr g7 fun k e => nb k (by omega)
        · rw [eS, if_neg (by simp [hb]), List.append_nil]
          have := St.other (A := fun F w => Own F w 92 compT ss (chM e1.2 (e2.2.take j))) Own.st (c := 1) D5.set g6 (by decide)
          exact this.fr g7 fun k e => nb k (by omega)
        · rcases relab_ne e with e | e
          · have := D5.up k e.1; omega
          · have := fv5.size; omega
        · refine (fv5.newer g6 fun k e => ?_).newer g7 fun k e => by omega
          exact (D5.up k (by omega)).1
      · have hb : fc.2 = true := by simpa using hb
        refine aggI C5 (x := fc.1) rfl (aggI C35 (x := c) rfl ?_)
        refine neqI eqG_comp (eqV_comp fc.1 c) ?_
        refine joinI (fun (_ : Unit) v => (∃ lab sn ss, ChgI w3.heap.size bd e2.1 (lostM e1.2 e2.2) e1.2 (e2.2.take (j + 1)) lab sn ss v) ∧ Fr None w3 v) ?_ fun _ v h => h
        refine condI (fun hd => ?_) fun hd => ?_
        · have hd : fc.1 ≠ c := by simpa using hd
          refine ptrI (fldI D5.blk (i := 3) (x := ss) rfl (aggI C35 (x := c) rfl ?_))
          refine appLab (x := c) comps_ty rfl D5.set (by omega) (by omega) fun r v6 o6 g6 => ?_
          have hs6 := g6.size
          have B6 := D5.blk.fr g6 fun e => by have := D5.lb; omega
          refine ptrI ?_
          rw [add_lit]
          refine setI (i := 3) B6 (by simp) rfl fun v7 B7 g7 t7 => ?_
          have nb : ∀ k, relab lab v5.heap.size v6.heap.size 2 k ≠ 3 → k ≠ bd := fun k e e2 => by
            subst e2
            rw [relab_lt (D5.blk.lt)] at e
            exact e D5.lb
          refine ⟨⟨relab lab v5.heap.size v6.heap.size 2, sn, r, B7, ?_, ?_, ?_, fun k e => ?_⟩, ?_⟩
          · rw [relab_lt D5.blk.lt]; exact D5.lb
          · rw [eN, if_neg (by simp [hb]), List.append_nil]
            have := St.other (A := fun F w => Own F w 92 compT sn (newM e1.2 (e2.2.take j))) Own.st (c := 2) D5.new g6 (by decide)
            exact this.fr g7 fun k e => nb k (by omega)
          · rw [eS, if_pos ⟨hb, hd⟩]
            exact o6.fr g7 fun k e => nb k (by omega)
          · rcases relab_ne e with e | e
            · have := D5.up k e.1; omega
            · have := fv5.size; omega
          · refine (fv5.newer g6 fun k e => ?_).newer g7 fun k e => by omega
            exact (D5.up k (by omega)).1
        · have hd : fc.1 = c := by simpa using hd
          refine ⟨⟨lab, sn, ss, D5.blk, D5.lb, ?_, ?_, D5.up⟩, fv5⟩
          · rw [eN, if_neg (by simp [hb]), List.append_nil]; exact D5.new
          · rw [eS, if_neg (fun h => h.2 hd), List.append_nil]; exact D5.set
    · rintro _ v6 ⟨hD, f6⟩
      exact hK _ _ ⟨wsucc hj (by omega), hD, f6⟩
  · rintro i v ⟨_, ⟨lab, sn, ss, D⟩, fv⟩
    rw [List.take_of_length_le (by omega)] at D
    have hs := fv.size
    refine ptrI (aggI D.blk (x := ((e2.1, lostM e1.2 e2.2, sn, ss) : ChgRaw)) rfl ?_)
    refine stoAll (B3.fr fv fun h => h) rfl rfl fun v1 C1 g1 t1 => aggI C1 (x := ((e2.1, lostM e1.2 e2.2, sn, ss) : ChgRaw)) rfl ?_
    refine hk _ v1 ⟨rfl, rfl, ?_, ?_⟩ ((f03.then0 fv).newer g1 fun k e => by omega)
    · exact SlT.st D.new.sl g1 fun k hk e => by
        have := D.up k (by omega)
        exact ⟨by omega, show w.heap.size ≤ k by omega⟩
    · exact SlT.st D.set.sl g1 fun k hk e => by
        have := D.up k (by omega)
        exact ⟨by omega, show w.heap.size ≤ k by omega⟩

end Go.Proofs.YtchhhjlpnecjkaaGreat
