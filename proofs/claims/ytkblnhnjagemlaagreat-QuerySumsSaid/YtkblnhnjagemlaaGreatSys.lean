/-
  systems: what the program does to entities by themselves.
-/
import Derived.Test.YtkblnhnjagemlaaGreatQry
import Derived.Test.YtkblnhnjagemlaaGreatSysM
namespace Go.Proofs.YtkblnhnjagemlaaGreat
open Go Go.RowKit Go.Proofs.YtkblnhnjagemlaaGreat.Den
variable {R : Type} {Q : R → World → Prop} {w : World}

/-! ### numbers -/
theorem spec_Clamp {a : Int} {K : Res [.sc (.int .i32)] → W R} (hk : K (if a < -524288 then -524288 else if a > 524287 then 524287 else a) Q w) : callW Tryz.prog k_fixed_Clamp [.int .i32 a, .int .i32 (-524288), .int .i32 524287] [.sc (.int .i32)] K Q w := by
  refine C_fixed_Clamp _ _ _ K Q w ?_
  refine condD (fun h => ?_) fun h => condD (fun h2 => ?_) fun h2 => ?_
  · rw [if_pos h] at hk; exact hk
  · rw [if_neg h, if_pos h2] at hk; exact hk
  · rw [if_neg h, if_neg h2] at hk; exact hk
theorem spec_systems_turn {a b : Int} (ha : -524288 ≤ a ∧ a ≤ 524287) (hb : -32768 ≤ b ∧ b ≤ 32767) {K : Res [.sc (.int .i32), .sc (.int .i32)] → W R} (hk : K (turnM a b) Q w) :
    callW Tryz.prog k_systems_turn [.int .i32 a, .int .i32 b] [.sc (.int .i32), .sc (.int .i32)] K Q w := by
  refine C_systems_turn _ _ K Q w ?_
  unfold F_systems_turn
  have e1 : IntKind.wrap .i32 (a + b) = a + b := w32 (by omega)
  have e2 : IntKind.wrap .i32 (0 - b) = -b := by rw [w32 (by omega)]; omega
  rw [e1, e2]
  refine spec_Clamp ?_
  unfold turnM at hk
  refine joinI (fun (s : Int) w' => w' = w ∧ s = (if -524288 ≤ a + b ∧ a + b ≤ 524287 then b else if b = -32768 then 32767 else -b)) ?_ ?_
  · refine condN (fun h => ⟨rfl, ?_⟩) fun h => ⟨rfl, ?_⟩
    · have : ¬ (-524288 ≤ a + b ∧ a + b ≤ 524287) := fun h2 => h (by rw [if_neg (by omega), if_neg (by omega)])
      rw [if_neg this]
      split <;> split <;> omega
    · have : -524288 ≤ a + b ∧ a + b ≤ 524287 := by
        by_cases h1 : a + b < -524288
        · rw [if_pos h1] at h; omega
        · rw [if_neg h1] at h
          by_cases h2 : a + b > 524287
          · rw [if_pos h2] at h; omega
          · omega
      rw [if_pos this]
  · rintro s w' ⟨rfl, rfl⟩
    by_cases hin : -524288 ≤ a + b ∧ a + b ≤ 524287
    · rw [if_pos hin] at hk
      rw [if_pos hin, if_neg (by omega), if_neg (by omega)]
      exact hk
    · rw [if_neg hin] at hk
      rw [if_neg hin]
      by_cases h1 : a + b < -524288
      · rw [if_pos h1]
        rw [if_pos (show a + b < 0 by omega)] at hk
        exact hk
      · rw [if_neg h1, if_pos (by omega)]
        rw [if_neg (show ¬ a + b < 0 by omega)] at hk
        exact hk
theorem spec_r14_turn {a b : Int} (ha : -524288 ≤ a ∧ a ≤ 524287) (hb : -32768 ≤ b ∧ b ≤ 32767) {K : Res [.sc (.int .i32), .sc (.int .i32)] → W R} (hk : K (turnM a b) Q w) :
    callW Tryz.prog k_pinnaceref14_turn [.int .i32 a, .int .i32 b] [.sc (.int .i32), .sc (.int .i32)] K Q w := by
  refine C_pinnaceref14_turn _ _ K Q w ?_
  unfold F_pinnaceref14_turn
  have e1 : IntKind.wrap .i32 (a + b) = a + b := w32 (by omega)
  have e2 : IntKind.wrap .i32 (0 - b) = -b := by rw [w32 (by omega)]; omega
  rw [e1, e2]
  unfold turnM at hk
  refine joinI (fun (s : Bool) w' => w' = w ∧ s = decide (-524288 ≤ a + b ∧ a + b ≤ 524287)) ?_ ?_
  · refine condD (fun h => ⟨rfl, ?_⟩) fun h => ⟨rfl, ?_⟩
    · have h : a + b ≥ -524288 := h
      by_cases h2 : a + b ≤ 524287
      · rw [decide_eq_true h2, decide_eq_true ⟨by omega, h2⟩]
      · rw [decide_eq_false h2, decide_eq_false (by omega)]
    · have h : ¬ a + b ≥ -524288 := h
      rw [decide_eq_false (by omega)]
  · rintro s w' ⟨rfl, rfl⟩
    refine condD (fun h => ?_) fun h => ?_
    · rw [if_pos h] at hk; exact hk
    · rw [if_neg h] at hk
      refine joinI (fun (s : Int) w2 => w2 = w' ∧ s = if b = -32768 then 32767 else -b) (condE (fun h => ⟨rfl, by rw [if_pos h]⟩) fun h => ⟨rfl, by rw [if_neg h]⟩) ?_
      rintro s w2 ⟨rfl, rfl⟩
      refine condD (fun h2 => ?_) fun h2 => ?_
      · rw [if_pos h2] at hk; exact hk
      · rw [if_neg h2] at hk; exact hk
theorem spec_keep {n : Int} (h : -2147483648 ≤ n ∧ n ≤ 2147483647) {K : Res [.sc (.int .i32)] → W R} (hk : K n Q w) : callW Tryz.prog k_fixed_keep [.int .i64 n] [.sc (.int .i32)] K Q w := by
  refine C_fixed_keep _ K Q w ?_
  unfold F_fixed_keep
  have e1 : (if (-2147483648 : Int) > n then -2147483648 else n) = n := if_neg (by omega)
  rw [e1, if_neg (show ¬ (2147483647 : Int) < n by omega), w32 h]
  exact hk
theorem spec_From {n : Int} (h : -1000 ≤ n ∧ n ≤ 1000) {K : Res [.sc (.int .i32)] → W R} (hk : K (n * 256) Q w) : callW Tryz.prog k_fixed_From [.int .i64 n] [.sc (.int .i32)] K Q w := by
  refine C_fixed_From _ K Q w ?_
  unfold F_fixed_From
  have e1 : (if (-2147483648 : Int) > n then -2147483648 else n) = n := if_neg (by omega)
  rw [e1, if_neg (show ¬ (2147483647 : Int) < n by omega), w64 (by omega)]
  exact spec_keep (by omega) hk
theorem spec_Mul {a n : Int} (ha : a = 64 ∨ a = 32) (h : 0 ≤ n ∧ n ≤ 1000) {K : Res [.sc (.int .i32)] → W R} (hk : K (a * n) Q w) : callW Tryz.prog k_fixed_Mul [.int .i32 a, .int .i32 (n * 256)] [.sc (.int .i32)] K Q w := by
  refine C_fixed_Mul _ _ K Q w ?_
  unfold F_fixed_Mul
  have e : IntKind.wrap .i64 (Int.tdiv (IntKind.wrap .i64 (IntKind.wrap .i64 a * IntKind.wrap .i64 (n * 256))) 256) = a * n := by
    rw [w64 (x := a) (by omega), w64 (x := n * 256) (by omega)]
    rcases ha with rfl | rfl
    · rw [w64 (x := 64 * (n * 256)) (by omega), Int.tdiv_eq_ediv_of_nonneg (by omega), w64 (by omega)]; omega
    · rw [w64 (x := 32 * (n * 256)) (by omega), Int.tdiv_eq_ediv_of_nonneg (by omega), w64 (by omega)]; omega
  rw [e]
  exact spec_keep (by rcases ha with rfl | rfl <;> omega) hk
theorem spec_Sub0 {n : Int} (h : 0 ≤ n ∧ n ≤ 100000) {K : Res [.sc (.int .i32)] → W R} (hk : K (-n) Q w) : callW Tryz.prog k_fixed_Sub [.int .i32 0, .int .i32 n] [.sc (.int .i32)] K Q w := by
  refine C_fixed_Sub _ _ K Q w ?_
  unfold F_fixed_Sub
  have e : IntKind.wrap .i64 (IntKind.wrap .i64 0 - IntKind.wrap .i64 n) = -n := by rw [w64 (x := 0) (by omega), w64 (x := n) (by omega), w64 (by omega)]; omega
  rw [e]
  exact spec_keep (by omega) hk

/-! ### a child -/
theorem spec_systems_Child {c a : Comp} {odd : Bool} (hs : 0 ≤ c.2.2.2 ∧ c.2.2.2 ≤ 15) {K : Res [.sc .sl] → W R} (hk : ∀ r w', Den.Own (Up w.heap.size) w' 53 compT r (childM c.2.2.2 a odd) → Fr None w w' → K r Q w') :
    callW Tryz.prog k_systems_Child [.agg ⟨compC c⟩, .agg ⟨compC a⟩, .bool odd] [.sc .sl] K Q w := by
  refine C_systems_Child _ _ _ K Q w ?_
  unfold F_systems_Child
  refine newI fun w1 B1 f1 s1 => newI fun w2 B2 f2 s2 => ?_
  refine idxA (by omega) (by omega) ?_
  rw [addA]
  refine fldI (B1.fr f2 fun h => h) (i := 3) (x := c.2.2.2) rfl ?_
  have e1 : IntKind.wrap .i64 (IntKind.wrap .i64 c.2.2.2 + 1) = c.2.2.2 + 1 := by rw [w64 (x := c.2.2.2) (by omega), w64 (by omega)]
  rw [e1]
  refine spec_From (by omega) (spec_Mul (.inl rfl) (by omega) ?_)
  refine joinI (fun (s : Int) w' => w' = w2 ∧ s = if odd then -(64 * (c.2.2.2 + 1)) else 64 * (c.2.2.2 + 1)) ?_ ?_
  · cases odd with
    | true => exact condT rfl (spec_Sub0 (by omega) ⟨rfl, by simp⟩)
    | false => exact condF rfl ⟨rfl, by simp⟩
  · rintro s w' ⟨rfl, rfl⟩
    have fd : Fr None w' w'.drew := (Fr.refl _ _).drew
    have B2d := B2.fr fd fun h => h
    refine aggI B2d (x := a) rfl (spec_Mul (.inr rfl) (by omega) (andI ?_ ?_))
    · have := B2d.cells 0 _ (fun j u h => by rw [Nat.zero_add]; exact h); exact Rd.cells.2 this
    have e2 : IntKind.wrap .i32 (30 + IntKind.wrap .i32 (10 * c.2.2.2)) = 30 + 10 * c.2.2.2 := by rw [w32 (x := 10 * c.2.2.2) (by omega), w32 (by omega)]
    have e3 : IntKind.wrap .i32 (1 + c.2.2.2) = 1 + c.2.2.2 := w32 (by omega)
    rw [e2, e3]
    refine newI fun w4 B4 f4 s4 => ?_
    have f04 : Fr None w w4 := ((f1.then0 f2).then0 fd).then0 f4
    have hl : (childM c.2.2.2 a odd).length = 4 := rfl
    have o := Den.Own.mk' (S := Up w.heap.size) (w := w4) (E := 53) (t := compT) (l := childM c.2.2.2 a odd) (g := w'.drew.heap.size) (c := 4) (cur := ⟨(childM c.2.2.2 a odd).flatMap compT.cells⟩) (by have := ((f1.then0 f2).then0 fd).size; exact this) B4 (by show 4 ≤ 4; decide) (by rw [maxLen_eq]; decide) rfl rfl
    exact hk _ w4 o f04
theorem spec_r14_Child {shape : Int} {a : Comp} {odd : Bool} (hs : 0 ≤ shape ∧ shape ≤ 15) {K : Res [.sc .sl] → W R} (hk : ∀ r w', Den.Own (Up w.heap.size) w' 53 compT r (childM shape a odd) → Fr None w w' → K r Q w') :
    callW Tryz.prog k_pinnaceref14_Child [.int .i32 shape, .agg ⟨compC a⟩, .bool odd] [.sc .sl] K Q w := by
  refine C_pinnaceref14_Child _ _ _ K Q w ?_
  unfold F_pinnaceref14_Child
  refine newI fun w2 B2 f2 s2 => ?_
  have e0 : IntKind.wrap .i32 (shape + 1) = shape + 1 := w32 (by omega)
  have e1 : IntKind.wrap .i32 (64 * (shape + 1)) = 64 * (shape + 1) := w32 (by omega)
  have e1' : IntKind.wrap .i32 (32 * (shape + 1)) = 32 * (shape + 1) := w32 (by omega)
  have e4 : IntKind.wrap .i32 (0 - 64 * (shape + 1)) = -(64 * (shape + 1)) := by rw [w32 (by omega)]; omega
  have e2 : IntKind.wrap .i32 (30 + IntKind.wrap .i32 (10 * shape)) = 30 + 10 * shape := by rw [w32 (x := 10 * shape) (by omega), w32 (by omega)]
  have e3 : IntKind.wrap .i32 (1 + shape) = 1 + shape := w32 (by omega)
  rw [e0, e1, e1', e2, e3, e4]
  refine joinI (fun (s : Int) w' => w' = w2 ∧ s = if odd then -(64 * (shape + 1)) else 64 * (shape + 1)) ?_ ?_
  · cases odd with
    | true => exact condT rfl ⟨rfl, by simp⟩
    | false => exact condF rfl ⟨rfl, by simp⟩
  · rintro s w' ⟨rfl, rfl⟩
    refine aggI B2 (x := a) rfl (newI fun w4 B4 f4 s4 => ?_)
    have o := Den.Own.mk' (S := Up w.heap.size) (w := w4) (E := 53) (t := compT) (l := childM shape a odd) (g := w'.heap.size) (c := 4) (cur := ⟨(childM shape a odd).flatMap compT.cells⟩) (by have := f2.size; exact this) B4 (by show 4 ≤ 4; decide) (by rw [maxLen_eq]; decide) rfl rfl
    exact hk _ w4 o (f2.then0 f4)

/-! ### between two entities -/
/-- A: how the store lies, in blocks of F and new ones; Fm: of those that there were, which may have changed. -/
def SysAt (A : StM → OB) (F Fm : Nat → Prop) (w1 : World) (p : SysP) (out : Sl) (w' : World) : Prop :=
  ∃ G : Nat → Prop, A p.1 G w' ∧ (∀ r, G r → (F r ∧ r < w1.heap.size) ∨ w1.heap.size ≤ r) ∧ (∀ r, G r → r < w'.heap.size) ∧ Den.Own (fun r => w1.heap.size ≤ r ∧ ¬ G r) w' 31 idT out p.2 ∧ Fr Fm w1 w'
section
variable {A : StM → OB} {F Fm : Nat → Prop} {w1 : World} {p : SysP} {out : Sl}
theorem SysAt.fr0 (st : ∀ y, St (A y)) (h : SysAt A F Fm w1 p out w) {w' : World} (f : Fr None w w') : SysAt A F Fm w1 p out w' := by
  obtain ⟨G, hA, hG, hlt, ho, hf⟩ := h
  exact ⟨G, St.fr0 (st _) hA f, hG, fun r e => Nat.lt_of_lt_of_le (hlt r e) f.size, ho.none f, hf.then0 f⟩
/-- the store has become y. -/
theorem SysAt.upd (st : ∀ y, St (A y)) {G : Nat → Prop} {w' : World} {y : StM} {S : Nat → Prop} (hG : ∀ r, G r → (F r ∧ r < w1.heap.size) ∨ w1.heap.size ≤ r) (_hlt : ∀ r, G r → r < w.heap.size) (ho : Den.Own (fun r => w1.heap.size ≤ r ∧ ¬ G r) w 31 idT out p.2) (hf : Fr Fm w1 w)
    (hA : A y (Ex G w) w') (f : Fr S w w') (hS : ∀ k, S k → G k) (hS2 : ∀ k, k < w1.heap.size → S k → Fm k) : SysAt A F Fm w1 (y, p.2) out w' := by
  have hs1 := hf.size
  refine ⟨fun r => Ex G w r ∧ r < w'.heap.size, St.mono (st _) hA fun k hk e => ⟨e, hk⟩, fun r e => ?_, fun r e => e.2, Den.Own.st ho f fun k hk e => ⟨fun e2 => e.2 (hS k e2), e.1, fun e2 => ?_⟩, hf.trans f (fun _ h => h) hS2⟩
  · rcases e.1 with e | e
    · exact hG r e
    · exact .inr (by omega)
  · rcases e2.1 with e2 | e2
    · exact e.2 e2
    · omega
/-- one more is told. -/
theorem SysAt.app (st : ∀ y, St (A y)) {y : StM} {l : List Int} {id : Int} (h : SysAt A F Fm w1 (y, l) out w) (hl : l.length ≤ 100000) {K : Sl → W R} (hk : ∀ r w', SysAt A F Fm w1 (y, l ++ [id]) r w' → K r Q w') :
    newW 31 [.int .u32 id] (fun x => rawW Tryz.prog (Builtin.append_ #[28, 28] 28 #[.slice out.a out.n out.c, .slice (some x) 1 1]) [.sc .sl] K) Q w := by
  obtain ⟨G, hA, hG, hlt, ho, hf⟩ := h
  have hs1 := hf.size
  dsimp only at ho
  refine appP (x := id) ids_ty rfl ho (fun k e => ⟨by omega, fun e2 => by have := hlt k e2; omega⟩) (by omega) (by omega) fun r w' o f => hk r w' ⟨G, St.fr (st _) hA f fun k e e2 => (ho.own k e2).2 e, hG, fun k e => Nat.lt_of_lt_of_le (hlt k e) f.size, o, ?_⟩
  exact hf.exS f fun k e => .inr (ho.own k e).1
end
/-- x[i] of a component's fields, in a block of its own. -/
theorem fIdx {b : Nat} {i : Int} {j : Nat} (hi : i = (j : Int)) (hj : j < 3) {K : Addr → W R} (hk : K ⟨b, 1 + j, none⟩ Q w) : idxW (some (Addr.add ⟨b, 0, none⟩ 1)) 3 1 i K Q w := by
  subst hi
  refine idxA (by omega) (by omega) ?_
  rw [addA, add_lit]
  simpa using hk
theorem fit_at {x : StM} (h : StOk x) {all : Int} {ks : List Int} (hks : ∀ m : Nat, m < 64 → fitB (m : Int) all 0 = ks.all fun k => decide (k ∈ kindsOf m)) {id : Int} (hi : id ∈ withL x all 0) {k : Int} (hk : k ∈ ks) : hasK (entF x id) k = true := by
  have h1 := fit2 h hks (withL_live h hi)
  have h2 : fitE x all 0 id = true := (List.mem_filter.1 hi).2
  rw [h2] at h1
  exact List.all_eq_true.1 h1.symm k hk

section
variable {F : Nat → Prop} {b : Nat} {x : StM}
theorem wlNodup {x : StM} (h : StOk x) (all non : Int) : (withL x all non).Nodup := List.Pairwise.filter _ h.s.list_nodup
/-- what systems answer. -/
def SysEnd (A : StM → OB) (F Fm : Nat → Prop) (w : World) (p : SysP) (r : Sl) (w' : World) : Prop :=
  ∃ G : Nat → Prop, A p.1 G w' ∧ (∀ k, G k → F k ∨ w.heap.size ≤ k) ∧ (∀ k, G k → k < w'.heap.size) ∧ Den.Own (fun k => w.heap.size ≤ k ∧ ¬ G k) w' 31 idT r p.2 ∧ Fr Fm w w'
theorem SysAt.end_ {A : StM → OB} {F Fm : Nat → Prop} {w1 w' : World} {p : SysP} {out : Sl} (h : SysAt A (fun k => F k ∧ k < w.heap.size) (fun k => Fm k ∧ k < w.heap.size) w1 p out w') (f1 : Fr None w w1) : SysEnd A F Fm w p out w' := by
  obtain ⟨G, hA, hG, hlt, ho, hf⟩ := h
  have hs1 := f1.size
  refine ⟨G, hA, fun k e => ?_, hlt, ho.mono fun k _ e => ⟨by omega, e.2⟩, f1.any.then (hf.sub fun k e => e.1)⟩
  rcases hG k e with e | e
  · exact .inl e.1.1
  · exact .inr (by omega)

theorem spec_systems_Move (h : Store b x F w) {K : Res [.sc .sl] → W R} (hk : ∀ r w', SysEnd (Store b) F F w (moveM x) r w' → K r Q w') :
    callW Tryz.prog k_systems_Move [.pointer (some ⟨b, 0, none⟩)] [.sc .sl] K Q w := by
  have ok := (Store.open_ h).1
  refine C_systems_Move _ K Q w ?_
  unfold F_systems_Move
  refine spec_query_With h fun r0 w1 o1 f1 => ?_
  have hs1 := f1.size
  have stA : ∀ y, St (Store b y) := fun y => Store.st
  have st1 : Store b x (fun k => F k ∧ k < w.heap.size) w1 := Store.st h f1 fun k hk e => ⟨fun h => h, e, hk⟩
  have rd : ∀ {w' : World}, Fr (fun k => F k ∧ k < w.heap.size) w1 w' → SlT (Up w.heap.size) w' idT r0 (withL x 3 0) := fun f => o1.sl.fr f fun k e e2 => by have e : w.heap.size ≤ k := e; omega
  refine rangeI (t := idT) (ok := Up w.heap.size) (l := withL x 3 0) (fun s : Sl × Int => s.2) (fun j st w' => st.2 = (j : Int) ∧ SysAt (Store b) (fun k => F k ∧ k < w.heap.size) (fun k => F k ∧ k < w.heap.size) w1 (sysF (entF x) moveE (x, []) ((withL x 3 0).take j)) st.1 w') rfl
    ⟨rfl, fun k => (F k ∧ k < w.heap.size) ∧ k < w1.heap.size, Store.shut st1, fun r e => .inl e, fun r e => e.2, Den.Own.nil _ _ _ _, Fr.refl _ _⟩ (fun j s w' h => h.1) (fun j st w' hp => by obtain ⟨_, G, _, _, _, _, hf⟩ := hp; exact rd hf) ?_ ?_
  · rintro j id ⟨out, _⟩ w2 K' hid ⟨rfl, hsys⟩ - hK
    have hmem := List.mem_of_getElem? hid
    obtain ⟨okp, hHas, hide, hlen, hstep⟩ := sys_at moveS ok (wlNodup ok 3 0) (fun i hi => withL_live ok hi) hid []
    have hk0 := fit_at ok fits_3 hmem (k := 0) (by simp)
    have hk1 := fit_at ok fits_3 hmem (k := 1) (by simp)
    have hidok := withL_id ok hmem
    change sysF (entF x) moveE (x, []) ((withL x 3 0).take (j + 1)) = moveE (sysF (entF x) moveE (x, []) ((withL x 3 0).take j)) (entF x id) at hstep
    change Has (sysF (entF x) moveE (x, []) ((withL x 3 0).take j)).1 (entF x id) at hHas
    change (entF x id).1 = id at hide
    change (sysF (entF x) moveE (x, []) ((withL x 3 0).take j)).2.length ≤ _ at hlen
    change StOk (sysF (entF x) moveE (x, []) ((withL x 3 0).take j)).1 at okp
    have hwl := withL_len ok 3 0
    have hjl := (List.getElem?_eq_some_iff.1 hid).1
    dsimp only at hsys
    generalize sysF (entF x) moveE (x, []) ((withL x 3 0).take j) = p at okp hHas hlen hstep hsys
    generalize entF x id = e at hstep hHas hide hk0 hk1
    have g0 := Has.get okp hHas hk0
    have g1 := Has.get okp hHas hk1
    have c0 := Has.field okp hHas hk0
    have c1 := Has.field okp hHas hk1
    rw [hide] at g0 g1
    obtain ⟨pn, hpn⟩ : ∃ pn, pn = moveE p e := ⟨_, rfl⟩
    rw [← hpn] at hstep
    unfold moveE at hpn
    rw [hide] at hpn
    generalize fieldsOf e.2 0 = a at g0 c0 hpn
    generalize fieldsOf e.2 1 = v at g1 c1 hpn
    obtain ⟨ax, ay, az⟩ := a
    obtain ⟨vx, vy, vz⟩ := v
    obtain ⟨hax, hay, haz⟩ := pos_in c0
    obtain ⟨hvx, hvy, hvz⟩ := vel_in c1
    dsimp only at hax hay haz hvx hvy hvz hpn
    subst haz; subst hvz
    obtain ⟨G, hA, hG, hlt, ho, hf⟩ := hsys
    refine spec_store_Get hA hidok fun w3 f3 => ?_
    rw [g0]
    refine newI fun w4 B4 f4 s4 => stoAll B4 rfl rfl fun w5 B5 f5 s5 => ?_
    have f35 : Fr None w3 w5 := f4.newer f5 fun k e => by omega
    refine spec_store_Get (Store.st.fr0 hA (f3.then0 f35)) hidok fun w6 f6 => ?_
    rw [g1]
    refine newI fun w7 B7 f7 s7 => stoAll B7 rfl rfl fun w8 B8 f8 s8 => ?_
    have f68 : Fr None w6 w8 := f7.newer f8 fun k e => by omega
    have B58 := (B5.fr f6 fun h => h).fr f68 fun h => h
    refine aggI B58 (x := (0, ax, ay, 0)) rfl (newI fun w9 B9 f9 s9 => stoAll B9 rfl rfl fun w10 B10 f10 s10 => ?_)
    have f810 : Fr None w8 w10 := f9.newer f10 fun k e => by omega
    have f210 : Fr None w2 w10 := ((f3.then0 f35).then0 (f6.then0 f68)).then0 f810
    have n1 := f35.size
    have n2 := f6.size
    have n3 := f68.size
    have l5 := B5.lt
    have l8 := B8.lt
    have l3 : w3.heap.size < w5.heap.size := l5
    have l6 : w6.heap.size < w8.heap.size := l8
    refine loopI (fun s w' => Fr (fun k => k = w3.heap.size ∨ k = w6.heap.size) w10 w' ∧ ((s = 0 ∧ Blk w' w3.heap.size 53 (compC (0, ax, ay, 0)) ∧ Blk w' w6.heap.size 53 (compC (1, vx, vy, 0))) ∨
        (s = 1 ∧ Blk w' w3.heap.size 53 (compC (0, (turnM ax vx).1, ay, 0)) ∧ Blk w' w6.heap.size 53 (compC (1, (turnM ax vx).2, vy, 0))) ∨
        (s = 2 ∧ Blk w' w3.heap.size 53 (compC (0, (turnM ax vx).1, (turnM ay vy).1, 0)) ∧ Blk w' w6.heap.size 53 (compC (1, (turnM ax vx).2, (turnM ay vy).2, 0))))) (fun s _ => (2 - s).toNat)
      ⟨Fr.refl _ _, .inl ⟨rfl, B58.fr f810 fun h => h, B8.fr f810 fun h => h⟩⟩ ?_
    rintro s w11 ⟨f11, hcase⟩
    have fd : Fr None w11 w11.drew := (Fr.refl _ _).drew
    rcases hcase with ⟨rfl, Ba, Bv⟩ | ⟨rfl, Ba, Bv⟩ | ⟨rfl, Ba, Bv⟩
    · refine condT (by decide) ?_
      refine fIdx (j := 0) rfl (by decide) (fld0 (Ba.fr fd fun h => h) (x := ax) rfl (fIdx (j := 0) rfl (by decide) (fld0 (Bv.fr fd fun h => h) (x := vx) rfl ?_)))
      refine spec_systems_turn hax hvx ?_
      refine fIdx (j := 0) rfl (by decide) (setI (Ba.fr fd fun h => h) (by show 1 < 4; decide) rfl fun w12 B12 f12 s12 => fIdx (j := 0) rfl (by decide) (setI ((Bv.fr fd fun h => h).fr f12 (by omega)) (by show 1 < 4; decide) rfl fun w13 B13 f13 s13 => ?_))
      refine ⟨⟨(f11.then0 fd).trans (f12.trans f13 (U := fun k => k = w3.heap.size ∨ k = w6.heap.size) (fun _ e => .inl e) fun _ _ e => .inr e) (fun _ h => h) fun _ _ h => h, .inr (.inl ⟨by decide, B12.fr f13 (by omega), B13⟩)⟩, by decide⟩
    · refine condT (by decide) ?_
      refine fIdx (j := 1) rfl (by decide) (fld0 (Ba.fr fd fun h => h) (x := ay) rfl (fIdx (j := 1) rfl (by decide) (fld0 (Bv.fr fd fun h => h) (x := vy) rfl ?_)))
      refine spec_systems_turn hay hvy ?_
      refine fIdx (j := 1) rfl (by decide) (setI (Ba.fr fd fun h => h) (by show 2 < 4; decide) rfl fun w12 B12 f12 s12 => fIdx (j := 1) rfl (by decide) (setI ((Bv.fr fd fun h => h).fr f12 (by omega)) (by show 2 < 4; decide) rfl fun w13 B13 f13 s13 => ?_))
      refine ⟨⟨(f11.then0 fd).trans (f12.trans f13 (U := fun k => k = w3.heap.size ∨ k = w6.heap.size) (fun _ e => .inl e) fun _ _ e => .inr e) (fun _ h => h) fun _ _ h => h, .inr (.inr ⟨by decide, B12.fr f13 (by omega), B13⟩)⟩, by decide⟩
    · have hs2 := f3.size
      have hf1 := hf.size
      have f211 : Fr None w2 w11 := f210.newer f11 fun k e => by omega
      have B10' : Blk w11 w8.heap.size 53 (compC (0, ax, ay, 0)) := B10.fr f11 fun e => by omega
      have hA11 := Store.st.fr0 hA f211
      have own11 := ho.none f211
      refine condF (by decide) (aggI Ba (x := (0, (turnM ax vx).1, (turnM ay vy).1, 0)) rfl (spec_store_Set hA11 hidok fun w12 hA12 f12 => ?_))
      have dG : ∀ k, w2.heap.size ≤ k → ¬ G k := fun k e e2 => by have := hlt k e2; omega
      refine aggI (Bv.fr f12 (dG _ (by omega))) (x := (1, (turnM ax vx).2, (turnM ay vy).2, 0)) rfl (spec_store_Set hA12 hidok fun w13 hA13 f13 => ?_)
      have f1113 := f12.then f13
      refine aggI (Ba.fr f1113 (dG _ (by omega))) (x := (0, (turnM ax vx).1, (turnM ay vy).1, 0)) rfl (aggI (B10'.fr f1113 (dG _ (by omega))) (x := (0, ax, ay, 0)) rfl ?_)
      refine neqI eqG_comp (eqV_comp (0, (turnM ax vx).1, (turnM ay vy).1, 0) (0, ax, ay, 0)) ?_
      have hltG : ∀ r, G r → r < w11.heap.size := fun r e => Nat.lt_of_lt_of_le (hlt r e) f211.size
      have hsys13 := SysAt.upd (p := p) (A := Store b) (F := fun k => F k ∧ k < w.heap.size) (Fm := fun k => F k ∧ k < w.heap.size) stA hG hltG own11 (hf.then0 f211) (Store.st.mono hA13 fun k _ e => .inl e) f1113 (fun k e => e) fun k hk e => by
        rcases hG k e with e | e
        · exact e.1
        · omega
      refine joinI (fun z w' => SysAt (Store b) (fun k => F k ∧ k < w.heap.size) (fun k => F k ∧ k < w.heap.size) w1 (sysF (entF x) moveE (x, []) ((withL x 3 0).take (j + 1))) z w') ?_ fun z w' hz => hK _ _ ⟨wsucc hjl (by omega), hz⟩
      rw [hstep, hpn]
      refine condI (fun hne => ?_) fun heq => ?_
      · have hne : ¬ ((turnM ax vx).1 = ax ∧ (turnM ay vy).1 = ay) := fun h2 => by simp [h2.1, h2.2] at hne
        rw [if_neg hne]
        exact SysAt.app stA hsys13 (by simp only [List.length_nil] at hlen; omega) fun r w' hr => hr
      · have heq : (turnM ax vx).1 = ax ∧ (turnM ay vy).1 = ay := by simpa using heq
        rw [if_pos heq]
        exact hsys13
  · rintro ⟨out, _⟩ w2 ⟨-, hsys⟩
    rw [List.take_length] at hsys
    exact hk out w2 (SysAt.end_ hsys f1)

theorem sys_facts {step : SysP → Ent → SysP} (S : SysStep step) (h : StOk x) {all : Int} {ks : List Int} (hks : ∀ m : Nat, m < 64 → fitB (m : Int) all 0 = ks.all fun k => decide (k ∈ kindsOf m)) {j : Nat} {id : Int} (hid : (withL x all 0)[j]? = some id) :
    (StOk (sysF (entF x) step (x, []) ((withL x all 0).take j)).1 ∧ Has (sysF (entF x) step (x, []) ((withL x all 0).take j)).1 (entF x id) ∧ (sysF (entF x) step (x, []) ((withL x all 0).take j)).2.length ≤ j ∧
      sysF (entF x) step (x, []) ((withL x all 0).take (j + 1)) = step (sysF (entF x) step (x, []) ((withL x all 0).take j)) (entF x id)) ∧ (entF x id).1 = id ∧ IdOk id ∧ (∀ k, k ∈ ks → hasK (entF x id) k = true) ∧ j < 1024 := by
  obtain ⟨a1, a2, a3, a4, a5⟩ := sys_at S h (wlNodup h all 0) (fun i hi => withL_live h hi) hid []
  have hmem := List.mem_of_getElem? hid
  simp only [List.length_nil, Nat.zero_add] at a4
  refine ⟨⟨a1, a2, a4, a5⟩, a3, withL_id h hmem, fun k hk => fit_at h hks hmem hk, ?_⟩
  have := withL_len h all 0
  have := (List.getElem?_eq_some_iff.1 hid).1
  omega
theorem SysAt.start {A : StM → OB} {F Fm : Nat → Prop} {w1 : World} (st : ∀ y, St (A y)) (h : A x F w1) : SysAt A F Fm w1 (x, []) ⟨none, 0, 0⟩ w1 :=
  ⟨fun k => F k ∧ k < w1.heap.size, St.mono (st _) h fun _k hk e => ⟨e, hk⟩, fun _r e => .inl e, fun _r e => e.2, Den.Own.nil _ _ _ _, Fr.refl _ _⟩

theorem SysAt.start0 {A : StM → OB} {F Fm : Nat → Prop} {w1 : World} {g : Int → Ent} {step : SysP → Ent → SysP} {l : List Int} (st : ∀ y, St (A y)) (h : A x F w1) : SysAt A F Fm w1 (sysF g step (x, []) (l.take 0)) ⟨none, 0, 0⟩ w1 := by
  rw [List.take_zero]; exact SysAt.start st h

theorem spec_systems_Age (h : Store b x F w) {K : Res [.sc .sl] → W R} (hk : ∀ r w', SysEnd (Store b) F F w (ageM x) r w' → K r Q w') :
    callW Tryz.prog k_systems_Age [.pointer (some ⟨b, 0, none⟩)] [.sc .sl] K Q w := by
  have ok := (Store.open_ h).1
  refine C_systems_Age _ K Q w ?_
  unfold F_systems_Age
  refine spec_query_With h fun r0 w1 o1 f1 => ?_
  have hs1 := f1.size
  have stA : ∀ y, St (Store b y) := fun y => Store.st
  have st1 : Store b x (fun k => F k ∧ k < w.heap.size) w1 := Store.st h f1 fun k hk e => ⟨fun h => h, e, hk⟩
  have rd : ∀ {w' : World}, Fr (fun k => F k ∧ k < w.heap.size) w1 w' → SlT (Up w.heap.size) w' idT r0 (withL x 4 0) := fun f => o1.sl.fr f fun k e e2 => by have e : w.heap.size ≤ k := e; omega
  have hrn : r0.n = (withL x 4 0).length := o1.len
  refine forI (N := r0.n) (fun s : Sl × Int => s.2) (fun j st w' => st.2 = (j : Int) ∧ SysAt (Store b) (fun k => F k ∧ k < w.heap.size) (fun k => F k ∧ k < w.heap.size) w1 (sysF (entF x) ageE (x, []) ((withL x 4 0).take j)) st.1 w')
    ?_ (fun j s w' h => h.1) ?_ ?_
  · exact ⟨rfl, SysAt.start0 stA st1⟩
  · rintro j ⟨out, _⟩ w2 K' hjr ⟨rfl, hsys⟩ - hK
    obtain ⟨id, hid⟩ : ∃ id, (withL x 4 0)[j]? = some id := ⟨_, List.getElem?_eq_getElem (by omega)⟩
    obtain ⟨⟨okp, hHas, hlen, hstep⟩, hide, hidok, hks, hj⟩ := sys_facts ageS ok fits_4 hid
    have hk2 := hks 2 (by simp)
    dsimp only at hsys
    generalize sysF (entF x) ageE (x, []) ((withL x 4 0).take j) = p at okp hHas hlen hstep hsys
    generalize entF x id = e at hstep hHas hide hk2
    have g0 := Has.get okp hHas hk2
    have c0 := Has.field okp hHas hk2
    rw [hide] at g0
    obtain ⟨pn, hpn⟩ : ∃ pn, pn = ageE p e := ⟨_, rfl⟩
    rw [← hpn] at hstep
    unfold ageE at hpn
    rw [hide] at hpn
    generalize fieldsOf e.2 2 = a at g0 c0 hpn
    obtain ⟨ax, ay, az⟩ := a
    obtain ⟨hax, hay, haz⟩ := life_in c0
    dsimp only at hax hay haz hpn
    subst hay; subst haz
    obtain ⟨G, hA, hG, hlt, ho, hf⟩ := hsys
    have hf1 := hf.size
    refine joinI (fun z w' => SysAt (Store b) (fun k => F k ∧ k < w.heap.size) (fun k => F k ∧ k < w.heap.size) w1 (sysF (entF x) ageE (x, []) ((withL x 4 0).take (j + 1))) z w') ?_ fun z w' hz => hK _ _ ⟨wsucc (N := 1024) hj (by omega), hz⟩
    refine (rd hf).get (j := j) rfl rfl (by omega) fun y hy => ?_
    rw [hid] at hy
    cases hy
    refine spec_store_Get hA hidok fun w3 f3 => ?_
    rw [g0]
    refine newI fun w4 B4 f4 s4 => stoAll B4 rfl rfl fun w5 B5 f5 s5 => ?_
    have f35 : Fr None w3 w5 := f4.newer f5 fun k e => by omega
    have f25 := f3.then0 f35
    have hs3 := f3.size
    rw [hstep, hpn]
    have inF : ∀ k, k < w1.heap.size → G k → F k ∧ k < w.heap.size := fun k hk e => by
      rcases hG k e with e | e
      · exact e.1
      · omega
    refine fIdx (j := 0) rfl (by decide) (fld0 B5 (x := ax) rfl (condE (fun hz => ?_) fun hz => ?_))
    · have hz : ax = 0 := hz
      rw [if_pos hz]
      refine spec_store_Despawn (Store.st.fr0 hA f25) hidok fun w6 hA6 f6 => ?_
      have h6 := SysAt.upd (p := p) (A := Store b) (F := fun k => F k ∧ k < w.heap.size) (Fm := fun k => F k ∧ k < w.heap.size) stA hG hlt ho hf (Store.st.mono hA6 fun k _ e => by
        rcases e with e | e
        · exact .inl e
        · exact .inr (by have := f25.size; omega)) (f25.any.then f6) (fun k e => e) inF
      exact SysAt.app stA h6 (by omega) fun r w' hr => hr
    · have hz : ax ≠ 0 := hz
      rw [if_neg hz]
      have e1 : IntKind.wrap .i32 (ax - 1) = ax - 1 := w32 (by omega)
      refine fIdx (j := 0) rfl (by decide) (fld0 B5 (x := ax) rfl (fIdx (j := 0) rfl (by decide) (setI B5 (by show 1 < 4; decide) rfl fun w6 B6 f6 s6 => ?_)))
      rw [e1] at B6
      have f26 : Fr None w2 w6 := f25.newer f6 fun k e => by omega
      refine aggI B6 (x := (2, ax - 1, 0, 0)) rfl (spec_store_Set (Store.st.fr0 hA f26) hidok fun w7 hA7 f7 => ?_)
      exact SysAt.upd (p := p) (A := Store b) stA hG hlt ho hf (Store.st.mono hA7 fun k _ e => .inl e) (f26.any.then f7) (fun k e => e) inF
  · rintro ⟨out, _⟩ w2 ⟨-, hsys⟩
    rw [hrn, List.take_length] at hsys
    exact hk out w2 (SysAt.end_ hsys f1)

theorem spec_systems_Breed (h : Store b x F w) {K : Res [.sc .sl] → W R} (hk : ∀ r w', SysEnd (Store b) F F w (breedM x) r w' → K r Q w') :
    callW Tryz.prog k_systems_Breed [.pointer (some ⟨b, 0, none⟩)] [.sc .sl] K Q w := by
  have ok := (Store.open_ h).1
  refine C_systems_Breed _ K Q w ?_
  unfold F_systems_Breed
  refine spec_query_With h fun r0 w1 o1 f1 => ?_
  have hs1 := f1.size
  have stA : ∀ y, St (Store b y) := fun y => Store.st
  have st1 : Store b x (fun k => F k ∧ k < w.heap.size) w1 := Store.st h f1 fun k hk e => ⟨fun h => h, e, hk⟩
  have rd : ∀ {w' : World}, Fr (fun k => F k ∧ k < w.heap.size) w1 w' → SlT (Up w.heap.size) w' idT r0 (withL x 33 0) := fun f => o1.sl.fr f fun k e e2 => by have e : w.heap.size ≤ k := e; omega
  have hrn : r0.n = (withL x 33 0).length := o1.len
  refine forI (N := r0.n) (fun s : Sl × Int => s.2) (fun j st w' => st.2 = (j : Int) ∧ SysAt (Store b) (fun k => F k ∧ k < w.heap.size) (fun k => F k ∧ k < w.heap.size) w1 (sysF (entF x) breedE (x, []) ((withL x 33 0).take j)) st.1 w')
    ?_ (fun j s w' h => h.1) ?_ ?_
  · exact ⟨rfl, SysAt.start0 stA st1⟩
  · rintro j ⟨out, _⟩ w2 K' hjr ⟨rfl, hsys⟩ - hK
    obtain ⟨id, hid⟩ : ∃ id, (withL x 33 0)[j]? = some id := ⟨_, List.getElem?_eq_getElem (by omega)⟩
    obtain ⟨⟨okp, hHas, hlen, hstep⟩, hide, hidok, hks, hj⟩ := sys_facts breedS ok fits_33 hid
    have hk0 := hks 0 (by simp)
    have hk5 := hks 5 (by simp)
    dsimp only at hsys
    generalize sysF (entF x) breedE (x, []) ((withL x 33 0).take j) = p at okp hHas hlen hstep hsys
    generalize entF x id = e at hstep hHas hide hk0 hk5
    have g0 := Has.get okp hHas hk0
    have c0 := Has.field okp hHas hk0
    have g5 := Has.get okp hHas hk5
    have c5 := Has.field okp hHas hk5
    rw [hide] at g0 g5
    obtain ⟨pn, hpn⟩ : ∃ pn, pn = breedE p e := ⟨_, rfl⟩
    rw [← hpn] at hstep
    unfold breedE at hpn
    rw [hide] at hpn
    generalize fieldsOf e.2 0 = a at g0 c0 hpn
    generalize fieldsOf e.2 5 = s at g5 c5 hpn
    obtain ⟨sx, sy, sz⟩ := s
    obtain ⟨hsx, hsy, hsz⟩ := spawn_in c5
    dsimp only at hsx hsy hsz hpn
    obtain ⟨G, hA, hG, hlt, ho, hf⟩ := hsys
    have hf1 := hf.size
    refine joinI (fun z w' => SysAt (Store b) (fun k => F k ∧ k < w.heap.size) (fun k => F k ∧ k < w.heap.size) w1 (sysF (entF x) breedE (x, []) ((withL x 33 0).take (j + 1))) z w') ?_ fun z w' hz => hK _ _ ⟨wsucc (N := 1024) hj (by omega), hz⟩
    refine (rd hf).get (j := j) rfl rfl (by omega) fun y hy => ?_
    rw [hid] at hy
    cases hy
    refine spec_store_Get hA hidok fun w3 f3 => ?_
    rw [g5]
    refine newI fun w4 B4 f4 s4 => stoAll B4 rfl rfl fun w5 B5 f5 s5 => ?_
    have f35 : Fr None w3 w5 := f4.newer f5 fun k e => by omega
    have f25 := f3.then0 f35
    have hs3 := f3.size
    have l5 := B5.lt
    rw [hstep, hpn]
    have inF : ∀ k, k < w1.heap.size → G k → F k ∧ k < w.heap.size := fun k hk e => by
      rcases hG k e with e | e
      · exact e.1
      · omega
    refine fIdx (j := 1) rfl (by decide) (fld0 B5 (x := sy) rfl (condD (fun hz => ?_) fun hz => ?_))
    · have hz : 0 < sy := hz
      rw [if_pos hz]
      have e1 : IntKind.wrap .i32 (sy - 1) = sy - 1 := w32 (by omega)
      refine fIdx (j := 1) rfl (by decide) (fld0 B5 (x := sy) rfl (fIdx (j := 1) rfl (by decide) (setI B5 (by show 2 < 4; decide) rfl fun w6 B6 f6 s6 => ?_)))
      rw [e1] at B6
      have f26 : Fr None w2 w6 := f25.newer f6 fun k e => by omega
      refine aggI B6 (x := (5, sx, sy - 1, sz)) rfl (spec_store_Set (Store.st.fr0 hA f26) hidok fun w7 hA7 f7 => ?_)
      exact SysAt.upd (p := p) (A := Store b) stA hG hlt ho hf (Store.st.mono hA7 fun k _ e => .inl e) (f26.any.then f7) (fun k e => e) inF
    · have hz : ¬ 0 < sy := hz
      rw [if_neg hz]
      refine spec_store_Get (Store.st.fr0 hA f25) hidok fun w6 f6 => ?_
      rw [g0]
      refine newI fun w7 B7 f7 s7 => stoAll B7 rfl rfl fun w8 B8 f8 s8 => ?_
      have f68 : Fr None w6 w8 := f7.newer f8 fun k e => by omega
      have fd : Fr None w8 w8.drew := (Fr.refl _ _).drew
      have B8d := B8.fr fd fun h => h
      have f58 := f6.then0 f68
      have B5d := (B5.fr f58 fun h => h).fr fd fun h => h
      refine aggI B5d (x := (5, sx, sy, sz)) rfl (aggI B8d (x := (0, a)) rfl (spec_slots_Slot hidok (andI ?_ (andI ?_ ?_))))
      · have := B8d.cells 0 _ (fun j u h => by rw [Nat.zero_add]; exact h); exact Rd.cells.2 this
      · have := B5d.cells 0 _ (fun j u h => by rw [Nat.zero_add]; exact h); exact Rd.cells.2 this
      have hodd : (Int.tmod (slotOf id) 2 == 1) = oddM id := by
        have h0 : 0 ≤ slotOf id := by unfold slotOf; omega
        unfold oddM
        rw [Int.tmod_eq_emod_of_nonneg h0]
        rfl
      rw [hodd]
      refine spec_systems_Child (c := (5, sx, sy, sz)) (a := (0, a)) hsz fun rl w9 o9 f9 => ?_
      have f28 := f25.then0 (f58.then0 fd)
      have f29 := f28.then0 f9
      have hs28 := f28.size
      have hs9 := f9.size
      have hcl := child_ok hsz c0 (oddM id)
      have hcs : (childM sz (0, a) (oddM id)).length = 4 := rfl
      refine spec_store_Spawn (Store.st.fr0 hA f29) o9.sl (fun k _ e e2 => by have e : w8.drew.heap.size ≤ k := e; have := hlt k e2; omega) (by show _ ≤ 1048576; rw [hcs]; decide) (fun c hc => checkM_ok ((listE_0.1 hcl).1 c hc)) fun w10 hA10 f10 => ?_
      have hA10 : Store b (p.1.spawn (childM sz (0, a) (oddM id))).2.2 (Ex G w9) w10 := hA10
      generalize p.1.spawn (childM sz (0, a) (oddM id)) = q at hA10 ⊢
      have f210 : Fr G w2 w10 := f29.any.then f10
      refine condN (fun he => ?_) fun he => ?_
      · have he : q.2.1 ≠ 0 := he
        rw [if_neg he]
        exact SysAt.upd (p := p) (A := Store b) stA hG hlt ho hf (Store.st.mono hA10 fun k _ e => by
          rcases e with e | e
          · exact .inl e
          · exact .inr (by omega)) f210 (fun k e => e) inF
      · have he : q.2.1 = 0 := he
        rw [if_pos he]
        have nG5 : ¬ G w3.heap.size := fun e => by have := hlt _ e; omega
        have B10 := ((B5d.fr f9 fun h => h).fr f10 nG5)
        have e1 : IntKind.wrap .i32 (sx - 1) = sx - 1 := w32 (by omega)
        refine fIdx (j := 0) rfl (by decide) (fld0 B10 (x := sx) rfl (fIdx (j := 1) rfl (by decide) (setI B10 (by show 2 < 4; decide) rfl fun w11 B11 f11 s11 => ?_)))
        rw [e1] at B11
        have l10 := f10.size
        refine aggI B11 (x := (5, sx, sx - 1, sz)) rfl (spec_store_Set (Store.st.fr hA10 f11 fun k e e2 => by
          rcases e with e | e
          · have e2 : k = w3.heap.size := e2
            rw [e2] at e; exact nG5 e
          · have e2 : k = w3.heap.size := e2
            have e : w9.heap.size ≤ k := e
            have hd : w8.drew.heap.size = w8.heap.size := rfl
            have h58 := f58.size
            omega) hidok fun w12 hA12 f12 => ?_)
        have f212 : Fr G w2 w12 := (f210.exS f11 fun k e => .inr (by omega)).exS f12 fun k e => by
          rcases e with e | e
          · exact .inl e
          · exact .inr (by omega)
        have h12 := SysAt.upd (p := (p.1, p.2)) (A := Store b) (F := fun k => F k ∧ k < w.heap.size) (Fm := fun k => F k ∧ k < w.heap.size) stA hG hlt ho hf (Store.st.mono hA12 fun k _ e => by
          rcases e with e | e
          · exact .inl e
          · exact .inr (by omega)) f212 (fun k e => e) inF
        exact SysAt.app stA h12 (by show p.2.length ≤ _; omega) fun r w' hr => hr
  · rintro ⟨out, _⟩ w2 ⟨-, hsys⟩
    rw [hrn, List.take_length] at hsys
    exact hk out w2 (SysAt.end_ hsys f1)
end

end Go.Proofs.YtkblnhnjagemlaaGreat
