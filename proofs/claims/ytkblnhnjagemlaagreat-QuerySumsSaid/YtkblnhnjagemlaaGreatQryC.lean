/-
  query.Count: how many fit.
-/
import Derived.Test.YtkblnhnjagemlaaGreatQry
namespace Go.Proofs.YtkblnhnjagemlaaGreat
open Go Go.Proofs Go.RowKit Go.Proofs.YtkblnhnjagemlaaGreat.Den Go.Proofs.YtkblnhnjagemlaaGreat.Seq
variable {R : Type} {Q : R → World → Prop} {w : World}
attribute [local go_sem] Oper.semAt_some

def cnBody : Code := (Code.block 1 (Code.region 3 #[{ dst := some 13, op := Op.load 3 (Operand.tmp 7), type := 3, pos := "query.go:40", after := #[], guard := none }, { dst := some 14, op := Op.binOp BinOp.add 3 (Operand.tmp 13) (Operand.const (Value.int IntKind.i64 1)) 3, type := 3, pos := "query.go:40", after := #[{ on := 0, ground := Ground.data }], guard := none }, { dst := none, op := Op.store 3 (Operand.tmp 7) (Operand.tmp 14), type := 0, pos := "query.go:40", after := #[{ on := 1, ground := Ground.data }, { on := 0, ground := Ground.phase }, { on := 1, ground := Ground.phase }], guard := none }] false))
/-- the loop's record: Count's temporaries as they stood at the entering. -/
def cnRec (fn : FuncId) (s a n : Value) (g : Nat) (lb : Array Value) (Bs D : Nat) (st : LoopState) (pend : Option Code) : Loop :=
  { state := st, pending := pend, fn, tmps := #[s, a, n, undef, undef, undef, .int .i64 0, .pointer (some ⟨Bs, 0, none⟩), s, a, n, .func (.func g) #[] lb, undef, undef, undef, undef], params := #[12], assign := Code.skip, body := cnBody, defers := D }

/-- BETWEEN TWO ROUNDS: the box holds how many have come. -/
structure CnAt (w0 : World) (rec : LoopState → Option Code → Loop) (Bs l D : Nat) (Z : Nat → Prop) (c : Nat) (W : World) : Prop where
  box : W.heap[Bs]? = some (.cells #[.int .i64 c] 3 (0, 0))
  z : ∀ k, Z k → k < W.heap.size ∧ k ≠ Bs ∧ k ≠ l ∧ k ≠ D
  L : W.heap[l]? = some (.loop (rec .ready none))
  K : W.heap[D]? = some (.deferred (some []))
  below : Below w0.heap.size w0 W

theorem CnAt.abide {w0 : World} {rec : LoopState → Option Code → Loop} {Bs l D : Nat} {Z : Nat → Prop} {c : Nat} {A B : World} (h : CnAt w0 rec Bs l D Z c A) (f : Fr None A B) : CnAt w0 rec Bs l D (Zx Z A B) c B := by
  have lt : ∀ {k : Nat} {o : Obj}, A.heap[k]? = some o → k < A.heap.size := fun h => (Array.getElem?_eq_some_iff.1 h).1
  have keep : ∀ {k : Nat} {o : Obj}, A.heap[k]? = some o → B.heap[k]? = some o := fun h => (f.block _ (lt h) fun h => h).trans h
  refine ⟨keep h.box, fun k z => ?_, keep h.L, keep h.K, below_fr h.below f⟩
  have hs := f.size
  rcases z with z | z
  · obtain ⟨h1, h2⟩ := h.z k z
    exact ⟨by omega, h2⟩
  · have := lt h.box
    have := lt h.L
    have := lt h.K
    exact ⟨z.2, by omega, by omega, by omega⟩

set_option maxRecDepth 100000 in
set_option maxHeartbeats 2000000 in
theorem cn_yield (F : Fence) (m : Nat) (w0 : World) (fn : FuncId) (hfn : F.fn fn) (s a n : Value) (g : Nat) (lb : Array Value) (Bs l D : Nat) (hBl : Bs ≠ l) (hDl : D ≠ l) (hDB : D ≠ Bs) (h0B : w0.heap.size ≤ Bs) (h0l : w0.heap.size ≤ l)
    (Z : Nat → Prop) (c : Nat) (hc : c ≤ 1048576) (x : Int) (W : World) (h : CnAt w0 (cnRec fn s a n g lb Bs D) Bs l D Z c W) :
    YieldAt F m Tryz.prog l #[encID x] W fun e W' => e = .returned (.bool true) ∧ CnAt w0 (cnRec fn s a n g lb Bs D) Bs l D Z (c + 1) W' ∧ W.heap.size ≤ W'.heap.size ∧ ∀ k, Z k → W'.heap[k]? = W.heap[k]? := by
  have hv := h.box
  refine ⟨fn, #[s, a, n, undef, undef, undef, .int .i64 0, .pointer (some ⟨Bs, 0, none⟩), s, a, n, .func (.func g) #[] lb, encID x, undef, undef, undef], Code.skip, cnBody, by simpa [cnRec] using run_yield (P := Tryz.prog) (args := #[encID x]) h.L rfl, roundIn_of_wpIn hfn ?_⟩
  have hl : l < W.heap.size := (Array.getElem?_eq_some_iff.1 h.L).1
  have hbr := run_beginRound (P := Tryz.prog) h.L rfl
  obtain ⟨W2, hW2⟩ : ∃ W2, W.putObj l (.loop { cnRec fn s a n g lb Bs D .ready none with state := .busy }) = W2 := ⟨_, rfl⟩
  rw [hW2] at hbr
  have f2 : Fr (fun k => k = l) W W2 := by rw [← hW2]; exact putObj_fr _ _ _
  have hv2 : W2.heap[Bs]? = some (.cells #[.int .i64 c] 3 (0, 0)) := by rw [← hW2]; exact (World.putObj_heap_other hBl).trans hv
  have hK2 : W2.heap[D]? = some (.deferred (some [])) := by rw [← hW2]; exact (World.putObj_heap_other hDl).trans h.K
  have hL2 : W2.heap[l]? = some (.loop { cnRec fn s a n g lb Bs D .ready none with state := .busy }) := by rw [← hW2]; exact World.putObj_heap_same hl
  have hb2 : Below w0.heap.size w0 W2 := h.below.grown ⟨f2.os, f2.tape, f2.output, f2.size, fun k hk hn => f2.block k hk fun e => hn (by rw [e])⟩ h.below.size (fun k e => by cases e; exact h0l)
  obtain ⟨hc2, hf2⟩ := cell_of_box hv2
  have hz2 : ∀ k, Z k → W2.heap[k]? = W.heap[k]? := fun k z => f2.block k (h.z k z).1 (h.z k z).2.2.1
  have hs2 := f2.size
  clear hW2
  have hlt2 : ∀ k, Z k → k < W2.heap.size := fun k z => by have := (h.z k z).1; omega
  have hc64 : (c : Int) + 1 ≤ 2000000 := by omega
  gi_wp2
  unfold cnBody
  gi_wp2
  obtain ⟨w4, hw4⟩ : ∃ w4, W2.setCell ⟨Bs, 0, none⟩ (.int .i64 ((c : Int) + 1)) = w4 := ⟨_, rfl⟩
  rw [hw4]
  have f4 : Fr (fun k => k = Bs) W2 w4 := by rw [← hw4]; exact setCell_fr _ _ _
  have hv4 : w4.heap[Bs]? = some (.cells #[.int .i64 ((c + 1 : Nat) : Int)] 3 (0, 0)) := by rw [← hw4]; exact heap_setCell_box _ hv2
  have hL4 := (f4.block l (Array.getElem?_eq_some_iff.1 hL2).1 (fun e => hBl e.symm)).trans hL2
  have hK4 := (f4.block D (Array.getElem?_eq_some_iff.1 hK2).1 hDB).trans hK2
  have hs4 := f4.size
  have hz4 : ∀ k, Z k → w4.heap[k]? = W2.heap[k]? := fun k z => f4.block k (by have := hlt2 k z; omega) (h.z k z).2.1
  have hb4 : Below w0.heap.size w0 w4 := hb2.grown (row := some Bs) ⟨f4.os, f4.tape, f4.output, f4.size, fun k hk hn => f4.block k hk fun e => hn (by rw [e])⟩ hb2.size (fun k e => by cases e; exact h0B)
  clear hw4
  have hl4 : l < w4.heap.size := (Array.getElem?_eq_some_iff.1 hL4).1
  have f5 := putObj_fr w4 l (.loop { { cnRec fn s a n g lb Bs D .ready none with state := .busy } with state := if (none : Option Code).isNone then .ready else .done, pending := none })
  have hsz : ∀ o, (w4.putObj l o).heap.size = w4.heap.size := fun o => by simp
  refine ⟨_, _, run_endRound none hL4, rfl, ⟨(World.putObj_heap_other hBl).trans hv4, fun k z => ?_, World.putObj_heap_same hl4, (World.putObj_heap_other hDl).trans hK4, hb4.grown (row := some l) ⟨f5.os, f5.tape, f5.output, f5.size, fun k hk hn => f5.block k hk fun e => hn (by rw [e])⟩ hb4.size (fun k e => by cases e; exact h0l)⟩, ?_, fun k z => ?_⟩
  · exact ⟨by rw [hsz]; have := hlt2 k z; omega, (h.z k z).2⟩
  · rw [hsz]; omega
  · exact (f5.block k (by have := hlt2 k z; omega) (h.z k z).2.2.1).trans ((hz4 k z).trans (hz2 k z))

theorem groups_run (s : Option Addr) (all non : Int) (W : World) : Calls Tryz.prog 75 #[.pointer s, .int .u8 all, .int .u8 non] W fun e w' =>
    ∃ Bs Ba Bn, e = .returned (.func (.func 140) #[] #[.pointer (some ⟨Bs, 0, none⟩), .pointer (some ⟨Ba, 0, none⟩), .pointer (some ⟨Bn, 0, none⟩)]) ∧
      w'.cell? ⟨Bs, 0, none⟩ = some (.pointer s) ∧ w'.cell? ⟨Ba, 0, none⟩ = some (.int .u8 all) ∧ w'.cell? ⟨Bn, 0, none⟩ = some (.int .u8 non) ∧ (W.heap.size ≤ Ba ∧ W.heap.size ≤ Bn) ∧ Fr None W w' := by
  have := C_query_groups (R := Unit) s all non (K := fun v _ w' => ∃ Bs Ba Bn, v = (.func (.func 140) #[] #[.pointer (some ⟨Bs, 0, none⟩), .pointer (some ⟨Ba, 0, none⟩), .pointer (some ⟨Bn, 0, none⟩)] : Value) ∧
      w'.cell? ⟨Bs, 0, none⟩ = some (.pointer s) ∧ w'.cell? ⟨Ba, 0, none⟩ = some (.int .u8 all) ∧ w'.cell? ⟨Bn, 0, none⟩ = some (.int .u8 non) ∧ (W.heap.size ≤ Ba ∧ W.heap.size ≤ Bn) ∧ Fr None W w') (fun _ _ => True) W ?_
  · exact Calls.mono this fun e w' ⟨r, he, Bs, Ba, Bn, h1, h2⟩ => ⟨Bs, Ba, Bn, by rw [he, ← h1]; rfl, h2⟩
  unfold F_query_groups
  refine newI fun w1 B1 f1 s1 => newI fun w2 B2 f2 s2 => newI fun w3 B3 f3 s3 => ?_
  exact ⟨_, _, _, rfl, ((B1.fr f2 fun h => h).fr f3 fun h => h).rd (s := .ptr) (i := 0) (x := s) rfl, (B2.fr f3 fun h => h).rd (s := .int .u8) (i := 0) (x := all) rfl, B3.rd (s := .int .u8) (i := 0) (x := non) rfl, ⟨by omega, by omega⟩, (f1.then0 f2).then0 f3⟩

set_option maxRecDepth 100000 in
set_option maxHeartbeats 2000000 in
/-- **query.Count** -/
theorem cn_count (n : Nat) (hn : 2 ≤ n) (s : Option Addr) (all non : Int) (xs : List Int) (hN : xs.length ≤ 1048576) (w : World)
    (hseq : ∀ (W : World) (Bs Ba Bn : Nat), Fr None w W → W.cell? ⟨Bs, 0, none⟩ = some (.pointer s) → W.cell? ⟨Ba, 0, none⟩ = some (.int .u8 all) → W.cell? ⟨Bn, 0, none⟩ = some (.int .u8 non) →
      ∃ Z0, (∀ k, Z0 k → k = Ba ∨ k = Bn) ∧ GivesZ Fence.wide (n - 1) Tryz.prog 140 #[.pointer (some ⟨Bs, 0, none⟩), .pointer (some ⟨Ba, 0, none⟩), .pointer (some ⟨Bn, 0, none⟩)] encID xs Z0 W) :
    CallsIn Fence.wide n Tryz.prog 22 #[.pointer s, .int .u8 all, .int .u8 non] w fun e w' => e = .returned (.int .i64 xs.length) ∧ Fr None w w' := by
  have h1 : 1 ≤ n := by omega
  refine callsIn_of_wp_marks Tryz.func22 rfl trivial ?_ rfl
  simp only [Tryz.ntmps22, List.size_toArray, List.length_cons, List.length_nil, Nat.reduceAdd, Nat.reduceSub, Array.replicate_succ, Array.replicate_zero, List.push_toArray, List.append_toArray, List.nil_append, List.cons_append]
  gi_wp2_with (refine ⟨trivial, ?_⟩; gi_at_call 75; refine (callsIn_wide.2 (groups_run s all non _)).mono ?_; rintro e W9 ⟨Bs, Ba, Bn, rfl, g1, g2, g3, ⟨ga, gb⟩, fg⟩)
  have f9 : Fr None w W9 := ((Fr.refl _ w).alloc _).then0 fg
  rw [World.size_alloc] at ga gb
  have hs9 := fg.size
  rw [World.size_alloc] at hs9
  have hv9 : W9.heap[w.heap.size]? = some (.cells #[.int .i64 0] 3 (0, 0)) := (fg.block _ (by simp) fun h => h).trans (World.alloc_heap_new w _)
  have hb9 : Below w.heap.size w W9 := ⟨f9.os, f9.tape, f9.output, f9.size, fun k hk => f9.block k hk fun h => h⟩
  obtain ⟨Z0, hZ, hg⟩ := hseq W9 Bs Ba Bn f9 g1 g2 g3
  have la := lt_of_cell g2
  have lb := lt_of_cell g3
  refine wpIn_rangeFunc ?_
  intro fn hfn
  have hro : Fence.wide.round = none := rfl
  rw [hro]
  obtain ⟨L, hL⟩ : ∃ L : Array Value, L = #[.pointer (some ⟨Bs, 0, none⟩), .pointer (some ⟨Ba, 0, none⟩), .pointer (some ⟨Bn, 0, none⟩)] := ⟨_, rfl⟩
  obtain ⟨rec, hrec⟩ : ∃ rec, rec = cnRec fn (.pointer s) (.int .u8 all) (.int .u8 non) 140 L w.heap.size W9.heap.size := ⟨_, rfl⟩
  obtain ⟨W1, hW1⟩ : ∃ W1, (W9.alloc (.deferred (some []))).alloc (.loop (rec .ready none)) = W1 := ⟨_, rfl⟩
  have hold : ∀ k, k < W9.heap.size → W1.heap[k]? = W9.heap[k]? := fun k hk => by
    rw [← hW1]; exact (Below.heap_alloc _ _ k (by simp; omega)).trans (Below.heap_alloc _ _ k hk)
  have hb1 : Below w.heap.size w W1 := by rw [← hW1]; exact (hb9.alloc hb9.size _).alloc (by have := hb9.size; simp; omega) _
  have hb91 : Below W9.heap.size W9 W1 := by rw [← hW1]; exact ((Below.refl _ W9).alloc (Nat.le_refl _) _).alloc (by simp) _
  have hs1 : W1.heap.size = W9.heap.size + 2 := by rw [← hW1]; simp
  have hM : CnAt w rec w.heap.size (W9.heap.size + 1) W9.heap.size Z0 0 W1 :=
    ⟨(hold w.heap.size (by omega)).trans hv9, fun k z => by rcases hZ k z with rfl | rfl <;> exact ⟨by omega, by omega, by omega, by omega⟩,
     by rw [← hW1]; have := World.alloc_heap_new (W9.alloc (.deferred (some []))) (.loop (rec .ready none)); rwa [World.size_alloc] at this,
     by rw [← hW1]; exact (Below.heap_alloc _ _ _ (by simp)).trans (World.alloc_heap_new W9 _), hb1⟩
  refine ⟨W9.heap.size + 1, [{ target := .collected W9.heap.size, args := #[] }], W1, { target := .fn (.func 140) L, args := #[.func (.yield (W9.heap.size + 1)) #[] #[]] }, W1, 140,
    #[.func (.yield (W9.heap.size + 1)) #[] #[]] ++ L, W1, ?_, ?_, ?_, ?_, fun _ => h1, ?_⟩
  · rw [← hW1, hrec, hL]; exact run_enterLoop_outer _ _ _ _ _
  · rw [hL]; simp [resolve, go_sem]
  · intro f' _; trivial
  · simp [invoke, go_sem, enters_of Tryz.func140 (by kernel_rfl) rfl]
  · rw [hL]
    refine (hg (W9.heap.size + 1) (fun Z ss W => CnAt w rec w.heap.size (W9.heap.size + 1) W9.heap.size Z ss.length W) W1 hb91 (fun Z s A B h f => h.abide f)
      (fun Z pre x W hJ hl => ?_) hM).mono ?_
    · have hl := pre_lt hl
      rw [hrec] at hJ ⊢
      have := cn_yield Fence.wide (n - 1 - 1) w fn hfn _ _ _ _ _ w.heap.size (W9.heap.size + 1) W9.heap.size (by omega) (by omega) (by omega) (Nat.le_refl _) (by omega) Z pre.length (by omega) x W hJ
      simp only [List.length_append, List.length_cons, List.length_nil]
      exact this
    rintro e W2 ⟨⟨v0, rfl⟩, Z, h2⟩
    have hv := h2.box
    have hend := run_endLoop (P := Tryz.prog) h2.L (by rw [hrec]; simp [cnRec])
    obtain ⟨W3, hW3⟩ : ∃ W3, W2.putObj (W9.heap.size + 1) (.loop { rec .ready none with state := .exhausted }) = W3 := ⟨_, rfl⟩
    rw [hW3] at hend
    have f3 : Fr (fun k => k = W9.heap.size + 1) W2 W3 := by rw [← hW3]; exact putObj_fr _ _ _
    have hv3 : W3.heap[w.heap.size]? = some (.cells #[.int .i64 xs.length] 3 (0, 0)) := (f3.block _ (Array.getElem?_eq_some_iff.1 hv).1 (by omega)).trans hv
    have hK3 : W3.heap[W9.heap.size]? = some (.deferred (some [])) := (f3.block _ (Array.getElem?_eq_some_iff.1 h2.K).1 (by omega)).trans h2.K
    have hb3 : Below w.heap.size w W3 := h2.below.grown (row := some (W9.heap.size + 1)) ⟨f3.os, f3.tape, f3.output, f3.size, fun k hk hn => f3.block k hk fun e => hn (by rw [e])⟩ h2.below.size (fun k e => by cases e; omega)
    obtain ⟨hc3, hf3⟩ := cell_of_box hv3
    clear hW3
    refine ⟨none, W3, by rw [hrec] at hend; exact hend, ?_⟩
    gi_wp2
    refine ⟨by simp, .inl ⟨_, _, rfl, run_takeDeferred hK3, ?_⟩⟩
    have f4 := putObj_fr W3 W9.heap.size (.deferred none)
    have hb4 : Below w.heap.size w (W3.putObj W9.heap.size (.deferred none)) := hb3.grown (row := some W9.heap.size) ⟨f4.os, f4.tape, f4.output, f4.size, fun k hk hn => f4.block k hk fun e => hn (by rw [e])⟩ hb3.size (fun k e => by cases e; omega)
    exact ⟨_, results_tmp rfl _ _ _, rfl, ⟨hb4.os, hb4.tape, hb4.output, hb4.size, fun k hk _ => hb4.block k hk⟩⟩
theorem spec_query_Count {F : Nat → Prop} {b : Nat} {x : StM} (h : Store b x F w) {all non : Int} {K : Res [.sc (.int .i64)] → W R} (hk : ∀ w', Fr None w w' → K (((withL x all non).length : Nat) : Int) Q w') :
    callW Tryz.prog k_query_Count [.pointer (some ⟨b, 0, none⟩), .int .u8 all, .int .u8 non] [.sc (.int .i64)] K Q w := by
  have ok := (Store.open_ h).1
  have hp := grpIds_perm ok all non
  have hlen := withL_len ok all non
  have := cn_count 3 (by decide) (some ⟨b, 0, none⟩) all non (grpIds x.tab all non (groupsM x.tab)) (by rw [hp.length_eq]; omega) w fun W Bs Ba Bn f g1 g2 g3 => ⟨fun k => k = Ba ∨ k = Bn, fun k e => e, groups_gives (Store.st.fr0 h f) g1 g2 g3 2 (by decide)⟩
  rw [hp.length_eq] at this
  exact callsIn_callW (n := 3) (this.mono fun e w' ⟨h1, h2⟩ => ⟨_, h1, hk w' h2⟩)

end Go.Proofs.YtkblnhnjagemlaaGreat
