/-
  slices.AppendSeq(nil, seq) at numbers of entities, against an iterator that lays blocks of its own while it runs and leans on them (as XSeq's, which is the kit's worked proof turned).
-/
import Derived.Test.YtkblnhnjagemlaaGreatSeq
import Derived.Test.YtkblnhnjagemlaaGreatGrp
namespace Go.Proofs.YtkblnhnjagemlaaGreat.Seq
open Go Go.Proofs Go.RowKit Go.Maps Go.Sort Go.Shelf Go.Proofs.YtkblnhnjagemlaaGreat.Den

abbrev encID : Int → Value := Value.int .u32
/-- what is new between two worlds is leant on, too. -/
abbrev Zx (Z : Nat → Prop) (A B : World) : Nat → Prop := fun k => Z k ∨ (A.heap.size ≤ k ∧ k < B.heap.size)
/-- an iterator that gives xs: it lays blocks, leans on them (Z), and turns nothing; a round leaves Z's blocks as they are. -/
def GivesZ {α : Type} (F : Fence) (n : Nat) (P : Program) (g : Nat) (lb : Array Value) (enc : α → Value) (xs : List α) (Z0 : Nat → Prop) (w : World) : Prop :=
  ∀ (l : Nat) (J : (Nat → Prop) → List α → World → Prop) (W : World), Below w.heap.size w W →
    (∀ Z s A B, J Z s A → Fr None A B → J (Zx Z A B) s B) →
    (∀ Z pre x W1, J Z pre W1 → (pre ++ [x]) <+: xs → YieldAt F (n - 1) P l #[enc x] W1 fun e W' => e = .returned (.bool true) ∧ J Z (pre ++ [x]) W' ∧ W1.heap.size ≤ W'.heap.size ∧ ∀ k, Z k → W'.heap[k]? = W1.heap[k]?) →
    J Z0 [] W →
    CallsIn F n P g (#[.func (.yield l) #[] #[]] ++ lb) W fun e W' => (∃ v, e = .returned v) ∧ ∃ Z, J Z xs W'

theorem pre_lt {α : Type} {pre xs : List α} {x : α} (h : (pre ++ [x]) <+: xs) : pre.length < xs.length := by have := h.length_le; simp at this; omega
theorem fr_grown {A B : World} (f : Fr None A B) : A.grownBy B none := ⟨f.os, f.tape, f.output, f.size, fun k hk _ => f.block k hk (fun h => h)⟩
theorem below_fr {A B C : World} (h : Below A.heap.size A B) (f : Fr None B C) : Below A.heap.size A C := h.grown (fr_grown f) h.size (fun k e => by cases e)

/-- append, by its run. -/
theorem wpListIn_append_run {F : Fence} {n : Nat} {P : Program} (w : World) {ops : Array Oper} {rest : List Oper} {o : Oper} {a : Act} {Q : Exit → Act → World → Prop}
    (hg : o.guard = none) (s x : Operand) (t : TypeId) (hop : o.op = Op.call { callee := Callee.builtin Builtin.append, args := #[s, x], argTypes := #[t, t] })
    (v v2 r : Value) (w' : World) (hs : a.eval s = v) (hx : a.eval x = v2) (hrun : (Builtin.append_ #[t, t] o.type #[v, v2]).run P w = .ok r w') (hK : wpListIn F n P ops Q rest (a.put o.dst r) w') :
    wpListIn F n P ops Q (o :: rest) a w := by
  refine wpListIn_plain hg fun K hK' => ?_
  unfold Oper.wpIn
  refine ⟨?_, ?_⟩
  · simp [Oper.about, hop, resolve, Target.leads, Sem.run_pure]
  · rw [Oper.semAt_plain F _ _ (by rw [hop]; intro c hc'; cases hc')]
    simp [execOp, hop, resolve, invoke, builtin, hs, hx, hrun, Result.andThen]
    exact hK' _ _ hK

def qiAssign : Code := (Code.region 2 #[{ dst := some 5, op := Op.assign (Operand.tmp 7), type := 31, pos := "iter.go:51", after := #[], guard := none }] false)
def qiBody : Code := (Code.block 1 (Code.region 3 #[{ dst := some 8, op := Op.load 28 (Operand.tmp 2), type := 28, pos := "iter.go:52", after := #[], guard := none }, { dst := some 9, op := Op.move (Operand.tmp 5), type := 31, pos := "iter.go:52", after := #[], guard := none }, { dst := some 10, op := Op.buildSlice 28 1 #[(0, Operand.tmp 9)], type := 28, pos := "iter.go:52", after := #[{ on := 1, ground := Ground.data }], guard := none }, { dst := some 11, op := Op.call { callee := Callee.builtin Builtin.append, args := #[Operand.tmp 8, Operand.tmp 10], argTypes := #[28, 28] }, type := 28, pos := "iter.go:52", after := #[{ on := 0, ground := Ground.data }, { on := 2, ground := Ground.data }], guard := none }, { dst := none, op := Op.store 28 (Operand.tmp 2) (Operand.tmp 11), type := 0, pos := "iter.go:52", after := #[{ on := 3, ground := Ground.data }, { on := 3, ground := Ground.chain }, { on := 0, ground := Ground.phase }, { on := 1, ground := Ground.phase }, { on := 2, ground := Ground.phase }, { on := 3, ground := Ground.phase }], guard := none }] false))
/-- The loop's record: AppendSeq's temporaries as they stood at the entering: 's' boxed in block Bs; sv: the iterator's value. -/
def qiRec (fn : FuncId) (sv : Value) (Bs D : Nat) (st : LoopState) (pend : Option Code) : Loop :=
  { state := st, pending := pend, fn, tmps := #[.slice none 0 0, sv, .pointer (some ⟨Bs, 0, none⟩), undef, .slice none 0 0, undef, sv, undef, undef, undef, undef, undef, undef], params := #[7], assign := qiAssign, body := qiBody, defers := D }


/-- BETWEEN TWO ROUNDS: the box holds a slice of one's own with what has come; nothing that lay before the call has turned; Z is others'. -/
structure QiAt (w0 : World) (fn : FuncId) (sv : Value) (Bs l D : Nat) (Z : Nat → Prop) (ss : List Int) (W : World) : Prop where
  box : ∃ v : Sl, W.heap[Bs]? = some (.cells #[v.v] 28 (0, 0)) ∧ Own (fun k => w0.heap.size ≤ k ∧ k ≠ Bs ∧ k ≠ l ∧ k ≠ D ∧ ¬ Z k) W 31 idT v ss
  z : ∀ k, Z k → k < W.heap.size ∧ k ≠ Bs ∧ k ≠ l ∧ k ≠ D
  L : W.heap[l]? = some (.loop (qiRec fn sv Bs D .ready none))
  K : W.heap[D]? = some (.deferred (some []))
  below : Below w0.heap.size w0 W

theorem QiAt.abide {w0 : World} {fn : FuncId} {sv : Value} {Bs l D : Nat} {Z : Nat → Prop} {ss : List Int} {A B : World} (h : QiAt w0 fn sv Bs l D Z ss A) (f : Fr None A B) : QiAt w0 fn sv Bs l D (Zx Z A B) ss B := by
  obtain ⟨v, hv, ho⟩ := h.box
  have lt : ∀ {k : Nat} {o : Obj}, A.heap[k]? = some o → k < A.heap.size := fun h => (Array.getElem?_eq_some_iff.1 h).1
  have keep : ∀ {k : Nat} {o : Obj}, A.heap[k]? = some o → B.heap[k]? = some o := fun h => (f.block _ (lt h) fun h => h).trans h
  refine ⟨⟨v, keep hv, Own.st ho f fun k hk e => ⟨fun h => h, e.1, e.2.1, e.2.2.1, e.2.2.2.1, fun z => ?_⟩⟩, fun k z => ?_, keep h.L, keep h.K, below_fr h.below f⟩
  · rcases z with z | z
    · exact e.2.2.2.2 z
    · omega
  · have hs := f.size
    rcases z with z | z
    · obtain ⟨h1, h2⟩ := h.z k z
      exact ⟨by omega, h2⟩
    · have := lt hv
      have := lt h.L
      have := lt h.K
      exact ⟨z.2, by omega, by omega, by omega⟩

theorem putObj_fr (W : World) (l : Nat) (o : Obj) : Fr (fun k => k = l) W (W.putObj l o) :=
  ⟨rfl, rfl, rfl, by simp, fun k _ hk => World.putObj_heap_other hk⟩
theorem setCell_fr (W : World) (b : Nat) (v : Value) : Fr (fun k => k = b) W (W.setCell ⟨b, 0, none⟩ v) := Fr.setCell (S := fun k => k = b) (Fr.refl _ W) (p := ⟨b, 0, none⟩) (.inl rfl) v

set_option maxRecDepth 100000 in
set_option maxHeartbeats 2000000 in
theorem qi_yield (F : Fence) (m : Nat) (w0 : World) (fn : FuncId) (hfn : F.fn fn) (sv : Value) (Bs l D : Nat) (hBl : Bs ≠ l) (hDl : D ≠ l) (hDB : D ≠ Bs) (h0B : w0.heap.size ≤ Bs) (h0l : w0.heap.size ≤ l)
    (N : Nat) (hN : N ≤ 1048576) (Z : Nat → Prop) (ss : List Int) (x : Int) (W : World) (h : QiAt w0 fn sv Bs l D Z ss W) (hlen : ss.length < N) :
    YieldAt F m Tryz.prog l #[encID x] W fun e W' => e = .returned (.bool true) ∧ QiAt w0 fn sv Bs l D Z (ss ++ [x]) W' ∧ W.heap.size ≤ W'.heap.size ∧ ∀ k, Z k → W'.heap[k]? = W.heap[k]? := by
  obtain ⟨v, hv, hrow⟩ := h.box
  refine ⟨fn, #[.slice none 0 0, sv, .pointer (some ⟨Bs, 0, none⟩), undef, .slice none 0 0, undef, sv, encID x, undef, undef, undef, undef, undef], qiAssign, qiBody, by simpa [qiRec] using run_yield (P := Tryz.prog) (args := #[encID x]) h.L rfl, roundIn_of_wpIn hfn ?_⟩
  have hl : l < W.heap.size := (Array.getElem?_eq_some_iff.1 h.L).1
  have hbr := run_beginRound (P := Tryz.prog) h.L rfl
  obtain ⟨W2, hW2⟩ : ∃ W2, W.putObj l (.loop { qiRec fn sv Bs D .ready none with state := .busy }) = W2 := ⟨_, rfl⟩
  rw [hW2] at hbr
  have f2 : Fr (fun k => k = l) W W2 := by rw [← hW2]; exact putObj_fr _ _ _
  have hv2 : W2.heap[Bs]? = some (.cells #[v.v] 28 (0, 0)) := by rw [← hW2]; exact (World.putObj_heap_other hBl).trans hv
  have hK2 : W2.heap[D]? = some (.deferred (some [])) := by rw [← hW2]; exact (World.putObj_heap_other hDl).trans h.K
  have hL2 : W2.heap[l]? = some (.loop { qiRec fn sv Bs D .ready none with state := .busy }) := by rw [← hW2]; exact World.putObj_heap_same hl
  have hrow2 := hrow.fr f2 fun k e e2 => e.2.2.1 e2
  have hb2 : Below w0.heap.size w0 W2 := h.below.grown ⟨f2.os, f2.tape, f2.output, f2.size, fun k hk hn => f2.block k hk fun e => hn (by rw [e])⟩ h.below.size (fun k e => by cases e; exact h0l)
  obtain ⟨hc2, hf2⟩ := cell_of_box hv2
  have hz2 : ∀ k, Z k → W2.heap[k]? = W.heap[k]? := fun k z => f2.block k (h.z k z).1 (h.z k z).2.2.1
  have hs2 := f2.size
  clear hW2
  -- the row grows
  have f2a : Fr None W2 (W2.alloc (.cells #[encID x] 31)) := (Fr.refl _ _).alloc _
  have hone : SlT (fun _ => True) (W2.alloc (.cells #[encID x] 31)) idT ⟨some ⟨W2.heap.size, 0, none⟩, 1, 1⟩ [x] := by
    refine ⟨rfl, Nat.le_refl _, .inr ⟨W2.heap.size, 0, rfl, trivial, by simp, fun i y hy => ?_⟩⟩
    rcases i with _ | i
    · simp at hy; subst hy
      have : Blk (W2.alloc (.cells #[encID x] 31)) W2.heap.size 31 [encID x] := Blk.new W2 _ _
      exact (this.cell 0)
    · simp at hy
  have hlt2 : ∀ k, Z k → k < W2.heap.size := fun k z => by have := (h.z k z).1; omega
  obtain ⟨⟨ra, rn, rc⟩, w3, hrun, ho3, f3⟩ : ∃ (r : Sl) (w3 : World), (Builtin.append_ #[28, 28] 28 #[v.v, .slice (some ⟨W2.heap.size, 0, none⟩) 1 1]).run Tryz.prog (W2.alloc (.cells #[encID x] 31)) = .ok r.v w3 ∧
      Own (fun k => w0.heap.size ≤ k ∧ k ≠ Bs ∧ k ≠ l ∧ k ≠ D ∧ ¬ Z k) w3 31 idT r (ss ++ [x]) ∧ Fr (fun k => v.v.ownBlock = some k) (W2.alloc (.cells #[encID x] 31)) w3 := by
    have hB := (Array.getElem?_eq_some_iff.1 hv2).1
    have hL := (Array.getElem?_eq_some_iff.1 hL2).1
    have hD := (Array.getElem?_eq_some_iff.1 hK2).1
    have h0 := hb2.size
    have hap := appI (P := Tryz.prog) (ty := 28) (S' := fun k => w0.heap.size ≤ k ∧ k ≠ Bs ∧ k ≠ l ∧ k ≠ D ∧ ¬ Z k) (R := Sl) (Q := fun r w3 => Own (fun k => w0.heap.size ≤ k ∧ k ≠ Bs ∧ k ≠ l ∧ k ≠ D ∧ ¬ Z k) w3 31 idT r (ss ++ [x]) ∧ Fr (fun k => v.v.ownBlock = some k) (W2.alloc (.cells #[encID x] 31)) w3)
      (K := fun r Q w => Q r w) ids_ty (hrow2.none f2a) hone (by simp; omega) (by rw [maxLen_eq]; simp; omega) (fun _ h => h) (by
        simp only [World.size_alloc]
        exact ⟨by omega, by omega, by omega, by omega, fun z => by have := hlt2 _ z; omega⟩) fun r w' o f _ => ⟨o, f⟩
    obtain ⟨r, w3, h1, h2⟩ := hap
    exact ⟨r, w3, h1, h2⟩
  change (Builtin.append_ _ _ _).run _ _ = .ok (.slice ra rn rc) w3 at hrun
  have own2 : ∀ k, v.v.ownBlock = some k → k ≠ Bs ∧ k ≠ l ∧ k ≠ D ∧ ¬ Z k := fun k e => (hrow2.own k e).2
  have keep3 : ∀ k (o : Obj), W2.heap[k]? = some o → v.v.ownBlock ≠ some k → w3.heap[k]? = some o := fun k o hk hn => by
    have hlt := (Array.getElem?_eq_some_iff.1 hk).1
    exact (f3.block k (by simp; omega) hn).trans ((f2a.block k hlt fun h => h).trans hk)
  have hv3 := keep3 _ _ hv2 fun e => (own2 _ e).1 rfl
  have hL3 := keep3 _ _ hL2 fun e => (own2 _ e).2.1 rfl
  have hK3 := keep3 _ _ hK2 fun e => (own2 _ e).2.2.1 rfl
  obtain ⟨hc3, hf3⟩ := cell_of_box hv3
  have hs3 := f3.size
  have hsa := f2a.size
  have hz3 : ∀ k, Z k → w3.heap[k]? = W2.heap[k]? := fun k z => (f3.block k (by have := hlt2 k z; omega) fun e => (own2 _ e).2.2.2 z).trans (f2a.block k (hlt2 k z) fun h => h)
  have hb3 : Below w0.heap.size w0 w3 := (below_fr hb2 f2a).grown (row := v.v.ownBlock) ⟨f3.os, f3.tape, f3.output, f3.size, fun k hk hn => f3.block k hk fun e => hn e.symm⟩ (by have := hb2.size; omega) (fun k e => (hrow2.own k e).1)
  unfold qiAssign
  gi_wp2_with (rw [Oper.semAt_eq _ _ _ (fun c h => by cases h)]; go_simp; try go_bits)
  unfold qiBody
  gi_wp2_with (first
    | (gi_at_builtin; refine wpListIn_append_run _ rfl _ _ 28 rfl _ _ _ _ rfl rfl hrun ?_; go_frame)
    | (rw [Oper.semAt_eq _ _ _ (fun c h => by cases h)]; go_simp; try go_bits))
  obtain ⟨w4, hw4⟩ : ∃ w4, w3.setCell ⟨Bs, 0, none⟩ (.slice ra rn rc) = w4 := ⟨_, rfl⟩
  rw [hw4]
  have f4 : Fr (fun k => k = Bs) w3 w4 := by rw [← hw4]; exact setCell_fr _ _ _
  have hv4 : w4.heap[Bs]? = some (.cells #[.slice ra rn rc] 28 (0, 0)) := by rw [← hw4]; exact heap_setCell_box _ hv3
  have hL4 := (f4.block l (Array.getElem?_eq_some_iff.1 hL3).1 (fun e => hBl e.symm)).trans hL3
  have hK4 := (f4.block D (Array.getElem?_eq_some_iff.1 hK3).1 hDB).trans hK3
  have ho4 := ho3.fr f4 fun k e e2 => e.2.1 e2
  have hs4 := f4.size
  have hz4 : ∀ k, Z k → w4.heap[k]? = w3.heap[k]? := fun k z => f4.block k (by have := hlt2 k z; omega) (h.z k z).2.1
  have hb4 : Below w0.heap.size w0 w4 := hb3.grown (row := some Bs) ⟨f4.os, f4.tape, f4.output, f4.size, fun k hk hn => f4.block k hk fun e => hn (by rw [e])⟩ hb3.size (fun k e => by cases e; exact h0B)
  clear hw4
  have hl4 : l < w4.heap.size := (Array.getElem?_eq_some_iff.1 hL4).1
  have f5 := putObj_fr w4 l (.loop { { qiRec fn sv Bs D .ready none with state := .busy } with state := if (none : Option Code).isNone then .ready else .done, pending := none })
  have hsz : ∀ o, (w4.putObj l o).heap.size = w4.heap.size := fun o => by simp
  refine ⟨_, _, run_endRound none hL4, rfl, ⟨⟨⟨ra, rn, rc⟩, (World.putObj_heap_other hBl).trans hv4, ho4.fr f5 fun k e e2 => e.2.2.1 e2⟩, fun k z => ?_, World.putObj_heap_same hl4, (World.putObj_heap_other hDl).trans hK4, hb4.grown (row := some l) ⟨f5.os, f5.tape, f5.output, f5.size, fun k hk hn => f5.block k hk fun e => hn (by rw [e])⟩ hb4.size (fun k e => by cases e; exact h0l)⟩, ?_, fun k z => ?_⟩
  · exact ⟨by rw [hsz]; have := hlt2 k z; omega, (h.z k z).2⟩
  · rw [hsz]; omega
  · exact (f5.block k (by have := hlt2 k z; omega) (h.z k z).2.2.1).trans ((hz4 k z).trans ((hz3 k z).trans (hz2 k z)))

set_option maxRecDepth 100000 in
set_option maxHeartbeats 2000000 in
/-- **slices.AppendSeq(nil, seq)** hands back a slice of its own with what the iterator gave. -/
theorem qi_appendSeq (F : Fence) (n : Nat) (h11 : F.fn 180) (hro : F.round = none) (hn : 2 ≤ n) (g : Nat) (lb : Array Value) (hFg : F.fn g) (eg : ∀ args w, (callFunc g args).run Tryz.prog w = .ok (.enter g args) w)
    (xs : List Int) (hN : xs.length ≤ 1048576) (Z0 : Nat → Prop) (w : World) (hZ : ∀ k, Z0 k → k < w.heap.size) (hseq : GivesZ F (n - 1) Tryz.prog g lb encID xs Z0 w) :
    CallsIn F n Tryz.prog 180 #[.slice none 0 0, .func (.func g) #[] lb] w fun e w' => ∃ v : Sl, e = .returned v.v ∧ Own (Up w.heap.size) w' 31 idT v xs ∧ Fr None w w' := by
  have h1 : 1 ≤ n := by omega
  refine callsIn_of_wp_marks Tryz.func180 rfl h11 ?_ hro
  simp only [Tryz.ntmps180, List.size_toArray, List.length_cons, List.length_nil, Nat.reduceAdd, Nat.reduceSub, Array.replicate_succ, Array.replicate_zero, List.push_toArray, List.append_toArray, List.nil_append, List.cons_append]
  gi_wp2
  refine wpIn_rangeFunc ?_
  intro fn hfn
  rw [hro]
  obtain ⟨W0, hW0⟩ : ∃ W0, w.alloc (.cells #[.slice none 0 0] 28) = W0 := ⟨_, rfl⟩
  have hs0 : W0.heap.size = w.heap.size + 1 := by rw [← hW0]; simp
  have hv0 : W0.heap[w.heap.size]? = some (.cells #[.slice none 0 0] 28 (0, 0)) := by rw [← hW0]; exact World.alloc_heap_new w _
  have hb0 : Below w.heap.size w W0 := by rw [← hW0]; exact (Below.refl _ w).alloc (Nat.le_refl _) _
  rw [hW0]
  obtain ⟨W1, hW1⟩ : ∃ W1, (W0.alloc (.deferred (some []))).alloc (.loop (qiRec fn (.func (.func g) #[] lb) w.heap.size W0.heap.size .ready none)) = W1 := ⟨_, rfl⟩
  have hold : ∀ k, k < W0.heap.size → W1.heap[k]? = W0.heap[k]? := fun k hk => by
    rw [← hW1]; exact (Below.heap_alloc _ _ k (by simp; omega)).trans (Below.heap_alloc _ _ k hk)
  have hb1 : Below w.heap.size w W1 := by rw [← hW1]; exact (hb0.alloc hb0.size _).alloc (by have := hb0.size; simp; omega) _
  have hs1 : W1.heap.size = W0.heap.size + 2 := by rw [← hW1]; simp
  have hM : QiAt w fn (.func (.func g) #[] lb) w.heap.size (W0.heap.size + 1) W0.heap.size Z0 [] W1 :=
    ⟨⟨⟨none, 0, 0⟩, (hold w.heap.size (by omega)).trans hv0, Own.nil _ _ _ _⟩, fun k z => by have := hZ k z; omega,
     by rw [← hW1]; have := World.alloc_heap_new (W0.alloc (.deferred (some []))) (.loop (qiRec fn (.func (.func g) #[] lb) w.heap.size W0.heap.size .ready none)); rwa [World.size_alloc] at this,
     by rw [← hW1]; exact (Below.heap_alloc _ _ _ (by simp)).trans (World.alloc_heap_new W0 _), hb1⟩
  refine ⟨W0.heap.size + 1, [{ target := .collected W0.heap.size, args := #[] }], W1, { target := .fn (.func g) lb, args := #[.func (.yield (W0.heap.size + 1)) #[] #[]] }, W1, g,
    #[.func (.yield (W0.heap.size + 1)) #[] #[]] ++ lb, W1, ?_, ?_, ?_, ?_, fun _ => h1, ?_⟩
  · rw [← hW1]; exact run_enterLoop_outer _ _ _ _ _
  · simp [resolve, go_sem]
  · intro f' hf'; simp [Target.leads] at hf'; subst hf'; exact hFg
  · simp [invoke, go_sem, eg]
  · refine (hseq (W0.heap.size + 1) (QiAt w fn (.func (.func g) #[] lb) w.heap.size (W0.heap.size + 1) W0.heap.size) W1 hb1 (fun Z s A B h f => h.abide f)
      (fun Z pre x W hJ hl => have hl := pre_lt hl; qi_yield F (n - 1 - 1) w fn hfn _ w.heap.size (W0.heap.size + 1) W0.heap.size (by omega) (by omega) (by omega) (Nat.le_refl _) (by omega) xs.length hN Z pre x W hJ hl) hM).mono ?_
    rintro e W2 ⟨⟨v0, rfl⟩, Z, h2⟩
    obtain ⟨v, hv, hrow⟩ := h2.box
    have hend := run_endLoop (P := Tryz.prog) h2.L (by simp [qiRec])
    obtain ⟨W3, hW3⟩ : ∃ W3, W2.putObj (W0.heap.size + 1) (.loop { qiRec fn (.func (.func g) #[] lb) w.heap.size W0.heap.size .ready none with state := .exhausted }) = W3 := ⟨_, rfl⟩
    rw [hW3] at hend
    have f3 : Fr (fun k => k = W0.heap.size + 1) W2 W3 := by rw [← hW3]; exact putObj_fr _ _ _
    have hv3 : W3.heap[w.heap.size]? = some (.cells #[v.v] 28 (0, 0)) := (f3.block _ (Array.getElem?_eq_some_iff.1 hv).1 (by omega)).trans hv
    have hK3 : W3.heap[W0.heap.size]? = some (.deferred (some [])) := (f3.block _ (Array.getElem?_eq_some_iff.1 h2.K).1 (by omega)).trans h2.K
    have hrow3 := hrow.fr f3 fun k e e2 => e.2.2.1 e2
    have hb3 : Below w.heap.size w W3 := h2.below.grown (row := some (W0.heap.size + 1)) ⟨f3.os, f3.tape, f3.output, f3.size, fun k hk hn => f3.block k hk fun e => hn (by rw [e])⟩ h2.below.size (fun k e => by cases e; omega)
    obtain ⟨hc3, hf3⟩ := cell_of_box hv3
    clear hW3
    refine ⟨none, W3, hend, ?_⟩
    gi_wp2
    rw [← hs0]
    refine ⟨by simp, .inl ⟨_, _, rfl, run_takeDeferred hK3, ?_⟩⟩
    have f4 := putObj_fr W3 W0.heap.size (.deferred none)
    refine ⟨_, results_tmp rfl _ _ _, v, rfl, (hrow3.fr f4 fun k e e2 => e.2.2.2.1 e2).mono fun k _ e => e.1, ?_⟩
    have hb4 : Below w.heap.size w (W3.putObj W0.heap.size (.deferred none)) := hb3.grown (row := some W0.heap.size) ⟨f4.os, f4.tape, f4.output, f4.size, fun k hk hn => f4.block k hk fun e => hn (by rw [e])⟩ hb3.size (fun k e => by cases e; omega)
    exact ⟨hb4.os, hb4.tape, hb4.output, hb4.size, fun k hk _ => hb4.block k hk⟩

end Go.Proofs.YtkblnhnjagemlaaGreat.Seq
