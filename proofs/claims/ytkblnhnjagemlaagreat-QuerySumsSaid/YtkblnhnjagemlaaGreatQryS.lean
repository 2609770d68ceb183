/-
  query.Sum: the sum of a field.
-/
import Derived.Test.YtkblnhnjagemlaaGreatQryC
import Derived.Test.YtkblnhnjagemlaaGreatQry2
namespace Go.Proofs.YtkblnhnjagemlaaGreat
open Go Go.Proofs Go.RowKit Go.Proofs.YtkblnhnjagemlaaGreat.Den Go.Proofs.YtkblnhnjagemlaaGreat.Seq
variable {R : Type} {Q : R → World → Prop} {w : World}
attribute [local go_sem] Oper.semAt_some

/-! ### a field's range -/
theorem spec_schema_at {k i : Int} {K : Res [.agg [.str, .int .i32, .int .i32], .sc .bool] → W R} (h0 : (i < 0 ∨ ((fieldsM k).length : Int) ≤ i) → ∀ w', Fr None w w' → K ((⟨#[]⟩, 0, 0), false) Q w')
    (hk : ∀ p w', 0 ≤ i → (fieldsM k)[i.toNat]? = some p → Fr None w w' → K (p, true) Q w') : callW Tryz.prog k_schema_at [.int .u8 k, .int .i64 i] [.agg [.str, .int .i32, .int .i32], .sc .bool] K Q w := by
  refine C_schema_at _ _ K Q w ?_
  unfold F_schema_at
  refine newI fun w1 B1 f1 s1 => spec_schema_of fun s w2 hS f2 => ?_
  have B2 := B1.fr f2 fun h => h
  have hn : s.n = (fieldsM k).length := hS.len
  have f02 := f1.then0 f2
  refine joinI (fun z w' => z = decide (i < 0 ∨ ((fieldsM k).length : Int) ≤ i) ∧ w' = w2) ?_ ?_
  · refine condD (fun h => ⟨by simp [h], rfl⟩) fun h => ⟨?_, rfl⟩
    rw [hn]
    simp [h]
  · rintro z w' ⟨rfl, rfl⟩
    refine condD (fun h => ?_) fun h => ?_
    · refine stoAll B2 rfl rfl fun w3 B3 f3 s3 => aggI B3 (x := ((⟨#[]⟩ : ByteArray), (0 : Int), (0 : Int))) rfl ?_
      exact h0 h w3 (f02.newer f3 fun k e => by omega)
    · have hi0 : 0 ≤ i := by omega
      have hi1 : i < ((fieldsM k).length : Int) := by omega
      refine hS.get (j := i.toNat) rfl (by omega) (by omega) fun y hy => ?_
      refine stoAll B2 rfl rfl fun w3 B3 f3 s3 => aggI B3 (x := y) rfl ?_
      exact hk y w3 hi0 hy (f02.newer f3 fun k e => by omega)
theorem spec_schema_Range {k i : Int} {K : Res [.sc (.int .i32), .sc (.int .i32), .sc (.int .i64)] → W R} (hk : ∀ w', Fr None w w' → K (rangeM k i) Q w') :
    callW Tryz.prog k_schema_Range [.int .u8 k, .int .i64 i] [.sc (.int .i32), .sc (.int .i32), .sc (.int .i64)] K Q w := by
  refine C_schema_Range _ _ K Q w ?_
  unfold F_schema_Range
  refine spec_schema_at (fun h w1 f1 => ?_) fun p w1 h0 hp f1 => ?_
  · refine newI fun w2 B2 f2 s2 => stoAll B2 rfl rfl fun w3 B3 f3 s3 => condT rfl ?_
    have e : rangeM k i = (0, 0, 1) := by
      unfold rangeM
      split
      · rw [List.getElem?_eq_none (by omega)]
      · rfl
    have := hk w3 (f1.then0 (f2.newer f3 fun k e => by omega))
    rw [e] at this
    exact this
  · refine newI fun w2 B2 f2 s2 => stoAll B2 rfl rfl fun w3 B3 f3 s3 => condF rfl ?_
    have fd : Fr None w3 w3.drew := (Fr.refl _ _).drew
    have B3 := B3.fr fd fun h => h
    refine fldI B3 (i := 1) (x := p.2.1) rfl (fldI B3 (i := 2) (x := p.2.2) rfl ?_)
    have e : rangeM k i = (p.2.1, p.2.2, 0) := by
      unfold rangeM
      rw [if_pos h0, hp]
    have := hk _ ((f1.then0 (f2.newer f3 fun k e => by omega)).then0 fd)
    rw [e] at this
    exact this
theorem range_run (k i : Int) (W : World) : Calls Tryz.prog 84 #[.int .u8 k, .int .i64 i] W fun e w' => e = .returned (.tuple #[.int .i32 (rangeM k i).1, .int .i32 (rangeM k i).2.1, .int .i64 (rangeM k i).2.2]) ∧ Fr None W w' := by
  have := spec_schema_Range (R := Unit) (Q := fun _ _ => True) (w := W) (k := k) (i := i) (K := fun r _ w' => r = rangeM k i ∧ Fr None W w') fun w' f => ⟨rfl, f⟩
  exact Calls.mono this fun e w' ⟨r, he, h1, h2⟩ => ⟨by rw [he, h1]; rfl, h2⟩
theorem get_run {F : Nat → Prop} {b : Nat} {x : StM} {W : World} (h : Store b x F W) {id : Int} (hid : IdOk id) (k : Int) : Calls Tryz.prog 85 #[.pointer (some ⟨b, 0, none⟩), .int .u32 id, .int .u8 k] W fun e w' =>
    e = .returned (.tuple #[.agg #[.int .u8 (x.get id k).1.1, .int .i32 (x.get id k).1.2.1, .int .i32 (x.get id k).1.2.2.1, .int .i32 (x.get id k).1.2.2.2], .int .i64 (x.get id k).2]) ∧ Fr None W w' := by
  have := spec_store_Get (R := Unit) (Q := fun _ _ => True) (w := W) h hid (k := k) (K := fun r _ w' => r = x.get id k ∧ Fr None W w') fun w' f => ⟨rfl, f⟩
  exact Calls.mono this fun e w' ⟨r, he, h1, h2⟩ => ⟨by rw [he, h1]; rfl, h2⟩

theorem boxes3 {w W2 : World} {o1 o2 o3 : Obj} (f : Fr None (((w.alloc o1).alloc o2).alloc o3) W2) : W2.heap[w.heap.size]? = some o1 ∧ W2.heap[w.heap.size + 1]? = some o2 ∧ W2.heap[w.heap.size + 1 + 1]? = some o3 ∧ w.heap.size + 3 ≤ W2.heap.size ∧ Fr None w W2 := by
  have hs := f.size
  simp only [World.size_alloc] at hs
  refine ⟨?_, ?_, ?_, by omega, (((Fr.refl _ w).alloc _).alloc _).alloc _ |>.then0 f⟩
  · refine (f.block _ (by simp; omega) fun h => h).trans ?_
    rw [Below.heap_alloc _ _ _ (by simp; omega), Below.heap_alloc _ _ _ (by simp)]
    exact World.alloc_heap_new w o1
  · refine (f.block _ (by simp) fun h => h).trans ?_
    rw [Below.heap_alloc _ _ _ (by simp)]
    have := World.alloc_heap_new (w.alloc o1) o2
    rwa [World.size_alloc] at this
  · refine (f.block _ (by simp) fun h => h).trans ?_
    have := World.alloc_heap_new ((w.alloc o1).alloc o2) o3
    rwa [World.size_alloc, World.size_alloc] at this
theorem cell_al {W : World} {k : Nat} {v : Value} (h : W.cell? ⟨k, 0, none⟩ = some v) (o : Obj) : (W.alloc o).cell? ⟨k, 0, none⟩ = some v :=
  (World.cell?_of_block (a := ⟨k, 0, none⟩) (heap_alloc_old W o (lt_of_cell h))).trans h

def smAssign : Code := (Code.region 6 #[{ dst := some 12, op := Op.assign (Operand.tmp 29), type := 31, pos := "query.go:61", after := #[], guard := none }] false)
def smBody : Code := (Code.block 1 ((Code.region 7 #[{ dst := some 31, op := Op.load 24 (Operand.tmp 3), type := 24, pos := "query.go:62", after := #[], guard := none }, { dst := some 32, op := Op.move (Operand.tmp 12), type := 31, pos := "query.go:62", after := #[], guard := none }, { dst := some 33, op := Op.load 5 (Operand.tmp 4), type := 5, pos := "query.go:62", after := #[], guard := none }, { dst := some 34, op := Op.call { callee := Callee.value (Operand.func 85), args := #[Operand.tmp 31, Operand.tmp 32, Operand.tmp 33], argTypes := #[24, 31, 5] }, type := 157, pos := "query.go:62", after := #[{ on := 0, ground := Ground.data }, { on := 1, ground := Ground.data }, { on := 2, ground := Ground.data }], guard := none }, { dst := some 30, op := Op.move (Operand.tmp 34), type := 157, pos := "query.go:62", after := #[{ on := 3, ground := Ground.data }], guard := none }, { dst := some 35, op := Op.extract (Operand.tmp 30) 0, type := 53, pos := "query.go:62", after := #[{ on := 4, ground := Ground.data }], guard := none }, { dst := some 36, op := Op.extract (Operand.tmp 30) 1, type := 35, pos := "query.go:62", after := #[{ on := 4, ground := Ground.data }, { on := 8, ground := Ground.gcOnly Departure.lateStores }], guard := none }, { dst := some 13, op := Op.alloc 53, type := 0, pos := "query.go:62", after := #[], guard := none }, { dst := none, op := Op.store 53 (Operand.tmp 13) (Operand.tmp 35), type := 0, pos := "query.go:62", after := #[{ on := 7, ground := Ground.data }, { on := 5, ground := Ground.data }, { on := 3, ground := Ground.chain }, { on := 0, ground := Ground.phase }, { on := 1, ground := Ground.phase }, { on := 2, ground := Ground.phase }, { on := 3, ground := Ground.phase }, { on := 4, ground := Ground.phase }, { on := 5, ground := Ground.phase }, { on := 6, ground := Ground.textOnly Departure.lateStores }, { on := 7, ground := Ground.phase }], guard := none }, { dst := some 14, op := Op.assign (Operand.tmp 36), type := 35, pos := "query.go:62", after := #[{ on := 6, ground := Ground.data }, { on := 8, ground := Ground.chain }, { on := 0, ground := Ground.phase }, { on := 1, ground := Ground.phase }, { on := 2, ground := Ground.phase }, { on := 3, ground := Ground.phase }, { on := 4, ground := Ground.phase }, { on := 5, ground := Ground.phase }, { on := 6, ground := Ground.phase }, { on := 7, ground := Ground.phase }, { on := 8, ground := Ground.phase }], guard := none }] false).seq (Code.region 8 #[{ dst := some 37, op := Op.load 2 (Operand.tmp 11), type := 2, pos := "query.go:63", after := #[], guard := none }, { dst := some 38, op := Op.load 3 (Operand.tmp 5), type := 3, pos := "query.go:63", after := #[], guard := none }, { dst := some 39, op := Op.fieldAddr 53 (Operand.tmp 13) 1, type := 0, pos := "query.go:63", after := #[], guard := none }, { dst := some 40, op := Op.indexAddr 51 (Operand.tmp 39) (Operand.tmp 38), type := 0, pos := "query.go:63", after := #[{ on := 2, ground := Ground.data }, { on := 1, ground := Ground.data }], guard := none }, { dst := some 41, op := Op.load 21 (Operand.tmp 40), type := 21, pos := "query.go:63", after := #[{ on := 3, ground := Ground.data }], guard := none }, { dst := some 42, op := Op.convert 21 2 (Operand.tmp 41), type := 2, pos := "query.go:63", after := #[{ on := 4, ground := Ground.data }], guard := none }, { dst := some 43, op := Op.binOp BinOp.add 2 (Operand.tmp 37) (Operand.tmp 42) 2, type := 2, pos := "query.go:63", after := #[{ on := 0, ground := Ground.data }, { on := 5, ground := Ground.data }], guard := none }, { dst := none, op := Op.store 2 (Operand.tmp 11) (Operand.tmp 43), type := 0, pos := "query.go:63", after := #[{ on := 6, ground := Ground.data }, { on := 0, ground := Ground.phase }, { on := 1, ground := Ground.phase }, { on := 2, ground := Ground.phase }, { on := 3, ground := Ground.phase }, { on := 4, ground := Ground.phase }, { on := 5, ground := Ground.phase }, { on := 6, ground := Ground.phase }], guard := none }] true)))
def smT (s k i : Value) (bS bK bI : Nat) (v8 v9 v10 : Value) (bM : Nat) (v15 v27 v28 v12 v29 : Value) : Array Value :=
  #[s, k, i, .pointer (some ⟨bS, 0, none⟩), .pointer (some ⟨bK, 0, none⟩), .pointer (some ⟨bI, 0, none⟩), .int .i64 0, .int .i64 0, v8, v9, v10, .pointer (some ⟨bM, 0, none⟩), v12, undef, undef, v15, k, i, v15, v8, v9, v10, v10, .bool false, undef, s, k, v27, v28, v29,
    undef, undef, undef, undef, undef, undef, undef, undef, undef, undef, undef, undef, undef, undef, undef]
/-- the loop's record: Sum's temporaries as they stood at the entering. -/
def smRec (fn : FuncId) (tmps : Array Value) (D : Nat) (st : LoopState) (pend : Option Code) : Loop :=
  { state := st, pending := pend, fn, tmps := tmps, params := #[29], assign := smAssign, body := smBody, defers := D }

/-- BETWEEN TWO ROUNDS: the box holds v; what is old lies as it lay. -/
structure BxAt (w0 : World) (rec : LoopState → Option Code → Loop) (T : TypeId) (Bs l D : Nat) (olds : List (Nat × Obj)) (Z : Nat → Prop) (v : Value) (W : World) : Prop where
  box : W.heap[Bs]? = some (.cells #[v] T (0, 0))
  z : ∀ k, Z k → k < W.heap.size ∧ k ≠ Bs ∧ k ≠ l ∧ k ≠ D
  L : W.heap[l]? = some (.loop (rec .ready none))
  K : W.heap[D]? = some (.deferred (some []))
  old : ∀ p ∈ olds, W.heap[p.1]? = some p.2 ∧ p.1 ≠ Bs ∧ p.1 ≠ l ∧ p.1 ≠ D
  below : Below w0.heap.size w0 W

theorem BxAt.abide {w0 : World} {rec : LoopState → Option Code → Loop} {T : TypeId} {Bs l D : Nat} {olds : List (Nat × Obj)} {Z : Nat → Prop} {v : Value} {A B : World} (h : BxAt w0 rec T Bs l D olds Z v A) (f : Fr None A B) : BxAt w0 rec T Bs l D olds (Zx Z A B) v B := by
  have lt : ∀ {k : Nat} {o : Obj}, A.heap[k]? = some o → k < A.heap.size := fun h => (Array.getElem?_eq_some_iff.1 h).1
  have keep : ∀ {k : Nat} {o : Obj}, A.heap[k]? = some o → B.heap[k]? = some o := fun h => (f.block _ (lt h) fun h => h).trans h
  refine ⟨keep h.box, fun k z => ?_, keep h.L, keep h.K, fun p hp => ⟨keep (h.old p hp).1, (h.old p hp).2⟩, below_fr h.below f⟩
  have hs := f.size
  rcases z with z | z
  · obtain ⟨h1, h2⟩ := h.z k z
    exact ⟨by omega, h2⟩
  · have := lt h.box
    have := lt h.L
    have := lt h.K
    exact ⟨z.2, by omega, by omega, by omega⟩

set_option maxRecDepth 100000 in
set_option maxHeartbeats 2000000 in
theorem sm_yield {Fp : Nat → Prop} {b : Nat} {xs : StM} (m : Nat) (hm : 1 ≤ m) (w0 : World) (hst : Store b xs Fp w0) (fn : FuncId) (k i : Int) (bS bK bI bM l D : Nat) (v8 v9 v10 v15 v27 v28 : Value)
    (hBl : bM ≠ l) (hDl : D ≠ l) (hDB : D ≠ bM) (h0B : w0.heap.size ≤ bM) (h0l : w0.heap.size ≤ l) (hi : i = 0 ∨ i = 1 ∨ i = 2)
    (Z : Nat → Prop) (acc : Int) (hacc : -4000000000000 ≤ acc ∧ acc ≤ 4000000000000) (id : Int) (hid : IdOk id) (c : Comp) (er : Int) (hg : xs.get id k = (c, er)) (hc : CompOk c) (W : World)
    (h : BxAt w0 (smRec fn (smT (.pointer (some ⟨b, 0, none⟩)) (.int .u8 k) (.int .i64 i) bS bK bI v8 v9 v10 bM v15 v27 v28 undef undef) D) 2 bM l D [(bS, .cells #[.pointer (some ⟨b, 0, none⟩)] 24), (bK, .cells #[.int .u8 k] 5), (bI, .cells #[.int .i64 i] 3)] Z (.int .i64 acc) W) :
    YieldAt Fence.wide m Tryz.prog l #[encID id] W fun e W' => e = .returned (.bool true) ∧ BxAt w0 (smRec fn (smT (.pointer (some ⟨b, 0, none⟩)) (.int .u8 k) (.int .i64 i) bS bK bI v8 v9 v10 bM v15 v27 v28 undef undef) D) 2 bM l D [(bS, .cells #[.pointer (some ⟨b, 0, none⟩)] 24), (bK, .cells #[.int .u8 k] 5), (bI, .cells #[.int .i64 i] 3)] Z (.int .i64 (acc + fl c i.toNat)) W' ∧ W.heap.size ≤ W'.heap.size ∧ ∀ k, Z k → W'.heap[k]? = W.heap[k]? := by
  have hv := h.box
  refine ⟨fn, smT (.pointer (some ⟨b, 0, none⟩)) (.int .u8 k) (.int .i64 i) bS bK bI v8 v9 v10 bM v15 v27 v28 undef (.int .u32 id), smAssign, smBody, by simpa [smRec, smT] using run_yield (P := Tryz.prog) (args := #[encID id]) h.L rfl, roundIn_of_wpIn trivial ?_⟩
  obtain ⟨⟨oS, nS1, nS2, nS3⟩, ⟨oK, nK1, nK2, nK3⟩, ⟨oI, nI1, nI2, nI3⟩⟩ := (show _ ∧ _ ∧ _ from ⟨h.old _ List.mem_cons_self, h.old _ (List.mem_cons_of_mem _ List.mem_cons_self), h.old _ (List.mem_cons_of_mem _ (List.mem_cons_of_mem _ List.mem_cons_self))⟩)
  dsimp only at oS oK oI nS1 nS2 nS3 nK1 nK2 nK3 nI1 nI2 nI3
  have hl : l < W.heap.size := (Array.getElem?_eq_some_iff.1 h.L).1
  have hbr := run_beginRound (P := Tryz.prog) h.L rfl
  obtain ⟨rec, hrec⟩ : ∃ rec, rec = smRec fn (smT (.pointer (some ⟨b, 0, none⟩)) (.int .u8 k) (.int .i64 i) bS bK bI v8 v9 v10 bM v15 v27 v28 undef undef) D := ⟨_, rfl⟩
  rw [← hrec] at hbr h ⊢
  obtain ⟨W2, hW2⟩ : ∃ W2, W.putObj l (.loop { rec .ready none with state := .busy }) = W2 := ⟨_, rfl⟩
  rw [hW2] at hbr
  have f2 : Fr (fun k => k = l) W W2 := by rw [← hW2]; exact putObj_fr _ _ _
  have keep2 : ∀ {q : Nat} {o : Obj}, q ≠ l → W.heap[q]? = some o → W2.heap[q]? = some o := fun hq ho => by rw [← hW2]; exact (World.putObj_heap_other hq).trans ho
  have hv2 := keep2 hBl hv
  have hK2 := keep2 hDl h.K
  have oS2 := keep2 nS2 oS
  have oK2 := keep2 nK2 oK
  have oI2 := keep2 nI2 oI
  have hL2 : W2.heap[l]? = some (.loop { rec .ready none with state := .busy }) := by rw [← hW2]; exact World.putObj_heap_same hl
  have hb2 : Below w0.heap.size w0 W2 := h.below.grown ⟨f2.os, f2.tape, f2.output, f2.size, fun k hk hn => f2.block k hk fun e => hn (by rw [e])⟩ h.below.size (fun k e => by cases e; exact h0l)
  have cS := (cell_of_box oS2).1
  have cK := (cell_of_box oK2).1
  have hz2 : ∀ k, Z k → W2.heap[k]? = W.heap[k]? := fun k z => f2.block k (h.z k z).1 (h.z k z).2.2.1
  have hs2 := f2.size
  clear hW2
  have hlt2 : ∀ k, Z k → k < W2.heap.size := fun k z => by have := (h.z k z).1; omega
  have fin : ∀ (W5 : World) (o : Obj) (v : Value) (a : Act), Fr None W2 W5 → v = .int .i64 (acc + fl c i.toNat) → roundPost Tryz.prog l (fun e W' => e = .returned (.bool true) ∧ BxAt w0 (smRec fn (smT (.pointer (some ⟨b, 0, none⟩)) (.int .u8 k) (.int .i64 i) bS bK bI v8 v9 v10 bM v15 v27 v28 undef undef) D) 2 bM l D [(bS, .cells #[.pointer (some ⟨b, 0, none⟩)] 24), (bK, .cells #[.int .u8 k] 5), (bI, .cells #[.int .i64 i] 3)] Z (.int .i64 (acc + fl c i.toNat)) W' ∧ W.heap.size ≤ W'.heap.size ∧ ∀ k, Z k → W'.heap[k]? = W.heap[k]?) .normal a ((W5.alloc o).setCell ⟨bM, 0, none⟩ v).drew := by
    intro W5 o v a f5 hv5
    subst hv5
    rw [← hrec]
    have f6 : Fr None W2 (W5.alloc o) := f5.alloc _
    obtain ⟨W6, hW6⟩ : ∃ W6, W5.alloc o = W6 := ⟨_, rfl⟩
    rw [hW6] at f6 ⊢
    have f7 : Fr (fun k => k = bM) W6 (W6.setCell ⟨bM, 0, none⟩ (.int .i64 (acc + fl c i.toNat))) := setCell_fr _ _ _
    have lt2 : ∀ {q : Nat} {o : Obj}, W2.heap[q]? = some o → q < W2.heap.size := fun ho => (Array.getElem?_eq_some_iff.1 ho).1
    have keep6 : ∀ {q : Nat} {o : Obj}, W2.heap[q]? = some o → W6.heap[q]? = some o := fun ho => (f6.block _ (lt2 ho) fun h => h).trans ho
    have hv7 : (W6.setCell ⟨bM, 0, none⟩ (.int .i64 (acc + fl c i.toNat))).heap[bM]? = some (.cells #[.int .i64 (acc + fl c i.toNat)] 2 (0, 0)) := heap_setCell_box _ (keep6 hv2)
    obtain ⟨W7, hW7⟩ : ∃ W7, W6.setCell ⟨bM, 0, none⟩ (.int .i64 (acc + fl c i.toNat)) = W7 := ⟨_, rfl⟩
    rw [hW7] at f7 hv7 ⊢
    have hs6 := f6.size
    have hs7 := f7.size
    have f8 : Fr None W7 W7.drew := (Fr.refl _ _).drew
    have f68 : Fr (fun k => k = bM) W6 W7.drew := f7.then0 f8
    obtain ⟨W8, hW8⟩ : ∃ W8, W7.drew = W8 := ⟨_, rfl⟩
    rw [hW8] at f8 f68 ⊢
    have hs8 := f8.size
    have keep8 : ∀ {q : Nat} {o : Obj}, q ≠ bM → W2.heap[q]? = some o → W8.heap[q]? = some o := fun hq ho => (f68.block _ (by have := lt2 ho; omega) hq).trans (keep6 ho)
    have hv8 : W8.heap[bM]? = some (.cells #[.int .i64 (acc + fl c i.toNat)] 2 (0, 0)) := (f8.block _ (Array.getElem?_eq_some_iff.1 hv7).1 fun h => h).trans hv7
    have hL8 := keep8 (fun e => hBl e.symm) hL2
    have hK8 := keep8 hDB hK2
    have hz8 : ∀ k, Z k → W8.heap[k]? = W2.heap[k]? := fun k z => (f68.block k (by have := (h.z k z).1; omega) (h.z k z).2.1).trans (f6.block k (by have := (h.z k z).1; omega) fun h => h)
    have hb8 : Below w0.heap.size w0 W8 := (below_fr hb2 f6).grown (row := some bM) ⟨f68.os, f68.tape, f68.output, f68.size, fun k hk hn => f68.block k hk fun e => hn (by rw [e])⟩ (by have := hb2.size; omega) (fun k e => by cases e; exact h0B)
    have hl8 : l < W8.heap.size := (Array.getElem?_eq_some_iff.1 hL8).1
    have f9 := putObj_fr W8 l (.loop { { rec .ready none with state := .busy } with state := if (none : Option Code).isNone then .ready else .done, pending := none })
    have hsz : ∀ o, (W8.putObj l o).heap.size = W8.heap.size := fun o => by simp
    refine ⟨_, _, run_endRound none hL8, rfl, ⟨(World.putObj_heap_other hBl).trans hv8, fun k z => ?_, by rw [hrec]; exact World.putObj_heap_same hl8, (World.putObj_heap_other hDl).trans hK8, fun p hp => ?_, hb8.grown (row := some l) ⟨f9.os, f9.tape, f9.output, f9.size, fun k hk hn => f9.block k hk fun e => hn (by rw [e])⟩ hb8.size (fun k e => by cases e; exact h0l)⟩, ?_, fun k z => ?_⟩
    · exact ⟨by rw [hsz]; have := (h.z k z).1; omega, (h.z k z).2⟩
    · obtain ⟨p1, p2, p3, p4⟩ := h.old p hp
      exact ⟨(World.putObj_heap_other p3).trans (keep8 p2 (keep2 p3 p1)), p2, p3, p4⟩
    · rw [hsz]; omega
    · exact (f9.block k (by have := (h.z k z).1; omega) (h.z k z).2.2.1).trans ((hz8 k z).trans (hz2 k z))
  have hst2 := Store.st.fr0 hst (below_store hb2)
  have hget := get_run hst2 hid k
  rw [hg] at hget
  obtain ⟨c0, c1, c2, c3⟩ := c
  obtain ⟨hc0, hc1, hc2, hc3⟩ := hc
  dsimp only [i32] at hc0 hc1 hc2 hc3
  dsimp only at hget
  have hlt : ∀ {q : Nat} {o : Obj}, W2.heap[q]? = some o → q < W2.heap.size := fun ho => (Array.getElem?_eq_some_iff.1 ho).1
  have hlt' : ∀ {W : World} {q : Nat} {o : Obj}, W.heap[q]? = some o → q < W.heap.size := fun ho => (Array.getElem?_eq_some_iff.1 ho).1
  unfold smT smAssign
  gi_wp2
  unfold smBody
  rcases hi with rfl | rfl | rfl
  all_goals
    gi_wp2_with (refine ⟨trivial, ?_⟩; gi_at_call 85; refine (CallsIn.inRound l (callsIn_wide.2 hget)).mono ?_; rintro e W5 ⟨rfl, f5⟩; have k5 : ∀ {q : Nat} {o : Obj}, W2.heap[q]? = some o → W5.heap[q]? = some o := fun ho => (f5.block _ (hlt ho) fun h => h).trans ho; have h5 := (heap_alloc_old W5 (Obj.cells #[.int .u8 c0, .int .i32 c1, .int .i32 c2, .int .i32 c3] 53) (hlt' (k5 hv2))).trans (k5 hv2); obtain ⟨m5, mf5⟩ := cell_of_box h5; have i5 := cell_al (cell_of_box (k5 oI2)).1 (Obj.cells #[.int .u8 c0, .int .i32 c1, .int .i32 c2, .int .i32 c3] 53))
  all_goals gi_region
  all_goals (try gi_wp2)
  all_goals
    refine fin W5 _ _ _ f5 ?_
    first
      | (rw [w64 (x := c1) (by omega), w64 (x := acc + c1) (by omega)]; rfl)
      | (rw [w64 (x := c2) (by omega), w64 (x := acc + c2) (by omega)]; rfl)
      | (rw [w64 (x := c3) (by omega), w64 (x := acc + c3) (by omega)]; rfl)


/-! ### the sum, plainly -/
theorem fits_k {k : Int} (hk : 0 ≤ k ∧ k ≤ 5) : ∀ m : Nat, m < 64 → fitB (m : Int) (2 ^ min k.toNat 8 % 256) 0 = [k].all fun q => decide (q ∈ kindsOf m) := by
  have : k = 0 ∨ k = 1 ∨ k = 2 ∨ k = 3 ∨ k = 4 ∨ k = 5 := by omega
  rcases this with rfl | rfl | rfl | rfl | rfl | rfl <;> exact fits_all (by decide +kernel)
def trm (x : StM) (k i id : Int) : Int := nthF (x.get id k).1.2 i
theorem sumI_filter {α : Type} {p : α → Bool} {f g : α → Int} : ∀ {l : List α}, (∀ a ∈ l, g a = if p a = true then f a else 0) → sumI ((l.filter p).map f) = sumI (l.map g)
  | [], _ => rfl
  | a :: l, h => by
    have h1 := h a List.mem_cons_self
    have h2 := sumI_filter (p := p) (f := f) (g := g) fun x hx => h x (List.mem_cons_of_mem a hx)
    simp only [List.filter_cons, List.map_cons, sumI, h1]
    split
    · simp only [List.map_cons, sumI, h2]
    · rw [h2]; omega
/-- an entity that fits, and its field. -/
theorem with_get {x : StM} (h : StOk x) {k : Int} (hk : 0 ≤ k ∧ k ≤ 5) {id : Int} (hi : id ∈ withL x (2 ^ min k.toNat 8 % 256) 0) : ∃ f, x.get id k = ((k, f), 0) ∧ checkM (k, f) = 0 ∧ hasK (entF x id) k = true ∧ f = fieldsOf (entF x id).2 k := by
  have hh := fit_at h (fits_k hk) hi (k := k) List.mem_cons_self
  obtain ⟨e, he, h2, h3⟩ := h.has_of (withL_live h hi)
  have ee : entF x id = e := by unfold entF; rw [h3]
  rw [ee] at hh
  have hg := Has.get h he hh
  rw [h2] at hg
  exact ⟨_, hg, Has.field h he hh, by rw [ee]; exact hh, by rw [ee]⟩
theorem sum_same {x : StM} (h : StOk x) {k : Int} (hk : 0 ≤ k ∧ k ≤ 5) (i : Int) : sumI ((grpIds x.tab (2 ^ min k.toNat 8 % 256) 0 (groupsM x.tab)).map (trm x k i)) = sumI ((entsM x).map (termE k i)) := by
  rw [sumI_perm ((grpIds_perm h (2 ^ min k.toNat 8 % 256) 0).map _)]
  unfold withL entsM
  rw [List.map_map]
  refine sumI_filter fun id hid => ?_
  have hl := h.s.mem_list.1 hid
  have hf := fit2 h (fits_k hk) hl
  show termE k i (entF x id) = _
  by_cases hp : fitE x (2 ^ min k.toNat 8 % 256) 0 id = true
  · obtain ⟨f, hg, _, hh, e⟩ := with_get h hk (List.mem_filter.2 ⟨hid, hp⟩)
    rw [if_pos hp, termE, if_pos hh, trm, hg, e]
  · rw [if_neg hp, termE, if_neg]
    intro hh
    apply hp
    rw [hf]
    simpa [entF] using hh
theorem trm_in {x : StM} (h : StOk x) {k : Int} (hk : 0 ≤ k ∧ k ≤ 5) (i : Int) {id : Int} (hi : id ∈ grpIds x.tab (2 ^ min k.toNat 8 % 256) 0 (groupsM x.tab)) : -2147483648 ≤ trm x k i id ∧ trm x k i id ≤ 2147483647 := by
  obtain ⟨f, hg, hc, _, _⟩ := with_get h hk ((grpIds_perm h _ _).mem_iff.1 hi)
  rw [trm, hg]
  exact nthF_in hc i

set_option maxRecDepth 100000 in
set_option maxHeartbeats 2000000 in
theorem sm_sum {Fp : Nat → Prop} {b : Nat} {xs : StM} (hstore : Store b xs Fp w) (n : Nat) (hn : 3 ≤ n) (k i : Int) (hk : 0 ≤ k ∧ k ≤ 255) (S : Int) (hS0 : ¬ (rangeM k i).2.2 = 0 → S = 0) (hS : (rangeM k i).2.2 = 0 → S = sumI ((entsM xs).map (termE k i))) :
    CallsIn Fence.wide n Tryz.prog 23 #[.pointer (some ⟨b, 0, none⟩), .int .u8 k, .int .i64 i] w fun e w' => e = .returned (.tuple #[.int .i64 S, .int .i64 (rangeM k i).2.2]) ∧ Fr None w w' := by
  have ok := (Store.open_ hstore).1
  have h1 : 1 ≤ n := by omega
  refine callsIn_of_wp_marks Tryz.func23 rfl trivial ?_ rfl
  simp only [Tryz.ntmps23, List.size_toArray, List.length_cons, List.length_nil, Nat.reduceAdd, Nat.reduceSub, Array.replicate_succ, Array.replicate_zero, List.push_toArray, List.append_toArray, List.nil_append, List.cons_append]
  gi_wp2_with (first
    | (refine ⟨trivial, ?_⟩; gi_at_call 84; refine (callsIn_wide.2 (range_run k i _)).mono ?_; rintro e W2 ⟨rfl, f2⟩; obtain ⟨b3, b4, b5, hs2, f02⟩ := boxes3 f2; have c3 := cell_al (cell_of_box b3).1 (Obj.cells #[.int .i64 0] 2); have c4 := cell_al (cell_of_box b4).1 (Obj.cells #[.int .i64 0] 2); have d3 := (cell_of_box b3).1; have d4 := (cell_of_box b4).1; have d5 := (cell_of_box b5).1)
    | (refine ⟨trivial, ?_⟩; gi_at_call 75; refine (callsIn_wide.2 (groups_run _ _ 0 _)).mono ?_; rintro e W9 ⟨Bs, Ba, Bn, rfl, g1, g2, g3, ⟨ga, gb⟩, fg⟩))
  · have hne : ¬ (rangeM k i).2.2 = 0 := by
      have h : ((rangeM k i).2.2 != 0) = true := by assumption
      simpa using h
    exact ⟨_, results_tmp2 rfl _ _ _, by rw [hS0 hne]; rfl, f02⟩
  have hr0 : (rangeM k i).2.2 = 0 := by
    have h : ((rangeM k i).2.2 != 0) = false := by assumption
    simpa using h
  obtain ⟨hi0, hi3, hk0, hk5⟩ := rangeM_in hr0
  have hi : i = 0 ∨ i = 1 ∨ i = 2 := by omega
  have f9 : Fr None w W9 := (f02.alloc _).then0 fg
  rw [World.size_alloc] at ga gb
  have hs9 := fg.size
  rw [World.size_alloc] at hs9
  have hv9 : W9.heap[W2.heap.size]? = some (.cells #[.int .i64 0] 2 (0, 0)) := (fg.block _ (by simp) fun h => h).trans (World.alloc_heap_new W2 _)
  have old9 : ∀ {q : Nat} {o : Obj}, W2.heap[q]? = some o → W9.heap[q]? = some o := fun ho => (fg.block _ (by have := (Array.getElem?_eq_some_iff.1 ho).1; simp; omega) fun h => h).trans ((heap_alloc_old W2 _ (Array.getElem?_eq_some_iff.1 ho).1).trans ho)
  have b3' := old9 b3
  have b4' := old9 b4
  have b5' := old9 b5
  have hb9 : Below w.heap.size w W9 := ⟨f9.os, f9.tape, f9.output, f9.size, fun k hk => f9.block k hk fun h => h⟩
  have la := lt_of_cell g2
  have lb := lt_of_cell g3
  refine wpIn_rangeFunc ?_
  intro fn hfn
  have hro : Fence.wide.round = none := rfl
  rw [hro]
  obtain ⟨L, hL⟩ : ∃ L : Array Value, L = #[.pointer (some ⟨Bs, 0, none⟩), .pointer (some ⟨Ba, 0, none⟩), .pointer (some ⟨Bn, 0, none⟩)] := ⟨_, rfl⟩
  obtain ⟨rec, hrec⟩ : ∃ rec, rec = smRec fn (smT (.pointer (some ⟨b, 0, none⟩)) (.int .u8 k) (.int .i64 i) w.heap.size (w.heap.size + 1) (w.heap.size + 1 + 1) (.int .i32 (rangeM k i).1) (.int .i32 (rangeM k i).2.1) (.int .i64 (rangeM k i).2.2) W2.heap.size
    (.tuple #[.int .i32 (rangeM k i).1, .int .i32 (rangeM k i).2.1, .int .i64 (rangeM k i).2.2]) (.int .u8 (2 ^ min k.toNat 8 % 256)) (.func (.func 140) #[] L) undef undef) W9.heap.size := ⟨_, rfl⟩
  obtain ⟨W1, hW1⟩ : ∃ W1, (W9.alloc (.deferred (some []))).alloc (.loop (rec .ready none)) = W1 := ⟨_, rfl⟩
  have hold : ∀ k, k < W9.heap.size → W1.heap[k]? = W9.heap[k]? := fun k hk => by
    rw [← hW1]; exact (Below.heap_alloc _ _ k (by simp; omega)).trans (Below.heap_alloc _ _ k hk)
  have hb1 : Below w.heap.size w W1 := by rw [← hW1]; exact (hb9.alloc hb9.size _).alloc (by have := hb9.size; simp; omega) _
  have hb91 : Below W9.heap.size W9 W1 := by rw [← hW1]; exact ((Below.refl _ W9).alloc (Nat.le_refl _) _).alloc (by simp) _
  have hs1 : W1.heap.size = W9.heap.size + 2 := by rw [← hW1]; simp
  obtain ⟨olds, holds⟩ : ∃ olds : List (Nat × Obj), olds = [(w.heap.size, .cells #[.pointer (some ⟨b, 0, none⟩)] 24), (w.heap.size + 1, .cells #[.int .u8 k] 5), (w.heap.size + 1 + 1, .cells #[.int .i64 i] 3)] := ⟨_, rfl⟩
  have hold1 : ∀ p ∈ olds, W1.heap[p.1]? = some p.2 ∧ p.1 ≠ W2.heap.size ∧ p.1 ≠ W9.heap.size + 1 ∧ p.1 ≠ W9.heap.size := by
    intro p hp
    rw [holds] at hp
    simp only [List.mem_cons, List.not_mem_nil, or_false] at hp
    rcases hp with rfl | rfl | rfl
    · exact ⟨(hold _ (by show w.heap.size < _; omega)).trans b3', by show w.heap.size ≠ _; omega, by show w.heap.size ≠ _; omega, by show w.heap.size ≠ _; omega⟩
    · exact ⟨(hold _ (by show w.heap.size + 1 < _; omega)).trans b4', by show w.heap.size + 1 ≠ _; omega, by show w.heap.size + 1 ≠ _; omega, by show w.heap.size + 1 ≠ _; omega⟩
    · exact ⟨(hold _ (by show w.heap.size + 1 + 1 < _; omega)).trans b5', by show w.heap.size + 1 + 1 ≠ _; omega, by show w.heap.size + 1 + 1 ≠ _; omega, by show w.heap.size + 1 + 1 ≠ _; omega⟩
  have hM : BxAt w rec 2 W2.heap.size (W9.heap.size + 1) W9.heap.size olds (fun k => k = Ba ∨ k = Bn) (.int .i64 0) W1 :=
    ⟨(hold W2.heap.size (by omega)).trans hv9, fun k z => by rcases z with rfl | rfl <;> exact ⟨by omega, by omega, by omega, by omega⟩,
     by rw [← hW1]; have := World.alloc_heap_new (W9.alloc (.deferred (some []))) (.loop (rec .ready none)); rwa [World.size_alloc] at this,
     by rw [← hW1]; exact (Below.heap_alloc _ _ _ (by simp)).trans (World.alloc_heap_new W9 _), hold1, hb1⟩
  have hp := grpIds_perm ok (2 ^ min k.toNat 8 % 256) 0
  have hlen := withL_len ok (2 ^ min k.toNat 8 % 256) 0
  rw [← hp.length_eq] at hlen
  have hSe := (hS hr0).trans (sum_same ok ⟨hk0, hk5⟩ i).symm
  refine ⟨W9.heap.size + 1, [{ target := .collected W9.heap.size, args := #[] }], W1, { target := .fn (.func 140) L, args := #[.func (.yield (W9.heap.size + 1)) #[] #[]] }, W1, 140,
    #[.func (.yield (W9.heap.size + 1)) #[] #[]] ++ L, W1, ?_, ?_, ?_, ?_, fun _ => h1, ?_⟩
  · rw [← hW1, hrec, hL]; exact run_enterLoop_outer _ _ _ _ _
  · rw [hL]; simp [resolve, go_sem]
  · intro f' _; trivial
  · simp [invoke, go_sem, enters_of Tryz.func140 (by kernel_rfl) rfl]
  · rw [hL]
    refine (groups_gives (Store.st.fr0 hstore f9) g1 g2 g3 (n - 1) (by omega) (W9.heap.size + 1) (fun Z ss W => BxAt w rec 2 W2.heap.size (W9.heap.size + 1) W9.heap.size olds Z (.int .i64 (sumI (ss.map (trm xs k i)))) W) W1 hb91 (fun Z s A B h f => h.abide f)
      (fun Z pre x W hJ hl => ?_) hM).mono ?_
    · have hin : ∀ y ∈ pre ++ [x], y ∈ grpIds xs.tab (2 ^ min k.toNat 8 % 256) 0 (groupsM xs.tab) := fun y hy => hl.subset hy
      have hx := hin x (List.mem_append_right _ List.mem_cons_self)
      obtain ⟨f, hg, hc, _, _⟩ := with_get ok ⟨hk0, hk5⟩ (hp.mem_iff.1 hx)
      have hb := sumI_le (l := pre.map (trm xs k i)) fun a ha => by
        obtain ⟨y, hy, rfl⟩ := List.mem_map.1 ha
        exact trm_in ok ⟨hk0, hk5⟩ i (hin y (List.mem_append_left _ hy))
      have hpl := pre_lt hl
      rw [List.length_map] at hb
      have hy := sm_yield (b := b) (n - 1 - 1) (by omega) w hstore fn k i w.heap.size (w.heap.size + 1) (w.heap.size + 1 + 1) W2.heap.size (W9.heap.size + 1) W9.heap.size _ _ _ _ _ _ (by omega) (by omega) (by omega) (by omega) (by omega) hi Z (sumI (pre.map (trm xs k i))) (by omega) x (withL_id ok (hp.mem_iff.1 hx)) (k, f) 0 hg (checkM_ok hc) W (by rw [holds, hrec] at hJ; exact hJ)
      rw [hrec, holds]
      have es : sumI ((pre ++ [x]).map (trm xs k i)) = sumI (pre.map (trm xs k i)) + fl (k, f) i.toNat := by
        rw [List.map_append, sumI_append]
        simp only [List.map_cons, List.map_nil, sumI, trm, hg, nthF]
        rw [fl_kind k f]
        omega
      rw [es]
      exact hy
    rintro e W2' ⟨⟨v0, rfl⟩, Z, h2⟩
    have hv := h2.box
    have hend := run_endLoop (P := Tryz.prog) h2.L (by rw [hrec]; simp [smRec])
    obtain ⟨W3, hW3⟩ : ∃ W3, W2'.putObj (W9.heap.size + 1) (.loop { rec .ready none with state := .exhausted }) = W3 := ⟨_, rfl⟩
    rw [hW3] at hend
    have f3 : Fr (fun k => k = W9.heap.size + 1) W2' W3 := by rw [← hW3]; exact putObj_fr _ _ _
    have hv3 : W3.heap[W2.heap.size]? = some (.cells #[.int .i64 (sumI ((grpIds xs.tab (2 ^ min k.toNat 8 % 256) 0 (groupsM xs.tab)).map (trm xs k i)))] 2 (0, 0)) := (f3.block _ (Array.getElem?_eq_some_iff.1 hv).1 (by omega)).trans hv
    have hK3 : W3.heap[W9.heap.size]? = some (.deferred (some [])) := (f3.block _ (Array.getElem?_eq_some_iff.1 h2.K).1 (by omega)).trans h2.K
    have hb3 : Below w.heap.size w W3 := h2.below.grown (row := some (W9.heap.size + 1)) ⟨f3.os, f3.tape, f3.output, f3.size, fun k hk hn => f3.block k hk fun e => hn (by rw [e])⟩ h2.below.size (fun k e => by cases e; omega)
    obtain ⟨hc3, hf3⟩ := cell_of_box hv3
    clear hW3
    refine ⟨none, W3, by rw [hrec] at hend; exact hend, ?_⟩
    gi_wp2
    refine ⟨by simp, .inl ⟨_, _, rfl, run_takeDeferred hK3, ?_⟩⟩
    have f4 := putObj_fr W3 W9.heap.size (.deferred none)
    have hb4 : Below w.heap.size w (W3.putObj W9.heap.size (.deferred none)) := hb3.grown (row := some W9.heap.size) ⟨f4.os, f4.tape, f4.output, f4.size, fun k hk hn => f4.block k hk fun e => hn (by rw [e])⟩ hb3.size (fun k e => by cases e; omega)
    exact ⟨_, results_tmp2 rfl _ _ _, by rw [hr0, hSe]; rfl, ⟨hb4.os, hb4.tape, hb4.output, hb4.size, fun k hk _ => hb4.block k hk⟩⟩
theorem spec_query_Sum {F : Nat → Prop} {b : Nat} {x : StM} (h : Store b x F w) {k i : Int} (hk0 : 0 ≤ k ∧ k ≤ 255) {K : Res [.sc (.int .i64), .sc (.int .i64)] → W R} (hk : ∀ w', Fr None w w' → K (if (rangeM k i).2.2 = 0 then sumI ((entsM x).map (termE k i)) else 0, (rangeM k i).2.2) Q w') :
    callW Tryz.prog k_query_Sum [.pointer (some ⟨b, 0, none⟩), .int .u8 k, .int .i64 i] [.sc (.int .i64), .sc (.int .i64)] K Q w :=
  callsIn_callW (n := 3) ((sm_sum h 3 (by decide) k i hk0 (if (rangeM k i).2.2 = 0 then sumI ((entsM x).map (termE k i)) else 0) (fun e => if_neg e) (fun e => if_pos e)).mono fun e w' ⟨h1, h2⟩ => ⟨(if (rangeM k i).2.2 = 0 then sumI ((entsM x).map (termE k i)) else 0, (rangeM k i).2.2), h1, hk w' h2⟩)

end Go.Proofs.YtkblnhnjagemlaaGreat
