/-
  Regions that draw their order: what holds of one order of the operations holds of all that the edges allow, if those pairs whose order is open may change places.
-/
import Derived.WalkKit
import Derived.KernelRfl
import Derived.StillTail
namespace Go.Proofs.YtchhhjlpnecjkaaGreat.Den
open Go

def memB : List Nat → Nat → Bool
  | [], _ => false
  | x :: r, i => bif Nat.beq i x then true else memB r i
theorem nbeq {a b : Nat} : Nat.beq a b = true ↔ a = b := ⟨Nat.eq_of_beq_eq_true, fun h => by subst h; exact Nat.beq_refl a⟩
theorem nbeq_f {a b : Nat} : Nat.beq a b = false ↔ a ≠ b := by
  cases h : Nat.beq a b with
  | true => simp [nbeq.1 h]
  | false => simp; intro e; rw [nbeq.2 e] at h; cases h
theorem memB_iff {l : List Nat} {i : Nat} : memB l i = true ↔ i ∈ l := by
  induction l with
  | nil => simp [memB]
  | cons x r ih =>
    cases h : Nat.beq i x with
    | true => simp [memB, nbeq.1 h]
    | false =>
      have := nbeq_f.1 h
      simp [memB, h, ih, this]

/-- which operations look at memory at most (and call nobody) -/
def quietOp : Op → Bool
  | .move _ | .assign _ | .pick _ _ _ | .load _ _ | .nilCheck _ | .binOp _ _ _ _ _ | .unOp _ _ _ | .convert _ _ _ | .fieldAddr _ _ _ | .field _ _ _ | .indexAddr _ _ _ | .index _ _ _ | .extract _ _ | .build _ _
  | .slice _ _ _ _ none | .makeFunc _ _ _ | .makeInterface _ _ | .lookup _ _ _ _ => true
  | .call { callee := .builtin .len, .. } | .call { callee := .builtin .cap, .. } | .call { callee := .builtin .min, .. } | .call { callee := .builtin .max, .. } => true
  | _ => false
/-- .. and which don't even look -/
def isSlT (P : Program) (T : TypeId) : Bool := match P.underlying T with
  | some (.slice _) => true
  | _ => false
def pureOp (P : Program) : Op → Bool
  | .convert S _ _ => !isSlT P S
  | .move _ | .assign _ | .pick _ _ _ | .nilCheck _ | .unOp _ _ _ | .fieldAddr _ _ _ | .field _ _ _ | .indexAddr _ _ _ | .index _ _ _ | .extract _ _ | .build _ _
  | .slice _ _ _ _ none | .makeFunc _ _ _ | .makeInterface _ _ => true
  | .binOp .eql _ _ _ _ | .binOp .neq _ _ _ _ => false
  | .binOp _ _ _ _ _ => true
  | .call { callee := .builtin .cap, .. } | .call { callee := .builtin .min, .. } | .call { callee := .builtin .max, .. } => true
  | _ => false
def isLoad : Op → Bool
  | .load _ _ => true
  | _ => false
def isAlloc : Op → Bool
  | .alloc _ | .box _ _ | .buildSlice _ _ _ => true
  | _ => false

/-- every cell of w is there. -/
def Ext (w w2 : World) : Prop := ∀ a u, w.cell? a = some u → w2.cell? a = some u
theorem Ext.refl (w : World) : Ext w w := fun _ _ h => h
theorem Ext.trans {a b c : World} (h : Ext a b) (k : Ext b c) : Ext a c := fun x u hx => k x u (h x u hx)
theorem Ext.alloc (w : World) (o : Obj) : Ext w (w.alloc o) := fun a u h => by
  exact (World.cell?_of_block (w := w) (w' := w.alloc o) (a := a) (heap_alloc_old w o (World.block_lt_of_cell? w a h))).trans h

section
variable {P : Program} {ops : Array Oper} {K : Act → World → Prop} {mp : List Nat} {X : List PanicEntry → World → Prop}

abbrev Mem := List (Nat × (World → Prop))
abbrev Ord := List (Nat × List Nat)

/-- a call of a function that may panic. -/
def mpOp (mp : List Nat) (o : Oper) : Bool := match o.op with
  | .call c => (match c.callee with
    | .value (.func g) => memB mp g
    | _ => false)
  | _ => false
/-- what one operation comes to. -/
def Step (P : Program) (mp : List Nat) (X : List PanicEntry → World → Prop) (o : Oper) (S : World → Prop) (a : Act) (w : World) (next : Value → Act → World → Prop) : Prop :=
  (∃ v w', (execOp a.eval o).run P w = .ok (.value v) w' ∧ next v (a.put o.dst v) w' ∧ (quietOp o.op = false → S w') ∧ (quietOp o.op = true → w' = w) ∧
    (pureOp P o.op = true → ∀ w2, (execOp a.eval o).run P w2 = .ok (.value v) w2) ∧ (isLoad o.op = true → ∀ w2, Ext w w2 → (execOp a.eval o).run P w2 = .ok (.value v) w2) ∧ (isAlloc o.op = true → ∃ ob, w' = w.alloc ob)) ∨
  (quietOp o.op = false ∧ isAlloc o.op = false ∧ ∃ w', (execOp a.eval o).run P w = .ok .skip w' ∧ next undef (a.put o.dst undef) w' ∧ S w') ∨
  (quietOp o.op = false ∧ isAlloc o.op = false ∧ ∃ f args w', (execOp a.eval o).run P w = .ok (.enter f args) w' ∧ Calls P f args w' (fun e w'' => (∃ v, e = .returned v ∧ next v (a.put o.dst v) w'' ∧ S w'') ∨ (mpOp mp o = true ∧ ∃ ch, e = .panicked ch ∧ X ch w'')))

theorem Step.mono {o : Oper} {S S' : World → Prop} {a : Act} {w : World} {next next' : Value → Act → World → Prop} (h : Step P mp X o S a w next) (hS : ∀ w', S w' → S' w') (hn : ∀ v w', next v (a.put o.dst v) w' → next' v (a.put o.dst v) w') : Step P mp X o S' a w next' := by
  rcases h with ⟨v, w', h1, h2, h3, h4⟩ | ⟨h0, h1, w', h2, h3, h4⟩ | ⟨h0, h1, f, args, w', h2, h3⟩
  · exact .inl ⟨v, w', h1, hn _ _ h2, fun hq => hS _ (h3 hq), h4⟩
  · exact .inr (.inl ⟨h0, h1, w', h2, hn _ _ h3, hS _ h4⟩)
  · refine .inr (.inr ⟨h0, h1, f, args, w', h2, h3.mono ?_⟩)
    rintro e w'' (⟨v, rfl, h5, h6⟩ | h5)
    · exact .inl ⟨v, rfl, hn _ _ h5, hS _ h6⟩
    · exact .inr h5

/-- the operation in another frame in which it does the same. -/
theorem Step.frame {o : Oper} {S : World → Prop} {a a' : Act} {w : World} {next : Value → Act → World → Prop} (he : execOp a'.eval o = execOp a.eval o)
    (h : Step P mp X o S a w (fun v _ w' => next v (a'.put o.dst v) w')) : Step P mp X o S a' w next := by
  unfold Step at *
  rw [he]
  exact h

def LP (P : Program) (o : Oper) (a : Act) (v : Value) : World → Prop := fun w2 => ∀ w3, Ext w2 w3 → (execOp a.eval o).run P w3 = .ok (.value v) w3
def push (P : Program) (i : Nat) (o : Oper) (a : Act) (v : Value) (M : Mem) : Mem := if isLoad o.op = true then (i, LP P o a v) :: M else M

def wpL (P : Program) (mp : List Nat) (X : List PanicEntry → World → Prop) (ops : Array Oper) (K : Act → World → Prop) : Ord → Mem → Act → World → Prop
  | [], _, a, w => K a w
  | (i, S) :: r, M, a, w => match ops[i]? with
    | none => wpL P mp X ops K r M a w
    | some o => if Region.wanted o (yielded ops a.tmps) = true then Step P mp X o (fun w => ∀ q ∈ M, q.1 ∈ S → q.2 w) a w (fun v a' w' => wpL P mp X ops K r (push P i o a v M) a' w')
        else wpL P mp X ops K r M (a.put o.dst undef) w

theorem push_sub {i : Nat} {o : Oper} {a : Act} {v : Value} {M M' : Mem} (h : ∀ q ∈ M', q ∈ M) : ∀ q ∈ push P i o a v M', q ∈ push P i o a v M := by
  unfold push
  split
  · intro q hq
    rcases List.mem_cons.1 hq with rfl | hq
    · exact List.mem_cons_self
    · exact List.mem_cons_of_mem _ (h q hq)
  · exact h

theorem wpL_sub : ∀ (r : Ord) {M M' : Mem} {a : Act} {w : World}, (∀ q ∈ M', q ∈ M) → wpL P mp X ops K r M a w → wpL P mp X ops K r M' a w
  | [], _, _, _, _, _, h => h
  | (i, S) :: r, M, M', a, w, hs, h => by
    unfold wpL at h ⊢
    split
    · rename_i ho
      rw [ho] at h
      exact wpL_sub r hs h
    · rename_i o ho
      rw [ho] at h
      dsimp only at h
      split
      · rename_i hw
        rw [if_pos hw] at h
        exact h.mono (fun w' hq q hm hS => hq q (hs q hm) hS) (fun v w' hn => wpL_sub r (push_sub hs) hn)
      · rename_i hw
        rw [if_neg hw] at h
        exact wpL_sub r hs h

/-- may x and y, of which x comes first, change places? S: what is asked again behind y. -/
def commB (P : Program) (mp : List Nat) (ops : Array Oper) (S : List Nat) (x y : Nat) : Bool := match ops[x]?, ops[y]? with
  | some ox, some oy => ox.apart ops oy && ((quietOp ox.op && quietOp oy.op) || pureOp P ox.op || (pureOp P oy.op && !mpOp mp ox) || (isLoad ox.op && isAlloc oy.op) || (isLoad ox.op && memB S x))
  | _, _ => false

theorem pure_quiet {op : Op} (h : pureOp P op = true) : quietOp op = true := by
  cases op <;> first | rfl | (cases h; done) | skip
  · rename_i t x lo hi mx
    cases mx <;> first | rfl | cases h
  · rename_i c
    obtain ⟨callee, args, ts⟩ := c
    cases callee <;> first | (cases h; done) | (rename_i b; cases b <;> first | rfl | cases h)
theorem load_kind {op : Op} (h : isLoad op = true) : quietOp op = true ∧ (∀ P, pureOp P op = false) ∧ isAlloc op = false := by
  cases op <;> first | exact ⟨rfl, fun _ => rfl, rfl⟩ | cases h
theorem alloc_kind {op : Op} (h : isAlloc op = true) : quietOp op = false ∧ (∀ P, pureOp P op = false) ∧ isLoad op = false := by
  cases op <;> first | exact ⟨rfl, fun _ => rfl, rfl⟩ | cases h
theorem quiet_alloc {op : Op} (h : quietOp op = true) : isAlloc op = false := by
  cases hh : isAlloc op with
  | false => rfl
  | true => rw [(alloc_kind hh).1] at h; cases h

/-- a quiet operation's step. -/
theorem Step.quiet {o : Oper} {S : World → Prop} {a : Act} {w : World} {next : Value → Act → World → Prop} (hq : quietOp o.op = true) (h : Step P mp X o S a w next) :
    ∃ v, (execOp a.eval o).run P w = .ok (.value v) w ∧ next v (a.put o.dst v) w ∧ (pureOp P o.op = true → ∀ w2, (execOp a.eval o).run P w2 = .ok (.value v) w2) ∧ (isLoad o.op = true → ∀ w2, Ext w w2 → (execOp a.eval o).run P w2 = .ok (.value v) w2) := by
  rcases h with ⟨v, w', h1, h2, _, h4, h5, h6, _⟩ | ⟨h0, _⟩ | ⟨h0, _⟩
  · have := h4 hq
    subst this
    exact ⟨v, h1, h2, h5, h6⟩
  · rw [hq] at h0; cases h0
  · rw [hq] at h0; cases h0

theorem Step.mkq {o : Oper} {S : World → Prop} {a : Act} {w : World} {next : Value → Act → World → Prop} (hq : quietOp o.op = true) {v : Value} (h1 : (execOp a.eval o).run P w = .ok (.value v) w) (h2 : next v (a.put o.dst v) w)
    (h3 : pureOp P o.op = true → ∀ w2, (execOp a.eval o).run P w2 = .ok (.value v) w2) (h4 : isLoad o.op = true → ∀ w2, Ext w w2 → (execOp a.eval o).run P w2 = .ok (.value v) w2) : Step P mp X o S a w next :=
  .inl ⟨v, w, h1, h2, fun h => (by rw [hq] at h; cases h), fun _ => rfl, h3, h4, fun h => (by rw [quiet_alloc hq] at h; cases h)⟩

theorem swap (hsel : Region.noSelect ops = true) {x y : Nat} {Sx Sy Sy' : List Nat} (hc : commB P mp ops Sy x y = true) (hS : ∀ j ∈ Sy', j ∈ Sy) {r : Ord} {M : Mem} {a : Act} {w : World}
    (h : wpL P mp X ops K ((x, Sx) :: (y, Sy) :: r) M a w) : wpL P mp X ops K ((y, Sy') :: (x, Sx) :: r) M a w := by
  unfold commB at hc
  cases hx : ops[x]? with
  | none => rw [hx] at hc; cases hc
  | some ox =>
    cases hy : ops[y]? with
    | none => rw [hx, hy] at hc; cases hc
    | some oy =>
      rw [hx, hy] at hc
      simp only [Bool.and_eq_true, Bool.or_eq_true] at hc
      obtain ⟨hap, hc⟩ := hc
      obtain ⟨k1, k2, k3⟩ := Oper.apart_spec hap
      have sx := Region.noSelect_spec hsel x ox
      have sy := Region.noSelect_spec hsel y oy
      have ex : ∀ (a : Act) u, execOp (a.put oy.dst u).eval ox = execOp a.eval ox := fun a u => execOp_put ox (fun cs b => sx cs b hx) a oy.dst u k3
      have ey : ∀ (a : Act) u, execOp (a.put ox.dst u).eval oy = execOp a.eval oy := fun a u => execOp_put oy (fun cs b => sy cs b hy) a ox.dst u k1
      have wx : ∀ (a : Act) u, Region.wanted ox (yielded ops (a.put oy.dst u).tmps) = Region.wanted ox (yielded ops a.tmps) := fun a u => wanted_put ox a oy.dst u k3
      have wy : ∀ (a : Act) u, Region.wanted oy (yielded ops (a.put ox.dst u).tmps) = Region.wanted oy (yielded ops a.tmps) := fun a u => wanted_put oy a ox.dst u k1
      have pc : ∀ (a : Act) u v, (a.put oy.dst u).put ox.dst v = (a.put ox.dst v).put oy.dst u := fun a u v => (Act.put_comm a v u k2).symm
      have lx : ∀ (a : Act) u v M, push P x ox (a.put oy.dst u) v M = push P x ox a v M := fun a u v M => by unfold push LP; rw [ex]
      have ly : ∀ (a : Act) u v M, push P y oy (a.put ox.dst u) v M = push P y oy a v M := fun a u v M => by unfold push LP; rw [ey]
      have pcomm : ∀ u v (M : Mem) q, q ∈ push P x ox a v (push P y oy a u M) ↔ q ∈ push P y oy a u (push P x ox a v M) := by
        intro u v M q
        unfold push
        split <;> split <;> simp only [List.mem_cons] <;> grind
      simp only [wpL, hx, hy] at h ⊢
      rcases Classical.em (Region.wanted ox (yielded ops a.tmps) = true) with hwx | hwx <;> rcases Classical.em (Region.wanted oy (yielded ops a.tmps) = true) with hwy | hwy
      case inl.inl =>
        rw [if_pos hwx] at h
        rw [if_pos hwy]
        by_cases hqx : quietOp ox.op = true
        · obtain ⟨v, r1, hn, r3, r4⟩ := Step.quiet hqx h
          rw [wy, if_pos hwy] at hn
          have good : ∀ w', (quietOp oy.op = true → w' = w) → (isAlloc oy.op = true → ∃ ob, w' = w.alloc ob) → (quietOp oy.op = false → ∀ q ∈ push P x ox a v M, q.1 ∈ Sy → q.2 w') →
              (execOp a.eval ox).run P w' = .ok (.value v) w' ∧ (isLoad ox.op = true → ∀ w2, Ext w' w2 → (execOp a.eval ox).run P w2 = .ok (.value v) w2) := by
            intro w' g1 g2 g3
            by_cases hpx : pureOp P ox.op = true
            · exact ⟨r3 hpx w', fun _ w2 _ => r3 hpx w2⟩
            · by_cases hqy : quietOp oy.op = true
              · have := g1 hqy
                subst this
                exact ⟨r1, r4⟩
              · have hqy' : quietOp oy.op = false := by simpa using hqy
                have hpy : ¬ pureOp P oy.op = true := fun hp => hqy (pure_quiet hp)
                rcases hc with (((⟨_, h2⟩ | h2) | ⟨h2, _⟩) | ⟨h2, h3⟩) | ⟨h2, h3⟩
                · exact absurd h2 hqy
                · exact absurd h2 hpx
                · exact absurd h2 hpy
                · obtain ⟨ob, rfl⟩ := g2 h3
                  exact ⟨r4 h2 _ (Ext.alloc w ob), fun _ w2 he => r4 h2 w2 ((Ext.alloc w ob).trans he)⟩
                · have hq := g3 hqy' (x, LP P ox a v) (by unfold push; rw [if_pos h2]; exact List.mem_cons_self) (memB_iff.1 h3)
                  exact ⟨hq w' (Ext.refl w'), fun _ w2 he => hq w2 he⟩
          have nxt : ∀ u w', (execOp a.eval ox).run P w' = .ok (.value v) w' → (isLoad ox.op = true → ∀ w2, Ext w' w2 → (execOp a.eval ox).run P w2 = .ok (.value v) w2) →
              wpL P mp X ops K r (push P y oy (a.put ox.dst v) u (push P x ox a v M)) ((a.put ox.dst v).put oy.dst u) w' →
              (if Region.wanted ox (yielded ops (a.put oy.dst u).tmps) = true then Step P mp X ox (fun w => ∀ q ∈ push P y oy a u M, q.1 ∈ Sx → q.2 w) (a.put oy.dst u) w' (fun v a' w' => wpL P mp X ops K r (push P x ox (a.put oy.dst u) v (push P y oy a u M)) a' w')
                else wpL P mp X ops K r (push P y oy a u M) ((a.put oy.dst u).put ox.dst undef) w') := by
            intro u w' g1 g2 g3
            rw [wx, if_pos hwx]
            refine Step.mkq hqx (v := v) (by rw [ex]; exact g1) ?_ (fun hp w2 => by rw [ex]; exact r3 hp w2) (fun hl w2 he => by rw [ex]; exact g2 hl w2 he)
            rw [lx, pc]
            rw [ly] at g3
            exact wpL_sub r (fun q hq => (pcomm u v M q).1 hq) g3
          refine Step.frame (ey a v).symm ?_
          rcases hn with ⟨u, w', q1, q2, q3, q4, q5, q6, q7⟩ | ⟨q0, q1, w', q2, q3, q4⟩ | ⟨q0, q1, f, args, w', q2, q3⟩
          · obtain ⟨g1, g2⟩ := good w' q4 q7 q3
            exact .inl ⟨u, w', q1, nxt u w' g1 g2 q2, fun hq q hm hj => q3 hq q (by unfold push; split <;> simp [hm]) (hS _ hj), q4, q5, q6, q7⟩
          · obtain ⟨g1, g2⟩ := good w' (fun h => by rw [q0] at h; cases h) (fun h => by rw [q1] at h; cases h) (fun _ => q4)
            exact .inr (.inl ⟨q0, q1, w', q2, nxt undef w' g1 g2 (by unfold push at q3 ⊢; rw [if_neg (fun h => by rw [(load_kind h).1] at q0; cases q0)] at q3 ⊢; exact q3), fun q hm hj => q4 q (by unfold push; split <;> simp [hm]) (hS _ hj)⟩)
          · refine .inr (.inr ⟨q0, q1, f, args, w', q2, q3.mono ?_⟩)
            rintro e w'' (⟨u, rfl, q4, q5⟩ | q4)
            · obtain ⟨g1, g2⟩ := good w'' (fun h => by rw [q0] at h; cases h) (fun h => by rw [q1] at h; cases h) (fun _ => q5)
              exact .inl ⟨u, rfl, nxt u w'' g1 g2 q4, fun q hm hj => q5 q (by unfold push; split <;> simp [hm]) (hS _ hj)⟩
            · exact .inr q4
        · have hpy : pureOp P oy.op = true := by
            rcases hc with (((⟨h2, _⟩ | h2) | ⟨h2, _⟩) | ⟨h2, _⟩) | ⟨h2, _⟩
            · exact absurd h2 hqx
            · exact absurd (pure_quiet h2) hqx
            · exact h2
            · exact absurd (load_kind h2).1 hqx
            · exact absurd (load_kind h2).1 hqx
          have hmx : mpOp mp ox = false := by
            rcases hc with (((⟨h2, _⟩ | h2) | ⟨_, h2⟩) | ⟨h2, _⟩) | ⟨h2, _⟩
            · exact absurd h2 hqx
            · exact absurd (pure_quiet h2) hqx
            · simpa using h2
            · exact absurd (load_kind h2).1 hqx
            · exact absurd (load_kind h2).1 hqx
          have hqy := pure_quiet hpy
          have hnl : ∀ (a : Act) u (M : Mem), push P y oy a u M = M := fun a u M => by unfold push; rw [if_neg (fun h => by rw [(load_kind h).2.1] at hpy; cases hpy)]
          have fromy : ∀ v w', Step P mp X oy (fun w => ∀ q ∈ push P x ox a v M, q.1 ∈ Sy → q.2 w) (a.put ox.dst v) w' (fun u a' w' => wpL P mp X ops K r (push P y oy (a.put ox.dst v) u (push P x ox a v M)) a' w') →
              ∃ u, (∀ w2, (execOp a.eval oy).run P w2 = .ok (.value u) w2) ∧ wpL P mp X ops K r (push P x ox a v M) ((a.put ox.dst v).put oy.dst u) w' := by
            intro v w' hs
            obtain ⟨u, _, g2, g3, _⟩ := Step.quiet hqy hs
            rw [hnl] at g2
            exact ⟨u, fun w2 => by have := g3 hpy w2; rwa [ey] at this, g2⟩
          have mk : ∀ u, (∀ w2, (execOp a.eval oy).run P w2 = .ok (.value u) w2) →
              Step P mp X ox (fun w => ∀ q ∈ M, q.1 ∈ Sx → q.2 w) (a.put oy.dst u) w (fun v a' w' => wpL P mp X ops K r (push P x ox (a.put oy.dst u) v M) a' w') →
              Step P mp X oy (fun w => ∀ q ∈ M, q.1 ∈ Sy' → q.2 w) a w (fun u a' w' => if Region.wanted ox (yielded ops a'.tmps) = true then Step P mp X ox (fun w => ∀ q ∈ push P y oy a u M, q.1 ∈ Sx → q.2 w) a' w' (fun v a'' w'' => wpL P mp X ops K r (push P x ox a' v (push P y oy a u M)) a'' w'')
                else wpL P mp X ops K r (push P y oy a u M) (a'.put ox.dst undef) w') := by
            intro u hu hs
            refine Step.mkq hqy (v := u) (hu w) ?_ (fun _ => hu) (fun hl => by rw [(load_kind hl).2.1] at hpy; cases hpy)
            rw [wx, if_pos hwx, hnl]
            exact hs
          rcases h with ⟨v, w', q1, q2, q3, q4, q5, q6, q7⟩ | ⟨q0, q1, w', q2, q3, q4⟩ | ⟨q0, q1, f, args, w', q2, q3⟩
          · rw [wy, if_pos hwy] at q2
            obtain ⟨u, hu, hk⟩ := fromy v w' q2
            refine mk u hu (.inl ⟨v, w', by rw [ex]; exact q1, by dsimp only; rw [lx, pc]; exact hk, q3, q4, fun hp => by rw [ex]; exact q5 hp, fun hl => by rw [ex]; exact q6 hl, q7⟩)
          · rw [wy, if_pos hwy] at q3
            obtain ⟨u, hu, hk⟩ := fromy undef w' q3
            refine mk u hu (.inr (.inl ⟨q0, q1, w', by rw [ex]; exact q2, by dsimp only; rw [lx, pc]; exact hk, q4⟩))
          · have q3 : Calls P f args w' (fun e w'' => ∃ v, e = .returned v ∧ _ ∧ _) := q3.mono fun e w'' h => h.elim id fun h => (by rw [hmx] at h; cases h.1)
            obtain ⟨e0, w0, fr, ⟨v0, _, hn0, _⟩, _⟩ := q3 []
            rw [wy, if_pos hwy] at hn0
            obtain ⟨u, hu, _⟩ := fromy v0 w0 hn0
            refine mk u hu (.inr (.inr ⟨q0, q1, f, args, w', by rw [ex]; exact q2, q3.mono ?_⟩))
            rintro e w'' ⟨v, rfl, hn, hs⟩
            rw [wy, if_pos hwy] at hn
            obtain ⟨u', hu', hk⟩ := fromy v w'' hn
            have : u' = u := by
              have h1 := hu w
              rw [hu' w] at h1
              cases h1
              rfl
            subst this
            exact .inl ⟨v, rfl, by dsimp only; rw [lx, pc]; exact hk, hs⟩
      case inl.inr =>
        rw [if_pos hwx] at h
        rw [if_neg hwy, wx, if_pos hwx]
        refine Step.frame (ex a undef) (h.mono (fun w' hq => hq) ?_)
        intro v w' hn
        rw [wy, if_neg hwy] at hn
        rw [lx, pc]
        exact hn
      case inr.inl =>
        rw [if_neg hwx, wy, if_pos hwy] at h
        rw [if_pos hwy]
        refine Step.frame (ey a undef).symm (h.mono (fun w' hq q hm hj => hq q hm (hS _ hj)) ?_)
        intro u w' hn
        rw [wx, if_neg hwx, pc, ← ly a undef]
        exact hn
      case inr.inr =>
        rw [if_neg hwx, wy, if_neg hwy] at h
        rw [if_neg hwy, wx, if_neg hwx, pc]
        exact h

/-- one operation is taken ahead of those that it may pass. -/
theorem bubble (hsel : Region.noSelect ops = true) {i : Nat} : ∀ (pre : Ord) {S : List Nat} {r : Ord} {M : Mem} {a : Act} {w : World}, (∀ q ∈ pre, commB P mp ops S q.1 i = true) →
    wpL P mp X ops K (pre ++ (i, S) :: r) M a w → wpL P mp X ops K ((i, S) :: pre ++ r) M a w
  | [], _, _, _, _, _, _, h => h
  | (x, Sx) :: pre, S, r, M, a, w, hc, h => by
    have hx := hc (x, Sx) List.mem_cons_self
    refine swap hsel hx (fun _ h => h) (r := pre ++ r) ?_
    have ih : ∀ M a w, wpL P mp X ops K (pre ++ (i, S) :: r) M a w → wpL P mp X ops K ((i, S) :: pre ++ r) M a w := fun M a w => bubble hsel pre (fun q hq => hc q (List.mem_cons_of_mem _ hq))
    rw [List.cons_append] at h
    simp only [wpL] at h
    have h' : wpL P mp X ops K ((x, Sx) :: (pre ++ (i, S) :: r)) M a w := by simp only [wpL]; exact h
    clear h
    generalize hl : pre ++ (i, S) :: r = l at h' ih
    have hl2 : ((i, S) :: (pre ++ r)) = ((i, S) :: pre ++ r) := rfl
    rw [hl2]
    generalize (i, S) :: pre ++ r = l2 at ih ⊢
    simp only [wpL] at h' ⊢
    split
    · rename_i ho
      rw [ho] at h'
      exact ih _ _ _ h'
    · rename_i o ho
      rw [ho] at h'
      dsimp only at h'
      split
      · rename_i hw
        rw [if_pos hw] at h'
        exact h'.mono (fun _ h => h) (fun v w' hn => ih _ _ _ hn)
      · rename_i hw
        rw [if_neg hw] at h'
        exact ih _ _ _ h'

/-- x stands before y. -/
def Bf (l : List Nat) (x y : Nat) : Prop := ∃ l1 l2, l = l1 ++ x :: l2 ∧ y ∈ l2

/-- from one order to another. -/
theorem reorder (hsel : Region.noSelect ops = true) : ∀ (l : List Nat) (r : Ord) {M : Mem} {a : Act} {w : World}, l.Nodup → (r.map (·.1)).Nodup → (∀ i, i ∈ l ↔ i ∈ r.map (·.1)) →
    (∀ x y S, (y, S) ∈ r → Bf (r.map (·.1)) x y → Bf l y x → commB P mp ops S x y = true) → wpL P mp X ops K r M a w → wpL P mp X ops K (l.map (fun i => (i, []))) M a w
  | [], r, M, a, w, _, _, hm, _, h => by
    cases r with
    | nil => exact h
    | cons q r => exact absurd ((hm q.1).2 (by simp)) (by simp)
  | i :: l, r, M, a, w, hl, hr, hm, hc, h => by
    have hi : i ∈ r.map (·.1) := (hm i).1 List.mem_cons_self
    obtain ⟨⟨j, S⟩, hq, hji⟩ := List.mem_map.1 hi
    dsimp only at hji
    subst hji
    obtain ⟨pre, post, rfl⟩ := List.append_of_mem hq
    rw [List.map_append, List.map_cons] at hr hm
    have hnp : ∀ q ∈ pre, q.1 ≠ j ∧ q.1 ∈ l := by
      intro q hqp
      have h1 : q.1 ∈ pre.map (·.1) := List.mem_map.2 ⟨q, hqp, rfl⟩
      have h2 : q.1 ≠ j := by
        intro e
        have := List.nodup_append.1 hr
        exact this.2.2 _ h1 _ (List.mem_cons_self) e
      have h3 := (hm q.1).2 (List.mem_append_left _ h1)
      exact ⟨h2, (List.mem_cons.1 h3).resolve_left h2⟩
    have hb := bubble hsel pre (fun q hqp => hc q.1 j S (by simp) (by
        obtain ⟨p1, p2, hp⟩ := List.append_of_mem hqp
        refine ⟨p1.map (·.1), p2.map (·.1) ++ j :: post.map (·.1), ?_, by simp⟩
        rw [hp]; simp) ⟨[], l, rfl, (hnp q hqp).2⟩) h
    have hnd : ((pre ++ post).map (·.1)).Nodup := by
      rw [List.map_append]
      exact hr.sublist (List.Sublist.append_left (List.sublist_cons_self _ _) _)
    have hj : j ∉ (pre ++ post).map (·.1) := by
      rw [List.map_append]
      intro hh
      rcases List.mem_append.1 hh with hh | hh
      · obtain ⟨q, h1, h2⟩ := List.mem_map.1 hh
        exact (hnp q h1).1 h2
      · have := (List.nodup_append.1 hr).2.1
        exact (List.nodup_cons.1 this).1 hh
    have hm' : ∀ i, i ∈ l ↔ i ∈ (pre ++ post).map (·.1) := by
      intro i
      rw [List.map_append]
      constructor
      · intro hil
        have h1 := (hm i).1 (List.mem_cons_of_mem _ hil)
        have h2 : i ≠ j := fun e => (List.nodup_cons.1 hl).1 (e ▸ hil)
        rcases List.mem_append.1 h1 with h1 | h1
        · exact List.mem_append_left _ h1
        · exact List.mem_append_right _ ((List.mem_cons.1 h1).resolve_left h2)
      · intro hil
        have h1 : i ∈ pre.map (·.1) ++ j :: post.map (·.1) := by
          rcases List.mem_append.1 hil with h1 | h1
          · exact List.mem_append_left _ h1
          · exact List.mem_append_right _ (List.mem_cons_of_mem _ h1)
        have h2 := (hm i).2 h1
        exact (List.mem_cons.1 h2).resolve_left (fun e => hj (by rw [List.map_append, ← e]; exact hil))
    have hc' : ∀ x y S, (y, S) ∈ pre ++ post → Bf ((pre ++ post).map (·.1)) x y → Bf l y x → commB P mp ops S x y = true := by
      rintro x y S' hy ⟨l1, l2, he, hx⟩ ⟨m1, m2, hme, hmx⟩
      refine hc x y S' (by rcases List.mem_append.1 hy with h | h <;> simp [h]) ?_ ⟨j :: m1, m2, by rw [hme]; rfl, hmx⟩
      rw [List.map_append, List.map_cons]
      rw [List.map_append] at he
      rcases List.append_eq_append_iff.1 he with ⟨c, h1, h2⟩ | ⟨c, h1, h2⟩
      · -- l1 = pre ++ c
        refine ⟨pre.map (·.1) ++ j :: c, l2, ?_, hx⟩
        rw [h2]; simp
      · -- pre = l1 ++ c
        cases c with
        | nil =>
          simp only [List.nil_append] at h2
          refine ⟨pre.map (·.1) ++ [j], l2, ?_, hx⟩
          rw [← h2]; simp
        | cons z c =>
          simp only [List.cons_append, List.cons.injEq] at h2
          obtain ⟨rfl, h2⟩ := h2
          refine ⟨l1, c ++ j :: post.map (·.1), ?_, ?_⟩
          · rw [h1]; simp
          · rw [h2] at hx
            rcases List.mem_append.1 hx with h | h
            · exact List.mem_append_left _ h
            · exact List.mem_append_right _ (List.mem_cons_of_mem _ h)
    rw [List.cons_append] at hb
    rw [List.map_cons]
    have ih : ∀ M a w, wpL P mp X ops K (pre ++ post) M a w → wpL P mp X ops K (l.map (fun i => (i, []))) M a w := fun M a w => reorder hsel l (pre ++ post) (List.nodup_cons.1 hl).2 hnd hm' hc'
    generalize pre ++ post = r1 at hb ih
    generalize l.map (fun i => ((i, []) : Nat × List Nat)) = r2 at ih ⊢
    simp only [wpL] at hb ⊢
    split
    · rename_i ho
      rw [ho] at hb
      exact ih _ _ _ hb
    · rename_i o ho
      rw [ho] at hb
      dsimp only at hb
      split
      · rename_i hw
        rw [if_pos hw] at hb
        exact hb.mono (fun _ _ q _ hq => by cases hq) (fun v w' hn => ih _ _ _ hn)
      · rename_i hw
        rw [if_neg hw] at hb
        exact ih _ _ _ hb

theorem put_defers (a : Act) (d : Option Tmp) (v : Value) : (a.put d v).defers = a.defers := by cases d <;> rfl
theorem wpOps_of {D : List Deferred} {QX : Exit → Act → World → Prop} (hX : ∀ ch a w, a.defers = D → X ch w → QX (.panic ch) a w) (hK : ∀ a w, K a w → QX .normal a w) : ∀ (l : List Nat) {M : Mem} {a : Act} {w : World}, a.defers = D → wpL P mp X ops K (l.map (fun i => (i, []))) M a w → wpOps P ops QX l a w
  | [], M, a, w, _, h => hK a w h
  | i :: l, M, a, w, hd, h => by
    rw [List.map_cons] at h
    simp only [wpL] at h
    unfold wpOps
    cases ho : ops[i]? with
    | none => rw [ho] at h; exact wpOps_of hX hK l hd h
    | some o =>
      rw [ho] at h
      dsimp only at h ⊢
      split
      · rename_i hw
        rw [if_pos hw] at h
        refine .inl ?_
        unfold Oper.wp
        rcases h with ⟨v, w', h1, h2, _⟩ | ⟨_, _, w', h1, h2, _⟩ | ⟨_, _, f, args, w', h1, h2⟩
        · rw [h1]; exact wpOps_of hX hK l ((put_defers _ _ _).trans hd) h2
        · rw [h1]; exact wpOps_of hX hK l ((put_defers _ _ _).trans hd) h2
        · rw [h1]
          refine Calls.mono h2 ?_
          rintro e w'' (⟨v, rfl, h3, _⟩ | ⟨_, ch, rfl, h3⟩)
          · exact wpOps_of hX hK l ((put_defers _ _ _).trans hd) h3
          · exact hX ch a w'' hd h3
      · rename_i hw
        rw [if_neg hw] at h
        exact wpOps_of hX hK l ((put_defers _ _ _).trans hd) h

/-! ### all orders that the edges allow -/
def ins (x : Nat) (l : List Nat) : List Nat := bif memB l x then l else x :: l
def insAll : List Nat → List Nat → List Nat
  | [], s => s
  | x :: r, s => ins x (insAll r s)
theorem mem_ins {x y : Nat} {l : List Nat} : y ∈ ins x l ↔ y = x ∨ y ∈ l := by
  unfold ins
  cases h : memB l x with
  | true => have := memB_iff.1 h; simp; intro e; rw [e]; exact this
  | false => simp
theorem mem_insAll {y : Nat} : ∀ {l s : List Nat}, y ∈ insAll l s ↔ y ∈ l ∨ y ∈ s
  | [], s => by simp [insAll]
  | x :: r, s => by simp only [insAll, mem_ins, mem_insAll, List.mem_cons, or_assoc]

def nthL : List (List Nat) → Nat → List Nat
  | [], _ => []
  | x :: _, 0 => x
  | _ :: r, n + 1 => nthL r n
/-- whom an operation waits for, those ahead of it with theirs. -/
def depsOf (acc : List (List Nat)) : List Edge → List Nat
  | [] => []
  | e :: r => bif Region.binds .any e then ins e.on (insAll (nthL acc e.on) (depsOf acc r)) else depsOf acc r
def closure : List Oper → List (List Nat) → List (List Nat)
  | [], acc => acc
  | o :: r, acc => closure r (acc ++ [depsOf acc o.after.toList])

theorem mem_depsOf {acc : List (List Nat)} {j : Nat} : ∀ {es : List Edge}, j ∈ depsOf acc es → ∃ e ∈ es, Region.binds .any e = true ∧ (e.on = j ∨ j ∈ nthL acc e.on)
  | [], h => by simp [depsOf] at h
  | e :: r, h => by
    simp only [depsOf] at h
    cases hb : Region.binds .any e with
    | false =>
      rw [hb] at h
      obtain ⟨e', h1, h2⟩ := mem_depsOf h
      exact ⟨e', List.mem_cons_of_mem _ h1, h2⟩
    | true =>
      rw [hb, cond_true, mem_ins, mem_insAll] at h
      rcases h with h | h | h
      · exact ⟨e, List.mem_cons_self, hb, .inl h.symm⟩
      · exact ⟨e, List.mem_cons_self, hb, .inr h⟩
      · obtain ⟨e', h1, h2⟩ := mem_depsOf h
        exact ⟨e', List.mem_cons_of_mem _ h1, h2⟩

theorem nthL_append_lt : ∀ (a b : List (List Nat)) (i : Nat), i < a.length → nthL (a ++ b) i = nthL a i
  | [], _, _, h => by simp at h
  | x :: a, b, 0, _ => rfl
  | x :: a, b, i + 1, h => nthL_append_lt a b i (by simpa using h)
theorem nthL_append_len : ∀ (a : List (List Nat)) (x : List Nat), nthL (a ++ [x]) a.length = x
  | [], _ => rfl
  | _ :: a, x => nthL_append_len a x
theorem nthL_out : ∀ (a : List (List Nat)) (i : Nat), a.length ≤ i → nthL a i = []
  | [], _, _ => rfl
  | _ :: a, 0, h => by simp at h
  | _ :: a, i + 1, h => nthL_out a i (by simpa using h)

/-- what the closure says: who is waited for is waited for directly, or by one that is. -/
theorem closure_spec : ∀ (l pre : List Oper) (acc : List (List Nat)), acc.length = pre.length →
    (∀ i j, j ∈ nthL acc i → ∃ o e, (pre ++ l)[i]? = some o ∧ e ∈ o.after.toList ∧ Region.binds .any e = true ∧ (e.on = j ∨ j ∈ nthL acc e.on)) →
    ∀ i j, j ∈ nthL (closure l acc) i → ∃ o e, (pre ++ l)[i]? = some o ∧ e ∈ o.after.toList ∧ Region.binds .any e = true ∧ (e.on = j ∨ j ∈ nthL (closure l acc) e.on)
  | [], pre, acc, hl, h => by simpa [closure] using h
  | o :: l, pre, acc, hl, h => by
    have hkeep : ∀ i j, j ∈ nthL acc i → j ∈ nthL (acc ++ [depsOf acc o.after.toList]) i := by
      intro i j hj
      by_cases hi : i < acc.length
      · rw [nthL_append_lt _ _ _ hi]; exact hj
      · rw [nthL_out acc i (by omega)] at hj; simp at hj
    have := closure_spec l (pre ++ [o]) (acc ++ [depsOf acc o.after.toList]) (by simp [hl]) (by
      intro i j hj
      by_cases hi : i < acc.length
      · rw [nthL_append_lt _ _ _ hi] at hj
        obtain ⟨o', e, h1, h2, h3, h4⟩ := h i j hj
        exact ⟨o', e, by simpa using h1, h2, h3, h4.imp id (hkeep _ _)⟩
      · by_cases hi2 : i = acc.length
        · subst hi2
          rw [nthL_append_len] at hj
          obtain ⟨e, h1, h2, h3⟩ := mem_depsOf hj
          exact ⟨o, e, by simp [hl], h1, h2, h3.imp id (hkeep _ _)⟩
        · rw [nthL_out _ _ (by simp; omega)] at hj
          simp at hj)
    simpa [closure] using this

def backB (ops : List Oper) : Nat → Bool
  | 0 => true
  | i + 1 => (match ops[i]? with
    | none => true
    | some o => o.after.toList.all fun e => !Region.binds .any e || Nat.blt e.on i) && backB ops i
theorem backB_spec {ops : List Oper} : ∀ {m : Nat}, backB ops m = true → ∀ i o, i < m → ops[i]? = some o → ∀ e ∈ o.after.toList, Region.binds .any e = true → e.on < i
  | 0, _, i, _, h, _, _, _, _ => by omega
  | m + 1, hb, i, o, hi, ho, e, he, hbd => by
    simp only [backB, Bool.and_eq_true] at hb
    by_cases him : i = m
    · subst him
      have h1 := hb.1
      rw [ho] at h1
      have h2 := List.all_eq_true.1 h1 e he
      simp only [hbd, Bool.not_true, Bool.false_or] at h2
      exact Nat.le_of_ble_eq_true h2
    · exact backB_spec hb.2 i o (by omega) ho e he hbd

/-- an order as the machine draws it. -/
structure Lin (ops : Array Oper) (l : List Nat) : Prop where
  nodup : l.Nodup
  all : ∀ i, i ∈ l ↔ i < ops.size
  resp : ∀ x y, Bf l x y → y ∉ nthL (closure ops.toList []) x

theorem go_lin (hback : backB ops.toList ops.size = true) : ∀ (fuel t : Nat) (listed : Array Bool), listed.size = ops.size →
    ((List.range ops.size).filter (fun i => !listed.getD i true)).length ≤ fuel →
    (∀ i o, ops[i]? = some o → listed.getD i false = true → ∀ e ∈ o.after.toList, Region.binds .any e = true → listed.getD e.on false = true) →
    (Region.linearise.go .any ops fuel t listed []).Nodup ∧ (∀ i, i ∈ Region.linearise.go .any ops fuel t listed [] ↔ i < ops.size ∧ listed.getD i true = false) ∧
      (∀ x y, Bf (Region.linearise.go .any ops fuel t listed []) x y → y ∉ nthL (closure ops.toList []) x) := by
  have hcl := closure_spec ops.toList [] [] rfl (by intro i j h; simp [nthL] at h)
  simp only [List.nil_append] at hcl
  intro fuel
  induction fuel with
  | zero =>
    intro t listed hsz hlen _
    have h0 : (List.range ops.size).filter (fun i => !listed.getD i true) = [] := List.length_eq_zero_iff.1 (by omega)
    simp only [Region.linearise.go, List.reverse_nil]
    refine ⟨by simp, fun i => ⟨fun h => by simp at h, fun ⟨h1, h2⟩ => ?_⟩, ?_⟩
    · have : i ∈ (List.range ops.size).filter (fun i => !listed.getD i true) := List.mem_filter.2 ⟨List.mem_range.2 h1, by simp [h2]⟩
      rw [h0] at this; exact this
    · rintro x y ⟨l1, l2, h, _⟩; simp at h
  | succ fuel ih =>
    intro t listed hsz hlen hclo
    simp only [Region.linearise.go]
    have hr : ∀ i, i ∈ Region.ready .any ops listed ↔ i < ops.size ∧ listed.getD i true = false ∧ ∃ o, ops[i]? = some o ∧ ∀ e ∈ o.after.toList, Region.binds .any e = true → listed.getD e.on false = true := by
      intro i
      unfold Region.ready
      rw [List.mem_filter, List.mem_range]
      simp only [Bool.and_eq_true, Bool.not_eq_true']
      constructor
      · rintro ⟨h1, h2, h3⟩
        refine ⟨h1, h2, ops[i], by simp [h1], ?_⟩
        simp only [h1, Array.getElem?_eq_getElem, Option.map_some, Option.getD_some] at h3
        intro e he hb
        have := Array.all_eq_true_iff_forall_mem.1 h3 e (by simpa using he)
        simpa [hb] using this
      · rintro ⟨h1, h2, o, ho, h3⟩
        refine ⟨h1, h2, ?_⟩
        simp only [ho, Option.map_some, Option.getD_some]
        refine Array.all_eq_true_iff_forall_mem.2 fun e he => ?_
        by_cases hb : Region.binds .any e = true
        · simp [h3 e (by simpa using he) hb]
        · simp [hb]
    have gd : ∀ i, i < ops.size → (listed.getD i true = false ↔ listed.getD i false = false) := by
      intro i hi
      have : i < listed.size := by omega
      simp [this]
    have hex : ∀ i, i < ops.size → listed.getD i true = false → ∃ k, k ∈ Region.ready .any ops listed := by
      intro i
      induction i using Nat.strongRecOn with
      | _ i hind =>
        intro h1 h2
        by_cases hall : ∀ e ∈ ops[i].after.toList, Region.binds .any e = true → listed.getD e.on false = true
        · exact ⟨i, (hr i).2 ⟨h1, h2, ops[i], by simp [h1], hall⟩⟩
        · simp only [Classical.not_forall] at hall
          obtain ⟨e, he, hb, hn⟩ := hall
          have hlt := backB_spec hback i ops[i] h1 (by simp [h1]) e he hb
          exact hind e.on hlt (by omega) ((gd e.on (by omega)).2 (by simpa using hn))
    change (match (Region.ready .any ops listed)[t % (Region.ready .any ops listed).length]? with
      | some i => Region.linearise.go .any ops fuel (t / (Region.ready .any ops listed).length) (listed.setIfInBounds i true) [i]
      | none => [].reverse).Nodup ∧ (∀ i, i ∈ (match (Region.ready .any ops listed)[t % (Region.ready .any ops listed).length]? with
      | some i => Region.linearise.go .any ops fuel (t / (Region.ready .any ops listed).length) (listed.setIfInBounds i true) [i]
      | none => [].reverse) ↔ i < ops.size ∧ listed.getD i true = false) ∧ (∀ x y, Bf (match (Region.ready .any ops listed)[t % (Region.ready .any ops listed).length]? with
      | some i => Region.linearise.go .any ops fuel (t / (Region.ready .any ops listed).length) (listed.setIfInBounds i true) [i]
      | none => [].reverse) x y → y ∉ nthL (closure ops.toList []) x)
    cases hi : (Region.ready .any ops listed)[t % (Region.ready .any ops listed).length]? with
    | none =>
      have hnil : Region.ready .any ops listed = [] := by
        cases hrr : Region.ready .any ops listed with
        | nil => rfl
        | cons x xs =>
          rw [hrr] at hi
          have hlt : t % (x :: xs).length < (x :: xs).length := Nat.mod_lt _ (by simp)
          have := List.getElem?_eq_none_iff.1 hi
          omega
      refine ⟨by simp, fun i => ⟨fun h => by simp at h, fun ⟨h1, h2⟩ => ?_⟩, ?_⟩
      · obtain ⟨k, hk⟩ := hex i h1 h2
        rw [hnil] at hk; cases hk
      · rintro x y ⟨l1, l2, h, _⟩; simp at h
    | some i =>
      have him := List.mem_of_getElem? hi
      obtain ⟨h1, h2, o, ho, h3⟩ := (hr i).1 him
      dsimp only
      rw [linearise_go_acc, List.reverse_singleton, List.singleton_append]
      have hset : ∀ k (d : Bool), (listed.setIfInBounds i true).getD k d = if k = i then true else listed.getD k d := by
        intro k d
        by_cases hk : k = i
        · subst hk
          have : k < listed.size := by omega
          simp [this]
        · rw [if_neg hk]
          simp [Array.getElem?_setIfInBounds_ne (fun e => hk e.symm)]
      obtain ⟨g1, g2, g3⟩ := ih (t / (Region.ready .any ops listed).length) (listed.setIfInBounds i true) (by simp [hsz]) (by
          have hsub : (List.range ops.size).filter (fun k => !(listed.setIfInBounds i true).getD k true) = ((List.range ops.size).filter (fun k => !listed.getD k true)).erase i := by
            rw [List.Nodup.erase_eq_filter (List.nodup_range.filter _), List.filter_filter]
            apply List.filter_congr
            intro k _
            rw [hset]
            by_cases hk : k = i <;> simp [hk]
          rw [hsub, List.length_erase_of_mem (List.mem_filter.2 ⟨List.mem_range.2 h1, by simp [h2]⟩)]
          omega) (by
          intro k ok hok hl e he hb
          rw [hset] at hl ⊢
          by_cases hk : k = i
          · subst hk
            rw [ho] at hok
            cases hok
            split
            · rfl
            · exact h3 e he hb
          · rw [if_neg hk] at hl
            split
            · rfl
            · exact hclo k ok hok hl e he hb)
      refine ⟨List.nodup_cons.2 ⟨fun h => ?_, g1⟩, fun k => ?_, ?_⟩
      · have := ((g2 i).1 h).2
        rw [hset, if_pos rfl] at this
        cases this
      · rw [List.mem_cons, g2, hset]
        by_cases hk : k = i
        · subst hk; simp [h1, h2]
        · simp [hk]
      · rintro x y ⟨l1, l2, he, hy⟩
        cases l1 with
        | cons z l1 =>
          simp only [List.cons_append, List.cons.injEq] at he
          exact g3 x y ⟨l1, l2, he.2, hy⟩
        | nil =>
          simp only [List.nil_append, List.cons.injEq] at he
          obtain ⟨rfl, rfl⟩ := he
          have hyl : listed.getD y true = false := by
            have := ((g2 y).1 hy).2
            rw [hset] at this
            split at this
            · cases this
            · exact this
          have hylt := ((g2 y).1 hy).1
          -- whom i waits for is listed
          have key : ∀ m k, k ≤ m → (k = i ∨ listed.getD k false = true) → ∀ j, j ∈ nthL (closure ops.toList []) k → k < ops.size → listed.getD j false = true := by
            intro m
            induction m with
            | zero =>
              intro k hk hkl j hj hks
              obtain ⟨o', e, e1, e2, e3, e4⟩ := hcl k j hj
              have := backB_spec hback k o' hks e1 e e2 e3
              omega
            | succ m ihm =>
              intro k hk hkl j hj hks
              obtain ⟨o', e, e1, e2, e3, e4⟩ := hcl k j hj
              have hlt := backB_spec hback k o' hks e1 e e2 e3
              have hel : listed.getD e.on false = true := by
                rcases hkl with rfl | hkl
                · have : o' = o := by
                    have e1' : ops[k]? = some o' := by simpa using e1
                    rw [ho] at e1'
                    cases e1'
                    rfl
                  subst this
                  exact h3 e e2 e3
                · exact hclo k o' (by simpa using e1) hkl e e2 e3
              rcases e4 with rfl | e4
              · exact hel
              · exact ihm e.on (by omega) (.inr hel) j e4 (by omega)
          intro hin
          have := key i i (Nat.le_refl _) (.inl rfl) y hin h1
          rw [(gd y hylt).1 hyl] at this
          cases this

theorem lin_of (hback : backB ops.toList ops.size = true) (t : Nat) : Lin ops (Region.linearise .any ops t) := by
  have hrep : ∀ (i : Nat) (d : Bool), (Array.replicate ops.size false).getD i d = if i < ops.size then false else d := by
    intro i d
    by_cases h : i < ops.size <;> simp [h]
  obtain ⟨h1, h2, h3⟩ := go_lin hback ops.size t (Array.replicate ops.size false) (by simp) (by
      refine Nat.le_trans (List.length_filter_le _ _) (by simp)) (by
      intro i o ho hl
      rw [hrep] at hl
      split at hl <;> cases hl)
  refine ⟨h1, fun i => ?_, h3⟩
  unfold Region.linearise
  rw [h2, hrep]
  by_cases h : i < ops.size <;> simp [h]

/-! the check of a region's orders -/
def bfB : List Nat → Nat → Nat → Bool
  | [], _, _ => false
  | z :: l, x, y => bif Nat.beq z x then memB l y else bfB l x y
/-- whatever order the pairs u have: one of the orders rs has it, or there is none such. -/
def coverB (clo : List (List Nat)) (rs : List Ord) : List (Nat × Nat) → List (Nat × Nat) → Bool
  | ch, [] => ch.any (fun p => ch.any (fun q => Nat.beq q.2 p.1 && (Nat.beq p.2 q.1 || memB (nthL clo q.1) p.2))) || rs.any (fun r => ch.all (fun p => bfB (r.map (·.1)) p.1 p.2))
  | ch, (x, y) :: u => coverB clo rs ((x, y) :: ch) u && coverB clo rs ((y, x) :: ch) u
def pairsB (P : Program) (mp : List Nat) (ops : Array Oper) (clo : List (List Nat)) (u : List (Nat × Nat)) : Ord → Bool
  | [] => true
  | (x, _) :: r => r.all (fun q => commB P mp ops q.2 x q.1 || memB (nthL clo q.1) x || u.any (fun p => (Nat.beq p.1 x && Nat.beq p.2 q.1) || (Nat.beq p.1 q.1 && Nat.beq p.2 x))) && pairsB P mp ops clo u r
def nodupB : List Nat → Bool
  | [] => true
  | x :: l => !memB l x && nodupB l
def ordersB (P : Program) (mp : List Nat) (ops : Array Oper) (u : List (Nat × Nat)) (rs : List Ord) : Bool :=
  Region.noSelect ops && backB ops.toList ops.size && coverB (closure ops.toList []) rs [] u && u.all (fun p => Nat.blt p.1 ops.size && Nat.blt p.2 ops.size && !Nat.beq p.1 p.2) &&
    rs.all (fun r => pairsB P mp ops (closure ops.toList []) u r && nodupB (r.map (·.1)) && Nat.beq r.length ops.size && r.all (fun q => Nat.blt q.1 ops.size))

theorem Bf.lt {l : List Nat} (hl : l.Nodup) {x y : Nat} (h : Bf l x y) : l.idxOf x < l.idxOf y := by
  obtain ⟨l1, l2, rfl, hy⟩ := h
  have hx1 : x ∉ l1 := fun h => (List.nodup_append.1 hl).2.2 x h x List.mem_cons_self rfl
  have hy1 : y ∉ l1 := fun h => (List.nodup_append.1 hl).2.2 y h y (List.mem_cons_of_mem _ hy) rfl
  have hxy : x ≠ y := fun e => (List.nodup_cons.1 (List.nodup_append.1 hl).2.1).1 (e ▸ hy)
  rw [List.idxOf_append, if_neg hx1, List.idxOf_append, if_neg hy1, List.idxOf_cons, List.idxOf_cons]
  have h1 : (x == y) = false := by simpa using hxy
  simp [h1]
theorem Bf.mem {l : List Nat} {x y : Nat} (h : Bf l x y) : x ∈ l ∧ y ∈ l := by
  obtain ⟨l1, l2, rfl, hy⟩ := h
  simp [hy]
theorem Bf.mk {l : List Nat} (hl : l.Nodup) {x y : Nat} (hx : x ∈ l) (hy : y ∈ l) (h : l.idxOf x < l.idxOf y) : Bf l x y := by
  obtain ⟨l1, l2, rfl⟩ := List.append_of_mem hx
  have hx1 : x ∉ l1 := fun h => (List.nodup_append.1 hl).2.2 x h x List.mem_cons_self rfl
  refine ⟨l1, l2, rfl, ?_⟩
  rcases List.mem_append.1 hy with hy1 | hy1
  · rw [List.idxOf_append, if_neg hx1, List.idxOf_append, if_pos hy1] at h
    have := List.idxOf_lt_length_of_mem hy1
    omega
  · rcases List.mem_cons.1 hy1 with rfl | hy2
    · omega
    · exact hy2
theorem Bf.total {l : List Nat} (hl : l.Nodup) {x y : Nat} (hx : x ∈ l) (hy : y ∈ l) (hne : x ≠ y) : Bf l x y ∨ Bf l y x := by
  rcases Nat.lt_trichotomy (l.idxOf x) (l.idxOf y) with h | h | h
  · exact .inl (Bf.mk hl hx hy h)
  · have e1 := List.getElem_idxOf (List.idxOf_lt_length_of_mem hx)
    have e2 := List.getElem_idxOf (List.idxOf_lt_length_of_mem hy)
    exact absurd (by rw [← e1, ← e2]; congr 1) hne
  · exact .inr (Bf.mk hl hy hx h)
theorem bfB_bf {l : List Nat} {x y : Nat} (h : bfB l x y = true) : Bf l x y := by
  induction l with
  | nil => cases h
  | cons z l ih =>
    simp only [bfB] at h
    cases hb : Nat.beq z x with
    | true => rw [hb] at h; exact ⟨[], l, by rw [nbeq.1 hb]; rfl, memB_iff.1 h⟩
    | false =>
      rw [hb] at h
      obtain ⟨l1, l2, rfl, hy⟩ := ih h
      exact ⟨z :: l1, l2, rfl, hy⟩

theorem nodupB_nd {l : List Nat} (h : nodupB l = true) : l.Nodup := by
  induction l with
  | nil => simp
  | cons x l ih =>
    simp only [nodupB, Bool.and_eq_true, Bool.not_eq_true'] at h
    exact List.nodup_cons.2 ⟨fun hm => (by have := memB_iff.2 hm; rw [this] at h; exact absurd h.1 (by simp)), ih h.2⟩

theorem cover_sound {l : List Nat} (hl : l.Nodup) {clo : List (List Nat)} (hresp : ∀ x y, Bf l x y → y ∉ nthL clo x) {rs : List Ord} : ∀ (u ch : List (Nat × Nat)), coverB clo rs ch u = true →
    (∀ p ∈ ch, Bf l p.1 p.2) → (∀ p ∈ u, p.1 ∈ l ∧ p.2 ∈ l ∧ p.1 ≠ p.2) →
    ∃ r ∈ rs, (∀ p ∈ ch, Bf (r.map (·.1)) p.1 p.2) ∧ ∀ p ∈ u, (Bf l p.1 p.2 ∧ Bf (r.map (·.1)) p.1 p.2) ∨ (Bf l p.2 p.1 ∧ Bf (r.map (·.1)) p.2 p.1)
  | [], ch, h, hch, _ => by
    simp only [coverB, Bool.or_eq_true] at h
    rcases h with h | h
    · exfalso
      obtain ⟨p, hp, h⟩ := List.any_eq_true.1 h
      obtain ⟨q, hq, h⟩ := List.any_eq_true.1 h
      simp only [Bool.and_eq_true, Bool.or_eq_true] at h
      obtain ⟨h1, h2⟩ := h
      have e1 := nbeq.1 h1
      have a1 := (hch p hp).lt hl
      have a2 := (hch q hq).lt hl
      rw [e1] at a2
      rcases h2 with h2 | h2
      · rw [nbeq.1 h2] at a1; omega
      · exact hresp q.1 p.2 (Bf.mk hl (hch q hq).mem.1 (hch p hp).mem.2 (by omega)) (memB_iff.1 h2)
    · obtain ⟨r, hr, h⟩ := List.any_eq_true.1 h
      exact ⟨r, hr, fun p hp => bfB_bf (List.all_eq_true.1 h p hp), fun p hp => by cases hp⟩
  | (x, y) :: u, ch, h, hch, hu => by
    simp only [coverB, Bool.and_eq_true] at h
    obtain ⟨hx, hy, hne⟩ := hu (x, y) List.mem_cons_self
    rcases Bf.total hl hx hy hne with hb | hb
    · obtain ⟨r, hr, h1, h2⟩ := cover_sound hl hresp u ((x, y) :: ch) h.1 (fun p hp => by
        rcases List.mem_cons.1 hp with rfl | hp
        · exact hb
        · exact hch p hp) (fun p hp => hu p (List.mem_cons_of_mem _ hp))
      refine ⟨r, hr, fun p hp => h1 p (List.mem_cons_of_mem _ hp), fun p hp => ?_⟩
      rcases List.mem_cons.1 hp with rfl | hp
      · exact .inl ⟨hb, h1 (x, y) List.mem_cons_self⟩
      · exact h2 p hp
    · obtain ⟨r, hr, h1, h2⟩ := cover_sound hl hresp u ((y, x) :: ch) h.2 (fun p hp => by
        rcases List.mem_cons.1 hp with rfl | hp
        · exact hb
        · exact hch p hp) (fun p hp => hu p (List.mem_cons_of_mem _ hp))
      refine ⟨r, hr, fun p hp => h1 p (List.mem_cons_of_mem _ hp), fun p hp => ?_⟩
      rcases List.mem_cons.1 hp with rfl | hp
      · exact .inr ⟨hb, h1 (y, x) List.mem_cons_self⟩
      · exact h2 p hp

theorem pairs_sound {clo : List (List Nat)} {u : List (Nat × Nat)} : ∀ {r : Ord}, (r.map (·.1)).Nodup → pairsB P mp ops clo u r = true → ∀ x y S, (y, S) ∈ r → Bf (r.map (·.1)) x y →
    commB P mp ops S x y = true ∨ x ∈ nthL clo y ∨ ∃ p ∈ u, (p.1 = x ∧ p.2 = y) ∨ (p.1 = y ∧ p.2 = x)
  | [], _, _, x, y, S, h, _ => by cases h
  | (z, Sz) :: r, hnd, h, x, y, S, hy, hb => by
    simp only [pairsB, Bool.and_eq_true] at h
    have hnd' := List.nodup_cons.1 hnd
    obtain ⟨l1, l2, he, hyl⟩ := hb
    cases l1 with
    | nil =>
      simp only [List.map_cons, List.nil_append, List.cons.injEq] at he
      obtain ⟨rfl, rfl⟩ := he
      have hyr : (y, S) ∈ r := by
        rcases List.mem_cons.1 hy with h | h
        · cases h
          exact absurd hyl hnd'.1
        · exact h
      have := List.all_eq_true.1 h.1 (y, S) hyr
      simp only [Bool.or_eq_true] at this
      rcases this with (h1 | h1) | h1
      · exact .inl h1
      · exact .inr (.inl (memB_iff.1 h1))
      · obtain ⟨p, hp, h2⟩ := List.any_eq_true.1 h1
        simp only [Bool.or_eq_true, Bool.and_eq_true] at h2
        exact .inr (.inr ⟨p, hp, h2.imp (fun h => ⟨nbeq.1 h.1, nbeq.1 h.2⟩) (fun h => ⟨nbeq.1 h.1, nbeq.1 h.2⟩)⟩)
    | cons k l1 =>
      simp only [List.map_cons, List.cons_append, List.cons.injEq] at he
      obtain ⟨rfl, he⟩ := he
      have hyr : (y, S) ∈ r := by
        rcases List.mem_cons.1 hy with h | h
        · cases h
          refine absurd ?_ hnd'.1
          show _ ∈ r.map (·.1)
          rw [he]; simp [hyl]
        · exact h
      exact pairs_sound hnd'.2 h.2 x y S hyr ⟨l1, l2, he, hyl⟩

theorem nodup_len : ∀ (n : Nat) (l : List Nat), l.Nodup → (∀ x ∈ l, x < n) → l.length ≤ n
  | 0, l, _, h => by
    cases l with
    | nil => simp
    | cons x l => exact absurd (h x List.mem_cons_self) (by omega)
  | n + 1, l, hl, h => by
    by_cases hn : n ∈ l
    · have h1 := nodup_len n (l.erase n) (hl.erase n) (fun x hx => by
        have h2 := h x (List.mem_of_mem_erase hx)
        have h3 : x ≠ n := fun e => by rw [e] at hx; exact (List.Nodup.not_mem_erase hl) hx
        omega)
      rw [List.length_erase_of_mem hn] at h1
      omega
    · have := nodup_len n l hl (fun x hx => by
        have h2 := h x hx
        have h3 : x ≠ n := fun e => hn (e ▸ hx)
        omega)
      omega

/-- A REGION THAT DRAWS: what holds of the listed orders holds of all. -/
theorem orders_sound (hmix : P.follows .mixedOrders = true) {id : Nat} {u : List (Nat × Nat)} {rs : List Ord} (h : ordersB P mp ops u rs = true) {D : List Deferred} {QX : Exit → Act → World → Prop} (hX : ∀ ch a w, a.defers = D → X ch w → QX (.panic ch) a w) (hK : ∀ a w, K a w → QX .normal a w) {a : Act} (hd : a.defers = D) {w : World}
    (hall : ∀ r ∈ rs, wpL P mp X ops K r [] a w.drew) : (Code.region id ops true).wp P QX a w := by
  simp only [ordersB, Bool.and_eq_true] at h
  obtain ⟨⟨⟨⟨hsel, hback⟩, hcov⟩, hu⟩, hrs⟩ := h
  refine wp_region_draw fun t => ?_
  simp only [Region.schedule, hmix, Bool.true_or, if_true]
  have hlin := lin_of hback t
  generalize Region.linearise .any ops t = l at hlin
  obtain ⟨r, hr, _, hcu⟩ := cover_sound hlin.nodup hlin.resp u [] hcov (fun p hp => by cases hp) (fun p hp => by
    have := List.all_eq_true.1 hu p hp
    simp only [Bool.and_eq_true, Bool.not_eq_true'] at this
    exact ⟨(hlin.all _).2 (Nat.le_of_ble_eq_true this.1.1), (hlin.all _).2 (Nat.le_of_ble_eq_true this.1.2), nbeq_f.1 this.2⟩)
  have hrr := List.all_eq_true.1 hrs r hr
  simp only [Bool.and_eq_true] at hrr
  obtain ⟨⟨⟨hp, hnd⟩, hlen⟩, hin⟩ := hrr
  have hndr := nodupB_nd hnd
  have hmem : ∀ i, i ∈ l ↔ i ∈ r.map (·.1) := by
    intro i
    rw [hlin.all]
    have hsub : ∀ i ∈ r.map (·.1), i < ops.size := by
      intro i hi
      obtain ⟨q, hq, rfl⟩ := List.mem_map.1 hi
      exact Nat.le_of_ble_eq_true (List.all_eq_true.1 hin q hq)
    constructor
    · intro hi
      refine Classical.byContradiction fun hn => ?_
      have := nodup_len ops.size (i :: r.map (·.1)) (List.nodup_cons.2 ⟨hn, hndr⟩) (fun k hk => by
        rcases List.mem_cons.1 hk with rfl | hk
        · exact hi
        · exact hsub k hk)
      simp only [List.length_cons, List.length_map, nbeq.1 hlen] at this
      omega
    · exact hsub i
  exact wpOps_of hX hK l hd (reorder hsel l r hlin.nodup hndr hmem (fun x y S hy hb hb' => by
    rcases pairs_sound hndr hp x y S hy hb with h | h | ⟨p, hpu, h⟩
    · exact h
    · exact absurd h (hlin.resp y x hb')
    · exfalso
      have a1 := hb.lt hndr
      have a2 := hb'.lt hlin.nodup
      rcases h with ⟨rfl, rfl⟩ | ⟨rfl, rfl⟩ <;> rcases hcu p hpu with ⟨h1, h2⟩ | ⟨h1, h2⟩
      · have := h1.lt hlin.nodup; omega
      · have := h2.lt hndr; omega
      · have := h2.lt hndr; omega
      · have := h1.lt hlin.nodup; omega) (hall r hr))
end
end Go.Proofs.YtchhhjlpnecjkaaGreat.Den
