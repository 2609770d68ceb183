/-
  A denotation of the model's code as predicate transformers, and its soundness: if the denotation of a function's body holds of a post, the call ends so.
-/
import Derived.Test.YtchhhjlpnecjkaaGreatDenD
import Derived.Deep.LoopGhost
import Derived.Lib.Hide
namespace Go.Proofs.YtchhhjlpnecjkaaGreat.Den
open Go

/-! ### bits and shifts, as the model has them -/
def bAnd (k : IntKind) (x y : Int) : Int := k.wrap ((BitVec.ofInt k.bits x &&& BitVec.ofInt k.bits y).toNat)
def bOr (k : IntKind) (x y : Int) : Int := k.wrap ((BitVec.ofInt k.bits x ||| BitVec.ofInt k.bits y).toNat)
def bXor (k : IntKind) (x y : Int) : Int := k.wrap ((BitVec.ofInt k.bits x ^^^ BitVec.ofInt k.bits y).toNat)
def bNot (k : IntKind) (x y : Int) : Int := k.wrap ((BitVec.ofInt k.bits x &&& ~~~BitVec.ofInt k.bits y).toNat)
def shL (k : IntKind) (x y : Int) : Int := k.wrap (x * 2 ^ (min y.toNat k.bits))
def shR (k : IntKind) (x y : Int) : Int := x.fdiv (2 ^ (min y.toNat k.bits))

/-! ### typed values -/
inductive Sc where
  | int (k : IntKind) | bool | str | ptr | sl | map | raw

structure Sl where
  a : Option Addr
  n : Nat
  c : Nat

@[reducible] def Sc.T : Sc → Type
  | .int _ => Int
  | .bool => Bool
  | .str => ByteArray
  | .ptr => Option Addr
  | .sl => Sl
  | .map => Option Nat
  | .raw => Value

@[reducible] def Sc.e : (t : Sc) → t.T → Value
  | .int k, x => .int k x
  | .bool, b => .bool b
  | .str, s => .string s
  | .ptr, p => .pointer p
  | .sl, s => .slice s.a s.n s.c
  | .map, m => .map m
  | .raw, v => v

def Sc.d : (t : Sc) → Value → Option t.T
  | .int k, .int k' x => if k' = k then some x else none
  | .bool, .bool b => some b
  | .str, .string s => some s
  | .ptr, .pointer p => some p
  | .sl, .slice a n c => some ⟨a, n, c⟩
  | .map, .map m => some m
  | .raw, v => some v
  | _, _ => none

theorem Sc.d_e {t : Sc} {v : Value} {x : t.T} (h : t.d v = some x) : v = t.e x := by
  cases t <;> cases v <;> simp only [Sc.d] at h <;> first | (cases h; rfl) | (cases h; done) | (split at h; (rename_i hk; subst hk; cases h; rfl); (cases h))

/-! tuples over a list of types -/
@[reducible] def Tup {α : Type} (f : α → Type) : List α → Type
  | [] => Unit
  | [t] => f t
  | t :: u :: r => f t × Tup f (u :: r)

def Tup.e {α : Type} {f : α → Type} (g : (t : α) → f t → Value) : (l : List α) → Tup f l → List Value
  | [], _ => []
  | [t], x => [g t x]
  | t :: u :: r, x => g t x.1 :: Tup.e g (u :: r) x.2

def Tup.d {α : Type} {f : α → Type} (h : (t : α) → Value → Option (f t)) : (l : List α) → List Value → Option (Tup f l)
  | [], [] => some ()
  | [t], [v] => h t v
  | t :: u :: r, v :: vs => match h t v with
    | none => none
    | some x => match Tup.d h (u :: r) vs with
      | none => none
      | some y => some (x, y)
  | _, _ => none

theorem Tup.d_e {α : Type} {f : α → Type} {g : (t : α) → f t → Value} {h : (t : α) → Value → Option (f t)} (hh : ∀ t v x, h t v = some x → v = g t x) :
    ∀ (l : List α) (vs : List Value) (x : Tup f l), Tup.d h l vs = some x → vs = Tup.e g l x
  | [], [], _, _ => rfl
  | [], _ :: _, _, h => by simp [Tup.d] at h
  | [t], [v], x, hd => by simp only [Tup.d] at hd; simp only [Tup.e]; rw [hh _ _ _ hd]
  | [t], [], _, hd => by simp [Tup.d] at hd
  | [t], _ :: _ :: _, _, hd => by simp [Tup.d] at hd
  | t :: u :: r, [], _, hd => by simp [Tup.d] at hd
  | t :: u :: r, v :: vs, x, hd => by
    simp only [Tup.d] at hd
    split at hd
    · cases hd
    · rename_i x0 hx0
      split at hd
      · cases hd
      · rename_i y0 hy0
        cases hd
        simp only [Tup.e]
        rw [hh _ _ _ hx0, Tup.d_e hh _ _ _ hy0]

inductive Ty where
  | sc (s : Sc)
  | agg (l : List Sc)

@[reducible] def Ty.T : Ty → Type
  | .sc s => s.T
  | .agg l => Tup Sc.T l

@[reducible] def Ty.e : (t : Ty) → t.T → Value
  | .sc s, x => s.e x
  | .agg l, x => .agg ⟨Tup.e Sc.e l x⟩

def Ty.d : (t : Ty) → Value → Option t.T
  | .sc s, v => s.d v
  | .agg l, .agg cs => Tup.d Sc.d l cs.toList
  | .agg _, _ => none

theorem Ty.d_e : ∀ (t : Ty) (v : Value) (x : t.T), t.d v = some x → v = t.e x
  | .sc _, _, _, h => Sc.d_e h
  | .agg l, .agg cs, x, h => by
    simp only [Ty.d] at h
    have := Tup.d_e (g := Sc.e) (fun _ _ _ h => Sc.d_e h) l cs.toList x h
    show Value.agg cs = Value.agg ⟨_⟩
    rw [← this]
  | .agg _, .bool _, _, h | .agg _, .int _ _, _, h | .agg _, .float _ _, _, h | .agg _, .complex _ _ _, _, h | .agg _, .string _, _, h | .agg _, .pointer _, _, h
  | .agg _, .slice _ _ _, _, h | .agg _, .map _, _, h | .agg _, .chan _, _, h | .agg _, .func _ _ _, _, h | .agg _, .nilFunc, _, h | .agg _, .iface _ _, _, h
  | .agg _, .nilIface, _, h | .agg _, .tuple _, _, h => by simp [Ty.d] at h

@[reducible] def Res (ts : List Ty) : Type := Tup Ty.T ts
def resE : (ts : List Ty) → Res ts → Value
  | [t], x => t.e x
  | [], _ => .tuple ⟨[]⟩
  | t :: u :: r, x => .tuple ⟨Tup.e Ty.e (t :: u :: r) x⟩

/-! shapes: slots and their types -/
abbrev Sh := List (Nat × Ty)
@[reducible] def Sh.T (sh : Sh) : Type := Tup (fun p : Nat × Ty => p.2.T) sh

abbrev Env := Nat → Option Value
def eset (e : Env) (d : Nat) (v : Option Value) : Env := fun i => bif Nat.beq i d then v else e i

def getSh (e : Env) : (sh : Sh) → Option (Sh.T sh)
  | [] => some ()
  | [p] => match e p.1 with
    | none => none
    | some v => p.2.d v
  | p :: q :: r => match e p.1 with
    | none => none
    | some v => match p.2.d v with
      | none => none
      | some x => match getSh e (q :: r) with
        | none => none
        | some y => some (x, y)

def shVal : (sh : Sh) → Sh.T sh → Nat → Option Value
  | [], _, _ => none
  | [p], x, i => bif Nat.beq i p.1 then some (p.2.e x) else none
  | p :: q :: r, x, i => bif Nat.beq i p.1 then some (p.2.e x.1) else shVal (q :: r) x.2 i

/-- behind code that writes the slots ds: what stands in them is known of sh's alone. -/
def reset (e : Env) (ds : List Nat) (sh : Sh) (s : Sh.T sh) : Env := fun i =>
  match shVal sh s i with
  | some v => some v
  | none => bif memB ds i then none else e i

theorem getSh_val {e : Env} : ∀ {sh : Sh} {s : Sh.T sh}, getSh e sh = some s → ∀ i v, shVal sh s i = some v → e i = some v
  | [], _, _, i, v, h => by simp [shVal] at h
  | [p], s, hg, i, v, h => by
    simp only [shVal] at h
    cases hb : Nat.beq i p.1 with
    | false => simp [hb] at h
    | true =>
      rw [hb] at h
      have hi := nbeq.1 hb
      subst hi
      simp only [getSh] at hg
      split at hg
      · cases hg
      · rename_i u hu
        rw [hu, Ty.d_e _ _ _ hg]
        exact h
  | p :: q :: r, s, hg, i, v, h => by
    simp only [getSh] at hg
    split at hg
    · cases hg
    · rename_i u hu
      split at hg
      · cases hg
      · rename_i x hx
        split at hg
        · cases hg
        · rename_i y hy
          cases hg
          simp only [shVal] at h
          cases hb : Nat.beq i p.1 with
          | true =>
            rw [hb] at h
            have hi := nbeq.1 hb
            subst hi
            rw [hu, Ty.d_e _ _ _ hx]
            exact h
          | false =>
            rw [hb] at h
            exact getSh_val hy i v h

/-! ### predicate transformers -/
abbrev W (R : Type) := (R → World → Prop) → World → Prop
variable {R : Type}

def failW : W R := fun _ _ => False
def retW (r : R) : W R := fun Q w => Q r w
def ptrW (p : Option Addr) (K : Addr → W R) : W R := match p with
  | some a => K a
  | none => failW
def CellsAt (w : World) (a : Addr) (vs : List Value) : Prop := ∀ j u, vs[j]? = some u → w.cell? (a.add j) = some u
def Rd (w : World) (a : Addr) : (t : Ty) → t.T → Prop
  | .sc s, x => w.cell? a = some (s.e x)
  | .agg l, x => CellsAt w a (Tup.e Sc.e l x)
def ld (t : Ty) (a : Addr) (K : t.T → W R) : W R := fun Q w => ∃ x : t.T, Rd w a t x ∧ K x Q w
def stoL (a : Addr) : List Value → Nat → W R → W R
  | [], _, K => K
  | v :: r, i, K => fun Q w => v.oneCell' = true ∧ (∃ u, w.cell? (a.add i) = some u) ∧ w.frozen? (a.add i) = false ∧ stoL a r (i + 1) K Q (w.setCell (a.add i) v)
def newW (T : TypeId) (cs : List Value) (K : Addr → W R) : W R := fun Q w => K ⟨w.heap.size, 0, none⟩ Q (w.alloc (.cells ⟨cs⟩ T))
def idxW (b : Option Addr) (n sz : Nat) (i : Int) (K : Addr → W R) : W R := fun Q w => ∃ a, b = some a ∧ 0 ≤ i ∧ i < n ∧ K (a.add (i.toNat * sz)) Q w
def chkW (c : Prop) (K : W R) : W R := fun Q w => c ∧ K Q w
def drawW (K : W R) : W R := fun Q w => K Q w.drew
def joinW {σ : Type} (A : (σ → W R) → W R) (K : σ → W R) : W R := fun Q w =>
  ∃ J : σ → World → Prop, (∀ s w', J s w' → K s Q w') ∧ A (fun s _ w' => J s w') Q w
def loopW {σ : Type} (body : (σ → W R) → σ → W R) (s0 : σ) : W R := fun Q w =>
  ∃ (I : σ → World → Prop) (μ : σ → World → Nat), I s0 w ∧ ∀ s w', I s w' → body (fun s' _ w'' => I s' w'' ∧ μ s' w'' < μ s w') s Q w'
def callW (P : Program) (f : Nat) (args : List Value) (ts : List Ty) (K : Res ts → W R) : W R := fun Q w =>
  Calls P f ⟨args⟩ w (fun e w' => ∃ r, e = .returned (resE ts r) ∧ K r Q w')
/-- what a panic that goes on comes to. -/
class Pan (R : Type) where
  pan : (R → World → Prop) → List PanicEntry → World → Prop
/-- none goes on. -/
@[reducible] def noPan (R : Type) : Pan R := ⟨fun _ _ _ => False⟩
/-- results, or a panic. -/
instance sumPan {A : Type} : Pan (A ⊕ List PanicEntry) := ⟨fun Q ch w => Q (.inr ch) w⟩
/-- a call of a function that may panic. -/
def callP [Pan R] (P : Program) (f : Nat) (args : List Value) (ts : List Ty) (K : Res ts → W R) : W R := fun Q w =>
  Calls P f ⟨args⟩ w (fun e w' => (∃ r, e = .returned (resE ts r) ∧ K r Q w') ∨ (∃ ch, e = .panicked ch ∧ Pan.pan Q ch w'))
def panW [Pan R] (v : Value) : W R := fun Q w => Pan.pan Q [{ v, recovered := false }] w
/-- a function without a body: the model's own entry. -/
def extW (P : Program) (f : Nat) (args : List Value) (ts : List Ty) (K : Res ts → W R) : W R := fun Q w =>
  ∃ x w', (callFunc f ⟨args⟩).run P w = .ok (.value (resE ts x)) w' ∧ K x Q w'
/-- an operation of the model as it stands: it has just this outcome. -/
def rawW (P : Program) (s : Sem Value) (ts : List Ty) (K : Res ts → W R) : W R := fun Q w => ∃ x w', s.run P w = .ok (resE ts x) w' ∧ K x Q w'
/-- .. and leaves the memory alone. -/
def rawQ (P : Program) (s : Sem Value) (ts : List Ty) (K : Res ts → W R) : W R := fun Q w => ∃ x, s.run P w = .ok (resE ts x) w ∧ K x Q w
def rawU (P : Program) (s : Sem Unit) (K : W R) : W R := fun Q w => ∃ w', s.run P w = .ok () w' ∧ K Q w'
/-- s[l:h] of a slice. -/
def slcW (b : Option Addr) (n c sz : Nat) (lo hi : Option Int) (K : Sl → W R) : W R :=
  chkW (0 ≤ hi.getD n ∧ hi.getD n ≤ c ∧ 0 ≤ lo.getD 0 ∧ lo.getD 0 ≤ hi.getD n)
    (K ⟨if c = (lo.getD 0).toNat then b else b.map (·.add ((lo.getD 0).toNat * sz)), (hi.getD n).toNat - (lo.getD 0).toNat, c - (lo.getD 0).toNat⟩)

/-- What a computation yields that looks at no memory. -/
def pv (P : Program) {α : Type} : Sem α → Option α
  | .pure a => some a
  | .program k => pv P (k P)
  | .mark _ k => pv P k
  | _ => none

theorem pv_run {P : Program} {α : Type} : ∀ {s : Sem α} {v : α}, pv P s = some v → ∀ w, s.run P w = .ok v w
  | .pure a, v, h, w => by simp only [pv] at h; cases h; rfl
  | .program k, v, h, w => by simp only [pv] at h; simp only [Sem.run]; exact pv_run h w
  | .mark m k, v, h, w => by simp only [pv] at h; simp only [Sem.run]; exact pv_run h w
  | .load _ _ _, _, h, _ | .store _ _ _ _, _, h, _ | .new _ _, _, h, _ | .shape _ _, _, h, _ | .freeze _ _ _, _, h, _ | .frozen _ _, _, h, _
  | .getObj _ _, _, h, _ | .setObj _ _ _, _, h, _ | .choose _ _, _, h, _ | .sys _ _, _, h, _ | .halt _, _, h, _ => by simp [pv] at h

/-! ### selectors: what an operand must be -/
def onSome {α : Type} (o : Option α) (K : α → W R) : W R := match o with
  | some x => K x
  | none => failW
def onPtr (v : Value) (K : Option Addr → W R) : W R := match v with
  | .pointer p => K p
  | _ => failW
def onPtrT (v : Value) (d : Option TypeDesc) (K : Option Addr → W R) : W R := match v, d with
  | .pointer p, some (.pointer _) => K p
  | _, _ => failW
def onSlT (v : Value) (d : Option TypeDesc) (K : Option Addr → W R) : W R := match v, d with
  | .slice a _ _, some (.slice _) => K a
  | _, _ => failW
def onBool (v : Value) (K : Bool → W R) : W R := match v with
  | .bool b => K b
  | _ => failW
def onFn (v : Value) (K : Nat → Array Value → Array Value → W R) : W R := match v with
  | .func (.func g) first cap => K g first cap
  | _ => failW
def onAgg (v : Value) (K L : W R) : W R := match v with
  | .agg _ => K
  | _ => L
def onMap (v : Value) (K L : W R) : W R := match v with
  | .map _ => K
  | _ => L
def onSl (v : Value) (K L : W R) : W R := match v with
  | .slice _ _ _ => K
  | _ => L
def onNil (v : Value) (K : Option Addr → W R) (L : W R) : W R := match v with
  | .pointer p => K p
  | _ => L
def onRow (v : Value) (d : Option TypeDesc) (Ks : Option Addr → Nat → Nat → TypeId → W R) (Ka : Option Addr → Nat → TypeId → W R) : W R := match v, d with
  | .slice b n c, some (.slice el) => Ks b n c el
  | .pointer p, some (.array len el) => Ka p len el
  | _, _ => failW
def ifW (b : Bool) (K : W R) : W R := cond b K failW

theorem onSome_inv {α : Type} {o : Option α} {K : α → W R} {Q : R → World → Prop} {w : World} (h : onSome o K Q w) : ∃ x, o = some x ∧ K x Q w := by
  cases o with
  | none => exact h.elim
  | some x => exact ⟨x, rfl, h⟩
theorem onPtr_inv {v : Value} {K : Option Addr → W R} {Q : R → World → Prop} {w : World} (h : onPtr v K Q w) : ∃ p, v = .pointer p ∧ K p Q w := by
  cases v <;> first | exact ⟨_, rfl, h⟩ | exact h.elim
theorem onPtrT_inv {v : Value} {d : Option TypeDesc} {K : Option Addr → W R} {Q : R → World → Prop} {w : World} (h : onPtrT v d K Q w) : ∃ p e, v = .pointer p ∧ d = some (.pointer e) ∧ K p Q w := by
  cases v <;> rcases d with _ | d <;> first | exact h.elim | (cases d <;> first | exact h.elim | exact ⟨_, _, rfl, rfl, h⟩)
theorem onSlT_inv {v : Value} {d : Option TypeDesc} {K : Option Addr → W R} {Q : R → World → Prop} {w : World} (h : onSlT v d K Q w) : ∃ a l c e, v = .slice a l c ∧ d = some (.slice e) ∧ K a Q w := by
  cases v <;> rcases d with _ | d <;> first | exact h.elim | (cases d <;> first | exact h.elim | exact ⟨_, _, _, _, rfl, rfl, h⟩)
theorem onBool_inv {v : Value} {K : Bool → W R} {Q : R → World → Prop} {w : World} (h : onBool v K Q w) : ∃ b, v = .bool b ∧ K b Q w := by
  cases v <;> first | exact ⟨_, rfl, h⟩ | exact h.elim
theorem onFn_inv {v : Value} {K : Nat → Array Value → Array Value → W R} {Q : R → World → Prop} {w : World} (h : onFn v K Q w) : ∃ g f c, v = .func (.func g) f c ∧ K g f c Q w := by
  cases v <;> first | exact h.elim | (rename_i fn f c; cases fn <;> first | exact h.elim | exact ⟨_, _, _, rfl, h⟩)
theorem onAgg_inv {v : Value} {K L : W R} {Q : R → World → Prop} {w : World} (h : onAgg v K L Q w) : ((∃ c, v = .agg c) ∧ K Q w) ∨ ((∀ c, v ≠ .agg c) ∧ L Q w) := by
  cases v <;> first | exact Or.inl (And.intro (Exists.intro _ rfl) h) | exact Or.inr (And.intro (fun _ hc => Value.noConfusion hc) h)
theorem onMap_inv {v : Value} {K L : W R} {Q : R → World → Prop} {w : World} (h : onMap v K L Q w) : ((∃ c, v = .map c) ∧ K Q w) ∨ ((∀ c, v ≠ .map c) ∧ L Q w) := by
  cases v <;> first | exact Or.inl (And.intro (Exists.intro _ rfl) h) | exact Or.inr (And.intro (fun _ hc => Value.noConfusion hc) h)
theorem onSl_inv {v : Value} {K L : W R} {Q : R → World → Prop} {w : World} (h : onSl v K L Q w) : ((∃ a l c, v = .slice a l c) ∧ K Q w) ∨ L Q w := by
  cases v <;> first | exact .inl ⟨⟨_, _, _, rfl⟩, h⟩ | exact .inr h
theorem onNil_inv {v : Value} {K : Option Addr → W R} {L : W R} {Q : R → World → Prop} {w : World} (h : onNil v K L Q w) : (∃ p, v = .pointer p ∧ K p Q w) ∨ L Q w := by
  cases v <;> first | exact .inl ⟨_, rfl, h⟩ | exact .inr h
theorem onRow_inv {v : Value} {d : Option TypeDesc} {Ks : Option Addr → Nat → Nat → TypeId → W R} {Ka : Option Addr → Nat → TypeId → W R} {Q : R → World → Prop} {w : World} (h : onRow v d Ks Ka Q w) :
    (∃ b l c e, v = .slice b l c ∧ d = some (.slice e) ∧ Ks b l c e Q w) ∨ (∃ p l e, v = .pointer p ∧ d = some (.array l e) ∧ Ka p l e Q w) := by
  cases v <;> rcases d with _ | d <;> first | exact h.elim | (cases d <;> first | exact h.elim | exact .inl ⟨_, _, _, _, rfl, rfl, h⟩ | exact .inr ⟨_, _, _, rfl, rfl, h⟩)
theorem ifW_inv {b : Bool} {K : W R} {Q : R → World → Prop} {w : World} (h : ifW b K Q w) : b = true ∧ K Q w := by
  cases b
  · exact h.elim
  · exact ⟨rfl, h⟩
theorem ptrW_inv {p : Option Addr} {K : Addr → W R} {Q : R → World → Prop} {w : World} (h : ptrW p K Q w) : ∃ a, p = some a ∧ K a Q w := by
  cases p with
  | none => exact h.elim
  | some a => exact ⟨a, rfl, h⟩

/-! ### types of the program -/
def scOf : Value → Option Sc
  | .int k _ => some (.int k)
  | .bool _ => some .bool
  | .string _ => some .str
  | .pointer _ => some .ptr
  | .slice _ _ _ => some .sl
  | .map _ => some .map
  | .nilFunc | .nilIface | .chan _ => some .raw
  | _ => none
def scsOf : List Value → Option (List Sc)
  | [] => some []
  | v :: r => match scOf v with
    | none => none
    | some t => match scsOf r with
      | none => none
      | some l => some (t :: l)
def tyOf (P : Program) (T : TypeId) : Option Ty :=
  match P.info? T with
  | none => none
  | some i => match i.zero with
    | none => none
    | some z => match P.underlying T, z with
      | some (.struct _), .agg cs => bif Nat.beq i.size cs.toList.length then (scsOf cs.toList).map .agg else none
      | some (.array _ _), .agg cs => bif Nat.beq i.size cs.toList.length then (scsOf cs.toList).map .agg else none
      | some (.struct _), _ | some (.array _ _), _ => none
      | some _, v => (scOf v).map .sc
      | none, _ => none
def tysOf (P : Program) : List TypeId → Option (List Ty)
  | [] => some []
  | t :: r => match tyOf P t with
    | none => none
    | some x => match tysOf P r with
      | none => none
      | some l => some (x :: l)
def resOf (P : Program) (T : TypeId) : Option (List Ty) :=
  match P.info? T with
  | none => none
  | some i => match i.desc with
    | .tuple ts => tysOf P ts.toList
    | _ => tysOf P [T]
def callable (P : Program) (f : Nat) : Bool := match P.funcs[f]? with
  | some fn => fn.body.isSome && !(fn.name == "runtime.NumGoroutine")
  | none => false
def sizeOfT (P : Program) (T : TypeId) : Nat := match P.info? T with
  | some i => i.size
  | none => 0
def zeroOfT (P : Program) (T : TypeId) : Option Value := (P.info? T).bind (·.zero)

/-- 'buildSlice' ahead of its new row. -/
def bsCells (t : TypeId) (len : Nat) (parts : Array (Nat × Value)) : Sem (TypeId × Array Value) := do
  let .slice elem ← underlying t | stuck "buildSlice: slice type expected"
  let size ← sizeOf elem
  if len * size > 2 ^ 24 then unsupported (.resourceLimit "buildSlice: more than 2^24 cells")
  let zero ← if len * size = 0 then pure #[] else do pure (← zeroValue elem).cells
  let some cells := Instr.fill (fun i => some (i * size, size)) ((Array.range (len * size)).map (zero[· % zero.size]!)) parts.toList
    | stuck "buildSlice: a part of the wrong size"
  pure (elem, cells)

/-! ### the denotation -/
def ev (env : Env) : Operand → Option Value
  | .tmp t => env t
  | .const v => some v
  | .global g => some (.pointer (some ⟨g, 0, none⟩))
  | .func f => some (.func (.func f) #[] #[])
def evU (env : Env) (x : Operand) : Value := (ev env x).getD undef
def allB {α : Type} (p : α → Bool) : List α → Bool
  | [] => true
  | x :: r => bif p x then allB p r else false

def put (n : Nat) (o : Oper) (v : Value) (k : Env → W R) (env : Env) : W R := match o.dst with
  | none => k env
  | some d => bif Nat.blt d n then k (eset env d (some v)) else failW

def isInt : Value → Option Int
  | .int _ n => some n
  | _ => none
def optInt (env : Env) : Option Operand → Option (Option Int)
  | none => some none
  | some x => match evU env x with
    | .int _ n => some (some n)
    | _ => none

/-- Two operands of a division or a shift that are whole numbers. -/
def twoInts : Value → Value → Option (IntKind × Int × Int)
  | .int k a, .int _ b => some (k, a, b)
  | _, _ => none
def sameInts : Value → Value → Option (IntKind × Int × Int)
  | .int k a, .int k' b => if k = k' then some (k, a, b) else none
  | _, _ => none

def isConst : Operand → Bool
  | .const _ => true
  | _ => false

def binDen (P : Program) (n : Nat) (o : Oper) (op : BinOp) (T : TypeId) (x y : Operand) (k : Env → W R) (env : Env) (gen : W R) : W R :=
  match op, y with
  | .eql, .const (.pointer none) => onPtrT (evU env x) (P.underlying T) fun p => put n o (.bool p.isNone) k env
  | .neq, .const (.pointer none) => onPtrT (evU env x) (P.underlying T) fun p => put n o (.bool !p.isNone) k env
  | .eql, .const (.slice none 0 0) => onSlT (evU env x) (P.underlying T) fun a => put n o (.bool a.isNone) k env
  | .neq, .const (.slice none 0 0) => onSlT (evU env x) (P.underlying T) fun a => put n o (.bool !a.isNone) k env
  | .quo, .tmp t => onSome (sameInts (evU env x) (evU env (.tmp t))) fun z => chkW (z.2.2 ≠ 0) (put n o (.int z.1 (z.1.wrap (z.2.1.tdiv z.2.2))) k env)
  | .rem, .tmp t => onSome (sameInts (evU env x) (evU env (.tmp t))) fun z => chkW (z.2.2 ≠ 0) (put n o (.int z.1 (z.2.1.tmod z.2.2)) k env)
  | .shl, .tmp t => onSome (twoInts (evU env x) (evU env (.tmp t))) fun z => chkW (0 ≤ z.2.2) (put n o (.int z.1 (z.1.wrap (z.2.1 * 2 ^ (min z.2.2.toNat z.1.bits)))) k env)
  | .shr, .tmp t => onSome (twoInts (evU env x) (evU env (.tmp t))) fun z => chkW (0 ≤ z.2.2) (put n o (.int z.1 (z.2.1.fdiv (2 ^ (min z.2.2.toNat z.1.bits)))) k env)
  | .eql, y => onAgg (evU env x) (rawQ P (do Go.eqGuard .eql T x y (evU env x) (evU env y); Go.binOp .eql T (evU env x) (evU env y)) [.sc .bool] fun b => put n o (.bool b) k env) gen
  | .neq, y => onAgg (evU env x) (rawQ P (do Go.eqGuard .neq T x y (evU env x) (evU env y); Go.binOp .neq T (evU env x) (evU env y)) [.sc .bool] fun b => put n o (.bool b) k env) gen
  | _, _ => gen

/-- An operation that the model carries out without memory. -/
def genDen (P : Program) (n : Nat) (o : Oper) (k : Env → W R) (env : Env) : W R :=
  match pv P (execOp (evU env) o) with
  | some (.value v) => put n o v k env
  | _ => failW

def callDen (P : Program) (n : Nat) (o : Oper) (c : Call) (k : Env → W R) (env : Env) : W R :=
  match c.callee with
  | .value f => onFn (evU env f) fun g first cap => onSome (resOf P o.type) fun ts => cond (callable P g)
      (callW P g (first ++ c.args.map (evU env) ++ cap).toList ts fun r => put n o (resE ts r) k env)
      (extW P g (first ++ c.args.map (evU env) ++ cap).toList ts fun r => put n o (resE ts r) k env)
  | .invoke _ _ => failW
  | .builtin b => match b with
    | .append => rawW P (Builtin.append_ c.argTypes o.type (c.args.map (evU env))) [.sc .sl] fun r => put n o (resE [.sc .sl] r) k env
    | .copy => rawW P (Builtin.copy_ c.argTypes o.type (c.args.map (evU env))) [.sc (.int .i64)] fun r => put n o (resE [.sc (.int .i64)] r) k env
    | .delete => rawW P (Builtin.delete_ c.argTypes o.type (c.args.map (evU env))) [] fun r => put n o (resE [] r) k env
    | .clear => rawW P (Builtin.clear_ c.argTypes o.type (c.args.map (evU env))) [] fun r => put n o (resE [] r) k env
    | .len => onMap (evU env (c.args.toList.headD (.const undef)))
        (rawQ P (Builtin.len_ c.argTypes o.type (c.args.map (evU env))) [.sc (.int .i64)] fun r => put n o (resE [.sc (.int .i64)] r) k env)
        (genDen P n o k env)
    | _ => genDen P n o k env

def denOpB (P : Program) (n : Nat) (o : Oper) (k : Env → W R) (env : Env) (op : Op) : W R := match op with
  | .pick c a b => onBool (evU env c) fun t => cond t (put n o (evU env a) k env) (put n o (evU env b) k env)
  | .alloc T => onSome (zeroOfT P T) fun z => newW T z.cells.toList fun a => put n o (.pointer (some a)) k env
  | .box T x => newW T (evU env x).cells.toList fun a => put n o (.pointer (some a)) k env
  | .buildSlice T len parts => onSome (pv P (bsCells T len (parts.map fun (i, x) => (i, evU env x)))) fun z => newW z.1 z.2.toList fun a => put n o (.slice (some a) len len) k env
  | .load T x => onPtr (evU env x) fun p => ptrW p fun a => onSome (tyOf P T) fun t => ld t a fun v => put n o (t.e v) k env
  | .store T x v => onPtr (evU env x) fun p => ptrW p fun a => ifW (Nat.beq (evU env v).cells.size (sizeOfT P T) && (P.info? T).isSome) (stoL a (evU env v).cells.toList 0 (put n o undef k env))
  | .nilCheck x => onNil (evU env x) (fun p => ptrW p fun a => put n o (.pointer (some a)) k env) (genDen P n o k env)
  | .binOp op T x y _ => binDen P n o op T x y k env (genDen P n o k env)
  | .indexAddr T x i => onSome (isInt (evU env i)) fun j => onRow (evU env x) (P.underlying T)
      (fun b len _ el => ifW (P.info? el).isSome (idxW b len (sizeOfT P el) j fun a => put n o (.pointer (some a)) k env))
      (fun p len el => ifW (P.info? el).isSome (ptrW p fun a => idxW (some a) len (sizeOfT P el) j fun a => put n o (.pointer (some a)) k env))
  | .slice T x lo hi none => onSome (optInt env lo) fun l => onSome (optInt env hi) fun h => onRow (evU env x) (P.underlying T)
      (fun b len c el => ifW (P.info? el).isSome (slcW b len c (sizeOfT P el) l h fun s => put n o (.slice s.a s.n s.c) k env))
      (fun p len el => ifW (P.info? el).isSome (ptrW p fun a => slcW (some a) len len (sizeOfT P el) l h fun s => put n o (.slice s.a s.n s.c) k env))
  | .slice T x lo hi (some mx) => rawQ P (Instr.sliceAt T (evU env x) (lo.map (evU env)) (hi.map (evU env)) (some (evU env mx))) [.sc .sl] fun r => put n o (.slice r.a r.n r.c) k env
  | .convert S D x => onSl (evU env x) (ifW (isSlT P S) (onSome (resOf P o.type) fun ts => rawQ P (Go.convert S D (evU env x)) ts fun r => put n o (resE ts r) k env)) (genDen P n o k env)
  | .fieldAddr T x i => onNil (evU env x) (fun p => ptrW p fun a => onSome (pv P (Instr.fieldAt T (.pointer (some a)) i)) fun v => put n o v k env) (genDen P n o k env)
  | .lookup T m x ok => onSome (resOf P o.type) fun ts => rawQ P (Instr.lookup T (evU env m) (evU env x) ok) ts fun r => put n o (resE ts r) k env
  | .mapUpdate T m x v => rawU P (Instr.mapUpdate T (evU env m) (evU env x) (evU env v)) (put n o undef k env)
  | .makeMap T r => rawW P (Instr.makeMap T (r.map (evU env))) [.sc .map] fun x => put n o (.map x) k env
  | .makeSlice T l c => rawW P (Instr.makeSlice T (evU env l) (evU env c)) [.sc .sl] fun x => put n o (.slice x.a x.n x.c) k env
  | .call c => callDen P n o c k env
  | .select _ _ => failW
  | _ => genDen P n o k env

def denOp (P : Program) (n : Nat) (o : Oper) (k : Env → W R) (env : Env) : W R :=
  ifW (allB (fun x => (ev env x).isSome) o.op.operands.toList) (denOpB P n o k env o.op)

/-- .. a call of a function that may panic. -/
def denOpC [Pan R] (mp : List Nat) (P : Program) (n : Nat) (o : Oper) (k : Env → W R) (env : Env) : W R :=
  bif mpOp mp o then (ifW (allB (fun x => (ev env x).isSome) o.op.operands.toList) (match o.op with
    | .call c => (match c.callee with
      | .value f => onFn (evU env f) fun g first cap => onSome (resOf P o.type) fun ts => ifW (callable P g) (callP P g (first ++ c.args.map (evU env) ++ cap).toList ts fun r => put n o (resE ts r) k env)
      | _ => failW)
    | _ => failW)) else denOp P n o k env
/-- .. or a panic itself. -/
def denOpP [Pan R] (mp : List Nat) (P : Program) (n : Nat) (o : Oper) (k : Env → W R) (env : Env) : W R :=
  match o.op with
  | .panic x => ifW (allB (fun x => (ev env x).isSome) o.op.operands.toList) (match evU env x with
      | .iface T v => panW (.iface T v)
      | _ => failW)
  | _ => denOpC mp P n o k env

def guardW (b want : Bool) (X Y : W R) : W R := match want with
  | true => cond b X Y
  | false => cond b Y X

def dstAt (ops : Array Oper) (j : Nat) : Option Nat := (ops[j]?).bind (·.dst)

def denOps [Pan R] (mp : List Nat) (P : Program) (n : Nat) (all : Array Oper) : List Oper → (Env → W R) → Env → W R
  | [], k, env => k env
  | o :: r, k, env => match o.guard with
    | none => denOpP mp P n o (denOps mp P n all r k) env
    | some (j, want) => match dstAt all j with
      | none => failW
      | some d => match env d with
        | some (.bool b) => guardW b want (denOpP mp P n o (denOps mp P n all r k) (eset env d (some (.bool want)))) (put n o undef (denOps mp P n all r k) (eset env d (some (.bool !want))))
        | some (.tuple _) => put n o undef (denOps mp P n all r k) env
        | _ => failW

def dstsOps : List Oper → List Nat
  | [] => []
  | o :: r => match o.dst with
    | none => dstsOps r
    | some d => d :: dstsOps r
def dsts : Code → List Nat
  | .region _ ops _ => dstsOps ops.toList
  | .seq a b => dsts a ++ dsts b
  | .cond _ a b => dsts a ++ dsts b
  | .block _ c => dsts c
  | .loop c => dsts c
  | _ => []

def andW (p : World → Prop) (K : W R) : W R := fun Q w => p w ∧ K Q w
def bothW (X Y : W R) : W R := fun Q w => X Q w ∧ Y Q w

/-- what was read reads so still. -/
def loadP (P : Program) (T : TypeId) (x : Value) (v : Option Value) : World → Prop := match x, tyOf P T, v with
  | .pointer (some a), some t, some u => (match t.d u with
    | some z => fun w => Rd w a t z
    | none => fun _ => False)
  | _, _, _ => fun _ => False
def addM (P : Program) (i : Nat) (o : Oper) (e : Env) (M : Mem) : Mem := match o.op, o.dst with
  | .load T (.tmp t), some d => (bif Nat.beq t d then (i, fun _ => False) else (i, loadP P T (evU e (.tmp t)) (e d))) :: M
  | .load _ _, _ => (i, fun _ => False) :: M
  | _, _ => M
def rkW : Mem → List Nat → W R → W R
  | [], _, K => K
  | (j, p) :: M, S, K => bif memB S j then andW p (rkW M S K) else rkW M S K

def denOrd [Pan R] (mp : List Nat) (P : Program) (n : Nat) (all : Array Oper) : Ord → Mem → (Env → W R) → Env → W R
  | [], _, k, env => k env
  | (i, S) :: r, M, k, env => match all[i]? with
    | none => failW
    | some o => match o.guard with
      | none => denOpC mp P n o (fun e => bif quietOp o.op then denOrd mp P n all r (addM P i o e M) k e else rkW M S (denOrd mp P n all r M k e)) env
      | some (j, want) => match dstAt all j with
        | none => failW
        | some d => match env d with
          | some (.bool b) => guardW b want (denOpC mp P n o (fun e => bif quietOp o.op then denOrd mp P n all r (addM P i o e M) k e else rkW M S (denOrd mp P n all r M k e)) (eset env d (some (.bool want))))
              (put n o undef (denOrd mp P n all r M k) (eset env d (some (.bool !want))))
          | some (.tuple _) => put n o undef (denOrd mp P n all r M k) env
          | _ => failW
def denRs [Pan R] (mp : List Nat) (P : Program) (n : Nat) (all : Array Oper) (k : Env → W R) (env : Env) : List Ord → W R
  | [] => fun _ _ => True
  | [r] => denOrd mp P n all r [] k env
  | r :: r2 :: rs => bothW (denOrd mp P n all r [] k env) (denRs mp P n all k env (r2 :: rs))

structure Hints where
  reg : List (Nat × Sh) := []
  con : List (Nat × Sh) := []
  blk : List (Nat × Sh) := []
  lop : List (Nat × Sh) := []
  dr : List (Nat × (List (Nat × Nat) × List Ord)) := []
  mp : List Nat := []
def hint : List (Nat × Sh) → Nat → Option Sh
  | [], _ => none
  | p :: r, i => bif Nat.beq i p.1 then some p.2 else hint r i
def hintD : List (Nat × (List (Nat × Nat) × List Ord)) → Nat → Option (List (Nat × Nat) × List Ord)
  | [], _ => none
  | p :: r, i => bif Nat.beq i p.1 then some p.2 else hintD r i
def fstReg : Code → Nat
  | .region id _ _ => id + 1
  | .seq a b => (bif Nat.beq (fstReg a) 0 then fstReg b else fstReg a)
  | .cond _ a b => (bif Nat.beq (fstReg a) 0 then fstReg b else fstReg a)
  | .block _ c => fstReg c
  | .loop c => fstReg c
  | _ => 0
def hintC (l : List (Nat × Sh)) (a b : Code) : Operand → Option Sh
  | .tmp t => hint l (t + 1000 * (bif Nat.beq (fstReg a) 0 then fstReg b else fstReg a))
  | _ => none

def leafW (e : Env) (sh : Sh) (J : Sh.T sh → W R) : W R := match getSh e sh with
  | some s => J s
  | none => failW

/-- the join: what stands behind is proved once. -/
def jn (o : Option Sh) (ds : List Nat) (env : Env) (A : (Env → W R) → W R) (k : Env → W R) : W R := match o with
  | none => A k
  | some sh => joinW (fun J => A (fun e => leafW e sh J)) (fun s => k (reset env ds sh s))

def regDen [Pan R] (mp : List Nat) (P : Program) (n : Nat) (ops : Array Oper) (draw : Bool) (d : Option (List (Nat × Nat) × List Ord)) (k : Env → W R) (env : Env) : W R :=
  match draw with
  | false => denOps mp P n ops ops.toList k env
  | true => onSome d fun z => ifW (ordersB P mp ops z.1 z.2) (drawW (denRs mp P n ops k env z.2))

def den [Pan R] (P : Program) (n : Nat) (h : Hints) (cur : Nat) : Code → (Env → W R) → (Nat → Env → W R) → (Env → W R) → Env → W R
  | .skip, k, _, _, env => k env
  | .region id ops draw, k, _, _, env => jn (hint h.reg id) (dstsOps ops.toList) env (fun k' => regDen h.mp P n ops draw (hintD h.dr id) k' env) k
  | .seq a b, k, ex, rt, env => den P n h cur a (fun e => den P n h cur b k ex rt e) ex rt env
  | .cond c a b, k, ex, rt, env => match ev env c with
    | some (.bool t) => jn (hintC h.con a b c) (dsts a ++ dsts b) env (fun k' => cond t (den P n h cur a k' ex rt env) (den P n h cur b k' ex rt env)) k
    | _ => failW
  | .block id c, k, ex, rt, env =>
      jn (hint h.blk id) (dsts c) env (fun k' => den P n h id c k' (fun i e => bif Nat.beq i id then k' e else ex i e) rt env) k
  | .loop c, _, ex, rt, env => match hint h.lop cur with
    | none => failW
    | some sh => leafW env sh (fun s0 => loopW (fun K s => den P n h cur c (fun e => leafW e sh K) ex rt (reset env (dsts c) sh s)) s0)
  | .exit id, _, ex, _, env => ex id env
  | .ret, _, _, rt, env => rt env
  | _, _, _, _, _ => failW

/-! results -/
def resVars (env : Env) : (rs : List ResultVar) → (ts : List Ty) → (Res ts → W R) → W R
  | [], [], K => K ()
  | [.tmp t], [y], K => (match env t with
    | none => failW
    | some v => match y.d v with
      | none => failW
      | some x => K x)
  | [.cell a _], [y], K => (match env a with
    | some (.pointer p) => ptrW p fun ad => ld y ad K
    | _ => failW)
  | .tmp t :: r, y :: y' :: l, K => (match env t with
    | none => failW
    | some v => match y.d v with
      | none => failW
      | some x => resVars env r (y' :: l) fun z => K (x, z))
  | .cell a _ :: r, y :: y' :: l, K => (match env a with
    | some (.pointer p) => ptrW p fun ad => ld y ad fun x => resVars env r (y' :: l) fun z => K (x, z)
    | _ => failW)
  | _, _, _ => failW

/-- the results that lie in memory are of their types. -/
def ResOk (P : Program) : List ResultVar → List Ty → Prop
  | [], [] => True
  | .tmp _ :: r, _ :: l => ResOk P r l
  | .cell _ T :: r, y :: l => tyOf P T = some y ∧ ResOk P r l
  | _, _ => False

def env0 : List Value → Env
  | [], _ => none
  | v :: r, i => match i with
    | 0 => some v
    | j + 1 => env0 r j

def denF (P : Program) (h : Hints) (fn : Func) (ts : List Ty) (args : List Value) : W (Res ts) :=
  match fn.body with
  | none => failW
  | some c => @den _ (noPan _) P fn.ntmps h 0 c (fun e => resVars e fn.results.toList ts retW) (fun _ _ => failW) (fun e => resVars e fn.results.toList ts retW) (env0 args)
/-- .. a function that may panic. -/
def denFP (P : Program) (h : Hints) (fn : Func) (ts : List Ty) (args : List Value) : W (Res ts ⊕ List PanicEntry) :=
  match fn.body with
  | none => failW
  | some c => den P fn.ntmps h 0 c (fun e => resVars e fn.results.toList ts fun r => retW (.inl r)) (fun _ _ => failW) (fun e => resVars e fn.results.toList ts fun r => retW (.inl r)) (env0 args)

end Go.Proofs.YtchhhjlpnecjkaaGreat.Den
