/-
  '==' of structs and arrays of numbers, bools, strings: reckoned at once.
-/
import Derived.Test.YtchhhjlpnecjkaaGreatRul
import Derived.Laws.StructEq
import Derived.ChangeKeysEq
namespace Go.Proofs.YtchhhjlpnecjkaaGreat.Den
open Go Go.RowKit
variable {R : Type} {Q : R → World → Prop} {w : World} {P : Program}

def eqFs (P : Program) (rec : TypeId → Value → Value → Option Bool) (xs ys : Array Value) : List Field → Option Bool
  | [] => some true
  | f :: fs => bif f.name == "_" then eqFs P rec xs ys fs else match pv P (part f.type xs f.offset), pv P (part f.type ys f.offset) with
    | some a, some b => match rec f.type a b, eqFs P rec xs ys fs with
      | some r, some s => some (r && s)
      | _, _ => none
    | _, _ => none
def eqIs (P : Program) (rec : TypeId → Value → Value → Option Bool) (e : TypeId) (c : Nat) (xs ys : Array Value) : List Nat → Option Bool
  | [] => some true
  | i :: is => match pv P (part e xs (i * c)), pv P (part e ys (i * c)) with
    | some a, some b => match rec e a b, eqIs P rec e c xs ys is with
      | some r, some s => some (r && s)
      | _, _ => none
    | _, _ => none
def eqV (P : Program) : Nat → TypeId → Value → Value → Option Bool
  | 0, _, _, _ => none
  | d + 1, t, x, y => match P.underlying t, x, y with
    | some .bool, .bool a, .bool b => some (a == b)
    | some (.int _), .int k a, .int k' b => (match k, k' with
      | .i64, .i64 => some (a == b) | .i32, .i32 => some (a == b) | .u32, .u32 => some (a == b) | .u8, .u8 => some (a == b) | .u64, .u64 => some (a == b) | .u16, .u16 => some (a == b)
      | _, _ => none)
    | some .string, .string a, .string b => some (a.toList == b.toList)
    | some (.struct _), .agg xs, .agg ys => bif P.stoodInHeld t then none else eqFs P (eqV P d) xs ys (P.fieldsOf t).toList
    | some (.array n e), .agg xs, .agg ys => bif (P.info? e).isSome then eqIs P (eqV P d) e (P.cellsOf e) xs ys (List.range n) else none
    | _, _, _ => none

theorem eqFs_run {rec : TypeId → Value → Value → Option Bool} {d : Nat} (hr : ∀ t x y r, rec t x y = some r → ∀ w, (Op.equalIn d t x y).run P w = .ok r w) (xs ys : Array Value) :
    ∀ (fs : List Field) (r : Bool), eqFs P rec xs ys fs = some r → ∀ w, (Op.eqFields d xs ys fs).run P w = .ok r w
  | [], r, h, w => by simp only [eqFs] at h; cases h; simp [Op.eqFields]
  | f :: fs, r, h, w => by
    simp only [eqFs] at h
    cases hn : (f.name == "_") with
    | true =>
      rw [hn] at h
      have : ¬ (f.name ≠ "_") := by simpa using hn
      rw [Op.eqFields, if_neg this]
      exact eqFs_run hr xs ys fs r h w
    | false =>
      rw [hn] at h
      have hne : f.name ≠ "_" := by simpa using hn
      simp only [cond_false] at h
      split at h
      · rename_i a b ha hb
        split at h
        · rename_i r1 s1 h1 h2
          cases h
          rw [Op.eqFields, if_pos hne]
          simp only [Sem.run_bind, pv_run ha w, pv_run hb w, hr _ _ _ _ h1 w, Result.andThen_ok]
          cases r1
          · simp
          · simpa using eqFs_run hr xs ys fs s1 h2 w
        · cases h
      · cases h

theorem eqIs_run {rec : TypeId → Value → Value → Option Bool} {d : Nat} (hr : ∀ t x y r, rec t x y = some r → ∀ w, (Op.equalIn d t x y).run P w = .ok r w) (e : TypeId) (c : Nat) (xs ys : Array Value) :
    ∀ (is : List Nat) (r : Bool), eqIs P rec e c xs ys is = some r → ∀ w, (Op.eqItems d e c xs ys is).run P w = .ok r w
  | [], r, h, w => by simp only [eqIs] at h; cases h; simp [Op.eqItems]
  | i :: is, r, h, w => by
    simp only [eqIs] at h
    split at h
    · rename_i a b ha hb
      split at h
      · rename_i r1 s1 h1 h2
        cases h
        rw [Op.eqItems]
        simp only [Sem.run_bind, pv_run ha w, pv_run hb w, hr _ _ _ _ h1 w, Result.andThen_ok]
        cases r1
        · simp
        · simpa using eqIs_run hr e c xs ys is s1 h2 w
      · cases h
    · cases h

theorem eqV_run : ∀ (m : Nat) (t : TypeId) (x y : Value) (r : Bool), eqV P m t x y = some r → ∀ d, m ≤ d → ∀ w, (Op.equalIn d t x y).run P w = .ok r w
  | 0, _, _, _, _, h, _, _, _ => by simp [eqV] at h
  | m + 1, t, x, y, r, h, d, hd, w => by
    obtain ⟨d, rfl⟩ : ∃ d', d = d' + 1 := ⟨d - 1, by omega⟩
    have ih := fun t x y r h => eqV_run m t x y r h d (by omega)
    simp only [eqV] at h
    split at h
    · rename_i a b hu; cases h; exact run_equalIn_bool' w d t _ _ hu
    · rename_i k a k' b hu
      split at h <;> first | (cases h; done) | (cases h; exact run_equalIn_int w d t _ _ _ _ hu)
    · rename_i a b hu; cases h; exact run_equalIn_string w d t _ _ hu
    · rename_i fs xs ys hu
      cases hs : P.stoodInHeld t with
      | true => rw [hs] at h; cases h
      | false =>
        rw [hs] at h
        have hf : P.fieldsOf t = fs := by simp [Program.fieldsOf, hu]
        rw [run_equalIn_agg w d t xs ys (by rw [hf]; exact hu) hs]
        exact eqFs_run ih xs ys _ r h w
    · rename_i n e xs ys hu
      cases hi : P.info? e with
      | none => rw [hi] at h; cases h
      | some i =>
        rw [hi] at h
        rw [run_equalIn_array w d xs ys hu hi]
        exact eqIs_run ih e _ xs ys _ r h w
    · cases h

theorem neqI {T : TypeId} {a b : Operand} {xs ys : Array Value} {r : Bool} {K : Bool → W R} (hg : P.eqGuardType P.depth T = false) (h : eqV P 9 T (.agg xs) (.agg ys) = some r) (hk : K (!r) Q w) :
    rawQ P (do Go.eqGuard .neq T a b (.agg xs) (.agg ys); Go.binOp .neq T (.agg xs) (.agg ys)) [.sc .bool] K Q w := by
  refine ⟨!r, ?_, hk⟩
  rw [Sem.run_bind, run_eqGuard_agg (P := P) w _ _ _ _ _ _ hg]
  simp only [Result.andThen_ok]
  rw [run_neq_struct, eqV_run 9 T _ _ r h 10000 (by omega)]
  rfl
theorem eqlI {T : TypeId} {a b : Operand} {xs ys : Array Value} {r : Bool} {K : Bool → W R} (hg : P.eqGuardType P.depth T = false) (h : eqV P 9 T (.agg xs) (.agg ys) = some r) (hk : K r Q w) :
    rawQ P (do Go.eqGuard .eql T a b (.agg xs) (.agg ys); Go.binOp .eql T (.agg xs) (.agg ys)) [.sc .bool] K Q w := by
  refine ⟨r, ?_, hk⟩
  rw [Sem.run_bind, run_eqGuard_agg (P := P) w _ _ _ _ _ _ hg]
  simp only [Result.andThen_ok]
  rw [run_eql_struct, eqV_run 9 T _ _ r h 10000 (by omega)]
  rfl

end Go.Proofs.YtchhhjlpnecjkaaGreat.Den
