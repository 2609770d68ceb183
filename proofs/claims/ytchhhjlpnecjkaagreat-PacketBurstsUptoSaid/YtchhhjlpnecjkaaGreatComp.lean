/-
  What the functions of schema and of the document's layer 5 compute.
-/
import Derived.Test.YtchhhjlpnecjkaaGreatEq
import Derived.Test.YtchhhjlpnecjkaaGreatF
namespace Go.Proofs.YtchhhjlpnecjkaaGreat
open Go Go.RowKit Go.Proofs.YtchhhjlpnecjkaaGreat.Den

abbrev Comp := Int × Int × Int × Int
abbrev compT : Ty := .agg [.int .u8, .int .i32, .int .i32, .int .i32]
abbrev fldT : Ty := .agg [.str, .int .i32, .int .i32]
def i32 (x : Int) : Prop := -2147483648 ≤ x ∧ x ≤ 2147483647
def CompOk (c : Comp) : Prop := (0 ≤ c.1 ∧ c.1 ≤ 255) ∧ i32 c.2.1 ∧ i32 c.2.2.1 ∧ i32 c.2.2.2
def fieldsM (k : Int) : List (ByteArray × Int × Int) :=
  if k = 0 then [(⟨#[120]⟩, -524288, 524287), (⟨#[121]⟩, -524288, 524287)]
  else if k = 1 then [(⟨#[100, 120]⟩, -32768, 32767), (⟨#[100, 121]⟩, -32768, 32767)]
  else if k = 2 then [(⟨#[108, 101, 102, 116]⟩, 0, 4095)]
  else if k = 3 then [(⟨#[115, 104, 97, 112, 101]⟩, 0, 15), (⟨#[104, 112]⟩, 0, 1000), (⟨#[115, 105, 122, 101]⟩, 1, 100)]
  else if k = 4 then [(⟨#[116, 101, 97, 109]⟩, 0, 7), (⟨#[99, 111, 108, 111, 114]⟩, 0, 255), (⟨#[102, 108, 97, 103, 115]⟩, 0, 31)]
  else if k = 5 then [(⟨#[101, 118, 101, 114, 121]⟩, 1, 255), (⟨#[108, 101, 102, 116]⟩, 0, 254), (⟨#[115, 104, 97, 112, 101]⟩, 0, 15)]
  else []
def nameM (k : Int) : ByteArray :=
  if k = 0 then ⟨#[112, 111, 115]⟩ else if k = 1 then ⟨#[118, 101, 108]⟩ else if k = 2 then ⟨#[108, 105, 102, 101]⟩ else if k = 3 then ⟨#[98, 111, 100, 121]⟩
  else if k = 4 then ⟨#[116, 97, 103]⟩ else if k = 5 then ⟨#[115, 112, 97, 119, 110]⟩ else ⟨#[]⟩
def toldM (k : Int) : Bool := decide (k = 0 ∨ k = 1 ∨ k = 2 ∨ k = 3 ∨ k = 4)
def cntM (k : Int) : Nat := (fieldsM k).length
theorem fieldsM_cases (k : Int) : k = 0 ∨ k = 1 ∨ k = 2 ∨ k = 3 ∨ k = 4 ∨ k = 5 ∨ (k ≠ 0 ∧ k ≠ 1 ∧ k ≠ 2 ∧ k ≠ 3 ∧ k ≠ 4 ∧ k ≠ 5) := by omega
theorem cntM_le (k : Int) : cntM k ≤ 3 := by
  rcases fieldsM_cases k with rfl | rfl | rfl | rfl | rfl | rfl | ⟨h0, h1, h2, h3, h4, h5⟩ <;> simp [cntM, fieldsM, *]
theorem cntM_0 (k : Int) : cntM k = 0 ↔ (k < 0 ∨ 5 < k) := by
  rcases fieldsM_cases k with rfl | rfl | rfl | rfl | rfl | rfl | ⟨h0, h1, h2, h3, h4, h5⟩ <;> simp [cntM, fieldsM, *]
  omega
def fl (c : Comp) : Nat → Int
  | 0 => c.2.1
  | 1 => c.2.2.1
  | _ => c.2.2.2
abbrev compC (c : Comp) : List Value := [.int .u8 c.1, .int .i32 c.2.1, .int .i32 c.2.2.1, .int .i32 c.2.2.2]
theorem compC_fl (c : Comp) {i : Nat} (h : i < 3) : (compC c)[1 + i]? = some (.int .i32 (fl c i)) := by
  rcases i with _ | _ | _ | i
  · rfl
  · rfl
  · rfl
  · omega
/-- is field i of c in its range? -/
def inR (c : Comp) (i : Nat) : Bool := match (fieldsM c.1)[i]? with
  | some p => decide (p.2.1 ≤ fl c i) && decide (fl c i ≤ p.2.2)
  | none => fl c i == 0
def over (c : Comp) : Bool := (List.range 3).any fun i => decide (cntM c.1 ≤ i) && !inR c i
def checkM (c : Comp) : Int := if cntM c.1 = 0 then 1 else if over c then 4 else if (List.range 3).all (inR c) then 0 else 5

variable {R : Type} {Q : R → World → Prop} {w : World}

theorem spec_schema_of {k : Int} {K : Res [.agg [.str, .bool, .sl]] → W R} (hk : ∀ (s : Sl) w', SlT (fun b => w.heap.size ≤ b) w' fldT s (fieldsM k) → Fr None w w' → K (nameM k, toldM k, s) Q w') :
    callW Tryz.prog k_schema_of [.int .u8 k] [.agg [.str, .bool, .sl]] K Q w := by
  refine C_schema_of k K Q w ?_
  unfold F_schema_of
  refine newI fun w1 B1 f1 s1 => ?_
  have lit : ∀ {l : List (ByteArray × Int × Int)} {nm : ByteArray} {td : Bool} {n : Nat}, fieldsM k = l → nameM k = nm → toldM k = td → n = l.length → n ≤ 3 →
      newW 239 (l.flatMap fldT.cells) (fun x => stoL ⟨w.heap.size, 0, none⟩ [.string nm, .bool td, .slice (some x) n n] 0 <| ld (.agg [.str, .bool, .sl]) ⟨w.heap.size, 0, none⟩ fun y => K y) Q w1 := by
    intro l nm td n e1 e2 e3 e4 e5
    subst e1; subst e2; subst e3; subst e4
    have ow := Own.lit (S := fun b => w.heap.size ≤ b) w1 239 fldT (fieldsM k) (by omega) (by rw [maxLen_eq]; omega) rfl rfl
    refine newI fun w2 B2 f2 s2 => ?_
    refine stoAll (B1.fr f2 (fun h => h)) rfl rfl fun w3 B3 f3 s3 => ?_
    refine aggI B3 (x := (nameM k, toldM k, ⟨some ⟨w1.heap.size, 0, none⟩, (fieldsM k).length, (fieldsM k).length⟩)) rfl ?_
    refine hk _ _ ?_ ((f1.then0 f2).newer f3 (fun x e => by omega))
    refine ⟨rfl, Nat.le_refl _, .inr ⟨w1.heap.size, 0, rfl, by omega, by rw [s3, s2]; omega, fun i x hx => ?_⟩⟩
    rw [Nat.zero_add]
    refine Rd.keep (w := w2) (f3.block _ (by rw [s2]; omega) (by omega)) (Rd.cells.2 ?_)
    exact B2.cells _ _ (fun j u hu => flat_at hx j u hu)
  refine condE (fun h => ?_) fun h0 => ?_
  · subst h; exact lit (l := fieldsM 0) rfl rfl rfl rfl (by decide)
  refine condE (fun h => ?_) fun h1 => ?_
  · subst h; exact lit (l := fieldsM 1) rfl rfl rfl rfl (by decide)
  refine condE (fun h => ?_) fun h2 => ?_
  · subst h; exact lit (l := fieldsM 2) rfl rfl rfl rfl (by decide)
  refine condE (fun h => ?_) fun h3 => ?_
  · subst h; exact lit (l := fieldsM 3) rfl rfl rfl rfl (by decide)
  refine condE (fun h => ?_) fun h4 => ?_
  · subst h; exact lit (l := fieldsM 4) rfl rfl rfl rfl (by decide)
  refine condE (fun h => ?_) fun h5 => ?_
  · subst h; exact lit (l := fieldsM 5) rfl rfl rfl rfl (by decide)
  refine stoAll B1 rfl rfl fun w3 B3 f3 s3 => ?_
  refine aggI B3 (x := (⟨#[]⟩, false, ⟨none, 0, 0⟩)) rfl ?_
  have e1 : fieldsM k = [] := by simp [fieldsM, h0, h1, h2, h3, h4, h5]
  have e2 : nameM k = ⟨#[]⟩ := by simp [nameM, h0, h1, h2, h3, h4, h5]
  have e3 : toldM k = false := by simp [toldM, h0, h1, h2, h3, h4]
  have := hk ⟨none, 0, 0⟩ w3 (by rw [e1]; exact SlT.nil _) (f1.newer f3 (fun x e => by omega))
  rw [e2, e3] at this
  exact this

theorem comps_ty : SlTy Tryz.prog 55 92 compT 16 := slTy (by kernel_rfl)
theorem i32s_ty : SlTy Tryz.prog 191 21 (.sc (.int .i32)) 4 := slTy (by kernel_rfl)

theorem over_of {c : Comp} {i : Nat} (h : i < 3) (hn : cntM c.1 ≤ i) (hx : fl c i ≠ 0) : over c = true := by
  simp only [over, List.any_eq_true, List.mem_range, Bool.and_eq_true, decide_eq_true_eq]
  refine ⟨i, h, hn, ?_⟩
  have : (fieldsM c.1)[i]? = none := List.getElem?_eq_none hn
  simp [inR, this, hx]
theorem not_over {c : Comp} (h : ∀ i, cntM c.1 ≤ i → i < 3 → fl c i = 0) : over c = false := by
  rw [Bool.eq_false_iff]
  intro ho
  simp only [over, List.any_eq_true, List.mem_range, Bool.and_eq_true, decide_eq_true_eq] at ho
  obtain ⟨i, h3, hn, hx⟩ := ho
  have : (fieldsM c.1)[i]? = none := List.getElem?_eq_none hn
  simp [inR, this, h i hn h3] at hx
theorem all_inR {c : Comp} (h : ∀ i, cntM c.1 ≤ i → i < 3 → fl c i = 0) (h2 : ∀ i, i < cntM c.1 → inR c i = true) : (List.range 3).all (inR c) = true := by
  simp only [List.all_eq_true, List.mem_range]
  intro i hi
  rcases Nat.lt_or_ge i (cntM c.1) with hl | hg
  · exact h2 i hl
  · have : (fieldsM c.1)[i]? = none := List.getElem?_eq_none hg
    simp [inR, this, h i hg hi]
theorem not_all_inR {c : Comp} {i : Nat} (h : i < 3) (h2 : inR c i = false) : (List.range 3).all (inR c) = false := by
  rw [Bool.eq_false_iff]
  intro ho
  simp only [List.all_eq_true, List.mem_range] at ho
  rw [ho i h] at h2
  cases h2

theorem spec_schema_Check {c : Comp} {K : Res [.sc (.int .i64)] → W R} (hk : ∀ w', Fr None w w' → K (checkM c) Q w') :
    callW Tryz.prog k_schema_Check [.agg ⟨compC c⟩] [.sc (.int .i64)] K Q w := by
  refine C_schema_Check c K Q w ?_
  unfold F_schema_Check
  refine newI fun w1 B1 f1 s1 => ?_
  refine fldI B1 (x := c.1) rfl ?_
  refine spec_schema_of fun s w2 hS f2 => ?_
  have hn : s.n = cntM c.1 := hS.len
  have B2 := B1.fr f2 (fun h => h)
  have f02 := f1.then0 f2
  refine condE (fun h => ?_) fun h => ?_
  · have : cntM c.1 = 0 := by have : (s.n : Int) = 0 := h; omega
    have e := hk w2 f02
    simp only [checkM, this, if_true] at e
    exact e
  have h0 : cntM c.1 ≠ 0 := by intro e; exact h (by show (s.n : Int) = 0; omega)
  have h3 := cntM_le c.1
  refine chkI (by simp [hn]; omega) ?_
  simp only [Option.getD_some, Option.getD_none, Int.toNat_natCast, hn]
  refine forI (N := 3 - cntM c.1) (fun s : Int => s) (fun j s w' => s = j ∧ w' = w2 ∧ ∀ i, i < j → fl c (cntM c.1 + i) = 0) ⟨rfl, rfl, by omega⟩ (fun j s w' h => h.1) ?_ ?_
  · rintro j s1 w' K' hj ⟨e1, e2, hz⟩ - hK
    subst e1; subst e2
    simp only [show ¬ (3 = cntM c.1) by omega, if_false, Option.map_some, Nat.mul_one]
    rw [add_lit, add_lit]
    refine idxB (by omega) (by omega) ?_
    refine fld0 B2 (x := fl c (cntM c.1 + j)) (by
      rw [show 0 + 1 + cntM c.1 + (j : Int).toNat * 1 = 1 + (cntM c.1 + j) by simp; omega]
      exact compC_fl c (by omega)) ?_
    refine condN (fun hx => ?_) fun hx => ?_
    · have e := hk w' f02
      simp only [checkM, h0, if_false, over_of (c := c) (i := cntM c.1 + j) (by omega) (by omega) hx, if_true] at e
      exact e
    · refine hK _ _ ⟨wsucc hj (by omega), rfl, fun i hi => ?_⟩
      rcases Nat.lt_succ_iff_lt_or_eq.1 hi with h | h
      · exact hz i h
      · subst h; exact hx
  · rintro s1 w' ⟨e1, e2, hz⟩
    subst e2
    have hover : over c = false := not_over fun i h1 h2 => by
      have := hz (i - cntM c.1) (by omega)
      rwa [show cntM c.1 + (i - cntM c.1) = i by omega] at this
    refine forI (N := cntM c.1) (fun s : Int => s) (fun j s w'' => s = j ∧ Fr None w' w'' ∧ ∀ i, i < j → inR c i = true) ⟨rfl, Fr.refl _ _, by omega⟩ (fun j s w' h => h.1) ?_ ?_
    · rintro j s1 w3 K' hj ⟨e1, f3, hz2⟩ - hK
      subst e1
      rw [← hn]
      refine (hS.fr0 f3).idx rfl (by omega) (by rw [← hS.len]; omega) fun a x hx hr => ?_
      refine ldI x hr ?_
      refine newI fun w4 B4 f4 s4 => ?_
      refine stoAll B4 rfl rfl fun w5 B5 f5 s5 => ?_
      have f35 : Fr None w3 w5 := f4.newer f5 (fun y e => by omega)
      have B5' := (B2.fr f3 (fun h => h)).fr f35 (fun h => h)
      have hx' : (fieldsM c.1)[j]? = some x := by simpa using hx
      have hin : inR c j = (decide (x.2.1 ≤ fl c j) && decide (fl c j ≤ x.2.2)) := by simp [inR, hx']
      refine joinI (fun b w'' => b = !inR c j ∧ Fr None w3 w'') ?_ ?_
      · refine idxB (by omega) (by omega) ?_
        have hc : (compC c)[0 + 1 + (j : Int).toNat * 1]? = some (.int .i32 (fl c j)) := by
          rw [show 0 + 1 + (j : Int).toNat * 1 = 1 + j by simp]
          exact compC_fl c (by omega)
        refine fld0 B5'.drew (x := fl c j) hc ?_
        refine fldI B5.drew (x := x.2.1) rfl ?_
        refine condD (fun hlt => ?_) fun hge => ?_
        · exact ⟨by rw [hin]; simp; omega, f35.drew⟩
        · refine idxB (by omega) (by omega) ?_
          refine fld0 B5'.drew (x := fl c j) hc ?_
          refine fldI B5.drew (x := x.2.2) rfl ?_
          refine ⟨?_, f35.drew⟩
          rw [hin]
          have h1 : decide (x.2.1 ≤ fl c j) = true := decide_eq_true (Int.not_lt.1 hge)
          rw [h1, Bool.true_and]
          by_cases hgt : fl c j > x.2.2
          · rw [decide_eq_true hgt, decide_eq_false (Int.not_le.2 hgt)]; rfl
          · rw [decide_eq_false hgt, decide_eq_true (Int.not_lt.1 hgt)]; rfl
      · rintro b w6 ⟨rfl, f6⟩
        refine condI (fun hb => ?_) fun hb => ?_
        · have e := hk w6 ((f02.then0 f3).then0 f6)
          simp only [checkM, h0, if_false, hover, not_all_inR (c := c) (i := j) (by omega) (by simpa using hb)] at e
          exact e
        · refine hK _ _ ⟨wsucc hj (by omega), f3.then0 f6, fun i hi => ?_⟩
          rcases Nat.lt_succ_iff_lt_or_eq.1 hi with h | h
          · exact hz2 i h
          · subst h; simpa using hb
    · rintro s1 w3 ⟨e1, f3, hz2⟩
      have e := hk w3 (f02.then0 f3)
      simp only [checkM, h0, if_false, hover, all_inR (c := c) (fun i h1 h2 => by
        have := hz (i - cntM c.1) (by omega)
        rwa [show cntM c.1 + (i - cntM c.1) = i by omega] at this) hz2, if_true] at e
      exact e

/-! ### lists -/
def listM : Int → List Comp → Int
  | _, [] => 0
  | last, c :: r => if checkM c ≠ 0 then checkM c else if c.1 ≤ last then 4 else listM c.1 r
def listE (l : List Comp) : Int := listM (-1) l
def lastK (l : List Comp) : Nat → Int
  | 0 => -1
  | j + 1 => ((l[j]?).map (·.1)).getD 0
theorem listM_at {l : List Comp} {j : Nat} {x : Comp} (h : l[j]? = some x) : listM (lastK l j) (l.drop j) = if checkM x ≠ 0 then checkM x else if x.1 ≤ lastK l j then 4 else listM (lastK l (j + 1)) (l.drop (j + 1)) := by
  have e : lastK l (j + 1) = x.1 := by simp [lastK, h]
  rw [drop_at h, listM, e]
theorem listM_end (k : Int) (l : List Comp) : listM k (l.drop l.length) = 0 := by simp [listM]
theorem checkM_kind {c : Comp} (h : checkM c = 0) : 0 ≤ c.1 ∧ c.1 ≤ 5 := by
  have : cntM c.1 ≠ 0 := by intro e; simp [checkM, e] at h
  rw [ne_eq, cntM_0] at this
  omega

abbrev Small {α : Type} (l : List α) : Prop := l.length ≤ 1048576

theorem spec_schema_List {ok : Nat → Prop} {s : Sl} {l : List Comp} (hS : SlT ok w compT s l) (hm : Small l) {K : Res [.sc (.int .i64)] → W R} (hk : ∀ w', Fr None w w' → K (listE l) Q w') :
    callW Tryz.prog k_schema_List [.slice s.a s.n s.c] [.sc (.int .i64)] K Q w := by
  refine C_schema_List s K Q w ?_
  unfold F_schema_List
  refine forI (N := s.n) (fun s : Int => s) (fun j i w' => i = j ∧ Fr None w w' ∧ listE l = listM (lastK l j) (l.drop j)) ⟨rfl, Fr.refl _ _, rfl⟩ (fun j s w' h => h.1) ?_ ?_
  · rintro j i w1 K' hj ⟨rfl, f1, he⟩ - hK
    have hlen := hS.len
    refine (hS.fr0 f1).get rfl rfl (by omega) fun x hx => ?_
    refine locI rfl rfl fun w2 B2 f2 s2 => ?_
    refine aggI B2 (x := x) rfl ?_
    refine spec_schema_Check (c := x) fun w3 f3 => ?_
    have B3 := B2.fr f3 (fun h => h)
    have f13 := f2.then0 f3
    rw [listM_at hx] at he
    refine condN (fun hc => ?_) fun hc => ?_
    · rw [if_pos hc] at he
      rw [← he]
      exact hk _ (f1.then0 f13)
    · rw [if_neg (by simpa using hc)] at he
      refine joinI (fun b w' => b = decide (x.1 ≤ lastK l j) ∧ Fr None w3 w') ?_ ?_
      · refine condD (fun h0 => ?_) fun h0 => ?_
        · obtain ⟨j', rfl⟩ : ∃ j', j = j' + 1 := ⟨j - 1, by omega⟩
          refine fldI B3.drew (x := x.1) rfl ?_
          have hS4 := (hS.fr0 (f1.then0 f13)).fr0 (Fr.refl None _).drew
          refine hS4.idx rfl (by rw [w64 (by omega)]; omega) (by rw [w64 (by omega)]; omega) fun a y hy hr => ?_
          have hy' : l[j']? = some y := by
            rw [w64 (by omega)] at hy
            rwa [show (((j' + 1 : Nat) : Int) - 1).toNat = j' by omega] at hy
          refine ldI (t := .sc (.int .u8)) y.1 ?_ ?_
          · have := Rd.cells.1 hr 0 (.int .u8 y.1) rfl
            exact this
          · exact ⟨by simp [lastK, hy'], (Fr.refl _ _).drew⟩
        · have : j = 0 := by omega
          subst this
          have := (checkM_kind hc).1
          have e0 : lastK l 0 = -1 := rfl
          exact ⟨by rw [e0]; simp; omega, (Fr.refl _ _).drew⟩
      · rintro b w4 ⟨rfl, f4⟩
        have f14 := f13.then0 f4
        refine condD (fun hle => ?_) fun hle => ?_
        · rw [if_pos hle] at he
          rw [← he]
          exact hk _ (f1.then0 f14)
        · rw [if_neg hle] at he
          exact hK _ _ ⟨wsucc hj (by omega), f1.then0 f14, he⟩
  · rintro i w1 ⟨rfl, f1, he⟩
    rw [hS.len, listM_end] at he
    rw [← he]
    exact hk _ f1

/-! ### masks -/
theorem bits_or : ∀ m : Fin 64, ∀ k : Fin 6, bOr .u8 ((m.val : Nat) : Int) (shL .u8 1 ((k.val : Nat) : Int)) = ((m.val ||| (1 <<< k.val) : Nat) : Int) ∧ m.val ||| (1 <<< k.val) < 64 := by decide +kernel
theorem bits_odd : ∀ m : Fin 64, ∀ k : Fin 6, ((Int.tmod (shR .u8 ((m.val : Nat) : Int) ((k.val : Nat) : Int)) 2) == 0) = !Nat.testBit m.val k.val := by decide +kernel
theorem bits_and : ∀ m : Fin 64, ∀ k : Fin 6, ((bAnd .u8 (shR .u8 ((m.val : Nat) : Int) ((k.val : Nat) : Int)) 1) == 1) = Nat.testBit m.val k.val := by decide +kernel
theorem bits_add : ∀ m : Fin 64, ∀ k : Fin 6, Nat.testBit m.val k.val = false → IntKind.wrap .u8 ((m.val : Int) + (shL .u8 1 ((k.val : Nat) : Int))) = ((m.val ||| (1 <<< k.val) : Nat) : Int) := by decide +kernel
def has (l : List Comp) (k : Nat) : Bool := l.any fun c => c.1 == (k : Int)
def orK (m : Nat) (c : Comp) : Nat := if (0 : Int) ≤ c.1 ∧ c.1 < (6 : Int) then m ||| (1 <<< c.1.toNat) else m
def maskN (l : List Comp) : Nat := l.foldl orK 0
theorem or_bit {m k i : Nat} : Nat.testBit (m ||| (1 <<< k)) i = (Nat.testBit m i || decide (i = k)) := by
  rw [Nat.testBit_or, Nat.one_shiftLeft, Nat.testBit_two_pow]
  congr 1
  exact decide_eq_decide.2 ⟨Eq.symm, Eq.symm⟩
theorem maskN_lt (l : List Comp) : maskN l < 64 := by
  unfold maskN
  have : ∀ (l : List Comp) (m : Nat), m < 64 → l.foldl orK m < 64 := by
    intro l
    induction l with
    | nil => intro m h; exact h
    | cons c r ih =>
      intro m h
      rw [List.foldl_cons]
      refine ih _ ?_
      unfold orK
      split
      · rename_i hc
        exact (bits_or ⟨m, h⟩ ⟨c.1.toNat, by omega⟩).2
      · exact h
  exact this l 0 (by omega)
theorem maskN_snoc (l : List Comp) (c : Comp) : maskN (l ++ [c]) = if 0 ≤ c.1 ∧ c.1 < 6 then maskN l ||| (1 <<< c.1.toNat) else maskN l := by
  unfold maskN
  rw [List.foldl_append]
  rfl
theorem maskN_bit (l : List Comp) {k : Nat} (hk : k < 6) : Nat.testBit (maskN l) k = has l k := by
  have : ∀ (l : List Comp) (m : Nat), Nat.testBit (l.foldl orK m) k = (Nat.testBit m k || has l k) := by
    intro l
    induction l with
    | nil => intro m; simp [has]
    | cons c r ih =>
      intro m
      rw [List.foldl_cons, ih, orK]
      by_cases hc : 0 ≤ c.1 ∧ c.1 < 6
      · rw [if_pos hc, or_bit, Bool.or_assoc]
        congr 1
        simp only [has, List.any_cons]
        congr 1
        by_cases h : k = c.1.toNat
        · simp [h]; omega
        · have : ¬ c.1 = (k : Int) := by omega
          simp [h, this]
      · rw [if_neg hc]
        congr 1
        have : ¬ c.1 = (k : Int) := by omega
        simp [has, this]
  have h := this l 0
  simpa [maskN] using h
theorem mask_ext {m n : Nat} (h1 : m < 64) (h2 : n < 64) (h : ∀ k, k < 6 → Nat.testBit m k = Nat.testBit n k) : m = n := by
  refine Nat.eq_of_testBit_eq fun i => ?_
  rcases Nat.lt_or_ge i 6 with hi | hi
  · exact h i hi
  · have : 64 ≤ 2 ^ i := Nat.pow_le_pow_right (n := 2) (by omega) hi
    rw [Nat.testBit_lt_two_pow (by omega), Nat.testBit_lt_two_pow (by omega)]

theorem spec_schema_Mask {ok : Nat → Prop} {s : Sl} {l : List Comp} (hS : SlT ok w compT s l) (hm : Small l) (hl : ∀ c ∈ l, CompOk c) {K : Res [.sc (.int .u8)] → W R} (hk : ∀ w', Fr None w w' → K ((maskN l : Nat) : Int) Q w') :
    callW Tryz.prog k_schema_Mask [.slice s.a s.n s.c] [.sc (.int .u8)] K Q w := by
  refine C_schema_Mask s K Q w ?_
  unfold F_schema_Mask
  have hlen := hS.len
  refine forI (N := s.n) (fun s : Int × Int => s.2) (fun j i w' => i = (((maskN (l.take j) : Nat) : Int), (j : Int)) ∧ Fr None w w') ⟨rfl, Fr.refl _ _⟩ (fun j s w' h => by rw [h.1]) ?_ ?_
  · rintro j i w1 K' hj ⟨rfl, f1⟩ - hK
    refine (hS.fr0 f1).get rfl rfl (by omega) fun x hx => ?_
    refine locI rfl rfl fun w2 B2 f2 s2 => ?_
    refine fldI B2 (x := x.1) rfl ?_
    have hx1 := (hl x (List.mem_of_getElem? hx)).1
    have hsn := maskN_snoc (l.take j) x
    rw [← take_at hx] at hsn
    refine joinI (fun m w' => m = ((maskN (l.take (j + 1)) : Nat) : Int) ∧ w' = w2) ?_ ?_
    · refine condD (fun h6 => ?_) fun h6 => ?_
      · refine fldI B2 (x := x.1) rfl ?_
        refine chkI hx1.1 ⟨?_, rfl⟩
        rw [hsn, if_pos ⟨hx1.1, h6⟩]
        have := (bits_or ⟨maskN (l.take j), maskN_lt _⟩ ⟨x.1.toNat, by omega⟩).1
        simp only [Int.toNat_of_nonneg hx1.1] at this
        exact this
      · exact ⟨by rw [hsn, if_neg (by omega)], rfl⟩
    · rintro m w3 ⟨rfl, rfl⟩
      exact hK _ _ ⟨by rw [wsucc hj (by omega)], f1.then0 f2⟩
  · rintro i w1 ⟨rfl, f1⟩
    rw [hlen, List.take_length]
    exact hk _ f1

theorem spec_r5_Mask {ok : Nat → Prop} {s : Sl} {l : List Comp} (hS : SlT ok w compT s l) (hm : Small l) {K : Res [.sc (.int .u8)] → W R} (hk : ∀ w', Fr None w w' → K ((maskN l : Nat) : Int) Q w') :
    callW Tryz.prog k_pinnaceref05_Mask [.slice s.a s.n s.c] [.sc (.int .u8)] K Q w := by
  refine C_pinnaceref05_Mask s K Q w ?_
  unfold F_pinnaceref05_Mask
  have hlen := hS.len
  refine forI (N := 6) (fun s : Int × Int => s.2) (fun k i w' => ∃ m : Nat, i = ((m : Int), (k : Int)) ∧ m < 64 ∧ (∀ q, q < 6 → Nat.testBit m q = (decide (q < k) && has l q)) ∧ Fr None w w')
    ⟨0, rfl, by omega, fun q _ => by simp, Fr.refl _ _⟩ (fun j s w' h => by obtain ⟨m, h, _⟩ := h; rw [h]) ?_ ?_
  · rintro k i w1 K' hk6 ⟨m, rfl, hm64, hbit, f1⟩ - hK
    refine forI (N := s.n) (fun s : Int × Int => s.2) (fun j i w' => ∃ m : Nat, i = ((m : Int), (j : Int)) ∧ m < 64 ∧ (∀ q, q < 6 → Nat.testBit m q = ((decide (q < k) && has l q) || (decide (q = k) && has (l.take j) k))) ∧ Fr None w w')
      ⟨m, rfl, hm64, fun q hq => by rw [hbit q hq]; simp [has], f1⟩ (fun j s w' h => by obtain ⟨m, h, _⟩ := h; rw [h]) ?_ ?_
    · rintro j i w2 K'' hj ⟨m, rfl, hm64, hbit, f2⟩ - hK2
      refine (hS.fr0 f2).get rfl rfl (by omega) fun x hx => ?_
      refine locI rfl rfl fun w3 B3 f3 s3 => ?_
      have hsn : has (l.take (j + 1)) k = (has (l.take j) k || x.1 == (k : Int)) := by rw [take_at hx]; simp [has]
      refine joinI (fun b w' => b = ((x.1 == (k : Int)) && !Nat.testBit m k) ∧ w' = w3) ?_ ?_
      · refine fldI B3 (x := x.1) rfl ?_
        refine condI (fun h => ?_) fun h => ?_
        · refine chkI (by simp) ⟨?_, rfl⟩
          have := bits_odd ⟨m, hm64⟩ ⟨k, hk6⟩
          rw [h, Bool.true_and]
          exact this
        · exact ⟨by rw [h]; rfl, rfl⟩
      · rintro b w4 ⟨rfl, rfl⟩
        refine joinI (fun m' w' => ∃ n : Nat, m' = (n : Int) ∧ n < 64 ∧ (∀ q, q < 6 → Nat.testBit n q = ((decide (q < k) && has l q) || (decide (q = k) && has (l.take (j + 1)) k))) ∧ w' = w4) ?_ ?_
        · refine condI (fun h => ?_) fun h => ?_
          · simp only [Bool.and_eq_true, Bool.not_eq_true'] at h
            refine chkI (by simp) ⟨m ||| (1 <<< k), bits_add ⟨m, hm64⟩ ⟨k, hk6⟩ h.2, (bits_or ⟨m, hm64⟩ ⟨k, hk6⟩).2, fun q hq => ?_, rfl⟩
            rw [or_bit, hbit q hq, hsn, h.1, Bool.or_true, Bool.and_true]
            by_cases hqk : q = k <;> simp [hqk]
          · refine ⟨m, rfl, hm64, fun q hq => ?_, rfl⟩
            rw [hbit q hq, hsn]
            by_cases hqk : q = k
            · subst hqk
              have hb := hbit q hq
              cases hxk : (x.1 == (q : Int)) with
              | false => simp
              | true =>
                rw [hxk, Bool.true_and, Bool.not_eq_false'] at h
                rw [h] at hb
                simp at hb
                simp [hb]
            · simp [hqk]
        · rintro m' w5 ⟨n, rfl, hn, hb, rfl⟩
          exact hK2 _ _ ⟨n, by rw [wsucc hj (by omega)], hn, hb, f2.then0 f3⟩
    · rintro i w2 ⟨m, rfl, hm64, hbit, f2⟩
      refine hK _ _ ⟨m, by rw [wu8 (by omega)]; rfl, hm64, fun q hq => ?_, f2⟩
      rw [hbit q hq, hlen, List.take_length]
      by_cases h1 : q = k
      · simp [h1]
      · have : decide (q < k + 1) = decide (q < k) := decide_eq_decide.2 (by omega)
        simp [h1, this]
  · rintro i w1 ⟨m, rfl, hm64, hbit, f1⟩
    have : m = maskN l := mask_ext hm64 (maskN_lt l) fun q hq => by rw [hbit q hq, maskN_bit l hq]; simp [hq]
    rw [this]
    exact hk _ f1

/-! ### the document's layer 5 -/
theorem spec_r5_Count {k : Int} (h0 : 0 ≤ k) {K : Res [.sc (.int .i64)] → W R} (hk : ∀ w', Fr None w w' → K ((cntM k : Nat) : Int) Q w') : callW Tryz.prog k_pinnaceref05_Count [.int .u8 k] [.sc (.int .i64)] K Q w := by
  refine C_pinnaceref05_Count k K Q w ?_
  unfold F_pinnaceref05_Count
  refine condD (fun h => ?_) fun h => ?_
  · have e := hk w (Fr.refl _ _)
    rw [(cntM_0 k).2 (.inr h)] at e
    exact e
  · refine newI fun w1 B1 f1 s1 => ?_
    refine idxB h0 (by omega) ?_
    rw [Nat.mul_one, Nat.zero_add]
    have e := hk w1 f1
    rcases (by omega : k = 0 ∨ k = 1 ∨ k = 2 ∨ k = 3 ∨ k = 4 ∨ k = 5) with rfl | rfl | rfl | rfl | rfl | rfl
    all_goals exact fld0 B1 (x := ((cntM _ : Nat) : Int)) rfl e

def rangeM (k i : Int) : Int × Int × Int := if 0 ≤ i then (match (fieldsM k)[i.toNat]? with
  | some p => (p.2.1, p.2.2, 0)
  | none => (0, 0, 1)) else (0, 0, 1)
theorem spec_r5_Range {k i : Int} (h0 : 0 ≤ k) {K : Res [.sc (.int .i32), .sc (.int .i32), .sc (.int .i64)] → W R} (hk : ∀ w', Fr None w w' → K (rangeM k i) Q w') :
    callW Tryz.prog k_pinnaceref05_Range [.int .u8 k, .int .i64 i] [.sc (.int .i32), .sc (.int .i32), .sc (.int .i64)] K Q w := by
  refine C_pinnaceref05_Range k i K Q w ?_
  unfold F_pinnaceref05_Range
  refine joinI (fun b w' => b = decide (i < 0 ∨ (cntM k : Int) ≤ i) ∧ Fr None w w') ?_ ?_
  · refine condD (fun h => ⟨by simp [h], Fr.refl _ _⟩) fun h => ?_
    refine spec_r5_Count h0 fun w1 f1 => ⟨?_, f1⟩
    by_cases h2 : (cntM k : Int) ≤ i
    · simp [h, h2]
    · simp [h, h2]
  · rintro b w1 ⟨rfl, f1⟩
    refine condD (fun h => ?_) fun h => ?_
    · have : rangeM k i = (0, 0, 1) := by
        unfold rangeM
        by_cases hi : 0 ≤ i
        · rw [if_pos hi, List.getElem?_eq_none (by show cntM k ≤ _; omega)]
        · rw [if_neg hi]
      have e := hk w1 f1
      rw [this] at e
      exact e
    · have hi : 0 ≤ i := by omega
      have hlt : i.toNat < cntM k := by omega
      have hin : ∀ n : Nat, n = cntM k → i < (n : Int) := fun n e => by omega
      have hc : cntM k ≠ 0 := by omega
      have h5 : k ≤ 5 := by
        rw [ne_eq, cntM_0] at hc
        omega
      have h3 := cntM_le k
      obtain ⟨p, hp⟩ : ∃ p, (fieldsM k)[i.toNat]? = some p := ⟨_, List.getElem?_eq_getElem hlt⟩
      have hr : rangeM k i = (p.2.1, p.2.2, 0) := by simp [rangeM, hi, hp]
      rw [hr] at hk
      refine newI fun wa Ba fa sa => newI fun wb Bb fb sb => newI fun wc Bc fc sc => newI fun wd Bd fd sd => newI fun we Be fe se => newI fun wf Bf ff sf => newI fun wg Bg fg sg => ?_
      have Bf' := Bf.fr fg (fun h => h)
      have Be' := Be.fr (ff.then0 fg) (fun h => h)
      have Bd' := Bd.fr ((fe.then0 ff).then0 fg) (fun h => h)
      have Bc' := Bc.fr (((fd.then0 fe).then0 ff).then0 fg) (fun h => h)
      have Bb' := Bb.fr ((((fc.then0 fd).then0 fe).then0 ff).then0 fg) (fun h => h)
      have Ba' := Ba.fr (((((fb.then0 fc).then0 fd).then0 fe).then0 ff).then0 fg) (fun h => h)
      have f1g : Fr None w wg := (((((((f1.then0 fa).then0 fb).then0 fc).then0 fd).then0 fe).then0 ff).then0 fg)
      have kc : k = 0 ∨ k = 1 ∨ k = 2 ∨ k = 3 ∨ k = 4 ∨ k = 5 := by omega
      refine idxB h0 (by omega) ?_
      have sel : ∀ {R' : Type} {Q' : R' → World → Prop} {K2 : Sl → W R'}, (∀ b cs T n, Blk wg b T cs → n = cntM k → cs = (fieldsM k).map (fun p => Value.int .i32 p.2.1) → K2 ⟨some ⟨b, 0, none⟩, n, n⟩ Q' wg) → ld (.sc .sl) ⟨wf.heap.size, 0 + k.toNat * 1, none⟩ K2 Q' wg := by
        intro R' Q' K2 hK
        rcases kc with rfl | rfl | rfl | rfl | rfl | rfl
        · exact fld0 Bg (x := ⟨_, _, _⟩) rfl (hK _ _ _ _ Ba' rfl rfl)
        · exact fld0 Bg (x := ⟨_, _, _⟩) rfl (hK _ _ _ _ Bb' rfl rfl)
        · exact fld0 Bg (x := ⟨_, _, _⟩) rfl (hK _ _ _ _ Bc' rfl rfl)
        · exact fld0 Bg (x := ⟨_, _, _⟩) rfl (hK _ _ _ _ Bd' rfl rfl)
        · exact fld0 Bg (x := ⟨_, _, _⟩) rfl (hK _ _ _ _ Be' rfl rfl)
        · exact fld0 Bg (x := ⟨_, _, _⟩) rfl (hK _ _ _ _ Bf' rfl rfl)
      refine sel fun b cs T n Bx hn hcs => ?_
      refine idxB hi (hin n hn) ?_
      refine fld0 Bx (x := p.2.1) (by rw [hcs, Nat.mul_one, Nat.zero_add, List.getElem?_map, hp]; rfl) ?_
      refine newI fun va Ca ga ta => newI fun vb Cb gb tb => newI fun vc Cc gc tc => newI fun vd Cd gd td => newI fun ve Ce ge te => newI fun vf Cf gf tf => newI fun vg Cg gg tg => ?_
      have Cf' := Cf.fr gg (fun h => h)
      have Ce' := Ce.fr (gf.then0 gg) (fun h => h)
      have Cd' := Cd.fr ((ge.then0 gf).then0 gg) (fun h => h)
      have Cc' := Cc.fr (((gd.then0 ge).then0 gf).then0 gg) (fun h => h)
      have Cb' := Cb.fr ((((gc.then0 gd).then0 ge).then0 gf).then0 gg) (fun h => h)
      have Ca' := Ca.fr (((((gb.then0 gc).then0 gd).then0 ge).then0 gf).then0 gg) (fun h => h)
      refine idxB h0 (by omega) ?_
      have sel2 : ∀ {R' : Type} {Q' : R' → World → Prop} {K2 : Sl → W R'}, (∀ b cs T n, Blk vg b T cs → n = cntM k → cs = (fieldsM k).map (fun p => Value.int .i32 p.2.2) → K2 ⟨some ⟨b, 0, none⟩, n, n⟩ Q' vg) → ld (.sc .sl) ⟨vf.heap.size, 0 + k.toNat * 1, none⟩ K2 Q' vg := by
        intro R' Q' K2 hK
        rcases kc with rfl | rfl | rfl | rfl | rfl | rfl
        · exact fld0 Cg (x := ⟨_, _, _⟩) rfl (hK _ _ _ _ Ca' rfl rfl)
        · exact fld0 Cg (x := ⟨_, _, _⟩) rfl (hK _ _ _ _ Cb' rfl rfl)
        · exact fld0 Cg (x := ⟨_, _, _⟩) rfl (hK _ _ _ _ Cc' rfl rfl)
        · exact fld0 Cg (x := ⟨_, _, _⟩) rfl (hK _ _ _ _ Cd' rfl rfl)
        · exact fld0 Cg (x := ⟨_, _, _⟩) rfl (hK _ _ _ _ Ce' rfl rfl)
        · exact fld0 Cg (x := ⟨_, _, _⟩) rfl (hK _ _ _ _ Cf' rfl rfl)
      refine sel2 fun b2 cs2 T2 n2 Bx2 hn2 hcs2 => ?_
      refine idxB hi (hin n2 hn2) ?_
      refine fld0 Bx2 (x := p.2.2) (by rw [hcs2, Nat.mul_one, Nat.zero_add, List.getElem?_map, hp]; rfl) ?_
      exact hk _ (((((((f1g.then0 ga).then0 gb).then0 gc).then0 gd).then0 ge).then0 gf).then0 gg)

theorem spec_r5_Check {c : Comp} (hc0 : 0 ≤ c.1) {K : Res [.sc (.int .i64)] → W R} (hk : ∀ w', Fr None w w' → K (checkM c) Q w') :
    callW Tryz.prog k_pinnaceref05_Check [.agg ⟨compC c⟩] [.sc (.int .i64)] K Q w := by
  refine C_pinnaceref05_Check c K Q w ?_
  unfold F_pinnaceref05_Check
  refine newI fun w1 B1 f1 s1 => ?_
  refine fldI B1 (x := c.1) rfl ?_
  refine spec_r5_Count hc0 fun w2 f2 => ?_
  have B2 := B1.fr f2 (fun h => h)
  have f02 := f1.then0 f2
  have h3 := cntM_le c.1
  refine condE (fun h => ?_) fun h => ?_
  · have e := hk w2 f02
    simp only [checkM, show cntM c.1 = 0 by omega, if_true] at e
    exact e
  have h0 : cntM c.1 ≠ 0 := by omega
  have cell : ∀ {i : Nat}, i < 3 → (compC c)[0 + 1 + (i : Int).toNat * 1]? = some (.int .i32 (fl c i)) := fun {i} hi => by
    rw [show 0 + 1 + (i : Int).toNat * 1 = 1 + i by simp]
    exact compC_fl c hi
  refine loopI (fun s w' => ∃ j : Nat, s = (j : Int) ∧ cntM c.1 ≤ j ∧ j ≤ 3 ∧ w' = w2 ∧ ∀ i, cntM c.1 ≤ i → i < j → fl c i = 0) (fun s _ => 3 - s.toNat) ⟨cntM c.1, rfl, Nat.le_refl _, h3, rfl, by omega⟩ ?_
  rintro s w' ⟨j, rfl, hj1, hj2, rfl, hz⟩
  refine condD (fun hlt => ?_) fun hge => ?_
  · rw [add_lit]
    refine idxB (by omega) (by omega) ?_
    refine fld0 B2 (x := fl c j) (cell (by omega)) ?_
    refine condN (fun hx => ?_) fun hx => ?_
    · have e := hk w' f02
      simp only [checkM, h0, if_false, over_of (c := c) (i := j) (by omega) hj1 hx, if_true] at e
      exact e
    · rw [w64 (by omega)]
      refine ⟨⟨j + 1, rfl, by omega, by omega, rfl, fun i hi hi2 => ?_⟩, by omega⟩
      rcases Nat.lt_succ_iff_lt_or_eq.1 hi2 with h | h
      · exact hz i hi h
      · subst h; exact hx
  · have hj3 : j = 3 := by omega
    subst hj3
    have hover : over c = false := not_over fun i h1 h2 => hz i h1 h2
    refine forI (N := cntM c.1) (fun s : Int => s) (fun j s w'' => s = j ∧ Fr None w' w'' ∧ ∀ i, i < j → inR c i = true) ⟨rfl, Fr.refl _ _, by omega⟩ (fun j s w' h => h.1) ?_ ?_
    · rintro j s1 w3 K' hj ⟨rfl, f3, hz2⟩ - hK
      have B3 := B2.fr f3 (fun h => h)
      refine fldI B3 (x := c.1) rfl ?_
      refine spec_r5_Range hc0 fun w4 f4 => ?_
      have B4 := B3.fr f4 (fun h => h)
      obtain ⟨x, hx⟩ : ∃ x, (fieldsM c.1)[j]? = some x := ⟨_, List.getElem?_eq_getElem hj⟩
      have hr : rangeM c.1 (j : Int) = (x.2.1, x.2.2, 0) := by simp [rangeM, hx]
      rw [hr]
      have hin : inR c j = (decide (x.2.1 ≤ fl c j) && decide (fl c j ≤ x.2.2)) := by simp [inR, hx]
      refine joinI (fun b w'' => b = !inR c j ∧ w'' = w4) ?_ ?_
      · rw [add_lit]
        refine idxB (by omega) (by omega) ?_
        refine fld0 B4 (x := fl c j) (cell (by omega)) ?_
        refine condD (fun hlt => ?_) fun hge => ?_
        · refine ⟨?_, rfl⟩
          have h1 : decide (x.2.1 ≤ fl c j) = false := decide_eq_false (Int.not_le.2 hlt)
          rw [hin, h1]; rfl
        · refine idxB (by omega) (by omega) ?_
          refine fld0 B4 (x := fl c j) (cell (by omega)) ?_
          refine ⟨?_, rfl⟩
          have h1 : decide (x.2.1 ≤ fl c j) = true := decide_eq_true (Int.not_lt.1 hge)
          rw [hin, h1, Bool.true_and]
          by_cases hgt : fl c j > x.2.2
          · rw [decide_eq_true hgt, decide_eq_false (Int.not_le.2 hgt)]; rfl
          · rw [decide_eq_false hgt, decide_eq_true (Int.not_lt.1 hgt)]; rfl
      · rintro b w5 ⟨rfl, rfl⟩
        refine condI (fun hb => ?_) fun hb => ?_
        · have e := hk w5 ((f02.then0 f3).then0 f4)
          simp only [checkM, h0, if_false, hover, not_all_inR (c := c) (i := j) (by omega) (by simpa using hb)] at e
          exact e
        · refine hK _ _ ⟨wsucc hj (by omega), f3.then0 f4, fun i hi => ?_⟩
          rcases Nat.lt_succ_iff_lt_or_eq.1 hi with h | h
          · exact hz2 i h
          · subst h; simpa using hb
    · rintro s1 w3 ⟨e1, f3, hz2⟩
      have e := hk w3 (f02.then0 f3)
      simp only [checkM, h0, if_false, hover, all_inR (c := c) (fun i h1 h2 => hz i h1 h2) hz2, if_true] at e
      exact e

theorem spec_r5_ListX {ok : Nat → Prop} {s : Sl} {l : List Comp} (hS : SlT ok w compT s l) (hm : l.length ≤ 9223372036854775807) (hl : ∀ c ∈ l, CompOk c) {K : Res [.sc (.int .i64)] → W R} (hk : ∀ w', Fr None w w' → K (listE l) Q w') :
    callW Tryz.prog k_pinnaceref05_List [.slice s.a s.n s.c] [.sc (.int .i64)] K Q w := by
  refine C_pinnaceref05_List s K Q w ?_
  unfold F_pinnaceref05_List
  have hlen := hS.len
  refine forI (N := s.n) (fun s : Int × Int => s.2) (fun j i w' => i = (lastK l j, (j : Int)) ∧ Fr None w w' ∧ listE l = listM (lastK l j) (l.drop j)) ⟨rfl, Fr.refl _ _, rfl⟩ (fun j s w' h => by rw [h.1]) ?_ ?_
  · rintro j i w1 K' hj ⟨rfl, f1, he⟩ - hK
    refine (hS.fr0 f1).get rfl rfl (by omega) fun x hx => ?_
    refine locI rfl rfl fun w2 B2 f2 s2 => ?_
    refine aggI B2 (x := x) rfl ?_
    have hx1 := (hl x (List.mem_of_getElem? hx)).1
    refine spec_r5_Check (c := x) hx1.1 fun w3 f3 => ?_
    have B3 := B2.fr f3 (fun h => h)
    have f13 := f2.then0 f3
    rw [listM_at hx] at he
    refine condN (fun hc => ?_) fun hc => ?_
    · rw [if_pos hc] at he
      rw [← he]
      exact hk _ (f1.then0 f13)
    · rw [if_neg (by simpa using hc)] at he
      refine fldI B3 (x := x.1) rfl ?_
      rw [w64 (x := x.1) (by omega)]
      refine condD (fun hle => ?_) fun hle => ?_
      · rw [if_pos hle] at he
        rw [← he]
        exact hk _ (f1.then0 f13)
      · rw [if_neg hle] at he
        refine fldI B3 (x := x.1) rfl ?_
        rw [w64 (x := x.1) (by omega)]
        refine hK _ _ ⟨?_, f1.then0 f13, he⟩
        rw [wsucc hj (by omega)]
        simp [lastK, hx]
  · rintro i w1 ⟨rfl, f1, he⟩
    rw [hS.len, listM_end] at he
    rw [← he]
    exact hk _ f1

theorem spec_r5_List {ok : Nat → Prop} {s : Sl} {l : List Comp} (hS : SlT ok w compT s l) (hm : Small l) (hl : ∀ c ∈ l, CompOk c) {K : Res [.sc (.int .i64)] → W R} (hk : ∀ w', Fr None w w' → K (listE l) Q w') :
    callW Tryz.prog k_pinnaceref05_List [.slice s.a s.n s.c] [.sc (.int .i64)] K Q w := spec_r5_ListX hS (Nat.le_trans hm (by decide)) hl hk

theorem spec_r5_Twin {ok : Nat → Prop} {s : Sl} {l : List Comp} (hS : SlT ok w compT s l) (hm : Small l) {K : Res [.sc .sl] → W R}
    (hk : ∀ r w', Own (fun k => w.heap.size ≤ k) w' 92 compT r l → Fr None w w' → K r Q w') :
    callW Tryz.prog k_pinnaceref05_Twin [.slice s.a s.n s.c] [.sc .sl] K Q w := by
  refine C_pinnaceref05_Twin s K Q w ?_
  unfold F_pinnaceref05_Twin
  refine newI fun w1 B1 f1 s1 => ?_
  have own := Own.mk' (S := fun k => w.heap.size ≤ k) (w := w1) (E := 92) (t := compT) (l := []) (g := w.heap.size) (c := 0) (cur := ⟨[]⟩) (Nat.le_refl _) B1 (Nat.le_refl _) (Nat.zero_le _) rfl rfl
  refine appI (s := ⟨some ⟨w.heap.size, 0, none⟩, 0, 0⟩) (s2 := s) (S' := fun k => w.heap.size ≤ k) comps_ty own (hS.fr0 f1) (by simp; omega) (by rw [maxLen_eq]; simp; omega) (fun _ h => h) (by show _ ≤ _; omega) fun r w2 ho f2 s2 => ?_
  rw [List.nil_append] at ho
  exact hk r w2 ho (f1.newer f2 (fun x e => by simp only [Sl.v, Value.ownBlock, Option.some.injEq] at e; omega))

theorem comp_eq {x y : Comp} : (x.1 == y.1 && (((x.2.1 == y.2.1 && (x.2.2.1 == y.2.2.1 && (x.2.2.2 == y.2.2.2 && true)))) && true)) = decide (x = y) := by
  rw [Bool.eq_iff_iff]
  simp [Prod.ext_iff]
theorem eqV_comp (x y : Comp) : eqV Tryz.prog 9 92 (.agg ⟨compC x⟩) (.agg ⟨compC y⟩) = some (decide (x = y)) := by
  rw [← comp_eq]
  kernel_rfl
theorem eqG_comp : Tryz.prog.eqGuardType Tryz.prog.depth 92 = false := by kernel_rfl

theorem spec_r5_Same {ok ok2 : Nat → Prop} {s s2 : Sl} {l l2 : List Comp} (hS : SlT ok w compT s l) (hS2 : SlT ok2 w compT s2 l2) (hm : Small l) {K : Res [.sc .bool] → W R} (hk : ∀ w', Fr None w w' → K (decide (l = l2)) Q w') :
    callW Tryz.prog k_pinnaceref05_Same [.slice s.a s.n s.c, .slice s2.a s2.n s2.c] [.sc .bool] K Q w := by
  refine C_pinnaceref05_Same s s2 K Q w ?_
  unfold F_pinnaceref05_Same
  have h1 := hS.len
  have h2 := hS2.len
  refine condN (fun hne => ?_) fun heq => ?_
  · have e := hk w (Fr.refl _ _)
    rw [decide_eq_false (fun e => hne (by rw [h1, h2, e]))] at e
    exact e
  · refine forI (N := s.n) (fun s : Int => s) (fun j s w' => s = j ∧ Fr None w w' ∧ l.take j = l2.take j) ⟨rfl, Fr.refl _ _, rfl⟩ (fun j s w' h => h.1) ?_ ?_
    · rintro j i w1 K' hj ⟨rfl, f1, ht⟩ - hK
      refine (hS.fr0 f1.drew).get rfl rfl (by omega) fun x hx => ?_
      refine (hS2.fr0 f1.drew).get rfl rfl (by omega) fun y hy => ?_
      refine neqI eqG_comp (eqV_comp x y) ?_
      refine condI (fun hb => ?_) fun hb => ?_
      · have e := hk _ f1.drew
        rw [decide_eq_false (fun e => by subst e; rw [hx] at hy; cases hy; simp at hb)] at e
        exact e
      · have : x = y := by simpa using hb
        subst this
        exact hK _ _ ⟨wsucc hj (by omega), f1.drew, by rw [take_at hx, take_at hy, ht]⟩
    · rintro i w1 ⟨rfl, f1, ht⟩
      have e := hk _ f1
      rw [h1, List.take_length, List.take_of_length_le (by omega)] at ht
      rw [decide_eq_true ht] at e
      exact e

def findM (l : List Comp) (k : Int) : Int := match l.findIdx? (fun c => c.1 == k) with
  | some i => i
  | none => -1
theorem spec_r5_Find {ok : Nat → Prop} {s : Sl} {l : List Comp} (hS : SlT ok w compT s l) (hm : Small l) {k : Int} {K : Res [.sc (.int .i64)] → W R} (hk : ∀ w', Fr None w w' → K (findM l k) Q w') :
    callW Tryz.prog k_pinnaceref05_Find [.slice s.a s.n s.c, .int .u8 k] [.sc (.int .i64)] K Q w := by
  refine C_pinnaceref05_Find s k K Q w ?_
  unfold F_pinnaceref05_Find
  have hlen := hS.len
  refine forI (N := s.n) (fun s : Int => s) (fun j i w' => i = j ∧ Fr None w w' ∧ ∀ q y, q < j → l[q]? = some y → y.1 ≠ k) ⟨rfl, Fr.refl _ _, by omega⟩ (fun j s w' h => h.1) ?_ ?_
  · rintro j i w1 K' hj ⟨rfl, f1, hno⟩ - hK
    refine (hS.fr0 f1).get rfl rfl (by omega) fun x hx => ?_
    refine locI rfl rfl fun w2 B2 f2 s2 => ?_
    refine fldI B2 (x := x.1) rfl ?_
    refine condE (fun h => ?_) fun h => ?_
    · have : l.findIdx? (fun c => c.1 == k) = some j := by
        rw [List.findIdx?_eq_some_iff_getElem]
        obtain ⟨hl, he⟩ := List.getElem?_eq_some_iff.1 hx
        refine ⟨hl, by rw [he]; simpa using h, fun q hq => ?_⟩
        have := hno q _ hq (List.getElem?_eq_getElem (by omega))
        simpa using this
      have e := hk w2 (f1.then0 f2)
      rw [findM, this] at e
      exact e
    · refine hK _ _ ⟨wsucc hj (by omega), f1.then0 f2, fun q y hq hy => ?_⟩
      rcases Nat.lt_succ_iff_lt_or_eq.1 hq with h1 | h1
      · exact hno q y h1 hy
      · subst h1; rw [hx] at hy; cases hy; exact h
  · rintro i w1 ⟨rfl, f1, hno⟩
    have : l.findIdx? (fun c => c.1 == k) = none := by
      rw [List.findIdx?_eq_none_iff]
      intro x hx
      obtain ⟨q, hq⟩ := List.mem_iff_getElem?.1 hx
      have := hno q x (by rw [hlen]; exact (List.getElem?_eq_some_iff.1 hq).1) hq
      simpa using this
    have e := hk w1 f1
    rw [findM, this] at e
    exact e

def withG (c : Comp) : Bool → List Comp → List Comp
  | done, [] => if done then [] else [c]
  | done, x :: r => (if !done && decide (x.1 ≥ c.1) then [c] else []) ++ ((if x.1 ≠ c.1 then [x] else []) ++ withG c (done || decide (x.1 ≥ c.1)) r)
def withM (l : List Comp) (c : Comp) : List Comp := withG c false l

theorem spec_r5_With {ok : Nat → Prop} {s : Sl} {l : List Comp} (hS : SlT ok w compT s l) (hm : Small l) {c : Comp} {K : Res [.sc .sl] → W R}
    (hk : ∀ r w', Own (fun k => w.heap.size ≤ k) w' 92 compT r (withM l c) → Fr None w w' → K r Q w') :
    callW Tryz.prog k_pinnaceref05_With [.slice s.a s.n s.c, .agg ⟨compC c⟩] [.sc .sl] K Q w := by
  refine C_pinnaceref05_With s c K Q w ?_
  unfold F_pinnaceref05_With
  refine newI fun w0 B0 f0 s0 => ?_
  have hlen := hS.len
  have hS0 := hS.fr0 f0
  refine forI (N := s.n) (fun s : Sl × Bool × Int => s.2.2) (fun j i w' => ∃ (o : Sl) (d : Bool) (lo : List Comp), i = (o, d, (j : Int)) ∧ Own (Up w0.heap.size) w' 92 compT o lo ∧ Fr (Up w0.heap.size) w0 w' ∧ lo.length ≤ 2 * j ∧ lo ++ withG c d (l.drop j) = withM l c)
    ⟨⟨none, 0, 0⟩, false, [], rfl, Own.nil _ _ _ _, Fr.refl _ _, by simp, rfl⟩ (fun j s w' h => by obtain ⟨o, d, lo, h, _⟩ := h; rw [h]) ?_ ?_
  · rintro j i w1 K' hj ⟨o, d, lo, rfl, ho, f1, hll, he⟩ - hK
    refine (hS0.frUp f1 (Nat.le_refl _)).get rfl rfl (by omega) fun x hx => ?_
    refine locI rfl rfl fun w2 B2 f2 s2 => ?_
    have f12 := f1.then0 f2
    have hB := B0.frUp f12 (by omega)
    have ho2 := ho.none f2
    rw [drop_at hx, withG] at he
    have done : ∀ b : Bool, b = (!d && decide (x.1 ≥ c.1)) → (d || decide (x.1 ≥ c.1)) = (d || b) := by intro b h; subst h; cases d <;> simp
    refine joinI (fun b w' => b = (!d && decide (x.1 ≥ c.1)) ∧ w' = w2) ?_ ?_
    · refine condI (fun h => ?_) fun h => ?_
      · refine fldI B2 (x := x.1) rfl ?_
        refine fldI hB (x := c.1) rfl ?_
        exact ⟨by simp at h; simp [h], rfl⟩
      · exact ⟨by simp at h; simp [h], rfl⟩
    · rintro b w3 ⟨hb, rfl⟩
      rw [← hb, done b hb] at he
      refine joinI (fun z w' => ∃ (o' : Sl) (lo' : List Comp), z = (o', (d || b)) ∧ Own (Up w0.heap.size) w' 92 compT o' lo' ∧ Fr (Up w0.heap.size) w3 w' ∧ lo' = lo ++ (if b then [c] else []) ∧ Blk w' w1.heap.size 92 (compC x) ∧ (∀ k, o'.v.ownBlock = some k → k ≠ w1.heap.size)) ?_ ?_
      · refine condI (fun h => ?_) fun h => ?_
        · refine aggI hB (x := c) rfl ?_
          have hne : ∀ k, o.v.ownBlock = some k → k ≠ w1.heap.size := fun k e => by have := ho.lt e; omega
          refine appF comps_ty (x := c) rfl ho2 (by have := f12.size; omega) (by omega) (by omega) fun r w4 o4 f4 hr => ?_
          exact ⟨r, _, by rw [h, Bool.or_true], o4, ho2.upFr f4, by rw [if_pos h], B2.fr f4 (fun e => hne _ e rfl), fun k e => by rcases hr k e with h | h; exact hne k h; omega⟩
        · exact ⟨o, lo, by rw [h, Bool.or_false], ho2, Fr.refl _ _, by rw [if_neg (by simp [h])]; simp, B2, fun k e => by have := ho.lt e; omega⟩
      · rintro z w4 ⟨o', lo', rfl, ho', f4, hlo', B4, hne⟩
        have f14 := f12.then f4
        have hB4 := B0.frUp f14 (by omega)
        have hlo2 : lo'.length ≤ 2 * j + 1 := by rw [hlo']; simp; split <;> simp <;> omega
        refine fldI B4 (x := x.1) rfl ?_
        refine fldI hB4 (x := c.1) rfl ?_
        refine joinK ?_
        refine condN (fun h => ?_) fun h => ?_
        · refine aggI B4 (x := x) rfl ?_
          refine appF comps_ty (x := x) rfl ho' (by have := f14.size; omega) (by omega) (by omega) fun r w5 o5 f5 _ => ?_
          refine hK _ _ ⟨r, d || b, lo' ++ [x], by rw [wsucc hj (by omega)], o5, f14.thenOwn ho' f5, by simp; omega, ?_⟩
          rw [if_pos h] at he
          rw [hlo', ← he]
          simp
        · refine hK _ _ ⟨o', d || b, lo', by rw [wsucc hj (by omega)], ho', f14, by omega, ?_⟩
          rw [if_neg (c := x.1 ≠ c.1) (fun e => e h)] at he
          rw [hlo', ← he]
          simp
  · rintro i w1 ⟨o, d, lo, rfl, ho, f1, hll, he⟩
    rw [hlen, List.drop_length, withG] at he
    have hB := B0.frUp f1 (by omega)
    refine joinK ?_
    refine condI (fun h => ?_) fun h => ?_
    · refine aggI hB (x := c) rfl ?_
      refine appF comps_ty (x := c) rfl ho f1.size (by omega) (by omega) fun r w5 o5 f5 _ => ?_
      have hd : d = false := by simpa using h
      rw [hd] at he
      have he : lo ++ [c] = withM l c := by simpa using he
      rw [he] at o5
      exact hk r w5 (o5.up (by omega)) (f0.thenUp (f1.thenOwn ho f5) (by omega))
    · have hd : d = true := by simpa using h
      rw [hd] at he
      have he : lo = withM l c := by simpa using he
      rw [he] at ho
      exact hk o w1 (ho.up (by omega)) (f0.thenUp f1 (by omega))

end Go.Proofs.YtchhhjlpnecjkaaGreat
