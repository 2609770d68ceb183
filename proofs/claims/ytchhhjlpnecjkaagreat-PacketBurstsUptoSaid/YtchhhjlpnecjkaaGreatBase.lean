/-
  What every law's proof of this program owes: its arguments, its row.
-/
import Derived.Test.YtchhhjlpnecjkaaGreatComp
import Derived.Test.YtchhhjlpnecjkaaGreatOpen
import Derived.Test.YtchhhjlpnecjkaaGreatRows
namespace Go.Proofs.YtchhhjlpnecjkaaGreat
open Go Go.RowKit Go.ChangeShapes Go.WideShapes Go.ChangeAt Go.Proofs.YtchhhjlpnecjkaaGreat.Den
variable {R : Type} {Q : R → World → Prop} {w : World}

theorem Den.SlT.slc0 {ok : Nat → Prop} {t : Ty} {s : Sl} {l : List t.T} (h : SlT ok w t s l) {sz : Nat} {hi : Int} {n : Nat} (hn : hi = (n : Int)) (hl : n ≤ l.length) {K : Sl → W R} (hk : ∀ s', SlT ok w t s' (l.take n) → K s' Q w) : slcW s.a s.n s.c sz none (some hi) K Q w := by
  subst hn
  have hlen := h.len
  have hcap := h.cap
  refine chkI (by simp only [Option.getD_some, Option.getD_none]; omega) ?_
  simp only [Option.getD_some, Option.getD_none]
  refine hk _ ⟨by simp; omega, by simp; omega, ?_⟩
  rcases h.at_ with rfl | ⟨b, o, ha, h1, h2, h3⟩
  · left; simp
  · right
    refine ⟨b, o, ?_, h1, h2, fun i x hx => ?_⟩
    · rw [ha]
      split
      · rfl
      · simp [Addr.add]
    · rw [List.getElem?_take] at hx
      split at hx
      · exact h3 i x hx
      · cases hx

/-- the program's own words, as a law's caller hears them. -/
theorem calls_of {f : Nat} {args : List Value} {W : World} (h : callW Tryz.prog f args [.sc .bool] (fun (r : Bool) (_ : Unit → World → Prop) w' => r = true ∧ Fr None W w') (fun _ _ => True) W) : Calls Tryz.prog f ⟨args⟩ W (fun e w' => e = .returned (.bool true) ∧ Fr None W w') :=
  Calls.mono h fun _ w' ⟨r, he, hr, hf⟩ => ⟨by rw [he, hr]; rfl, hf⟩

theorem own_knob : ownKnob Tryz.prog.godebug = none := by kernel_rfl
theorem laid_out : laidOutB Tryz.prog = true := by kernel_rfl
theorem comps_arg : SlArg Tryz.prog 55 92 compT [5, 21, 21, 21] :=
  ⟨by kernel_rfl, by kernel_rfl, by decide, by kernel_rfl, ⟨[.int .u8, .int .i32, .int .i32, .int .i32], by kernel_rfl, .inl rfl⟩⟩
theorem wf_u8 {n : Int} (h : (Lit.int .u8 n).wf = true) : 0 ≤ n ∧ n ≤ 255 := by simpa [Lit.wf, IntKind.min, IntKind.max, IntKind.bits, IntKind.signed] using h
theorem wf_u32 {n : Int} (h : (Lit.int .u32 n).wf = true) : 0 ≤ n ∧ n ≤ 4294967295 := by simpa [Lit.wf, IntKind.min, IntKind.max, IntKind.bits, IntKind.signed] using h
theorem wf_i32 {n : Int} (h : (Lit.int .i32 n).wf = true) : -2147483648 ≤ n ∧ n ≤ 2147483647 := by simpa [Lit.wf, IntKind.min, IntKind.max, IntKind.bits, IntKind.signed] using h
theorem u8_und : Tryz.prog.underlying 5 = some (.int .u8) := by kernel_rfl
theorem i32_und : Tryz.prog.underlying 21 = some (.int .i32) := by kernel_rfl
theorem bool_und : Tryz.prog.underlying 4 = some .bool := by kernel_rfl
theorem comp_ok {H : Type} {enc : TypeId × Value → H} {c : Comp} (h : AllLeaf enc Tryz.prog w [5, 21, 21, 21] (compT.cells c)) : CompOk c := by
  obtain ⟨_, h⟩ := h
  obtain ⟨_, e, h0⟩ := (h 0 _ _ rfl rfl).int u8_und
  cases e
  obtain ⟨_, e, h1⟩ := (h 1 _ _ rfl rfl).int i32_und
  cases e
  obtain ⟨_, e, h2⟩ := (h 2 _ _ rfl rfl).int i32_und
  cases e
  obtain ⟨_, e, h3⟩ := (h 3 _ _ rfl rfl).int i32_und
  cases e
  exact ⟨wf_u8 h0, wf_i32 h1, wf_i32 h2, wf_i32 h3⟩

abbrev u8T : Ty := .sc (.int .u8)
theorem bytes_arg : SlArg Tryz.prog 22 5 u8T [5] :=
  ⟨by kernel_rfl, by kernel_rfl, by decide, by kernel_rfl, ⟨[.int .u8], by kernel_rfl, .inr ⟨_, rfl, rfl⟩⟩⟩
theorem byte_ok {H : Type} {enc : TypeId × Value → H} {c : Int} (h : AllLeaf enc Tryz.prog w [5] (u8T.cells c)) : 0 ≤ c ∧ c ≤ 255 := by
  obtain ⟨_, h⟩ := h
  obtain ⟨_, e, h0⟩ := (h 0 _ _ rfl rfl).int u8_und
  cases e
  exact wf_u8 h0
theorem comp_arg : AggArg Tryz.prog 92 [.int .u8, .int .i32, .int .i32, .int .i32] [5, 21, 21, 21] := ⟨by kernel_rfl, by kernel_rfl, by kernel_rfl⟩

/-! ### fields of what is read -/
theorem Den.Rd.fld {a : Addr} {l : List Sc} {x : Tup Sc.T l} (h : Rd w a (.agg l) x) {i : Nat} {s : Sc} {y : s.T} (hy : (Tup.e Sc.e l x)[i]? = some (s.e y)) {K : s.T → W R} (hk : K y Q w) : ld (.sc s) (a.add i) K Q w := ⟨y, h i _ hy, hk⟩
theorem idxA {a : Addr} {n sz : Nat} {i : Int} (h0 : 0 ≤ i) (h1 : i < n) {K : Addr → W R} (hk : K (a.add (i.toNat * sz)) Q w) : idxW (some a) n sz i K Q w := ⟨a, rfl, h0, h1, hk⟩
theorem addA (a : Addr) (i j : Nat) : (a.add i).add j = a.add (i + j) := Go.Deep.add_add a i j

end Go.Proofs.YtchhhjlpnecjkaaGreat
