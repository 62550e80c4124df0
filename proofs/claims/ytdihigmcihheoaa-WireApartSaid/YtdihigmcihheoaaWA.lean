/-
  The wire's values as data; what the small functions of the layers num and wire give.
-/
import Derived.Test.YtdihigmcihheoaaM0
import Derived.Test.YtdihigmcihheoaaM1
import Derived.Test.YtdihigmcihheoaaM2
import Derived.Test.YtdihigmcihheoaaFM
set_option linter.unusedVariables false
set_option linter.unusedSimpArgs false
namespace Go.Proofs.Ytdihigmcihheoaa
open Go.FW

/-! ### Values -/
structure Vl where
  k : Int
  u : Int
  i : Int
  f : Nat
  s : ByteArray
def Vl.cells (v : Vl) : List Value := [.int .i64 v.k, .int .u64 v.u, .int .i64 v.i, .float .f64 v.f, .string v.s]
def Vl.val (v : Vl) : Value := .agg #[.int .i64 v.k, .int .u64 v.u, .int .i64 v.i, .float .f64 v.f, .string v.s]

def isNan (f : Nat) : Bool := FloatKind.f64.format.order f f != some .eq
def usual : Nat := 9221120237041090561
def bitsF (f : Nat) : Nat := if isNan f = true then usual else f
def maxF : Nat := 9218868437227405311
def gtF (a b : Nat) : Bool := FloatKind.f64.format.order a b == some .gt
def ltF (a b : Nat) : Bool := FloatKind.f64.format.order a b == some .lt
def classF (f : Nat) : Int :=
  if isNan f = true then 0 else if f = 0 then 4 else if (f : Int) = 9223372036854775808 then 3
  else if gtF (Op.negFloat .f64 f) maxF = true then 1 else if gtF f maxF = true then 6 else if ltF f 0 = true then 2 else 5
def emptyS (s : ByteArray) : Bool := s.toList == ([] : List UInt8)
def Vl.plainB (v : Vl) : Bool :=
  if v.k = 1 then decide (v.i = 0) && (decide (v.f = 0) && emptyS v.s)
  else if v.k = 2 then decide (v.u = 0) && (decide (v.f = 0) && emptyS v.s)
  else if v.k = 3 then decide (v.u = 0) && (decide (v.i = 0) && emptyS v.s)
  else if v.k = 4 then decide (v.u = 0) && (decide (v.i = 0) && decide (v.f = 0))
  else false
def Vl.validE (v : Vl) : Int := if v.plainB = true then if 1000 < v.s.size then 24 else 0 else 21

section
variable {x : PX} {w : World} {K : Value → World → Prop}

theorem x_f64bits (b : Nat) (w : World) : (callFunc 23 #[.float .f64 b]).run Try.prog w = .ok (.value (.int .u64 b)) w := by
  rw [run_callFunc_extern (e := Extern.MathFloatBits.float64bits) Try.func23 (by kernel_rfl) (by kernel_rfl) (by kernel_rfl) (by kernel_rfl)]
  rfl
theorem x_f64from (b : Int) (w : World) : (callFunc 38 #[.int .u64 b]).run Try.prog w = .ok (.value (.float .f64 b.toNat)) w := by
  rw [run_callFunc_extern (e := Extern.MathFloatBits.float64frombits) Try.func38 (by kernel_rfl) (by kernel_rfl) (by kernel_rfl) (by kernel_rfl)]
  rfl

theorem isinf_neg (f : Nat) (hk : K (.bool (gtF (Op.negFloat .f64 f) maxF)) w) : callS Try.prog x 39 #[.float .f64 f, .int .i64 (-1)] w K := by
  refine s39 ?_
  unfold m39 m39_1
  refine runK_of (r_eql ..) ?_
  rw [decide_eq_false (by omega), condF_false]
  refine runK_of (r_lss ..) ?_
  rw [decide_eq_true (by omega), condF_true]
  refine runK_of (r_fneg ..) ?_
  refine runK_of (r_fgtr ..) ?_
  exact hk
theorem isinf_pos (f : Nat) (hk : K (.bool (gtF f maxF)) w) : callS Try.prog x 39 #[.float .f64 f, .int .i64 1] w K := by
  refine s39 ?_
  unfold m39 m39_1
  refine runK_of (r_eql ..) ?_
  rw [decide_eq_false (by omega), condF_false]
  refine runK_of (r_lss ..) ?_
  rw [decide_eq_false (by omega), condF_false]
  refine runK_of (r_fgtr ..) ?_
  exact hk

theorem class_s (f : Nat) (hk : K (.int .i64 (classF f)) w) : callS Try.prog x 36 #[.float .f64 f] w K := by
  refine s36 ?_
  unfold m36 m36_1
  refine callS_ext (x_f64bits ..) ?_
  refine runK_of (r_fneq ..) ?_
  refine condF_of (fun h => ?_) (fun h => ?_)
  · have h' : isNan f = true := h
    rwa [classF, if_pos h'] at hk
  rw [classF, if_neg (by unfold isNan; rw [h]; simp)] at hk
  refine runK_of (r_eql ..) ?_
  refine condF_dec (fun h => ?_) (fun h => ?_)
  · rwa [if_pos (by omega)] at hk
  rw [if_neg (by omega)] at hk
  refine runK_of (r_eql ..) ?_
  refine condF_dec (fun h => ?_) (fun h => ?_)
  · rwa [if_pos h] at hk
  rw [if_neg h] at hk
  refine isinf_neg f ?_
  refine condF_of (fun h => ?_) (fun h => ?_)
  · rwa [if_pos h] at hk
  rw [if_neg (by rw [h]; simp)] at hk
  refine isinf_pos f ?_
  refine condF_of (fun h => ?_) (fun h => ?_)
  · rwa [if_pos h] at hk
  rw [if_neg (by rw [h]; simp)] at hk
  refine runK_of (r_flss ..) ?_
  refine condF_of (fun h => ?_) (fun h => ?_)
  · have h' : ltF f 0 = true := h
    rwa [if_pos h'] at hk
  · rwa [if_neg (by unfold ltF; rw [h]; simp)] at hk

theorem of_zero (hk : K (.tuple #[.float .f64 usual, .bool true]) w) : callS Try.prog x 37 #[.int .u64 0] w K := by
  refine s37 ?_
  unfold m37 m37_1
  refine runK_of (r_eql ..) ?_
  rw [decide_eq_true rfl, condF_true]
  exact callS_ext (x_f64from ..) hk

theorem bits_s (f : Nat) (hk : K (.int .u64 (bitsF f)) w) : callS Try.prog x 28 #[.float .f64 f] w K := by
  refine s28 ?_
  unfold m28 m28_1
  refine class_s f ?_
  refine runK_of (r_eql ..) ?_
  have hc : classF f = 0 ↔ isNan f = true := by
    unfold classF
    constructor
    · intro h
      by_cases hn : isNan f = true
      · exact hn
      · rw [if_neg hn] at h
        (repeat' split at h) <;> omega
    · intro h; rw [if_pos h]
  refine condF_dec (fun h => ?_) (fun h => ?_)
  · rw [bitsF, if_pos (hc.1 h)] at hk
    refine of_zero ?_
    refine runK_of (r_ext0 _ _ [_, _] 0 _ rfl) ?_
    refine runK_of (r_ext0 _ _ [_, _] 1 _ rfl) ?_
    exact callS_ext (x_f64bits ..) hk
  · rw [bitsF, if_neg (fun hn => h (hc.2 hn))] at hk
    exact callS_ext (x_f64bits ..) hk

theorem plain_s (v : Vl) (hk : ∀ w1, Fr No w w1 → K (.bool v.plainB) w1) : callS Try.prog x 22 #[v.val] w K := by
  refine s22 ?_
  unfold m22 m22_1
  refine k_box fun w1 hf1 hs1 hb1 => ?_
  refine drawM_quiet fun w2 hh2 hf2 => ?_
  have hb2 : Blk w2 w.heap.size 36 v.cells := hb1.no hf2
  have c0 := hb2.cell 0
  have c1 := hb2.cell 1
  have c2 := hb2.cell 2
  have c3 := hb2.cell 3
  have c4 := hb2.cell 4
  refine quiet_eq (r_field 36 1 1 (by kernel_rfl) _ _) ?_
  refine quiet_eq (r_load1 33 (by kernel_rfl) _ _ _ c1) ?_
  refine quiet_eq (r_eql ..) ?_
  refine quiet_eq (r_field 36 2 2 (by kernel_rfl) _ _) ?_
  refine quiet_eq (r_load1 2 (by kernel_rfl) _ _ _ c2) ?_
  refine quiet_eq (r_eql ..) ?_
  refine quiet_eq (r_field 36 3 3 (by kernel_rfl) _ _) ?_
  refine quiet_eq (r_load1 34 (by kernel_rfl) _ _ _ c3) ?_
  refine quietN_eq (x_f64bits ..) ?_
  refine quiet_eq (r_eql ..) ?_
  refine quiet_eq (r_field 36 4 4 (by kernel_rfl) _ _) ?_
  refine quiet_eq (r_load1 9 (by kernel_rfl) _ _ _ c4) ?_
  refine quiet_eq (r_seql ..) ?_
  refine runK_of (r_field 36 0 0 (by kernel_rfl) _ _) ?_
  refine runK_of (r_load1 32 (by kernel_rfl) _ _ _ c0) ?_
  have hk2 := hk w2 (hf1.no hf2)
  unfold Vl.plainB emptyS at hk2
  clear hk hb1 hb2 hh2 hf1 hf2 hs1 c0 c1 c2 c3 c4
  repeat' (first | refine runK_of (r_eql ..) ?_ | refine condF_dec (fun h => ?_) (fun h => ?_))
  all_goals
    show K _ _
    simp_all

theorem valid_s (v : Vl) (hk : ∀ w1, Fr No w w1 → K (.int .i64 v.validE) w1) : callS Try.prog x 16 #[v.val] w K := by
  refine s16 ?_
  unfold m16 m16_1
  refine k_box fun w1 hf1 hs1 hb1 => ?_
  have hb2 : Blk w1 w.heap.size 36 v.cells := hb1
  refine runK_of (r_loadn 36 v.cells (by kernel_rfl) _ _ fun j u hj => by rw [show (⟨w.heap.size, 0, none⟩ : Addr).add j = ⟨w.heap.size, 0 + j, none⟩ from add_lit ..]; rw [hb2.cell, Nat.zero_add]; exact hj) ?_
  refine plain_s v fun w2 hf2 => ?_
  refine runK_of (r_not ..) ?_
  have hk2 := hk w2 (hf1.no hf2)
  unfold Vl.validE at hk2
  refine condF_of (fun h => ?_) (fun h => ?_)
  · rw [if_neg (by simpa using h)] at hk2
    exact hk2
  · rw [if_pos (by simpa using h)] at hk2
    refine runK_of (r_field 36 4 4 (by kernel_rfl) _ _) ?_
    refine runK_of (r_load1 9 (by kernel_rfl) _ _ _ ((hb2.no hf2).cell 4)) ?_
    refine runK_of (r_slen _ _ _ _ _ Try.underlying9) ?_
    refine runK_of (r_gtr ..) ?_
    refine condF_dec (fun h => ?_) (fun h => ?_)
    · rw [if_pos (by omega)] at hk2; exact hk2
    · rw [if_neg (by omega)] at hk2; exact hk2
end
end Go.Proofs.Ytdihigmcihheoaa
