/-
  Laws of single operations for the functional frame: what each gives, as equations on 'runK'.
-/
import Derived.Test.YtdihigmcihheoaaFW
import Derived.WalkKit
import Derived.WalkLawsBesides
set_option linter.unusedVariables false
set_option linter.unusedSimpArgs false
namespace Go.FW
open Go.RowKit

section
variable {P : Program} {x : PX} {w w' : World} {K : Value → World → Prop} {v : Value}

theorem runK_eq {s : Sem Value} (h : s.run P w = .ok v w') : runK P x s w K = K v w' := by unfold runK; rw [h]
theorem runK_of {s : Sem Value} (h : s.run P w = .ok v w') (hk : K v w') : runK P x s w K := by rw [runK_eq h]; exact hk
theorem runU_of {s : Sem Unit} {k : World → Prop} (h : s.run P w = .ok () w') (hk : k w') : runU P x s w k := by unfold runU; rw [h]; exact hk
theorem runK_panic {s : Sem Value} (h : s.run P w = .halt (.panic v) w') (hk : x [{ v, recovered := false }] w') : runK P x s w K := by unfold runK; rw [h]; exact hk
theorem quietK_of {S : World → Prop} {s : Sem Value} {k : Value → Prop} (h : ∀ w, S w → s.run P w = .ok v w) (hk : k v) : quietK P S s k := ⟨v, h, hk⟩
theorem quietN_of {S : World → Prop} {s : Sem Next} {k : Value → Prop} (h : ∀ w, S w → s.run P w = .ok (.value v) w) (hk : k v) : quietN P S s k := ⟨v, h, hk⟩
theorem condF_true {X Y : Prop} : condF (.bool true) X Y = X := rfl
theorem condF_false {X Y : Prop} : condF (.bool false) X Y = Y := rfl
theorem condF_of {b : Bool} {X Y : Prop} (h1 : b = true → X) (h2 : b = false → Y) : condF (.bool b) X Y := by cases b <;> simp_all [condF_true, condF_false]
theorem condF_dec {p : Prop} [Decidable p] {X Y : Prop} (h1 : p → X) (h2 : ¬ p → Y) : condF (.bool (decide p)) X Y := by
  by_cases h : p
  · rw [decide_eq_true h]; exact h1 h
  · rw [decide_eq_false h]; exact h2 h

/-! ### Shifts and wraps of natural numbers -/
theorem shr_nat (k : IntKind) (n : Nat) (s : Int) (m : Nat) (hs : s = m) (hm : m ≤ k.bits) : (n : Int).fdiv (2 ^ min s.toNat k.bits) = ((n / 2 ^ m : Nat) : Int) := by
  subst hs
  rw [Int.toNat_natCast, Nat.min_eq_left hm, Int.fdiv_eq_ediv_of_nonneg _ (Int.pow_nonneg (by omega))]
  simp
theorem wrap_u64 (n : Nat) (h : n < 18446744073709551616) : IntKind.u64.wrap (n : Int) = n := by
  simp [IntKind.wrap, IntKind.bits, IntKind.signed]; omega
theorem wrap_i64 (n : Int) (h : -9223372036854775808 ≤ n) (h' : n ≤ 9223372036854775807) : IntKind.i64.wrap n = n := by
  rw [IntKind.wrap_i64]
  omega
theorem wrap_u8 (n : Nat) : IntKind.u8.wrap (n : Int) = ((n % 256 : Nat) : Int) := by
  simp [IntKind.wrap, IntKind.bits, IntKind.signed]

/-! ### Calls -/
/-- What a call's ways out ask: a value's continuation, a panic's. -/
def onE (K : Value → World → Prop) (x : PX) : Ending → World → Prop
  | .returned v, w => K v w
  | .panicked c, w => x c w
  | .outgrown, _ => False
theorem callFunc_enter {f : FuncId} {fn : Func} (hf : P.funcs[f]? = some fn) (hn : (fn.name == "runtime.NumGoroutine") = false) (hb : fn.body.isNone = false) (args : Array Value) (w : World) :
    (callFunc f args).run P w = .ok (.enter f args) w := by
  have h1 : fn.name ≠ "runtime.NumGoroutine" := by simpa using hn
  have h2 : fn.body ≠ none := by intro e; rw [e] at hb; cases hb
  simp [callFunc, hf, h1, h2]
theorem callS_enter {f : FuncId} {args : Array Value} (he : (callFunc f args).run P w = .ok (.enter f args) w) (hc : Calls P f args w (onE K x)) : callS P x f args w K := by
  unfold callS entK
  rw [he]
  exact Calls.mono hc fun e w h => by cases e <;> exact h
theorem callS_ext {f : FuncId} {args : Array Value} (he : (callFunc f args).run P w = .ok (.value v) w') (hk : K v w') : callS P x f args w K := by
  unfold callS entK
  rw [he]
  exact hk
theorem callV_enter {f : FuncId} {fn : Fn} {first cap args : Array Value} (he : (invoke (.fn fn cap) (first ++ args)).run P w = .ok (.enter f (first ++ args ++ cap)) w) (hc : Calls P f (first ++ args ++ cap) w (onE K x)) :
    callV P x (.func fn first cap) args w K := by
  unfold callV entK
  simp only [Deferred.ofValue, Sem.run_bind, Sem.run_pure, Result.andThen]
  rw [he]
  exact Calls.mono hc fun e w h => by cases e <;> exact h

/-! ### Numbers -/
section num
variable (P : Program) (w : World) (k : IntKind) (t : TypeId) (a b : Int) (cx cy : Bool)
theorem r_add : (binOp .add t (.int k a) (.int k b)).run P w = .ok (.int k (k.wrap (a + b))) w := by simp [binOp, Op.intArith]
theorem r_sub : (binOp .sub t (.int k a) (.int k b)).run P w = .ok (.int k (k.wrap (a - b))) w := by simp [binOp, Op.intArith]
theorem r_mul : (binOp .mul t (.int k a) (.int k b)).run P w = .ok (.int k (k.wrap (a * b))) w := by simp [binOp, Op.intArith]
theorem r_quo (h : b ≠ 0) : (binOp .quo t (.int k a) (.int k b)).run P w = .ok (.int k (k.wrap (a.tdiv b))) w := by simp [binOp, Op.intDiv, h]
theorem r_rem (h : b ≠ 0) : (binOp .rem t (.int k a) (.int k b)).run P w = .ok (.int k (a.tmod b)) w := by simp [binOp, Op.intDiv, h]
theorem r_and : (binOp .and t (.int k a) (.int k b)).run P w = .ok (.int k (bits .and k a b)) w := by simp [binOp, Op.intBits, bits]
theorem r_or : (binOp .or t (.int k a) (.int k b)).run P w = .ok (.int k (bits .or k a b)) w := by simp [binOp, Op.intBits, bits]
theorem r_xor : (binOp .xor t (.int k a) (.int k b)).run P w = .ok (.int k (bits .xor k a b)) w := by simp [binOp, Op.intBits, bits]
theorem r_andNot : (binOp .andNot t (.int k a) (.int k b)).run P w = .ok (.int k (bits .andNot k a b)) w := by simp [binOp, Op.intBits, bits]
theorem r_shl (k' : IntKind) (h : 0 ≤ b) : (binOp .shl t (.int k a) (.int k' b)).run P w = .ok (.int k (k.wrap (a * 2 ^ min b.toNat k.bits))) w := by
  have : ¬ b < 0 := by omega
  simp [binOp, Op.shift, this]
theorem r_shr (k' : IntKind) (h : 0 ≤ b) : (binOp .shr t (.int k a) (.int k' b)).run P w = .ok (.int k (a.fdiv (2 ^ min b.toNat k.bits))) w := by
  have : ¬ b < 0 := by omega
  simp [binOp, Op.shift, this]
theorem r_lss : (binOp .lss t (.int k a) (.int k b)).run P w = .ok (.bool (decide (a < b))) w := by simp [binOp, Op.intCmp]
theorem r_leq : (binOp .leq t (.int k a) (.int k b)).run P w = .ok (.bool (decide (a ≤ b))) w := by simp [binOp, Op.intCmp]
theorem r_gtr : (binOp .gtr t (.int k a) (.int k b)).run P w = .ok (.bool (decide (b < a))) w := by simp [binOp, Op.intCmp]
theorem r_geq : (binOp .geq t (.int k a) (.int k b)).run P w = .ok (.bool (decide (b ≤ a))) w := by simp [binOp, Op.intCmp]
theorem r_eql : (eqS .eql t cx cy (.int k a) (.int k b)).run P w = .ok (.bool (decide (a = b))) w := by simp [eqS, eqGuard, binOp, Op.intCmp]; rfl
theorem r_neq : (eqS .neq t cx cy (.int k a) (.int k b)).run P w = .ok (.bool (!decide (a = b))) w := by simp [eqS, eqGuard, binOp, Op.intCmp]; rfl
theorem r_neg : (Op.unary .neg (.int k a)).run P w = .ok (.int k (k.wrap (0 - a))) w := by simp [Op.unary, Op.intArith]
theorem r_not (b : Bool) : (Op.unary .not (.bool b)).run P w = .ok (.bool (!b)) w := rfl
theorem r_compl : (Op.unary .xor (.int k a)).run P w = .ok (.int k (bits .xor k (if k.signed then -1 else k.max) a)) w := by simp [Op.unary, Op.intBits, bits]
theorem r_conv_int (src dst : TypeId) (k' : IntKind) (hs : (P.underlying src).isSome = true) (hd : P.underlying dst = some (.int k')) : (convert src dst (.int k a)).run P w = .ok (.int k' (k'.wrap a)) w := by
  obtain ⟨u, hs'⟩ := Option.isSome_iff_exists.1 hs
  cases u <;> simp [convert, run_underlying hs', run_underlying hd, Conv.intToInt]
end num
/-! ### Floats -/
section flt
variable (P : Program) (w : World) (k : FloatKind) (t : TypeId) (a b : Nat) (cx cy : Bool)
theorem r_flss : (binOp .lss t (.float k a) (.float k b)).run P w = .ok (.bool (k.format.order a b == some .lt)) w := by simp [binOp, Op.floatCmp]
theorem r_fgtr : (binOp .gtr t (.float k a) (.float k b)).run P w = .ok (.bool (k.format.order a b == some .gt)) w := by simp [binOp, Op.floatCmp]
theorem r_fleq : (binOp .leq t (.float k a) (.float k b)).run P w = .ok (.bool (k.format.order a b == some .lt || k.format.order a b == some .eq)) w := by simp [binOp, Op.floatCmp]
theorem r_fgeq : (binOp .geq t (.float k a) (.float k b)).run P w = .ok (.bool (k.format.order a b == some .gt || k.format.order a b == some .eq)) w := by simp [binOp, Op.floatCmp]
theorem r_feql : (eqS .eql t cx cy (.float k a) (.float k b)).run P w = .ok (.bool (k.format.order a b == some .eq)) w := by simp [eqS, eqGuard, binOp, Op.floatCmp]
theorem r_fneq : (eqS .neq t cx cy (.float k a) (.float k b)).run P w = .ok (.bool (k.format.order a b != some .eq)) w := by simp [eqS, eqGuard, binOp, Op.floatCmp]
theorem r_fneg : (Op.unary .neg (.float k a)).run P w = .ok (.float k (Op.negFloat k a)) w := rfl
end flt
/-! ### Strings, tuples -/
section str
variable (P : Program) (w : World) (t : TypeId) (a b : ByteArray) (cx cy : Bool)
theorem r_seql : (eqS .eql t cx cy (.string a) (.string b)).run P w = .ok (.bool (a.toList == b.toList)) w := by simp [eqS, eqGuard, binOp, Op.stringOp]
theorem r_sneq : (eqS .neq t cx cy (.string a) (.string b)).run P w = .ok (.bool (!(a.toList == b.toList))) w := by simp [eqS, eqGuard, binOp, Op.stringOp]
theorem r_sadd (h : a.size + b.size ≤ 9223372036854775807) : (binOp .add t (.string a) (.string b)).run P w = .ok (.string (a ++ b)) w := by
  have : ¬ ((a.size + b.size : Nat) : Int) > IntKind.i64.max := by
    have : IntKind.i64.max = 9223372036854775807 := by decide
    omega
  simp only [binOp, Op.stringOp, this, if_false]; rfl
theorem r_slen (t ty : TypeId) (h : P.underlying t = some .string) : (Builtin.len_ #[t] ty #[.string a]).run P w = .ok (.int .i64 a.size) w := by
  simp [Builtin.len_, run_underlying h]; rfl
theorem r_len (t e ty : TypeId) (h : P.underlying t = some (.slice e)) (p : Option Addr) (n c : Nat) : (Builtin.len_ #[t] ty #[.slice p n c]).run P w = .ok (.int .i64 n) w := by
  simp [Builtin.len_, run_underlying h]; rfl
theorem r_ext0 (vs : List Value) (i : Nat) (v : Value) (h : vs[i]? = some v) : (Instr.extract (.tuple vs.toArray) i).run P w = .ok v w := by
  simp [Instr.extract, h]
end str
end
end Go.FW
