/- What the functions of the translation ask, in plain text, and that it is enough for their calls: printed by a program of this claim's own (wip/gen.py), each proof checked by Lean. -/
import Derived.Test.YtdihigmcihheoaaProg
import Derived.Test.YtdihigmcihheoaaFL
import Derived.KernelRfl
set_option linter.unusedVariables false
set_option maxRecDepth 100000
namespace Go.Proofs.Ytdihigmcihheoaa
open Go.FW

/-! 25: (*moiety/wire.reader).value -/
def m25_1 (p0 : Value) (R : Ending → World → Prop) (w : World) : Prop :=
 runK Try.prog (px R) (Instr.alloc 36 true (.tuple #[])) w fun v2 w =>
 callS Try.prog (px R) 31 #[p0] w fun v6 w =>
 runK Try.prog (px R) (convert 5 32 v6) w fun v7 w =>
 runK Try.prog (px R) (Instr.build 36 #[(0, v7)]) w fun v8 w =>
 runK Try.prog (px R) (Instr.alloc 36 true (.tuple #[])) w fun v3 w =>
 runU Try.prog (px R) (Instr.storeAt 36 v3 v8) w fun w =>
 runK Try.prog (px R) (Instr.fieldAt 36 v3 0) w fun v9 w =>
 runK Try.prog (px R) (Instr.loadAt 32 v9) w fun v10 w =>
 runK Try.prog (px R) (eqS .eql 32 false true v10 (Value.int .i64 1)) w fun v14 w =>
 condF v14
 (callS Try.prog (px R) 32 #[p0] w fun v16 w =>
 runK Try.prog (px R) (Instr.fieldAt 36 v3 1) w fun v17 w =>
 runU Try.prog (px R) (Instr.storeAt 33 v17 v16) w fun w =>
 runK Try.prog (px R) (Instr.loadAt 36 v3) w fun v41 w =>
 runU Try.prog (px R) (Instr.storeAt 36 v2 v41) w fun w =>
 resC Try.prog 36 v2 w fun r0 =>
 R (.returned r0) w)
 (runK Try.prog (px R) (eqS .eql 32 false true v10 (Value.int .i64 2)) w fun v19 w =>
 condF v19
 (callS Try.prog (px R) 32 #[p0] w fun v21 w =>
 runK Try.prog (px R) (binOp .shr 33 v21 (Value.int .u64 1)) w fun v23 w =>
 runK Try.prog (px R) (convert 33 2 v23) w fun v24 w =>
 runK Try.prog (px R) (binOp .and 33 v21 (Value.int .u64 1)) w fun v26 w =>
 runK Try.prog (px R) (convert 33 2 v26) w fun v27 w =>
 runK Try.prog (px R) (Op.unary .neg v27) w fun v28 w =>
 runK Try.prog (px R) (binOp .xor 2 v24 v28) w fun v29 w =>
 runK Try.prog (px R) (Instr.fieldAt 36 v3 2) w fun v30 w =>
 runU Try.prog (px R) (Instr.storeAt 2 v30 v29) w fun w =>
 runK Try.prog (px R) (Instr.loadAt 36 v3) w fun v41_1 w =>
 runU Try.prog (px R) (Instr.storeAt 36 v2 v41_1) w fun w =>
 resC Try.prog 36 v2 w fun r0 =>
 R (.returned r0) w)
 (runK Try.prog (px R) (eqS .eql 32 false true v10 (Value.int .i64 3)) w fun v32 w =>
 condF v32
 (callS Try.prog (px R) 33 #[p0] w fun v34 w =>
 runK Try.prog (px R) (Instr.fieldAt 36 v3 3) w fun v35 w =>
 runU Try.prog (px R) (Instr.storeAt 34 v35 v34) w fun w =>
 runK Try.prog (px R) (Instr.loadAt 36 v3) w fun v41_2 w =>
 runU Try.prog (px R) (Instr.storeAt 36 v2 v41_2) w fun w =>
 resC Try.prog 36 v2 w fun r0 =>
 R (.returned r0) w)
 (runK Try.prog (px R) (eqS .eql 32 false true v10 (Value.int .i64 4)) w fun v37 w =>
 condF v37
 (callS Try.prog (px R) 34 #[p0] w fun v39 w =>
 runK Try.prog (px R) (Instr.fieldAt 36 v3 4) w fun v40 w =>
 runU Try.prog (px R) (Instr.storeAt 9 v40 v39) w fun w =>
 runK Try.prog (px R) (Instr.loadAt 36 v3) w fun v41_3 w =>
 runU Try.prog (px R) (Instr.storeAt 36 v2 v41_3) w fun w =>
 resC Try.prog 36 v2 w fun r0 =>
 R (.returned r0) w)
 (runK Try.prog (px R) (Instr.build 52 #[(0, (Value.int .i64 21))]) w fun v11 w =>
 runK Try.prog (px R) (Instr.makeInterface 52 v11) w fun v12 w =>
 runK Try.prog (px R) (Instr.panic v12) w fun _ w =>
 runK Try.prog (px R) (Instr.loadAt 36 v3) w fun v41_4 w =>
 runU Try.prog (px R) (Instr.storeAt 36 v2 v41_4) w fun w =>
 resC Try.prog 36 v2 w fun r0 =>
 R (.returned r0) w))))

def h25 : Nat → List (Nat × Nat) := fun _ => []

def m25 (a0 : Value) (R : Ending → World → Prop) (w : World) : Prop := m25_1 a0 R w

theorem c25 (a0 : Value) (R : Ending → World → Prop) (w : World) (h : m25 a0 R w) : Calls Try.prog 25 #[a0] w R := by
  refine calls_G h25 (by kernel_rfl) Try.func25 rfl (by kernel_rfl) (by kernel_rfl) ?_
  intro ρ hρ
  obtain rfl : ρ 0 = a0 := hρ 0
  have h : m25_1 (ρ 0) R w := h
  exact cast_prop h (by kernel_rfl)

theorem e25 (args : Array Value) (w : World) : (callFunc 25 args).run Try.prog w = .ok (.enter 25 args) w := callFunc_enter Try.func25 (by kernel_rfl) (by kernel_rfl) args w

theorem s25 {a0 : Value} {x : PX} {w : World} {K : Value → World → Prop} (h : m25 a0 (onE K x) w) : callS Try.prog x 25 #[a0] w K := callS_enter (e25 _ w) (c25 a0 _ w h)

/-! 26: moiety/moietyref02.Bits -/
def m26_1 (p0 : Value) (R : Ending → World → Prop) (w : World) : Prop :=
 callS Try.prog (px R) 35 #[p0] w fun v4 w =>
 condF v4
 (R (.returned (Value.int .u64 9221120237041090561)) w)
 (callS Try.prog (px R) 23 #[p0] w fun v6 w =>
 R (.returned v6) w)

def h26 : Nat → List (Nat × Nat) := fun _ => []

def m26 (a0 : Value) (R : Ending → World → Prop) (w : World) : Prop := m26_1 a0 R w

theorem c26 (a0 : Value) (R : Ending → World → Prop) (w : World) (h : m26 a0 R w) : Calls Try.prog 26 #[a0] w R := by
  refine calls_G h26 (by kernel_rfl) Try.func26 rfl (by kernel_rfl) (by kernel_rfl) ?_
  intro ρ hρ
  obtain rfl : ρ 0 = a0 := hρ 0
  have h : m26_1 (ρ 0) R w := h
  exact cast_prop h (by kernel_rfl)

theorem e26 (args : Array Value) (w : World) : (callFunc 26 args).run Try.prog w = .ok (.enter 26 args) w := callFunc_enter Try.func26 (by kernel_rfl) (by kernel_rfl) args w

theorem s26 {a0 : Value} {x : PX} {w : World} {K : Value → World → Prop} (h : m26 a0 (onE K x) w) : callS Try.prog x 26 #[a0] w K := callS_enter (e26 _ w) (c26 a0 _ w h)

/-! 27: moiety/wire.number -/
def m27_3 (p0 : Value) (p1 : Value) (R : Ending → World → Prop) (w : World) : Prop :=
 runK Try.prog (px R) (convert 33 5 p1) w fun v17 w =>
 runK Try.prog (px R) (Instr.buildSlice 25 1 #[(0, v17)]) w fun v18 w =>
 runK Try.prog (px R) (Builtin.append_ #[25, 25] 25 #[p0, v18]) w fun v19 w =>
 R (.returned v19) w

def m27_6 (p0 : Value) (p1 : Value) (N1 : (Value × Value) → World → Prop) (R : Ending → World → Prop) (w : World) : Prop :=
 runK Try.prog (px R) (binOp .geq 33 p1 (Value.int .u64 128)) w fun v6 w =>
 condF v6
 (runK Try.prog (px R) (convert 33 5 p1) w fun v11 w =>
 runK Try.prog (px R) (binOp .or 5 v11 (Value.int .u8 128)) w fun v12 w =>
 runK Try.prog (px R) (Instr.buildSlice 25 1 #[(0, v12)]) w fun v13 w =>
 runK Try.prog (px R) (Builtin.append_ #[25, 25] 25 #[p0, v13]) w fun v14 w =>
 runK Try.prog (px R) (binOp .shr 33 p1 (Value.int .u64 7)) w fun v8 w =>
 N1 (v14, v8) w)
 (m27_3 p0 p1 R w)

def m27_5 (p0 : Value) (p1 : Value) (R : Ending → World → Prop) (w : World) : Prop :=
 LoopM (τ := Value × Value) (fun t N1 w => m27_6 t.1 t.2 N1 R w) (p0, p1) w

def m27_1 (p0 : Value) (p1 : Value) (R : Ending → World → Prop) (w : World) : Prop :=
 m27_5 p0 p1 R w

def h27 : Nat → List (Nat × Nat) := fun _ => []

def m27 (a0 a1 : Value) (R : Ending → World → Prop) (w : World) : Prop := m27_1 a0 a1 R w

theorem c27 (a0 a1 : Value) (R : Ending → World → Prop) (w : World) (h : m27 a0 a1 R w) : Calls Try.prog 27 #[a0, a1] w R := by
  refine calls_G h27 (by kernel_rfl) Try.func27 rfl (by kernel_rfl) (by kernel_rfl) ?_
  intro ρ hρ
  obtain rfl : ρ 0 = a0 := hρ 0
  obtain rfl : ρ 1 = a1 := hρ 1
  have h : m27_1 (ρ 0) (ρ 1) R w := h
  refine seq_sound (fun ρ w => m27_5 (ρ 0) (ρ 1) R w) ?_ ?_
  · intro ρ w h
    refine seq_sound (fun ρ w => m27_3 (ρ 0) (ρ 1) R w) ?_ ?_
    · intro ρ w h
      exact cast_prop h (by kernel_rfl)
    refine block_sound ?_
    refine loop_sound (τ := Value × Value) (fun ρ => (ρ 0, ρ 1)) (fun t N1 w => m27_6 t.1 t.2 N1 R w) ?_ h
    clear h
    intro N1 ρ w h
    have h : m27_6 (ρ 0) (ρ 1) N1 R w := h
    exact cast_prop h (by kernel_rfl)
  exact cast_prop h (by kernel_rfl)

theorem e27 (args : Array Value) (w : World) : (callFunc 27 args).run Try.prog w = .ok (.enter 27 args) w := callFunc_enter Try.func27 (by kernel_rfl) (by kernel_rfl) args w

theorem s27 {a0 a1 : Value} {x : PX} {w : World} {K : Value → World → Prop} (h : m27 a0 a1 (onE K x) w) : callS Try.prog x 27 #[a0, a1] w K := callS_enter (e27 _ w) (c27 a0 a1 _ w h)

/-! 28: moiety/wire.bits -/
def m28_1 (p0 : Value) (R : Ending → World → Prop) (w : World) : Prop :=
 callS Try.prog (px R) 36 #[p0] w fun v6 w =>
 runK Try.prog (px R) (eqS .eql 63 false true v6 (Value.int .i64 0)) w fun v7 w =>
 condF v7
 (callS Try.prog (px R) 37 #[(Value.int .u64 0)] w fun v9 w =>
 runK Try.prog (px R) (Instr.extract v9 0) w fun v10 w =>
 runK Try.prog (px R) (Instr.extract v9 1) w fun v11 w =>
 callS Try.prog (px R) 23 #[v10] w fun v13 w =>
 R (.returned v13) w)
 (callS Try.prog (px R) 23 #[p0] w fun v15 w =>
 R (.returned v15) w)

def h28 : Nat → List (Nat × Nat) := fun _ => []

def m28 (a0 : Value) (R : Ending → World → Prop) (w : World) : Prop := m28_1 a0 R w

theorem c28 (a0 : Value) (R : Ending → World → Prop) (w : World) (h : m28 a0 R w) : Calls Try.prog 28 #[a0] w R := by
  refine calls_G h28 (by kernel_rfl) Try.func28 rfl (by kernel_rfl) (by kernel_rfl) ?_
  intro ρ hρ
  obtain rfl : ρ 0 = a0 := hρ 0
  have h : m28_1 (ρ 0) R w := h
  exact cast_prop h (by kernel_rfl)

theorem e28 (args : Array Value) (w : World) : (callFunc 28 args).run Try.prog w = .ok (.enter 28 args) w := callFunc_enter Try.func28 (by kernel_rfl) (by kernel_rfl) args w

theorem s28 {a0 : Value} {x : PX} {w : World} {K : Value → World → Prop} (h : m28 a0 (onE K x) w) : callS Try.prog x 28 #[a0] w K := callS_enter (e28 _ w) (c28 a0 _ w h)

/-! 29: moiety/moietyref02.Number -/
def m29_1 (p0 : Value) (R : Ending → World → Prop) (w : World) : Prop :=
 runK Try.prog (px R) (binOp .lss 33 p0 (Value.int .u64 128)) w fun v4 w =>
 condF v4
 (runK Try.prog (px R) (convert 33 5 p0) w fun v6 w =>
 runK Try.prog (px R) (Instr.buildSlice 25 1 #[(0, v6)]) w fun v7 w =>
 runK Try.prog (px R) (convert 25 9 v7) w fun v8 w =>
 R (.returned v8) w)
 (drawM w fun S w =>
 quietK Try.prog S (binOp .rem 33 p0 (Value.int .u64 128)) fun v10 =>
 quietK Try.prog S (binOp .add 33 (Value.int .u64 128) v10) fun v11 =>
 quietK Try.prog S (convert 33 5 v11) fun v12 =>
 quietK Try.prog S (binOp .quo 33 p0 (Value.int .u64 128)) fun v16 =>
 (runK Try.prog (px R) (Instr.buildSlice 25 1 #[(0, v12)]) w fun v13 w =>
 moreS S w fun S =>
 quietK Try.prog S (convert 25 9 v13) fun v14 =>
 callS Try.prog (px R) 29 #[v16] w fun v17 w =>
 moreS S w fun S =>
 quietK Try.prog S (binOp .add 9 v14 v17) fun v18 =>
 R (.returned v18) w) ∧
 (callS Try.prog (px R) 29 #[v16] w fun v17_1 w =>
 moreS S w fun S =>
 runK Try.prog (px R) (Instr.buildSlice 25 1 #[(0, v12)]) w fun v13_1 w =>
 moreS S w fun S =>
 quietK Try.prog S (convert 25 9 v13_1) fun v14_1 =>
 quietK Try.prog S (binOp .add 9 v14_1 v17_1) fun v18_1 =>
 R (.returned v18_1) w))

def h29 : Nat → List (Nat × Nat) := fun id => cond (Nat.beq id 3) [(0, 1), (1, 1), (2, 1), (3, 1), (6, 1), (7, 1), (4, 6), (5, 1), (8, 0), (9, 1), (10, 1), (8, 0), (4, 0), (5, 1), (9, 1), (10, 1)] ([])

def m29 (a0 : Value) (R : Ending → World → Prop) (w : World) : Prop := m29_1 a0 R w

theorem c29 (a0 : Value) (R : Ending → World → Prop) (w : World) (h : m29 a0 R w) : Calls Try.prog 29 #[a0] w R := by
  refine calls_G h29 (by kernel_rfl) Try.func29 rfl (by kernel_rfl) (by kernel_rfl) ?_
  intro ρ hρ
  obtain rfl : ρ 0 = a0 := hρ 0
  have h : m29_1 (ρ 0) R w := h
  exact cast_prop h (by kernel_rfl)

theorem e29 (args : Array Value) (w : World) : (callFunc 29 args).run Try.prog w = .ok (.enter 29 args) w := callFunc_enter Try.func29 (by kernel_rfl) (by kernel_rfl) args w

theorem s29 {a0 : Value} {x : PX} {w : World} {K : Value → World → Prop} (h : m29 a0 (onE K x) w) : callS Try.prog x 29 #[a0] w K := callS_enter (e29 _ w) (c29 a0 _ w h)

/-! 30: moiety/moietyref02.Eight -/
def m30_4 (p3 : Value) (R : Ending → World → Prop) (w : World) : Prop :=
 R (.returned p3) w

def m30_8 (p0 : Value) (p3 : Value) (p4 : Value) (N1 : (Value × Value × Value) → World → Prop) (R : Ending → World → Prop) (w : World) : Prop :=
 runK Try.prog (px R) (binOp .lss 3 p4 (Value.int .i64 8)) w fun v6 w =>
 condF v6
 (runK Try.prog (px R) (binOp .rem 33 p0 (Value.int .u64 256)) w fun v10 w =>
 runK Try.prog (px R) (convert 33 5 v10) w fun v11 w =>
 runK Try.prog (px R) (Instr.buildSlice 25 1 #[(0, v11)]) w fun v12 w =>
 runK Try.prog (px R) (convert 25 9 v12) w fun v13 w =>
 runK Try.prog (px R) (binOp .add 9 v13 p3) w fun v15 w =>
 runK Try.prog (px R) (binOp .quo 33 p0 (Value.int .u64 256)) w fun v17 w =>
 runK Try.prog (px R) (binOp .add 3 p4 (Value.int .i64 1)) w fun v8 w =>
 N1 (v17, v15, v8) w)
 (m30_4 p3 R w)

def m30_7 (p0 : Value) (p3 : Value) (p4 : Value) (R : Ending → World → Prop) (w : World) : Prop :=
 LoopM (τ := Value × Value × Value) (fun t N1 w => m30_8 t.1 t.2.1 t.2.2 N1 R w) (p0, p3, p4) w

def m30_5 (p0 : Value) (p3 : Value) (R : Ending → World → Prop) (w : World) : Prop :=
 m30_7 p0 p3 (Value.int .i64 0) R w

def m30_2 (p0 : Value) (R : Ending → World → Prop) (w : World) : Prop :=
 m30_5 p0 (Value.string ⟨#[]⟩) R w

def m30_1 (p0 : Value) (R : Ending → World → Prop) (w : World) : Prop :=
 m30_2 p0 R w

def h30 : Nat → List (Nat × Nat) := fun _ => []

def m30 (a0 : Value) (R : Ending → World → Prop) (w : World) : Prop := m30_1 a0 R w

theorem c30 (a0 : Value) (R : Ending → World → Prop) (w : World) (h : m30 a0 R w) : Calls Try.prog 30 #[a0] w R := by
  refine calls_G h30 (by kernel_rfl) Try.func30 rfl (by kernel_rfl) (by kernel_rfl) ?_
  intro ρ hρ
  obtain rfl : ρ 0 = a0 := hρ 0
  have h : m30_1 (ρ 0) R w := h
  refine seq_sound (fun ρ w => m30_2 (ρ 0) R w) ?_ ?_
  · intro ρ w h
    refine seq_sound (fun ρ w => m30_5 (ρ 0) (ρ 3) R w) ?_ ?_
    · intro ρ w h
      refine seq_sound (fun ρ w => m30_4 (ρ 3) R w) ?_ ?_
      · intro ρ w h
        exact cast_prop h (by kernel_rfl)
      refine seq_sound (fun ρ w => m30_7 (ρ 0) (ρ 3) (ρ 4) R w) ?_ ?_
      · intro ρ w h
        refine block_sound ?_
        refine loop_sound (τ := Value × Value × Value) (fun ρ => (ρ 0, ρ 3, ρ 4)) (fun t N1 w => m30_8 t.1 t.2.1 t.2.2 N1 R w) ?_ h
        clear h
        intro N1 ρ w h
        have h : m30_8 (ρ 0) (ρ 3) (ρ 4) N1 R w := h
        exact cast_prop h (by kernel_rfl)
      exact cast_prop h (by kernel_rfl)
    exact cast_prop h (by kernel_rfl)
  exact cast_prop h (by kernel_rfl)

theorem e30 (args : Array Value) (w : World) : (callFunc 30 args).run Try.prog w = .ok (.enter 30 args) w := callFunc_enter Try.func30 (by kernel_rfl) (by kernel_rfl) args w

theorem s30 {a0 : Value} {x : PX} {w : World} {K : Value → World → Prop} (h : m30 a0 (onE K x) w) : callS Try.prog x 30 #[a0] w K := callS_enter (e30 _ w) (c30 a0 _ w h)

/-! 31: (*moiety/wire.reader).next -/
def m31_3 (p0 : Value) (R : Ending → World → Prop) (w : World) : Prop :=
 runK Try.prog (px R) (nilCheckS p0) w fun v16 w =>
 runK Try.prog (px R) (Instr.fieldAt 50 v16 1) w fun v17 w =>
 runK Try.prog (px R) (Instr.loadAt 3 v17) w fun v18 w =>
 runK Try.prog (px R) (binOp .add 3 v18 (Value.int .i64 1)) w fun v19 w =>
 runK Try.prog (px R) (nilCheckS p0) w fun v20 w =>
 runK Try.prog (px R) (Instr.fieldAt 50 v20 1) w fun v21 w =>
 runU Try.prog (px R) (Instr.storeAt 3 v21 v19) w fun w =>
 drawM w fun S w =>
 quietK Try.prog S (nilCheckS p0) fun v23 =>
 quietK Try.prog S (Instr.fieldAt 50 v23 0) fun v24 =>
 quietK Try.prog S (Instr.loadAt 25 v24) fun v25 =>
 quietK Try.prog S (nilCheckS p0) fun v27 =>
 quietK Try.prog S (Instr.fieldAt 50 v27 1) fun v28 =>
 quietK Try.prog S (Instr.loadAt 3 v28) fun v29 =>
 quietK Try.prog S (binOp .sub 3 v29 (Value.int .i64 1)) fun v30 =>
 quietK Try.prog S (Instr.indexAt 25 v25 v30) fun v31 =>
 quietK Try.prog S (Instr.loadAt 5 v31) fun v32 =>
 R (.returned v32) w

def m31_2 (p0 : Value) (R : Ending → World → Prop) (w : World) : Prop :=
 drawM w fun S w =>
 quietK Try.prog S (nilCheckS p0) fun v4 =>
 quietK Try.prog S (Instr.fieldAt 50 v4 1) fun v5 =>
 quietK Try.prog S (Instr.loadAt 3 v5) fun v6 =>
 quietK Try.prog S (nilCheckS p0) fun v8 =>
 quietK Try.prog S (Instr.fieldAt 50 v8 0) fun v9 =>
 quietK Try.prog S (Instr.loadAt 25 v9) fun v10 =>
 quietK Try.prog S (Builtin.len_ #[25] 3 #[v10]) fun v11 =>
 quietK Try.prog S (binOp .geq 3 v6 v11) fun v12 =>
 condF v12
 (runK Try.prog (px R) (Instr.build 52 #[(0, (Value.int .i64 22))]) w fun v13 w =>
 runK Try.prog (px R) (Instr.makeInterface 52 v13) w fun v14 w =>
 runK Try.prog (px R) (Instr.panic v14) w fun _ w =>
 m31_3 p0 R w)
 (m31_3 p0 R w)

def m31_1 (p0 : Value) (R : Ending → World → Prop) (w : World) : Prop :=
 m31_2 p0 R w

def h31 : Nat → List (Nat × Nat) := fun id => cond (Nat.beq id 1) [(0, 1), (1, 1), (2, 1), (3, 1), (4, 1), (5, 1), (6, 1), (7, 1), (8, 1), (9, 1)] (cond (Nat.beq id 4) [(0, 1), (1, 1), (2, 1), (3, 1), (4, 1), (5, 1), (6, 1), (7, 1), (8, 1), (9, 1), (10, 1), (11, 1)] ([]))

def m31 (a0 : Value) (R : Ending → World → Prop) (w : World) : Prop := m31_1 a0 R w

theorem c31 (a0 : Value) (R : Ending → World → Prop) (w : World) (h : m31 a0 R w) : Calls Try.prog 31 #[a0] w R := by
  refine calls_G h31 (by kernel_rfl) Try.func31 rfl (by kernel_rfl) (by kernel_rfl) ?_
  intro ρ hρ
  obtain rfl : ρ 0 = a0 := hρ 0
  have h : m31_1 (ρ 0) R w := h
  refine seq_sound (fun ρ w => m31_2 (ρ 0) R w) ?_ ?_
  · intro ρ w h
    refine seq_sound (fun ρ w => m31_3 (ρ 0) R w) ?_ ?_
    · intro ρ w h
      exact cast_prop h (by kernel_rfl)
    exact cast_prop h (by kernel_rfl)
  exact cast_prop h (by kernel_rfl)

theorem e31 (args : Array Value) (w : World) : (callFunc 31 args).run Try.prog w = .ok (.enter 31 args) w := callFunc_enter Try.func31 (by kernel_rfl) (by kernel_rfl) args w

theorem s31 {a0 : Value} {x : PX} {w : World} {K : Value → World → Prop} (h : m31 a0 (onE K x) w) : callS Try.prog x 31 #[a0] w K := callS_enter (e31 _ w) (c31 a0 _ w h)

/-! 32: (*moiety/wire.reader).number -/
def m32_7 (p0 : Value) (p3 : Value) (p4 : Value) (N1 : (Value × Value × Value) → World → Prop) (R : Ending → World → Prop) (w : World) : Prop :=
 runK Try.prog (px R) (binOp .add 56 p4 (Value.int .u64 7)) w fun v7 w =>
 N1 (p0, p3, v7) w

def m32_11 (p0 : Value) (p3 : Value) (p4 : Value) (p5 : Value) (N1 : (Value × Value × Value) → World → Prop) (R : Ending → World → Prop) (w : World) : Prop :=
 runK Try.prog (px R) (binOp .and 5 p5 (Value.int .u8 127)) w fun v28 w =>
 runK Try.prog (px R) (convert 5 33 v28) w fun v29 w =>
 runK Try.prog (px R) (binOp .shl 33 v29 p4) w fun v31 w =>
 runK Try.prog (px R) (binOp .or 33 p3 v31) w fun v32 w =>
 runK Try.prog (px R) (binOp .lss 5 p5 (Value.int .u8 128)) w fun v34 w =>
 condF v34
 (R (.returned v32) w)
 (m32_7 p0 v32 p4 N1 R w)

def m32_10 (p0 : Value) (p3 : Value) (p4 : Value) (p5 : Value) (N1 : (Value × Value × Value) → World → Prop) (R : Ending → World → Prop) (w : World) : Prop :=
 runK Try.prog (px R) (eqS .eql 56 false true p4 (Value.int .u64 63)) w fun v11 w =>
 condF v11
 (runK Try.prog (px R) (binOp .gtr 5 p5 (Value.int .u8 1)) w fun v14 w =>
 condF v14
 (runK Try.prog (px R) (Instr.build 52 #[(0, (Value.int .i64 23))]) w fun v24 w =>
 runK Try.prog (px R) (Instr.makeInterface 52 v24) w fun v25 w =>
 runK Try.prog (px R) (Instr.panic v25) w fun _ w =>
 m32_11 p0 p3 p4 p5 N1 R w)
 (runK Try.prog (px R) (binOp .gtr 56 p4 (Value.int .u64 0)) w fun v18 w =>
 condF v18
 (runK Try.prog (px R) (eqS .eql 5 false true p5 (Value.int .u8 0)) w fun v21 w =>
 condF v21
 (runK Try.prog (px R) (Instr.build 52 #[(0, (Value.int .i64 23))]) w fun v24_1 w =>
 runK Try.prog (px R) (Instr.makeInterface 52 v24_1) w fun v25_1 w =>
 runK Try.prog (px R) (Instr.panic v25_1) w fun _ w =>
 m32_11 p0 p3 p4 p5 N1 R w)
 (m32_11 p0 p3 p4 p5 N1 R w))
 (m32_11 p0 p3 p4 p5 N1 R w)))
 (runK Try.prog (px R) (binOp .gtr 56 p4 (Value.int .u64 0)) w fun v18_1 w =>
 condF v18_1
 (runK Try.prog (px R) (eqS .eql 5 false true p5 (Value.int .u8 0)) w fun v21_1 w =>
 condF v21_1
 (runK Try.prog (px R) (Instr.build 52 #[(0, (Value.int .i64 23))]) w fun v24_2 w =>
 runK Try.prog (px R) (Instr.makeInterface 52 v24_2) w fun v25_2 w =>
 runK Try.prog (px R) (Instr.panic v25_2) w fun _ w =>
 m32_11 p0 p3 p4 p5 N1 R w)
 (m32_11 p0 p3 p4 p5 N1 R w))
 (m32_11 p0 p3 p4 p5 N1 R w))

def m32_9 (p0 : Value) (p3 : Value) (p4 : Value) (N1 : (Value × Value × Value) → World → Prop) (R : Ending → World → Prop) (w : World) : Prop :=
 callS Try.prog (px R) 31 #[p0] w fun v9 w =>
 m32_10 p0 p3 p4 v9 N1 R w

def m32_5 (p0 : Value) (p3 : Value) (p4 : Value) (R : Ending → World → Prop) (w : World) : Prop :=
 LoopM (τ := Value × Value × Value) (fun t N1 w => m32_9 t.1 t.2.1 t.2.2 N1 R w) (p0, p3, p4) w

def m32_3 (p0 : Value) (p3 : Value) (R : Ending → World → Prop) (w : World) : Prop :=
 m32_5 p0 p3 (Value.int .u64 0) R w

def m32_2 (p0 : Value) (R : Ending → World → Prop) (w : World) : Prop :=
 m32_3 p0 (Value.int .u64 0) R w

def m32_1 (p0 : Value) (R : Ending → World → Prop) (w : World) : Prop :=
 m32_2 p0 R w

def h32 : Nat → List (Nat × Nat) := fun _ => []

def m32 (a0 : Value) (R : Ending → World → Prop) (w : World) : Prop := m32_1 a0 R w

theorem c32 (a0 : Value) (R : Ending → World → Prop) (w : World) (h : m32 a0 R w) : Calls Try.prog 32 #[a0] w R := by
  refine calls_G h32 (by kernel_rfl) Try.func32 rfl (by kernel_rfl) (by kernel_rfl) ?_
  intro ρ hρ
  obtain rfl : ρ 0 = a0 := hρ 0
  have h : m32_1 (ρ 0) R w := h
  refine seq_sound (fun ρ w => m32_2 (ρ 0) R w) ?_ ?_
  · intro ρ w h
    refine seq_sound (fun ρ w => m32_3 (ρ 0) (ρ 3) R w) ?_ ?_
    · intro ρ w h
      refine seq_sound (fun ρ w => m32_5 (ρ 0) (ρ 3) (ρ 4) R w) ?_ ?_
      · intro ρ w h
        refine block_sound ?_
        refine loop_sound (τ := Value × Value × Value) (fun ρ => (ρ 0, ρ 3, ρ 4)) (fun t N1 w => m32_9 t.1 t.2.1 t.2.2 N1 R w) ?_ h
        clear h
        intro N1 ρ w h
        have h : m32_9 (ρ 0) (ρ 3) (ρ 4) N1 R w := h
        refine seq_sound (fun ρ w => m32_7 (ρ 0) (ρ 3) (ρ 4) N1 R w) ?_ ?_
        · intro ρ w h
          exact cast_prop h (by kernel_rfl)
        refine block_sound ?_
        refine seq_sound (fun ρ w => m32_10 (ρ 0) (ρ 3) (ρ 4) (ρ 5) N1 R w) ?_ ?_
        · intro ρ w h
          refine seq_sound (fun ρ w => m32_11 (ρ 0) (ρ 3) (ρ 4) (ρ 5) N1 R w) ?_ ?_
          · intro ρ w h
            exact cast_prop h (by kernel_rfl)
          exact cast_prop h (by kernel_rfl)
        exact cast_prop h (by kernel_rfl)
      exact cast_prop h (by kernel_rfl)
    exact cast_prop h (by kernel_rfl)
  exact cast_prop h (by kernel_rfl)

theorem e32 (args : Array Value) (w : World) : (callFunc 32 args).run Try.prog w = .ok (.enter 32 args) w := callFunc_enter Try.func32 (by kernel_rfl) (by kernel_rfl) args w

theorem s32 {a0 : Value} {x : PX} {w : World} {K : Value → World → Prop} (h : m32 a0 (onE K x) w) : callS Try.prog x 32 #[a0] w K := callS_enter (e32 _ w) (c32 a0 _ w h)

/-! 33: (*moiety/wire.reader).float -/
def m33_4 (p3 : Value) (R : Ending → World → Prop) (w : World) : Prop :=
 callS Try.prog (px R) 38 #[p3] w fun v15 w =>
 callS Try.prog (px R) 28 #[v15] w fun v17 w =>
 runK Try.prog (px R) (eqS .neq 33 false false v17 p3) w fun v19 w =>
 condF v19
 (runK Try.prog (px R) (Instr.build 52 #[(0, (Value.int .i64 25))]) w fun v20 w =>
 runK Try.prog (px R) (Instr.makeInterface 52 v20) w fun v21 w =>
 runK Try.prog (px R) (Instr.panic v21) w fun _ w =>
 R (.returned v15) w)
 (R (.returned v15) w)

def m33_8 (p0 : Value) (p3 : Value) (p5 : Value) (N1 : (Value × Value × Value) → World → Prop) (R : Ending → World → Prop) (w : World) : Prop :=
 runK Try.prog (px R) (binOp .lss 3 p5 (Value.int .i64 8)) w fun v6 w =>
 condF v6
 (runK Try.prog (px R) (binOp .shl 33 p3 (Value.int .u64 8)) w fun v8 w =>
 callS Try.prog (px R) 31 #[p0] w fun v10 w =>
 runK Try.prog (px R) (convert 5 33 v10) w fun v11 w =>
 runK Try.prog (px R) (binOp .or 33 v8 v11) w fun v12 w =>
 runK Try.prog (px R) (binOp .add 3 p5 (Value.int .i64 1)) w fun v13 w =>
 N1 (p0, v12, v13) w)
 (m33_4 p3 R w)

def m33_7 (p0 : Value) (p3 : Value) (p5 : Value) (R : Ending → World → Prop) (w : World) : Prop :=
 LoopM (τ := Value × Value × Value) (fun t N1 w => m33_8 t.1 t.2.1 t.2.2 N1 R w) (p0, p3, p5) w

def m33_5 (p0 : Value) (p3 : Value) (R : Ending → World → Prop) (w : World) : Prop :=
 m33_7 p0 p3 (Value.int .i64 0) R w

def m33_2 (p0 : Value) (R : Ending → World → Prop) (w : World) : Prop :=
 m33_5 p0 (Value.int .u64 0) R w

def m33_1 (p0 : Value) (R : Ending → World → Prop) (w : World) : Prop :=
 m33_2 p0 R w

def h33 : Nat → List (Nat × Nat) := fun _ => []

def m33 (a0 : Value) (R : Ending → World → Prop) (w : World) : Prop := m33_1 a0 R w

theorem c33 (a0 : Value) (R : Ending → World → Prop) (w : World) (h : m33 a0 R w) : Calls Try.prog 33 #[a0] w R := by
  refine calls_G h33 (by kernel_rfl) Try.func33 rfl (by kernel_rfl) (by kernel_rfl) ?_
  intro ρ hρ
  obtain rfl : ρ 0 = a0 := hρ 0
  have h : m33_1 (ρ 0) R w := h
  refine seq_sound (fun ρ w => m33_2 (ρ 0) R w) ?_ ?_
  · intro ρ w h
    refine seq_sound (fun ρ w => m33_5 (ρ 0) (ρ 3) R w) ?_ ?_
    · intro ρ w h
      refine seq_sound (fun ρ w => m33_4 (ρ 3) R w) ?_ ?_
      · intro ρ w h
        exact cast_prop h (by kernel_rfl)
      refine seq_sound (fun ρ w => m33_7 (ρ 0) (ρ 3) (ρ 5) R w) ?_ ?_
      · intro ρ w h
        refine block_sound ?_
        refine loop_sound (τ := Value × Value × Value) (fun ρ => (ρ 0, ρ 3, ρ 5)) (fun t N1 w => m33_8 t.1 t.2.1 t.2.2 N1 R w) ?_ h
        clear h
        intro N1 ρ w h
        have h : m33_8 (ρ 0) (ρ 3) (ρ 5) N1 R w := h
        exact cast_prop h (by kernel_rfl)
      exact cast_prop h (by kernel_rfl)
    exact cast_prop h (by kernel_rfl)
  exact cast_prop h (by kernel_rfl)

theorem e33 (args : Array Value) (w : World) : (callFunc 33 args).run Try.prog w = .ok (.enter 33 args) w := callFunc_enter Try.func33 (by kernel_rfl) (by kernel_rfl) args w

theorem s33 {a0 : Value} {x : PX} {w : World} {K : Value → World → Prop} (h : m33 a0 (onE K x) w) : callS Try.prog x 33 #[a0] w K := callS_enter (e33 _ w) (c33 a0 _ w h)

/-! 34: (*moiety/wire.reader).text -/
def m34_5 (p0 : Value) (p3 : Value) (R : Ending → World → Prop) (w : World) : Prop :=
 runK Try.prog (px R) (nilCheckS p0) w fun v26 w =>
 runK Try.prog (px R) (Instr.fieldAt 50 v26 1) w fun v27 w =>
 runK Try.prog (px R) (Instr.loadAt 3 v27) w fun v28 w =>
 runK Try.prog (px R) (convert 33 3 p3) w fun v30 w =>
 runK Try.prog (px R) (binOp .add 3 v28 v30) w fun v31 w =>
 runK Try.prog (px R) (nilCheckS p0) w fun v32 w =>
 runK Try.prog (px R) (Instr.fieldAt 50 v32 1) w fun v33 w =>
 runU Try.prog (px R) (Instr.storeAt 3 v33 v31) w fun w =>
 drawM w fun S w =>
 quietK Try.prog S (nilCheckS p0) fun v35 =>
 quietK Try.prog S (Instr.fieldAt 50 v35 0) fun v36 =>
 quietK Try.prog S (Instr.loadAt 25 v36) fun v37 =>
 quietK Try.prog S (nilCheckS p0) fun v39 =>
 quietK Try.prog S (Instr.fieldAt 50 v39 1) fun v40 =>
 quietK Try.prog S (Instr.loadAt 3 v40) fun v41 =>
 quietK Try.prog S (convert 33 3 p3) fun v43 =>
 quietK Try.prog S (binOp .sub 3 v41 v43) fun v44 =>
 quietK Try.prog S (nilCheckS p0) fun v46 =>
 quietK Try.prog S (Instr.fieldAt 50 v46 1) fun v47 =>
 quietK Try.prog S (Instr.loadAt 3 v47) fun v48 =>
 quietK Try.prog S (Instr.sliceAt 25 v37 (some v44) (some v48) none) fun v49 =>
 quietK Try.prog S (convert 25 9 v49) fun v50 =>
 R (.returned v50) w

def m34_4 (p0 : Value) (p3 : Value) (R : Ending → World → Prop) (w : World) : Prop :=
 drawM w fun S w =>
 quietK Try.prog S (nilCheckS p0) fun v11 =>
 quietK Try.prog S (Instr.fieldAt 50 v11 0) fun v12 =>
 quietK Try.prog S (Instr.loadAt 25 v12) fun v13 =>
 quietK Try.prog S (Builtin.len_ #[25] 3 #[v13]) fun v14 =>
 quietK Try.prog S (nilCheckS p0) fun v16 =>
 quietK Try.prog S (Instr.fieldAt 50 v16 1) fun v17 =>
 quietK Try.prog S (Instr.loadAt 3 v17) fun v18 =>
 quietK Try.prog S (binOp .sub 3 v14 v18) fun v19 =>
 quietK Try.prog S (convert 3 33 v19) fun v20 =>
 quietK Try.prog S (binOp .lss 33 v20 p3) fun v22 =>
 condF v22
 (runK Try.prog (px R) (Instr.build 52 #[(0, (Value.int .i64 22))]) w fun v23 w =>
 runK Try.prog (px R) (Instr.makeInterface 52 v23) w fun v24 w =>
 runK Try.prog (px R) (Instr.panic v24) w fun _ w =>
 m34_5 p0 p3 R w)
 (m34_5 p0 p3 R w)

def m34_3 (p0 : Value) (p3 : Value) (R : Ending → World → Prop) (w : World) : Prop :=
 runK Try.prog (px R) (binOp .gtr 33 p3 (Value.int .u64 1000)) w fun v7 w =>
 condF v7
 (runK Try.prog (px R) (Instr.build 52 #[(0, (Value.int .i64 24))]) w fun v8 w =>
 runK Try.prog (px R) (Instr.makeInterface 52 v8) w fun v9 w =>
 runK Try.prog (px R) (Instr.panic v9) w fun _ w =>
 m34_4 p0 p3 R w)
 (m34_4 p0 p3 R w)

def m34_2 (p0 : Value) (R : Ending → World → Prop) (w : World) : Prop :=
 callS Try.prog (px R) 32 #[p0] w fun v5 w =>
 m34_3 p0 v5 R w

def m34_1 (p0 : Value) (R : Ending → World → Prop) (w : World) : Prop :=
 m34_2 p0 R w

def h34 : Nat → List (Nat × Nat) := fun id => cond (Nat.beq id 4) [(0, 1), (1, 1), (2, 1), (3, 1), (4, 1), (5, 1), (6, 1), (7, 1), (8, 1), (9, 1), (10, 1), (11, 1), (12, 1)] (cond (Nat.beq id 7) [(0, 1), (1, 1), (2, 1), (3, 1), (4, 1), (5, 1), (6, 1), (7, 1), (8, 1), (9, 1), (10, 1), (11, 1), (12, 1), (13, 1), (14, 1), (15, 1), (16, 1), (17, 1)] ([]))

def m34 (a0 : Value) (R : Ending → World → Prop) (w : World) : Prop := m34_1 a0 R w

theorem c34 (a0 : Value) (R : Ending → World → Prop) (w : World) (h : m34 a0 R w) : Calls Try.prog 34 #[a0] w R := by
  refine calls_G h34 (by kernel_rfl) Try.func34 rfl (by kernel_rfl) (by kernel_rfl) ?_
  intro ρ hρ
  obtain rfl : ρ 0 = a0 := hρ 0
  have h : m34_1 (ρ 0) R w := h
  refine seq_sound (fun ρ w => m34_2 (ρ 0) R w) ?_ ?_
  · intro ρ w h
    refine seq_sound (fun ρ w => m34_3 (ρ 0) (ρ 3) R w) ?_ ?_
    · intro ρ w h
      refine seq_sound (fun ρ w => m34_4 (ρ 0) (ρ 3) R w) ?_ ?_
      · intro ρ w h
        refine seq_sound (fun ρ w => m34_5 (ρ 0) (ρ 3) R w) ?_ ?_
        · intro ρ w h
          exact cast_prop h (by kernel_rfl)
        exact cast_prop h (by kernel_rfl)
      exact cast_prop h (by kernel_rfl)
    exact cast_prop h (by kernel_rfl)
  exact cast_prop h (by kernel_rfl)

theorem e34 (args : Array Value) (w : World) : (callFunc 34 args).run Try.prog w = .ok (.enter 34 args) w := callFunc_enter Try.func34 (by kernel_rfl) (by kernel_rfl) args w

theorem s34 {a0 : Value} {x : PX} {w : World} {K : Value → World → Prop} (h : m34 a0 (onE K x) w) : callS Try.prog x 34 #[a0] w K := callS_enter (e34 _ w) (c34 a0 _ w h)

/-! 35: moiety/moietyref01.None -/
def m35_1 (p0 : Value) (R : Ending → World → Prop) (w : World) : Prop :=
 callS Try.prog (px R) 23 #[p0] w fun v5 w =>
 runK Try.prog (px R) (binOp .shl 33 v5 (Value.int .u64 1)) w fun v6 w =>
 runK Try.prog (px R) (binOp .gtr 33 v6 (Value.int .u64 18437736874454810624)) w fun v8 w =>
 R (.returned v8) w

def h35 : Nat → List (Nat × Nat) := fun _ => []

def m35 (a0 : Value) (R : Ending → World → Prop) (w : World) : Prop := m35_1 a0 R w

theorem c35 (a0 : Value) (R : Ending → World → Prop) (w : World) (h : m35 a0 R w) : Calls Try.prog 35 #[a0] w R := by
  refine calls_G h35 (by kernel_rfl) Try.func35 rfl (by kernel_rfl) (by kernel_rfl) ?_
  intro ρ hρ
  obtain rfl : ρ 0 = a0 := hρ 0
  have h : m35_1 (ρ 0) R w := h
  exact cast_prop h (by kernel_rfl)

theorem e35 (args : Array Value) (w : World) : (callFunc 35 args).run Try.prog w = .ok (.enter 35 args) w := callFunc_enter Try.func35 (by kernel_rfl) (by kernel_rfl) args w

theorem s35 {a0 : Value} {x : PX} {w : World} {K : Value → World → Prop} (h : m35 a0 (onE K x) w) : callS Try.prog x 35 #[a0] w K := callS_enter (e35 _ w) (c35 a0 _ w h)

/-! 36: moiety/num.Class -/
def m36_1 (p0 : Value) (R : Ending → World → Prop) (w : World) : Prop :=
 callS Try.prog (px R) 23 #[p0] w fun v5 w =>
 runK Try.prog (px R) (eqS .neq 34 false false p0 p0) w fun v9 w =>
 condF v9
 (R (.returned (Value.int .i64 0)) w)
 (runK Try.prog (px R) (eqS .eql 33 false true v5 (Value.int .u64 0)) w fun v12 w =>
 condF v12
 (R (.returned (Value.int .i64 4)) w)
 (runK Try.prog (px R) (eqS .eql 33 false true v5 (Value.int .u64 9223372036854775808)) w fun v15 w =>
 condF v15
 (R (.returned (Value.int .i64 3)) w)
 (callS Try.prog (px R) 39 #[p0, (Value.int .i64 (-1))] w fun v18 w =>
 condF v18
 (R (.returned (Value.int .i64 1)) w)
 (callS Try.prog (px R) 39 #[p0, (Value.int .i64 1)] w fun v21 w =>
 condF v21
 (R (.returned (Value.int .i64 6)) w)
 (runK Try.prog (px R) (binOp .lss 34 p0 (Value.float FloatKind.f64 0)) w fun v24 w =>
 condF v24
 (R (.returned (Value.int .i64 2)) w)
 (R (.returned (Value.int .i64 5)) w))))))

def h36 : Nat → List (Nat × Nat) := fun _ => []

def m36 (a0 : Value) (R : Ending → World → Prop) (w : World) : Prop := m36_1 a0 R w

theorem c36 (a0 : Value) (R : Ending → World → Prop) (w : World) (h : m36 a0 R w) : Calls Try.prog 36 #[a0] w R := by
  refine calls_G h36 (by kernel_rfl) Try.func36 rfl (by kernel_rfl) (by kernel_rfl) ?_
  intro ρ hρ
  obtain rfl : ρ 0 = a0 := hρ 0
  have h : m36_1 (ρ 0) R w := h
  exact cast_prop h (by kernel_rfl)

theorem e36 (args : Array Value) (w : World) : (callFunc 36 args).run Try.prog w = .ok (.enter 36 args) w := callFunc_enter Try.func36 (by kernel_rfl) (by kernel_rfl) args w

theorem s36 {a0 : Value} {x : PX} {w : World} {K : Value → World → Prop} (h : m36 a0 (onE K x) w) : callS Try.prog x 36 #[a0] w K := callS_enter (e36 _ w) (c36 a0 _ w h)

/-! 37: moiety/num.Of -/
def m37_1 (p0 : Value) (R : Ending → World → Prop) (w : World) : Prop :=
 runK Try.prog (px R) (eqS .eql 33 false true p0 (Value.int .u64 0)) w fun v7 w =>
 condF v7
 (callS Try.prog (px R) 38 #[(Value.int .u64 9221120237041090561)] w fun v8 w =>
 R (.returned (.tuple #[v8, (Value.bool true)])) w)
 (runK Try.prog (px R) (Op.unary .xor p0) w fun v10 w =>
 runK Try.prog (px R) (binOp .shr 33 p0 (Value.int .u64 63)) w fun v12 w =>
 runK Try.prog (px R) (eqS .eql 33 false true v12 (Value.int .u64 1)) w fun v13 w =>
 condF v13
 (runK Try.prog (px R) (binOp .andNot 33 p0 (Value.int .u64 9223372036854775808)) w fun v15 w =>
 callS Try.prog (px R) 38 #[v15] w fun v17 w =>
 runK Try.prog (px R) (eqS .neq 34 false false v17 v17) w fun v20 w =>
 condF v20
 (R (.returned (.tuple #[(Value.float FloatKind.f64 0), (Value.bool false)])) w)
 (R (.returned (.tuple #[v17, (Value.bool true)])) w))
 (callS Try.prog (px R) 38 #[v10] w fun v17_1 w =>
 runK Try.prog (px R) (eqS .neq 34 false false v17_1 v17_1) w fun v20_1 w =>
 condF v20_1
 (R (.returned (.tuple #[(Value.float FloatKind.f64 0), (Value.bool false)])) w)
 (R (.returned (.tuple #[v17_1, (Value.bool true)])) w)))

def h37 : Nat → List (Nat × Nat) := fun _ => []

def m37 (a0 : Value) (R : Ending → World → Prop) (w : World) : Prop := m37_1 a0 R w

theorem c37 (a0 : Value) (R : Ending → World → Prop) (w : World) (h : m37 a0 R w) : Calls Try.prog 37 #[a0] w R := by
  refine calls_G h37 (by kernel_rfl) Try.func37 rfl (by kernel_rfl) (by kernel_rfl) ?_
  intro ρ hρ
  obtain rfl : ρ 0 = a0 := hρ 0
  have h : m37_1 (ρ 0) R w := h
  exact cast_prop h (by kernel_rfl)

theorem e37 (args : Array Value) (w : World) : (callFunc 37 args).run Try.prog w = .ok (.enter 37 args) w := callFunc_enter Try.func37 (by kernel_rfl) (by kernel_rfl) args w

theorem s37 {a0 : Value} {x : PX} {w : World} {K : Value → World → Prop} (h : m37 a0 (onE K x) w) : callS Try.prog x 37 #[a0] w K := callS_enter (e37 _ w) (c37 a0 _ w h)

/-! 39: math.IsInf -/
def m39_1 (p0 : Value) (p1 : Value) (R : Ending → World → Prop) (w : World) : Prop :=
 runK Try.prog (px R) (eqS .eql 3 false true p1 (Value.int .i64 0)) w fun v6 w =>
 condF v6
 (callS Try.prog (px R) 40 #[p0] w fun v8 w =>
 runK Try.prog (px R) (binOp .gtr 34 v8 (Value.float FloatKind.f64 9218868437227405311)) w fun v14 w =>
 R (.returned v14) w)
 (runK Try.prog (px R) (binOp .lss 3 p1 (Value.int .i64 0)) w fun v10 w =>
 condF v10
 (runK Try.prog (px R) (Op.unary .neg p0) w fun v12 w =>
 runK Try.prog (px R) (binOp .gtr 34 v12 (Value.float FloatKind.f64 9218868437227405311)) w fun v14_1 w =>
 R (.returned v14_1) w)
 (runK Try.prog (px R) (binOp .gtr 34 p0 (Value.float FloatKind.f64 9218868437227405311)) w fun v14_2 w =>
 R (.returned v14_2) w))

def h39 : Nat → List (Nat × Nat) := fun _ => []

def m39 (a0 a1 : Value) (R : Ending → World → Prop) (w : World) : Prop := m39_1 a0 a1 R w

theorem c39 (a0 a1 : Value) (R : Ending → World → Prop) (w : World) (h : m39 a0 a1 R w) : Calls Try.prog 39 #[a0, a1] w R := by
  refine calls_G h39 (by kernel_rfl) Try.func39 rfl (by kernel_rfl) (by kernel_rfl) ?_
  intro ρ hρ
  obtain rfl : ρ 0 = a0 := hρ 0
  obtain rfl : ρ 1 = a1 := hρ 1
  have h : m39_1 (ρ 0) (ρ 1) R w := h
  exact cast_prop h (by kernel_rfl)

theorem e39 (args : Array Value) (w : World) : (callFunc 39 args).run Try.prog w = .ok (.enter 39 args) w := callFunc_enter Try.func39 (by kernel_rfl) (by kernel_rfl) args w

theorem s39 {a0 a1 : Value} {x : PX} {w : World} {K : Value → World → Prop} (h : m39 a0 a1 (onE K x) w) : callS Try.prog x 39 #[a0, a1] w K := callS_enter (e39 _ w) (c39 a0 a1 _ w h)

/-! 40: math.Abs -/
def m40_1 (p0 : Value) (R : Ending → World → Prop) (w : World) : Prop :=
 callS Try.prog (px R) 23 #[p0] w fun v4 w =>
 runK Try.prog (px R) (binOp .andNot 33 v4 (Value.int .u64 9223372036854775808)) w fun v5 w =>
 callS Try.prog (px R) 38 #[v5] w fun v6 w =>
 R (.returned v6) w

def h40 : Nat → List (Nat × Nat) := fun _ => []

def m40 (a0 : Value) (R : Ending → World → Prop) (w : World) : Prop := m40_1 a0 R w

theorem c40 (a0 : Value) (R : Ending → World → Prop) (w : World) (h : m40 a0 R w) : Calls Try.prog 40 #[a0] w R := by
  refine calls_G h40 (by kernel_rfl) Try.func40 rfl (by kernel_rfl) (by kernel_rfl) ?_
  intro ρ hρ
  obtain rfl : ρ 0 = a0 := hρ 0
  have h : m40_1 (ρ 0) R w := h
  exact cast_prop h (by kernel_rfl)

theorem e40 (args : Array Value) (w : World) : (callFunc 40 args).run Try.prog w = .ok (.enter 40 args) w := callFunc_enter Try.func40 (by kernel_rfl) (by kernel_rfl) args w

theorem s40 {a0 : Value} {x : PX} {w : World} {K : Value → World → Prop} (h : m40 a0 (onE K x) w) : callS Try.prog x 40 #[a0] w K := callS_enter (e40 _ w) (c40 a0 _ w h)

end Go.Proofs.Ytdihigmcihheoaa
