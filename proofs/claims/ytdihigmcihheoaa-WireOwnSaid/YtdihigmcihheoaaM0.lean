/- What the functions of the translation ask, in plain text, and that it is enough for their calls: printed by a program of this claim's own (wip/gen.py), each proof checked by Lean. -/
import Derived.Test.YtdihigmcihheoaaProg
import Derived.Test.YtdihigmcihheoaaFL
import Derived.KernelRfl
set_option linter.unusedVariables false
set_option maxRecDepth 100000
namespace Go.Proofs.Ytdihigmcihheoaa
open Go.FW

/-! 2: gosem.cut.init -/
def m2_1 (R : Ending → World → Prop) (w : World) : Prop :=
 callS Try.prog (px R) 1 #[] w fun v0 w =>
 R (.returned (.tuple #[])) w

def h2 : Nat → List (Nat × Nat) := fun _ => []

def m2 (R : Ending → World → Prop) (w : World) : Prop := m2_1 R w

theorem c2 (R : Ending → World → Prop) (w : World) (h : m2  R w) : Calls Try.prog 2 #[] w R := by
  refine calls_G h2 (by kernel_rfl) Try.func2 rfl (by kernel_rfl) (by kernel_rfl) ?_
  intro ρ hρ
  have h : m2_1 R w := h
  exact cast_prop h (by kernel_rfl)

theorem e2 (args : Array Value) (w : World) : (callFunc 2 args).run Try.prog w = .ok (.enter 2 args) w := callFunc_enter Try.func2 (by kernel_rfl) (by kernel_rfl) args w

theorem s2 {x : PX} {w : World} {K : Value → World → Prop} (h : m2  (onE K x) w) : callS Try.prog x 2 #[] w K := callS_enter (e2 _ w) (c2  _ w h)

/-! 3: moiety/moietylaw02.WirePacks -/
def m3_1 (p0 : Value) (R : Ending → World → Prop) (w : World) : Prop :=
 callS Try.prog (px R) 11 #[p0] w fun v9 w =>
 runK Try.prog (px R) (Op.unary .not v9) w fun v10 w =>
 condF v10
 (callS Try.prog (px R) 12 #[] w fun v11 w =>
 R (.returned v11) w)
 (runK Try.prog (px R) (Instr.buildSlice 22 0 #[]) w fun v12 w =>
 runK Try.prog (px R) (Builtin.append_ #[22, 22] 22 #[v12, p0]) w fun v14 w =>
 callS Try.prog (px R) 13 #[v14] w fun v17 w =>
 runK Try.prog (px R) (Instr.extract v17 0) w fun v18 w =>
 runK Try.prog (px R) (Instr.extract v17 1) w fun v19 w =>
 callS Try.prog (px R) 14 #[p0] w fun v22 w =>
 runK Try.prog (px R) (Instr.extract v22 0) w fun v23 w =>
 runK Try.prog (px R) (Instr.extract v22 1) w fun v24 w =>
 callS Try.prog (px R) 12 #[] w fun v25 w =>
 condF v25
 (runK Try.prog (px R) (eqS .eql 26 false false v19 v24) w fun v29 w =>
 condF v29
 (runK Try.prog (px R) (convert 25 9 v18) w fun v33 w =>
 runK Try.prog (px R) (eqS .eql 9 false false v33 v23) w fun v35 w =>
 condF v35
 (callS Try.prog (px R) 15 #[v14, p0] w fun v40 w =>
 R (.returned v40) w)
 (R (.returned (Value.bool false)) w))
 (R (.returned (Value.bool false)) w))
 (R (.returned (Value.bool false)) w))

def h3 : Nat → List (Nat × Nat) := fun _ => []

def m3 (a0 : Value) (R : Ending → World → Prop) (w : World) : Prop := m3_1 a0 R w

theorem c3 (a0 : Value) (R : Ending → World → Prop) (w : World) (h : m3 a0 R w) : Calls Try.prog 3 #[a0] w R := by
  refine calls_G h3 (by kernel_rfl) Try.func3 rfl (by kernel_rfl) (by kernel_rfl) ?_
  intro ρ hρ
  obtain rfl : ρ 0 = a0 := hρ 0
  have h : m3_1 (ρ 0) R w := h
  exact cast_prop h (by kernel_rfl)

theorem e3 (args : Array Value) (w : World) : (callFunc 3 args).run Try.prog w = .ok (.enter 3 args) w := callFunc_enter Try.func3 (by kernel_rfl) (by kernel_rfl) args w

theorem s3 {a0 : Value} {x : PX} {w : World} {K : Value → World → Prop} (h : m3 a0 (onE K x) w) : callS Try.prog x 3 #[a0] w K := callS_enter (e3 _ w) (c3 a0 _ w h)

/-! 4: moiety/moietylaw02.WireValid -/
def m4_1 (p0 : Value) (R : Ending → World → Prop) (w : World) : Prop :=
 runK Try.prog (px R) (Instr.box 36 p0) w fun v1 w =>
 drawM w fun S w =>
 callS Try.prog (px R) 12 #[] w fun v3 w =>
 moreS S w fun S =>
 condF v3
 (quietK Try.prog S (Instr.fieldAt 36 v1 4) fun v5 =>
 quietK Try.prog S (Instr.loadAt 9 v5) fun v6 =>
 quietK Try.prog S (Builtin.len_ #[9] 3 #[v6]) fun v7 =>
 quietK Try.prog S (binOp .gtr 3 v7 (Value.int .i64 5000)) fun v8 =>
 condF v8
 (R (.returned (Value.bool true)) w)
 (quietK Try.prog S (Instr.loadAt 36 v1) fun v10 =>
 quietK Try.prog S (Instr.loadAt 36 v1) fun v12 =>
 callS Try.prog (px R) 16 #[v10] w fun v11 w =>
 moreS S w fun S =>
 callS Try.prog (px R) 17 #[v12] w fun v13 w =>
 moreS S w fun S =>
 quietK Try.prog S (eqS .eql 26 false false v11 v13) fun v14 =>
 R (.returned v14) w))
 (R (.returned (Value.bool false)) w)

def h4 : Nat → List (Nat × Nat) := fun id => cond (Nat.beq id 1) [(0, 0), (1, 1), (2, 1), (3, 1), (4, 1), (5, 1), (6, 1), (7, 1), (9, 1), (8, 0), (10, 0), (11, 1), (12, 1), (13, 1), (14, 1)] ([])

def m4 (a0 : Value) (R : Ending → World → Prop) (w : World) : Prop := m4_1 a0 R w

theorem c4 (a0 : Value) (R : Ending → World → Prop) (w : World) (h : m4 a0 R w) : Calls Try.prog 4 #[a0] w R := by
  refine calls_G h4 (by kernel_rfl) Try.func4 rfl (by kernel_rfl) (by kernel_rfl) ?_
  intro ρ hρ
  obtain rfl : ρ 0 = a0 := hρ 0
  have h : m4_1 (ρ 0) R w := h
  exact cast_prop h (by kernel_rfl)

theorem e4 (args : Array Value) (w : World) : (callFunc 4 args).run Try.prog w = .ok (.enter 4 args) w := callFunc_enter Try.func4 (by kernel_rfl) (by kernel_rfl) args w

theorem s4 {a0 : Value} {x : PX} {w : World} {K : Value → World → Prop} (h : m4 a0 (onE K x) w) : callS Try.prog x 4 #[a0] w K := callS_enter (e4 _ w) (c4 a0 _ w h)

/-! 5: moiety/moietylaw02.WireBack -/
def m5_1 (p0 : Value) (R : Ending → World → Prop) (w : World) : Prop :=
 callS Try.prog (px R) 11 #[p0] w fun v9 w =>
 runK Try.prog (px R) (Op.unary .not v9) w fun v10 w =>
 condF v10
 (callS Try.prog (px R) 12 #[] w fun v11 w =>
 R (.returned v11) w)
 (callS Try.prog (px R) 13 #[p0] w fun v14 w =>
 runK Try.prog (px R) (Instr.extract v14 0) w fun v15 w =>
 runK Try.prog (px R) (Instr.extract v14 1) w fun v16 w =>
 callS Try.prog (px R) 12 #[] w fun v17 w =>
 runK Try.prog (px R) (Op.unary .not v17) w fun v18 w =>
 condF v18
 (callS Try.prog (px R) 12 #[] w fun v23 w =>
 R (.returned v23) w)
 (runK Try.prog (px R) (eqS .neq 26 false true v16 (Value.int .i64 0)) w fun v21 w =>
 condF v21
 (callS Try.prog (px R) 12 #[] w fun v23_1 w =>
 R (.returned v23_1) w)
 (callS Try.prog (px R) 18 #[v15] w fun v26 w =>
 runK Try.prog (px R) (Instr.extract v26 0) w fun v27 w =>
 runK Try.prog (px R) (Instr.extract v26 1) w fun v28 w =>
 runK Try.prog (px R) (Instr.extract v26 2) w fun v29 w =>
 runK Try.prog (px R) (eqS .eql 26 false true v29 (Value.int .i64 0)) w fun v31 w =>
 condF v31
 (runK Try.prog (px R) (eqS .eql 3 false true v28 (Value.int .i64 0)) w fun v34 w =>
 condF v34
 (callS Try.prog (px R) 15 #[p0, v27] w fun v39 w =>
 R (.returned v39) w)
 (R (.returned (Value.bool false)) w))
 (R (.returned (Value.bool false)) w))))

def h5 : Nat → List (Nat × Nat) := fun _ => []

def m5 (a0 : Value) (R : Ending → World → Prop) (w : World) : Prop := m5_1 a0 R w

theorem c5 (a0 : Value) (R : Ending → World → Prop) (w : World) (h : m5 a0 R w) : Calls Try.prog 5 #[a0] w R := by
  refine calls_G h5 (by kernel_rfl) Try.func5 rfl (by kernel_rfl) (by kernel_rfl) ?_
  intro ρ hρ
  obtain rfl : ρ 0 = a0 := hρ 0
  have h : m5_1 (ρ 0) R w := h
  exact cast_prop h (by kernel_rfl)

theorem e5 (args : Array Value) (w : World) : (callFunc 5 args).run Try.prog w = .ok (.enter 5 args) w := callFunc_enter Try.func5 (by kernel_rfl) (by kernel_rfl) args w

theorem s5 {a0 : Value} {x : PX} {w : World} {K : Value → World → Prop} (h : m5 a0 (onE K x) w) : callS Try.prog x 5 #[a0] w K := callS_enter (e5 _ w) (c5 a0 _ w h)

/-! 6: moiety/moietylaw02.WireOnce -/
def m6_1 (p0 : Value) (R : Ending → World → Prop) (w : World) : Prop :=
 runK Try.prog (px R) (Builtin.len_ #[9] 3 #[p0]) w fun v9 w =>
 runK Try.prog (px R) (binOp .gtr 3 v9 (Value.int .i64 20000)) w fun v10 w =>
 condF v10
 (callS Try.prog (px R) 12 #[] w fun v11 w =>
 R (.returned v11) w)
 (runK Try.prog (px R) (convert 9 25 p0) w fun v14 w =>
 callS Try.prog (px R) 18 #[v14] w fun v15 w =>
 runK Try.prog (px R) (Instr.extract v15 0) w fun v16 w =>
 runK Try.prog (px R) (Instr.extract v15 1) w fun v17 w =>
 runK Try.prog (px R) (Instr.extract v15 2) w fun v18 w =>
 callS Try.prog (px R) 12 #[] w fun v19 w =>
 runK Try.prog (px R) (Op.unary .not v19) w fun v20 w =>
 condF v20
 (callS Try.prog (px R) 12 #[] w fun v25 w =>
 condF v25
 (runK Try.prog (px R) (Builtin.len_ #[22] 3 #[v16]) w fun v28 w =>
 runK Try.prog (px R) (eqS .eql 3 false true v28 (Value.int .i64 0)) w fun v29 w =>
 R (.returned v29) w)
 (R (.returned (Value.bool false)) w))
 (runK Try.prog (px R) (eqS .neq 26 false true v18 (Value.int .i64 0)) w fun v23 w =>
 condF v23
 (callS Try.prog (px R) 12 #[] w fun v25_1 w =>
 condF v25_1
 (runK Try.prog (px R) (Builtin.len_ #[22] 3 #[v16]) w fun v28_1 w =>
 runK Try.prog (px R) (eqS .eql 3 false true v28_1 (Value.int .i64 0)) w fun v29_1 w =>
 R (.returned v29_1) w)
 (R (.returned (Value.bool false)) w))
 (callS Try.prog (px R) 13 #[v16] w fun v33 w =>
 runK Try.prog (px R) (Instr.extract v33 0) w fun v34 w =>
 runK Try.prog (px R) (Instr.extract v33 1) w fun v35 w =>
 runK Try.prog (px R) (eqS .eql 26 false true v35 (Value.int .i64 0)) w fun v37 w =>
 condF v37
 (runK Try.prog (px R) (convert 25 9 v34) w fun v40 w =>
 runK Try.prog (px R) (eqS .eql 9 false false v40 p0) w fun v42 w =>
 R (.returned v42) w)
 (R (.returned (Value.bool false)) w))))

def h6 : Nat → List (Nat × Nat) := fun _ => []

def m6 (a0 : Value) (R : Ending → World → Prop) (w : World) : Prop := m6_1 a0 R w

theorem c6 (a0 : Value) (R : Ending → World → Prop) (w : World) (h : m6 a0 R w) : Calls Try.prog 6 #[a0] w R := by
  refine calls_G h6 (by kernel_rfl) Try.func6 rfl (by kernel_rfl) (by kernel_rfl) ?_
  intro ρ hρ
  obtain rfl : ρ 0 = a0 := hρ 0
  have h : m6_1 (ρ 0) R w := h
  exact cast_prop h (by kernel_rfl)

theorem e6 (args : Array Value) (w : World) : (callFunc 6 args).run Try.prog w = .ok (.enter 6 args) w := callFunc_enter Try.func6 (by kernel_rfl) (by kernel_rfl) args w

theorem s6 {a0 : Value} {x : PX} {w : World} {K : Value → World → Prop} (h : m6 a0 (onE K x) w) : callS Try.prog x 6 #[a0] w K := callS_enter (e6 _ w) (c6 a0 _ w h)

/-! 7: moiety/moietylaw02.WireCuts -/
def m7_5 (p0 : Value) (p1 : Value) (p5 : Value) (R : Ending → World → Prop) (w : World) : Prop :=
 runK Try.prog (px R) (convert 42 3 p1) w fun v36 w =>
 runK Try.prog (px R) (Builtin.len_ #[25] 3 #[p5]) w fun v38 w =>
 runK Try.prog (px R) (binOp .rem 3 v36 v38) w fun v39 w =>
 runK Try.prog (px R) (Instr.sliceAt 25 p5 none (some v39) none) w fun v43 w =>
 callS Try.prog (px R) 18 #[v43] w fun v44 w =>
 runK Try.prog (px R) (Instr.extract v44 0) w fun v45 w =>
 runK Try.prog (px R) (Instr.extract v44 1) w fun v46 w =>
 runK Try.prog (px R) (Instr.extract v44 2) w fun v47 w =>
 runK Try.prog (px R) (eqS .eql 26 false true v47 (Value.int .i64 0)) w fun v49 w =>
 condF v49
 (runK Try.prog (px R) (Builtin.len_ #[22] 3 #[v45]) w fun v51 w =>
 runK Try.prog (px R) (Builtin.len_ #[22] 3 #[p0]) w fun v53 w =>
 runK Try.prog (px R) (binOp .lss 3 v51 v53) w fun v54 w =>
 condF v54
 (runK Try.prog (px R) (Builtin.len_ #[22] 3 #[v45]) w fun v59 w =>
 runK Try.prog (px R) (Instr.sliceAt 22 p0 none (some v59) none) w fun v60 w =>
 callS Try.prog (px R) 15 #[v45, v60] w fun v61 w =>
 R (.returned v61) w)
 (R (.returned (Value.bool false)) w))
 (runK Try.prog (px R) (Instr.sliceAt 25 p5 none (some v46) none) w fun v66 w =>
 callS Try.prog (px R) 18 #[v66] w fun v67 w =>
 runK Try.prog (px R) (Instr.extract v67 0) w fun v68 w =>
 runK Try.prog (px R) (Instr.extract v67 1) w fun v69 w =>
 runK Try.prog (px R) (Instr.extract v67 2) w fun v70 w =>
 runK Try.prog (px R) (eqS .eql 26 false true v47 (Value.int .i64 22)) w fun v72 w =>
 condF v72
 (runK Try.prog (px R) (Builtin.len_ #[22] 3 #[v45]) w fun v75 w =>
 runK Try.prog (px R) (eqS .eql 3 false true v75 (Value.int .i64 0)) w fun v76 w =>
 condF v76
 (runK Try.prog (px R) (binOp .lss 3 v46 v39) w fun v81 w =>
 condF v81
 (runK Try.prog (px R) (eqS .eql 26 false true v70 (Value.int .i64 0)) w fun v85 w =>
 condF v85
 (runK Try.prog (px R) (Builtin.len_ #[22] 3 #[v68]) w fun v89 w =>
 runK Try.prog (px R) (Builtin.len_ #[22] 3 #[p0]) w fun v91 w =>
 runK Try.prog (px R) (binOp .lss 3 v89 v91) w fun v92 w =>
 condF v92
 (runK Try.prog (px R) (Builtin.len_ #[22] 3 #[v68]) w fun v98 w =>
 runK Try.prog (px R) (Instr.sliceAt 22 p0 none (some v98) none) w fun v99 w =>
 callS Try.prog (px R) 15 #[v68, v99] w fun v100 w =>
 R (.returned v100) w)
 (R (.returned (Value.bool false)) w))
 (R (.returned (Value.bool false)) w))
 (R (.returned (Value.bool false)) w))
 (R (.returned (Value.bool false)) w))
 (R (.returned (Value.bool false)) w))

def m7_4 (p0 : Value) (p1 : Value) (p5 : Value) (p6 : Value) (R : Ending → World → Prop) (w : World) : Prop :=
 callS Try.prog (px R) 12 #[] w fun v23 w =>
 runK Try.prog (px R) (Op.unary .not v23) w fun v24 w =>
 condF v24
 (callS Try.prog (px R) 12 #[] w fun v34 w =>
 R (.returned v34) w)
 (runK Try.prog (px R) (eqS .neq 26 false true p6 (Value.int .i64 0)) w fun v27 w =>
 condF v27
 (callS Try.prog (px R) 12 #[] w fun v34_1 w =>
 R (.returned v34_1) w)
 (runK Try.prog (px R) (Builtin.len_ #[25] 3 #[p5]) w fun v31 w =>
 runK Try.prog (px R) (eqS .eql 3 false true v31 (Value.int .i64 0)) w fun v32 w =>
 condF v32
 (callS Try.prog (px R) 12 #[] w fun v34_2 w =>
 R (.returned v34_2) w)
 (m7_5 p0 p1 p5 R w)))

def m7_3 (p0 : Value) (p1 : Value) (R : Ending → World → Prop) (w : World) : Prop :=
 callS Try.prog (px R) 13 #[p0] w fun v20 w =>
 runK Try.prog (px R) (Instr.extract v20 0) w fun v21 w =>
 runK Try.prog (px R) (Instr.extract v20 1) w fun v22 w =>
 m7_4 p0 p1 v21 v22 R w

def m7_2 (p0 : Value) (p1 : Value) (R : Ending → World → Prop) (w : World) : Prop :=
 callS Try.prog (px R) 11 #[p0] w fun v15 w =>
 runK Try.prog (px R) (Op.unary .not v15) w fun v16 w =>
 condF v16
 (callS Try.prog (px R) 12 #[] w fun v17 w =>
 R (.returned v17) w)
 (m7_3 p0 p1 R w)

def m7_1 (p0 : Value) (p1 : Value) (R : Ending → World → Prop) (w : World) : Prop :=
 m7_2 p0 p1 R w

def h7 : Nat → List (Nat × Nat) := fun _ => []

def m7 (a0 a1 : Value) (R : Ending → World → Prop) (w : World) : Prop := m7_1 a0 a1 R w

theorem c7 (a0 a1 : Value) (R : Ending → World → Prop) (w : World) (h : m7 a0 a1 R w) : Calls Try.prog 7 #[a0, a1] w R := by
  refine calls_G h7 (by kernel_rfl) Try.func7 rfl (by kernel_rfl) (by kernel_rfl) ?_
  intro ρ hρ
  obtain rfl : ρ 0 = a0 := hρ 0
  obtain rfl : ρ 1 = a1 := hρ 1
  have h : m7_1 (ρ 0) (ρ 1) R w := h
  refine seq_sound (fun ρ w => m7_2 (ρ 0) (ρ 1) R w) ?_ ?_
  · intro ρ w h
    refine seq_sound (fun ρ w => m7_3 (ρ 0) (ρ 1) R w) ?_ ?_
    · intro ρ w h
      refine seq_sound (fun ρ w => m7_4 (ρ 0) (ρ 1) (ρ 5) (ρ 6) R w) ?_ ?_
      · intro ρ w h
        refine seq_sound (fun ρ w => m7_5 (ρ 0) (ρ 1) (ρ 5) R w) ?_ ?_
        · intro ρ w h
          exact cast_prop h (by kernel_rfl)
        exact cast_prop h (by kernel_rfl)
      exact cast_prop h (by kernel_rfl)
    exact cast_prop h (by kernel_rfl)
  exact cast_prop h (by kernel_rfl)

theorem e7 (args : Array Value) (w : World) : (callFunc 7 args).run Try.prog w = .ok (.enter 7 args) w := callFunc_enter Try.func7 (by kernel_rfl) (by kernel_rfl) args w

theorem s7 {a0 a1 : Value} {x : PX} {w : World} {K : Value → World → Prop} (h : m7 a0 a1 (onE K x) w) : callS Try.prog x 7 #[a0, a1] w K := callS_enter (e7 _ w) (c7 a0 a1 _ w h)

/-! 8: moiety/moietylaw02.WireJoins -/
def m8_6 (p0 : Value) (p1 : Value) (p5 : Value) (p7 : Value) (R : Ending → World → Prop) (w : World) : Prop :=
 runK Try.prog (px R) (Instr.buildSlice 25 0 #[]) w fun v43 w =>
 runK Try.prog (px R) (Builtin.append_ #[25, 25] 25 #[v43, p5]) w fun v45 w =>
 runK Try.prog (px R) (Builtin.append_ #[25, 25] 25 #[v45, p7]) w fun v47 w =>
 callS Try.prog (px R) 18 #[v47] w fun v48 w =>
 runK Try.prog (px R) (Instr.extract v48 0) w fun v49 w =>
 runK Try.prog (px R) (Instr.extract v48 1) w fun v50 w =>
 runK Try.prog (px R) (Instr.extract v48 2) w fun v51 w =>
 runK Try.prog (px R) (Builtin.len_ #[22] 3 #[p0]) w fun v53 w =>
 runK Try.prog (px R) (Builtin.len_ #[22] 3 #[p1]) w fun v55 w =>
 runK Try.prog (px R) (binOp .add 3 v53 v55) w fun v56 w =>
 runK Try.prog (px R) (binOp .gtr 3 v56 (Value.int .i64 1000)) w fun v57 w =>
 condF v57
 (runK Try.prog (px R) (eqS .eql 26 false true v51 (Value.int .i64 20)) w fun v59 w =>
 condF v59
 (runK Try.prog (px R) (Builtin.len_ #[22] 3 #[v49]) w fun v62 w =>
 runK Try.prog (px R) (eqS .eql 3 false true v62 (Value.int .i64 0)) w fun v63 w =>
 R (.returned v63) w)
 (R (.returned (Value.bool false)) w))
 (runK Try.prog (px R) (eqS .eql 26 false true v51 (Value.int .i64 0)) w fun v66 w =>
 condF v66
 (runK Try.prog (px R) (Instr.buildSlice 22 0 #[]) w fun v69 w =>
 runK Try.prog (px R) (Builtin.append_ #[22, 22] 22 #[v69, p0]) w fun v71 w =>
 runK Try.prog (px R) (Builtin.append_ #[22, 22] 22 #[v71, p1]) w fun v73 w =>
 callS Try.prog (px R) 15 #[v49, v73] w fun v74 w =>
 R (.returned v74) w)
 (R (.returned (Value.bool false)) w))

def m8_5 (p0 : Value) (p1 : Value) (p5 : Value) (p6 : Value) (p7 : Value) (p8 : Value) (R : Ending → World → Prop) (w : World) : Prop :=
 callS Try.prog (px R) 12 #[] w fun v31 w =>
 runK Try.prog (px R) (Op.unary .not v31) w fun v32 w =>
 condF v32
 (callS Try.prog (px R) 12 #[] w fun v41 w =>
 R (.returned v41) w)
 (runK Try.prog (px R) (eqS .neq 26 false true p6 (Value.int .i64 0)) w fun v35 w =>
 condF v35
 (callS Try.prog (px R) 12 #[] w fun v41_1 w =>
 R (.returned v41_1) w)
 (runK Try.prog (px R) (eqS .neq 26 false true p8 (Value.int .i64 0)) w fun v39 w =>
 condF v39
 (callS Try.prog (px R) 12 #[] w fun v41_2 w =>
 R (.returned v41_2) w)
 (m8_6 p0 p1 p5 p7 R w)))

def m8_4 (p0 : Value) (p1 : Value) (p5 : Value) (p6 : Value) (R : Ending → World → Prop) (w : World) : Prop :=
 callS Try.prog (px R) 13 #[p1] w fun v28 w =>
 runK Try.prog (px R) (Instr.extract v28 0) w fun v29 w =>
 runK Try.prog (px R) (Instr.extract v28 1) w fun v30 w =>
 m8_5 p0 p1 p5 p6 v29 v30 R w

def m8_3 (p0 : Value) (p1 : Value) (R : Ending → World → Prop) (w : World) : Prop :=
 callS Try.prog (px R) 13 #[p0] w fun v23 w =>
 runK Try.prog (px R) (Instr.extract v23 0) w fun v24 w =>
 runK Try.prog (px R) (Instr.extract v23 1) w fun v25 w =>
 m8_4 p0 p1 v24 v25 R w

def m8_2 (p0 : Value) (p1 : Value) (R : Ending → World → Prop) (w : World) : Prop :=
 callS Try.prog (px R) 11 #[p0] w fun v13 w =>
 runK Try.prog (px R) (Op.unary .not v13) w fun v14 w =>
 condF v14
 (callS Try.prog (px R) 12 #[] w fun v20 w =>
 R (.returned v20) w)
 (callS Try.prog (px R) 11 #[p1] w fun v17 w =>
 runK Try.prog (px R) (Op.unary .not v17) w fun v18 w =>
 condF v18
 (callS Try.prog (px R) 12 #[] w fun v20_1 w =>
 R (.returned v20_1) w)
 (m8_3 p0 p1 R w))

def m8_1 (p0 : Value) (p1 : Value) (R : Ending → World → Prop) (w : World) : Prop :=
 m8_2 p0 p1 R w

def h8 : Nat → List (Nat × Nat) := fun _ => []

def m8 (a0 a1 : Value) (R : Ending → World → Prop) (w : World) : Prop := m8_1 a0 a1 R w

theorem c8 (a0 a1 : Value) (R : Ending → World → Prop) (w : World) (h : m8 a0 a1 R w) : Calls Try.prog 8 #[a0, a1] w R := by
  refine calls_G h8 (by kernel_rfl) Try.func8 rfl (by kernel_rfl) (by kernel_rfl) ?_
  intro ρ hρ
  obtain rfl : ρ 0 = a0 := hρ 0
  obtain rfl : ρ 1 = a1 := hρ 1
  have h : m8_1 (ρ 0) (ρ 1) R w := h
  refine seq_sound (fun ρ w => m8_2 (ρ 0) (ρ 1) R w) ?_ ?_
  · intro ρ w h
    refine seq_sound (fun ρ w => m8_3 (ρ 0) (ρ 1) R w) ?_ ?_
    · intro ρ w h
      refine seq_sound (fun ρ w => m8_4 (ρ 0) (ρ 1) (ρ 5) (ρ 6) R w) ?_ ?_
      · intro ρ w h
        refine seq_sound (fun ρ w => m8_5 (ρ 0) (ρ 1) (ρ 5) (ρ 6) (ρ 7) (ρ 8) R w) ?_ ?_
        · intro ρ w h
          refine seq_sound (fun ρ w => m8_6 (ρ 0) (ρ 1) (ρ 5) (ρ 7) R w) ?_ ?_
          · intro ρ w h
            exact cast_prop h (by kernel_rfl)
          exact cast_prop h (by kernel_rfl)
        exact cast_prop h (by kernel_rfl)
      exact cast_prop h (by kernel_rfl)
    exact cast_prop h (by kernel_rfl)
  exact cast_prop h (by kernel_rfl)

theorem e8 (args : Array Value) (w : World) : (callFunc 8 args).run Try.prog w = .ok (.enter 8 args) w := callFunc_enter Try.func8 (by kernel_rfl) (by kernel_rfl) args w

theorem s8 {a0 a1 : Value} {x : PX} {w : World} {K : Value → World → Prop} (h : m8 a0 a1 (onE K x) w) : callS Try.prog x 8 #[a0, a1] w K := callS_enter (e8 _ w) (c8 a0 a1 _ w h)

/-! 9: moiety/moietylaw02.WireApart -/
def m9_6 (p2 : Value) (p3 : Value) (p5 : Value) (p7 : Value) (R : Ending → World → Prop) (w : World) : Prop :=
 runK Try.prog (px R) (Instr.loadAt 36 p2) w fun v44 w =>
 runK Try.prog (px R) (Instr.loadAt 36 p3) w fun v45 w =>
 callS Try.prog (px R) 19 #[v44, v45] w fun v46 w =>
 drawM w fun S w =>
 quietK Try.prog S (convert 25 9 p5) fun v48 =>
 quietK Try.prog S (convert 25 9 p7) fun v50 =>
 quietK Try.prog S (eqS .eql 9 false false v48 v50) fun v51 =>
 quietK Try.prog S (eqS .eql 4 false false v51 v46) fun v53 =>
 condF v53
 (condF v46
 (R (.returned (Value.bool true)) w)
 (quietK Try.prog S (Builtin.len_ #[25] 3 #[p5]) fun v58 =>
 quietK Try.prog S (Builtin.len_ #[25] 3 #[p7]) fun v60 =>
 quietK Try.prog S (binOp .gtr 3 v58 v60) fun v61 =>
 condF v61
 (R (.returned (Value.bool true)) w)
 (quietK Try.prog S (Builtin.len_ #[25] 3 #[p5]) fun v66 =>
 quietK Try.prog S (Instr.sliceAt 25 p7 none (some v66) none) fun v67 =>
 quietK Try.prog S (convert 25 9 v67) fun v68 =>
 quietK Try.prog S (convert 25 9 p5) fun v70 =>
 quietK Try.prog S (eqS .neq 9 false false v68 v70) fun v71 =>
 R (.returned v71) w)))
 (R (.returned (Value.bool false)) w)

def m9_5 (p2 : Value) (p3 : Value) (p5 : Value) (p6 : Value) (p7 : Value) (p8 : Value) (R : Ending → World → Prop) (w : World) : Prop :=
 callS Try.prog (px R) 12 #[] w fun v33 w =>
 runK Try.prog (px R) (Op.unary .not v33) w fun v34 w =>
 condF v34
 (callS Try.prog (px R) 12 #[] w fun v43 w =>
 R (.returned v43) w)
 (runK Try.prog (px R) (eqS .neq 26 false true p6 (Value.int .i64 0)) w fun v37 w =>
 condF v37
 (callS Try.prog (px R) 12 #[] w fun v43_1 w =>
 R (.returned v43_1) w)
 (runK Try.prog (px R) (eqS .neq 26 false true p8 (Value.int .i64 0)) w fun v41 w =>
 condF v41
 (callS Try.prog (px R) 12 #[] w fun v43_2 w =>
 R (.returned v43_2) w)
 (m9_6 p2 p3 p5 p7 R w)))

def m9_4 (p2 : Value) (p3 : Value) (p5 : Value) (p6 : Value) (R : Ending → World → Prop) (w : World) : Prop :=
 runK Try.prog (px R) (Instr.loadAt 36 p3) w fun v28 w =>
 runK Try.prog (px R) (Instr.buildSlice 22 1 #[(0, v28)]) w fun v29 w =>
 callS Try.prog (px R) 13 #[v29] w fun v30 w =>
 runK Try.prog (px R) (Instr.extract v30 0) w fun v31 w =>
 runK Try.prog (px R) (Instr.extract v30 1) w fun v32 w =>
 m9_5 p2 p3 p5 p6 v31 v32 R w

def m9_3 (p2 : Value) (p3 : Value) (R : Ending → World → Prop) (w : World) : Prop :=
 runK Try.prog (px R) (Instr.loadAt 36 p2) w fun v22 w =>
 runK Try.prog (px R) (Instr.buildSlice 22 1 #[(0, v22)]) w fun v23 w =>
 callS Try.prog (px R) 13 #[v23] w fun v24 w =>
 runK Try.prog (px R) (Instr.extract v24 0) w fun v25 w =>
 runK Try.prog (px R) (Instr.extract v24 1) w fun v26 w =>
 m9_4 p2 p3 v25 v26 R w

def m9_2 (p2 : Value) (p3 : Value) (R : Ending → World → Prop) (w : World) : Prop :=
 runK Try.prog (px R) (Instr.fieldAt 36 p2 4) w fun v10 w =>
 runK Try.prog (px R) (Instr.loadAt 9 v10) w fun v11 w =>
 runK Try.prog (px R) (Builtin.len_ #[9] 3 #[v11]) w fun v12 w =>
 runK Try.prog (px R) (binOp .gtr 3 v12 (Value.int .i64 3000)) w fun v13 w =>
 condF v13
 (callS Try.prog (px R) 12 #[] w fun v20 w =>
 R (.returned v20) w)
 (runK Try.prog (px R) (Instr.fieldAt 36 p3 4) w fun v15 w =>
 runK Try.prog (px R) (Instr.loadAt 9 v15) w fun v16 w =>
 runK Try.prog (px R) (Builtin.len_ #[9] 3 #[v16]) w fun v17 w =>
 runK Try.prog (px R) (binOp .gtr 3 v17 (Value.int .i64 3000)) w fun v18 w =>
 condF v18
 (callS Try.prog (px R) 12 #[] w fun v20_1 w =>
 R (.returned v20_1) w)
 (m9_3 p2 p3 R w))

def m9_1 (p0 : Value) (p1 : Value) (R : Ending → World → Prop) (w : World) : Prop :=
 runK Try.prog (px R) (Instr.box 36 p0) w fun v2 w =>
 runK Try.prog (px R) (Instr.box 36 p1) w fun v3 w =>
 m9_2 v2 v3 R w

def h9 : Nat → List (Nat × Nat) := fun id => cond (Nat.beq id 8) [(0, 1), (1, 1), (2, 1), (3, 1), (4, 1), (5, 1), (6, 1), (7, 1), (8, 1), (9, 1), (10, 1), (11, 1), (12, 1), (13, 1), (14, 1), (15, 1), (16, 1), (17, 1), (18, 1), (19, 1), (20, 1), (21, 1), (22, 1), (23, 1), (24, 1), (25, 1), (26, 1), (27, 1)] ([])

def m9 (a0 a1 : Value) (R : Ending → World → Prop) (w : World) : Prop := m9_1 a0 a1 R w

theorem c9 (a0 a1 : Value) (R : Ending → World → Prop) (w : World) (h : m9 a0 a1 R w) : Calls Try.prog 9 #[a0, a1] w R := by
  refine calls_G h9 (by kernel_rfl) Try.func9 rfl (by kernel_rfl) (by kernel_rfl) ?_
  intro ρ hρ
  obtain rfl : ρ 0 = a0 := hρ 0
  obtain rfl : ρ 1 = a1 := hρ 1
  have h : m9_1 (ρ 0) (ρ 1) R w := h
  refine seq_sound (fun ρ w => m9_2 (ρ 2) (ρ 3) R w) ?_ ?_
  · intro ρ w h
    refine seq_sound (fun ρ w => m9_3 (ρ 2) (ρ 3) R w) ?_ ?_
    · intro ρ w h
      refine seq_sound (fun ρ w => m9_4 (ρ 2) (ρ 3) (ρ 5) (ρ 6) R w) ?_ ?_
      · intro ρ w h
        refine seq_sound (fun ρ w => m9_5 (ρ 2) (ρ 3) (ρ 5) (ρ 6) (ρ 7) (ρ 8) R w) ?_ ?_
        · intro ρ w h
          refine seq_sound (fun ρ w => m9_6 (ρ 2) (ρ 3) (ρ 5) (ρ 7) R w) ?_ ?_
          · intro ρ w h
            exact cast_prop h (by kernel_rfl)
          exact cast_prop h (by kernel_rfl)
        exact cast_prop h (by kernel_rfl)
      exact cast_prop h (by kernel_rfl)
    exact cast_prop h (by kernel_rfl)
  exact cast_prop h (by kernel_rfl)

theorem e9 (args : Array Value) (w : World) : (callFunc 9 args).run Try.prog w = .ok (.enter 9 args) w := callFunc_enter Try.func9 (by kernel_rfl) (by kernel_rfl) args w

theorem s9 {a0 a1 : Value} {x : PX} {w : World} {K : Value → World → Prop} (h : m9 a0 a1 (onE K x) w) : callS Try.prog x 9 #[a0, a1] w K := callS_enter (e9 _ w) (c9 a0 a1 _ w h)

/-! 10: moiety/moietylaw02.WireOwn -/
def m10_10 (p0 : Value) (p5 : Value) (p10 : Value) (R : Ending → World → Prop) (w : World) : Prop :=
 callS Try.prog (px R) 18 #[p5] w fun v82 w =>
 runK Try.prog (px R) (Instr.extract v82 0) w fun v83 w =>
 runK Try.prog (px R) (Instr.extract v82 1) w fun v84 w =>
 runK Try.prog (px R) (Instr.extract v82 2) w fun v85 w =>
 runK Try.prog (px R) (eqS .eql 26 false true v85 (Value.int .i64 0)) w fun v87 w =>
 condF v87
 (callS Try.prog (px R) 15 #[v83, p0] w fun v91 w =>
 condF v91
 (callS Try.prog (px R) 15 #[p10, p0] w fun v96 w =>
 R (.returned v96) w)
 (R (.returned (Value.bool false)) w))
 (R (.returned (Value.bool false)) w)

def m10_14 (p0 : Value) (p5 : Value) (p7 : Value) (p10 : Value) (p14 : Value) (N1 : (Value × Value × Value × Value × Value) → World → Prop) (R : Ending → World → Prop) (w : World) : Prop :=
 runK Try.prog (px R) (Builtin.len_ #[22] 3 #[p7]) w fun v72 w =>
 runK Try.prog (px R) (binOp .lss 3 p14 v72) w fun v73 w =>
 condF v73
 (runK Try.prog (px R) (Instr.build 36 #[]) w fun v78 w =>
 runK Try.prog (px R) (Instr.indexAt 22 p7 p14) w fun v79 w =>
 runU Try.prog (px R) (Instr.storeAt 36 v79 v78) w fun w =>
 runK Try.prog (px R) (binOp .add 3 p14 (Value.int .i64 1)) w fun v75 w =>
 N1 (p0, p5, p7, p10, v75) w)
 (m10_10 p0 p5 p10 R w)

def m10_13 (p0 : Value) (p5 : Value) (p7 : Value) (p10 : Value) (p14 : Value) (R : Ending → World → Prop) (w : World) : Prop :=
 LoopM (τ := Value × Value × Value × Value × Value) (fun t N1 w => m10_14 t.1 t.2.1 t.2.2.1 t.2.2.2.1 t.2.2.2.2 N1 R w) (p0, p5, p7, p10, p14) w

def m10_11 (p0 : Value) (p5 : Value) (p7 : Value) (p10 : Value) (R : Ending → World → Prop) (w : World) : Prop :=
 m10_13 p0 p5 p7 p10 (Value.int .i64 0) R w

def m10_18 (p0 : Value) (p3 : Value) (p5 : Value) (p7 : Value) (p10 : Value) (p13 : Value) (N1 : (Value × Value × Value × Value × Value × Value) → World → Prop) (R : Ending → World → Prop) (w : World) : Prop :=
 runK Try.prog (px R) (Builtin.len_ #[25] 3 #[p3]) w fun v63 w =>
 runK Try.prog (px R) (binOp .lss 3 p13 v63) w fun v64 w =>
 condF v64
 (runK Try.prog (px R) (Instr.indexAt 25 p3 p13) w fun v69 w =>
 runU Try.prog (px R) (Instr.storeAt 5 v69 (Value.int .u8 255)) w fun w =>
 runK Try.prog (px R) (binOp .add 3 p13 (Value.int .i64 1)) w fun v66 w =>
 N1 (p0, p3, p5, p7, p10, v66) w)
 (m10_11 p0 p5 p7 p10 R w)

def m10_17 (p0 : Value) (p3 : Value) (p5 : Value) (p7 : Value) (p10 : Value) (p13 : Value) (R : Ending → World → Prop) (w : World) : Prop :=
 LoopM (τ := Value × Value × Value × Value × Value × Value) (fun t N1 w => m10_18 t.1 t.2.1 t.2.2.1 t.2.2.2.1 t.2.2.2.2.1 t.2.2.2.2.2 N1 R w) (p0, p3, p5, p7, p10, p13) w

def m10_15 (p0 : Value) (p3 : Value) (p5 : Value) (p7 : Value) (p10 : Value) (R : Ending → World → Prop) (w : World) : Prop :=
 m10_17 p0 p3 p5 p7 p10 (Value.int .i64 0) R w

def m10_7 (p0 : Value) (p3 : Value) (p5 : Value) (p7 : Value) (R : Ending → World → Prop) (w : World) : Prop :=
 callS Try.prog (px R) 18 #[p3] w fun v57 w =>
 runK Try.prog (px R) (Instr.extract v57 0) w fun v58 w =>
 runK Try.prog (px R) (Instr.extract v57 1) w fun v59 w =>
 runK Try.prog (px R) (Instr.extract v57 2) w fun v60 w =>
 m10_15 p0 p3 p5 p7 v58 R w

def m10_6 (p0 : Value) (p3 : Value) (p5 : Value) (R : Ending → World → Prop) (w : World) : Prop :=
 callS Try.prog (px R) 18 #[p3] w fun v51 w =>
 runK Try.prog (px R) (Instr.extract v51 0) w fun v52 w =>
 runK Try.prog (px R) (Instr.extract v51 1) w fun v53 w =>
 runK Try.prog (px R) (Instr.extract v51 2) w fun v54 w =>
 m10_7 p0 p3 p5 v52 R w

def m10_5 (p0 : Value) (p3 : Value) (p4 : Value) (p5 : Value) (p6 : Value) (R : Ending → World → Prop) (w : World) : Prop :=
 callS Try.prog (px R) 12 #[] w fun v32 w =>
 runK Try.prog (px R) (Op.unary .not v32) w fun v33 w =>
 condF v33
 (callS Try.prog (px R) 12 #[] w fun v43 w =>
 condF v43
 (runK Try.prog (px R) (eqS .eql 26 false false p4 p6) w fun v47 w =>
 R (.returned v47) w)
 (R (.returned (Value.bool false)) w))
 (runK Try.prog (px R) (eqS .neq 26 false false p4 p6) w fun v37 w =>
 condF v37
 (callS Try.prog (px R) 12 #[] w fun v43_1 w =>
 condF v43_1
 (runK Try.prog (px R) (eqS .eql 26 false false p4 p6) w fun v47_1 w =>
 R (.returned v47_1) w)
 (R (.returned (Value.bool false)) w))
 (runK Try.prog (px R) (eqS .neq 26 false true p4 (Value.int .i64 0)) w fun v41 w =>
 condF v41
 (callS Try.prog (px R) 12 #[] w fun v43_2 w =>
 condF v43_2
 (runK Try.prog (px R) (eqS .eql 26 false false p4 p6) w fun v47_2 w =>
 R (.returned v47_2) w)
 (R (.returned (Value.bool false)) w))
 (m10_6 p0 p3 p5 R w)))

def m10_4 (p0 : Value) (p3 : Value) (p4 : Value) (R : Ending → World → Prop) (w : World) : Prop :=
 callS Try.prog (px R) 13 #[p0] w fun v29 w =>
 runK Try.prog (px R) (Instr.extract v29 0) w fun v30 w =>
 runK Try.prog (px R) (Instr.extract v29 1) w fun v31 w =>
 m10_5 p0 p3 p4 v30 v31 R w

def m10_3 (p0 : Value) (R : Ending → World → Prop) (w : World) : Prop :=
 callS Try.prog (px R) 13 #[p0] w fun v24 w =>
 runK Try.prog (px R) (Instr.extract v24 0) w fun v25 w =>
 runK Try.prog (px R) (Instr.extract v24 1) w fun v26 w =>
 m10_4 p0 v25 v26 R w

def m10_2 (p0 : Value) (R : Ending → World → Prop) (w : World) : Prop :=
 callS Try.prog (px R) 11 #[p0] w fun v19 w =>
 runK Try.prog (px R) (Op.unary .not v19) w fun v20 w =>
 condF v20
 (callS Try.prog (px R) 12 #[] w fun v21 w =>
 R (.returned v21) w)
 (m10_3 p0 R w)

def m10_1 (p0 : Value) (R : Ending → World → Prop) (w : World) : Prop :=
 m10_2 p0 R w

def h10 : Nat → List (Nat × Nat) := fun _ => []

def m10 (a0 : Value) (R : Ending → World → Prop) (w : World) : Prop := m10_1 a0 R w

theorem c10 (a0 : Value) (R : Ending → World → Prop) (w : World) (h : m10 a0 R w) : Calls Try.prog 10 #[a0] w R := by
  refine calls_G h10 (by kernel_rfl) Try.func10 rfl (by kernel_rfl) (by kernel_rfl) ?_
  intro ρ hρ
  obtain rfl : ρ 0 = a0 := hρ 0
  have h : m10_1 (ρ 0) R w := h
  refine seq_sound (fun ρ w => m10_2 (ρ 0) R w) ?_ ?_
  · intro ρ w h
    refine seq_sound (fun ρ w => m10_3 (ρ 0) R w) ?_ ?_
    · intro ρ w h
      refine seq_sound (fun ρ w => m10_4 (ρ 0) (ρ 3) (ρ 4) R w) ?_ ?_
      · intro ρ w h
        refine seq_sound (fun ρ w => m10_5 (ρ 0) (ρ 3) (ρ 4) (ρ 5) (ρ 6) R w) ?_ ?_
        · intro ρ w h
          refine seq_sound (fun ρ w => m10_6 (ρ 0) (ρ 3) (ρ 5) R w) ?_ ?_
          · intro ρ w h
            refine seq_sound (fun ρ w => m10_7 (ρ 0) (ρ 3) (ρ 5) (ρ 7) R w) ?_ ?_
            · intro ρ w h
              refine seq_sound (fun ρ w => m10_15 (ρ 0) (ρ 3) (ρ 5) (ρ 7) (ρ 10) R w) ?_ ?_
              · intro ρ w h
                refine seq_sound (fun ρ w => m10_11 (ρ 0) (ρ 5) (ρ 7) (ρ 10) R w) ?_ ?_
                · intro ρ w h
                  refine seq_sound (fun ρ w => m10_10 (ρ 0) (ρ 5) (ρ 10) R w) ?_ ?_
                  · intro ρ w h
                    exact cast_prop h (by kernel_rfl)
                  refine seq_sound (fun ρ w => m10_13 (ρ 0) (ρ 5) (ρ 7) (ρ 10) (ρ 14) R w) ?_ ?_
                  · intro ρ w h
                    refine block_sound ?_
                    refine loop_sound (τ := Value × Value × Value × Value × Value) (fun ρ => (ρ 0, ρ 5, ρ 7, ρ 10, ρ 14)) (fun t N1 w => m10_14 t.1 t.2.1 t.2.2.1 t.2.2.2.1 t.2.2.2.2 N1 R w) ?_ h
                    clear h
                    intro N1 ρ w h
                    have h : m10_14 (ρ 0) (ρ 5) (ρ 7) (ρ 10) (ρ 14) N1 R w := h
                    exact cast_prop h (by kernel_rfl)
                  exact cast_prop h (by kernel_rfl)
                refine seq_sound (fun ρ w => m10_17 (ρ 0) (ρ 3) (ρ 5) (ρ 7) (ρ 10) (ρ 13) R w) ?_ ?_
                · intro ρ w h
                  refine block_sound ?_
                  refine loop_sound (τ := Value × Value × Value × Value × Value × Value) (fun ρ => (ρ 0, ρ 3, ρ 5, ρ 7, ρ 10, ρ 13)) (fun t N1 w => m10_18 t.1 t.2.1 t.2.2.1 t.2.2.2.1 t.2.2.2.2.1 t.2.2.2.2.2 N1 R w) ?_ h
                  clear h
                  intro N1 ρ w h
                  have h : m10_18 (ρ 0) (ρ 3) (ρ 5) (ρ 7) (ρ 10) (ρ 13) N1 R w := h
                  exact cast_prop h (by kernel_rfl)
                exact cast_prop h (by kernel_rfl)
              exact cast_prop h (by kernel_rfl)
            exact cast_prop h (by kernel_rfl)
          exact cast_prop h (by kernel_rfl)
        exact cast_prop h (by kernel_rfl)
      exact cast_prop h (by kernel_rfl)
    exact cast_prop h (by kernel_rfl)
  exact cast_prop h (by kernel_rfl)

theorem e10 (args : Array Value) (w : World) : (callFunc 10 args).run Try.prog w = .ok (.enter 10 args) w := callFunc_enter Try.func10 (by kernel_rfl) (by kernel_rfl) args w

theorem s10 {a0 : Value} {x : PX} {w : World} {K : Value → World → Prop} (h : m10 a0 (onE K x) w) : callS Try.prog x 10 #[a0] w K := callS_enter (e10 _ w) (c10 a0 _ w h)

/-! 11: moiety/moietylaw02.few -/
def m11_4 (R : Ending → World → Prop) (w : World) : Prop :=
 R (.returned (Value.bool true)) w

def m11_8 (p0 : Value) (p3 : Value) (N1 : (Value × Value) → World → Prop) (R : Ending → World → Prop) (w : World) : Prop :=
 runK Try.prog (px R) (Builtin.len_ #[22] 3 #[p0]) w fun v9 w =>
 runK Try.prog (px R) (binOp .lss 3 p3 v9) w fun v10 w =>
 condF v10
 (runK Try.prog (px R) (Instr.indexAt 22 p0 p3) w fun v15 w =>
 runK Try.prog (px R) (Instr.fieldAt 36 v15 4) w fun v16 w =>
 runK Try.prog (px R) (Instr.loadAt 9 v16) w fun v17 w =>
 runK Try.prog (px R) (Builtin.len_ #[9] 3 #[v17]) w fun v18 w =>
 runK Try.prog (px R) (binOp .gtr 3 v18 (Value.int .i64 3000)) w fun v19 w =>
 condF v19
 (R (.returned (Value.bool false)) w)
 (runK Try.prog (px R) (binOp .add 3 p3 (Value.int .i64 1)) w fun v12 w =>
 N1 (p0, v12) w))
 (m11_4 R w)

def m11_7 (p0 : Value) (p3 : Value) (R : Ending → World → Prop) (w : World) : Prop :=
 LoopM (τ := Value × Value) (fun t N1 w => m11_8 t.1 t.2 N1 R w) (p0, p3) w

def m11_5 (p0 : Value) (R : Ending → World → Prop) (w : World) : Prop :=
 m11_7 p0 (Value.int .i64 0) R w

def m11_2 (p0 : Value) (R : Ending → World → Prop) (w : World) : Prop :=
 runK Try.prog (px R) (Builtin.len_ #[22] 3 #[p0]) w fun v5 w =>
 runK Try.prog (px R) (binOp .gtr 3 v5 (Value.int .i64 2000)) w fun v6 w =>
 condF v6
 (R (.returned (Value.bool false)) w)
 (m11_5 p0 R w)

def m11_1 (p0 : Value) (R : Ending → World → Prop) (w : World) : Prop :=
 m11_2 p0 R w

def h11 : Nat → List (Nat × Nat) := fun _ => []

def m11 (a0 : Value) (R : Ending → World → Prop) (w : World) : Prop := m11_1 a0 R w

theorem c11 (a0 : Value) (R : Ending → World → Prop) (w : World) (h : m11 a0 R w) : Calls Try.prog 11 #[a0] w R := by
  refine calls_G h11 (by kernel_rfl) Try.func11 rfl (by kernel_rfl) (by kernel_rfl) ?_
  intro ρ hρ
  obtain rfl : ρ 0 = a0 := hρ 0
  have h : m11_1 (ρ 0) R w := h
  refine seq_sound (fun ρ w => m11_2 (ρ 0) R w) ?_ ?_
  · intro ρ w h
    refine seq_sound (fun ρ w => m11_5 (ρ 0) R w) ?_ ?_
    · intro ρ w h
      refine seq_sound (fun ρ w => m11_4 R w) ?_ ?_
      · intro ρ w h
        exact cast_prop h (by kernel_rfl)
      refine seq_sound (fun ρ w => m11_7 (ρ 0) (ρ 3) R w) ?_ ?_
      · intro ρ w h
        refine block_sound ?_
        refine loop_sound (τ := Value × Value) (fun ρ => (ρ 0, ρ 3)) (fun t N1 w => m11_8 t.1 t.2 N1 R w) ?_ h
        clear h
        intro N1 ρ w h
        have h : m11_8 (ρ 0) (ρ 3) N1 R w := h
        exact cast_prop h (by kernel_rfl)
      exact cast_prop h (by kernel_rfl)
    exact cast_prop h (by kernel_rfl)
  exact cast_prop h (by kernel_rfl)

theorem e11 (args : Array Value) (w : World) : (callFunc 11 args).run Try.prog w = .ok (.enter 11 args) w := callFunc_enter Try.func11 (by kernel_rfl) (by kernel_rfl) args w

theorem s11 {a0 : Value} {x : PX} {w : World} {K : Value → World → Prop} (h : m11 a0 (onE K x) w) : callS Try.prog x 11 #[a0] w K := callS_enter (e11 _ w) (c11 a0 _ w h)

/-! 12: moiety/moietylaw02.awake -/
def m12_1 (R : Ending → World → Prop) (w : World) : Prop :=
 runK Try.prog (px R) (Instr.build 36 #[(0, (Value.int .i64 1)), (1, (Value.int .u64 300))]) w fun v10 w =>
 runK Try.prog (px R) (Instr.build 36 #[(0, (Value.int .i64 4)), (4, (Value.string ⟨#[104, 105]⟩))]) w fun v11 w =>
 runK Try.prog (px R) (Instr.buildSlice 22 2 #[(0, v10), (1, v11)]) w fun v12 w =>
 callS Try.prog (px R) 13 #[v12] w fun v13 w =>
 runK Try.prog (px R) (Instr.extract v13 0) w fun v14 w =>
 runK Try.prog (px R) (Instr.extract v13 1) w fun v15 w =>
 runK Try.prog (px R) (Instr.buildSlice 25 2 #[(0, (Value.int .u8 2)), (1, (Value.int .u8 1))]) w fun v17 w =>
 runK Try.prog (px R) (convert 25 25 v17) w fun v18 w =>
 callS Try.prog (px R) 18 #[v18] w fun v19 w =>
 runK Try.prog (px R) (Instr.extract v19 0) w fun v20 w =>
 runK Try.prog (px R) (Instr.extract v19 1) w fun v21 w =>
 runK Try.prog (px R) (Instr.extract v19 2) w fun v22 w =>
 runK Try.prog (px R) (Instr.buildSlice 25 5 #[(0, (Value.int .u8 1)), (1, (Value.int .u8 5)), (2, (Value.int .u8 4)), (3, (Value.int .u8 2)), (4, (Value.int .u8 104))]) w fun v24 w =>
 runK Try.prog (px R) (convert 25 25 v24) w fun v25 w =>
 callS Try.prog (px R) 18 #[v25] w fun v26 w =>
 runK Try.prog (px R) (Instr.extract v26 0) w fun v27 w =>
 runK Try.prog (px R) (Instr.extract v26 1) w fun v28 w =>
 runK Try.prog (px R) (Instr.extract v26 2) w fun v29 w =>
 runK Try.prog (px R) (eqS .eql 26 false true v15 (Value.int .i64 0)) w fun v31 w =>
 condF v31
 (runK Try.prog (px R) (convert 25 9 v14) w fun v34 w =>
 runK Try.prog (px R) (eqS .eql 9 false true v34 (Value.string ⟨#[1, 172, 2, 4, 2, 104, 105]⟩)) w fun v35 w =>
 condF v35
 (runK Try.prog (px R) (eqS .eql 26 false true v22 (Value.int .i64 0)) w fun v39 w =>
 condF v39
 (runK Try.prog (px R) (Builtin.len_ #[22] 3 #[v20]) w fun v43 w =>
 runK Try.prog (px R) (eqS .eql 3 false true v43 (Value.int .i64 1)) w fun v44 w =>
 condF v44
 (runK Try.prog (px R) (Instr.indexAt 22 v20 (Value.int .i64 0)) w fun v48 w =>
 runK Try.prog (px R) (Instr.fieldAt 36 v48 2) w fun v49 w =>
 runK Try.prog (px R) (Instr.loadAt 2 v49) w fun v50 w =>
 runK Try.prog (px R) (eqS .eql 2 false true v50 (Value.int .i64 (-1))) w fun v51 w =>
 condF v51
 (runK Try.prog (px R) (eqS .eql 3 false true v28 (Value.int .i64 2)) w fun v55 w =>
 condF v55
 (runK Try.prog (px R) (eqS .eql 26 false true v29 (Value.int .i64 22)) w fun v59 w =>
 R (.returned v59) w)
 (R (.returned (Value.bool false)) w))
 (R (.returned (Value.bool false)) w))
 (R (.returned (Value.bool false)) w))
 (R (.returned (Value.bool false)) w))
 (R (.returned (Value.bool false)) w))
 (R (.returned (Value.bool false)) w)

def h12 : Nat → List (Nat × Nat) := fun _ => []

def m12 (R : Ending → World → Prop) (w : World) : Prop := m12_1 R w

theorem c12 (R : Ending → World → Prop) (w : World) (h : m12  R w) : Calls Try.prog 12 #[] w R := by
  refine calls_G h12 (by kernel_rfl) Try.func12 rfl (by kernel_rfl) (by kernel_rfl) ?_
  intro ρ hρ
  have h : m12_1 R w := h
  exact cast_prop h (by kernel_rfl)

theorem e12 (args : Array Value) (w : World) : (callFunc 12 args).run Try.prog w = .ok (.enter 12 args) w := callFunc_enter Try.func12 (by kernel_rfl) (by kernel_rfl) args w

theorem s12 {x : PX} {w : World} {K : Value → World → Prop} (h : m12  (onE K x) w) : callS Try.prog x 12 #[] w K := callS_enter (e12 _ w) (c12  _ w h)

/-! 13: moiety/wire.Pack -/
def m13_5 (p4 : Value) (R : Ending → World → Prop) (w : World) : Prop :=
 R (.returned (.tuple #[p4, (Value.int .i64 0)])) w

def m13_9 (p4 : Value) (p11 : Value) (p12 : Value) (p13 : Value) (N1 : (Value × Value × Value × Value) → World → Prop) (R : Ending → World → Prop) (w : World) : Prop :=
 runK Try.prog (px R) (binOp .lss 3 p13 p12) w fun v14 w =>
 condF v14
 (runK Try.prog (px R) (Instr.indexAt 22 p11 p13) w fun v15 w =>
 runK Try.prog (px R) (Instr.loadAt 36 v15) w fun v16 w =>
 runK Try.prog (px R) (Instr.alloc 36 true (.tuple #[])) w fun v6 w =>
 runU Try.prog (px R) (Instr.storeAt 36 v6 v16) w fun w =>
 runK Try.prog (px R) (Instr.loadAt 36 v6) w fun v17 w =>
 callS Try.prog (px R) 16 #[v17] w fun v18 w =>
 runK Try.prog (px R) (eqS .neq 26 false true v18 (Value.int .i64 0)) w fun v20 w =>
 condF v20
 (R (.returned (.tuple #[(Value.slice none 0 0), v18])) w)
 (runK Try.prog (px R) (Instr.loadAt 36 v6) w fun v23 w =>
 callS Try.prog (px R) 20 #[p4, v23] w fun v24 w =>
 runK Try.prog (px R) (binOp .add 3 p13 (Value.int .i64 1)) w fun v25 w =>
 N1 (v24, p11, p12, v25) w))
 (m13_5 p4 R w)

def m13_8 (p4 : Value) (p11 : Value) (p12 : Value) (p13 : Value) (R : Ending → World → Prop) (w : World) : Prop :=
 LoopM (τ := Value × Value × Value × Value) (fun t N1 w => m13_9 t.1 t.2.1 t.2.2.1 t.2.2.2 N1 R w) (p4, p11, p12, p13) w

def m13_6 (p0 : Value) (p4 : Value) (R : Ending → World → Prop) (w : World) : Prop :=
 runK Try.prog (px R) (Builtin.len_ #[22] 3 #[p0]) w fun v12 w =>
 m13_8 p4 p0 v12 (Value.int .i64 0) R w

def m13_3 (p0 : Value) (R : Ending → World → Prop) (w : World) : Prop :=
 m13_6 p0 (Value.slice none 0 0) R w

def m13_2 (p0 : Value) (R : Ending → World → Prop) (w : World) : Prop :=
 runK Try.prog (px R) (Builtin.len_ #[22] 3 #[p0]) w fun v9 w =>
 runK Try.prog (px R) (binOp .gtr 3 v9 (Value.int .i64 1000)) w fun v10 w =>
 condF v10
 (R (.returned (.tuple #[(Value.slice none 0 0), (Value.int .i64 20)])) w)
 (m13_3 p0 R w)

def m13_1 (p0 : Value) (R : Ending → World → Prop) (w : World) : Prop :=
 m13_2 p0 R w

def h13 : Nat → List (Nat × Nat) := fun _ => []

def m13 (a0 : Value) (R : Ending → World → Prop) (w : World) : Prop := m13_1 a0 R w

theorem c13 (a0 : Value) (R : Ending → World → Prop) (w : World) (h : m13 a0 R w) : Calls Try.prog 13 #[a0] w R := by
  refine calls_G h13 (by kernel_rfl) Try.func13 rfl (by kernel_rfl) (by kernel_rfl) ?_
  intro ρ hρ
  obtain rfl : ρ 0 = a0 := hρ 0
  have h : m13_1 (ρ 0) R w := h
  refine seq_sound (fun ρ w => m13_2 (ρ 0) R w) ?_ ?_
  · intro ρ w h
    refine seq_sound (fun ρ w => m13_3 (ρ 0) R w) ?_ ?_
    · intro ρ w h
      refine seq_sound (fun ρ w => m13_6 (ρ 0) (ρ 4) R w) ?_ ?_
      · intro ρ w h
        refine seq_sound (fun ρ w => m13_5 (ρ 4) R w) ?_ ?_
        · intro ρ w h
          exact cast_prop h (by kernel_rfl)
        refine seq_sound (fun ρ w => m13_8 (ρ 4) (ρ 11) (ρ 12) (ρ 13) R w) ?_ ?_
        · intro ρ w h
          refine block_sound ?_
          refine loop_sound (τ := Value × Value × Value × Value) (fun ρ => (ρ 4, ρ 11, ρ 12, ρ 13)) (fun t N1 w => m13_9 t.1 t.2.1 t.2.2.1 t.2.2.2 N1 R w) ?_ h
          clear h
          intro N1 ρ w h
          have h : m13_9 (ρ 4) (ρ 11) (ρ 12) (ρ 13) N1 R w := h
          exact cast_prop h (by kernel_rfl)
        exact cast_prop h (by kernel_rfl)
      exact cast_prop h (by kernel_rfl)
    exact cast_prop h (by kernel_rfl)
  exact cast_prop h (by kernel_rfl)

theorem e13 (args : Array Value) (w : World) : (callFunc 13 args).run Try.prog w = .ok (.enter 13 args) w := callFunc_enter Try.func13 (by kernel_rfl) (by kernel_rfl) args w

theorem s13 {a0 : Value} {x : PX} {w : World} {K : Value → World → Prop} (h : m13 a0 (onE K x) w) : callS Try.prog x 13 #[a0] w K := callS_enter (e13 _ w) (c13 a0 _ w h)

end Go.Proofs.Ytdihigmcihheoaa
