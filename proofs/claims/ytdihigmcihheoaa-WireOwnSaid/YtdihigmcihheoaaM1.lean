/- What the functions of the translation ask, in plain text, and that it is enough for their calls: printed by a program of this claim's own (wip/gen.py), each proof checked by Lean. -/
import Derived.Test.YtdihigmcihheoaaProg
import Derived.Test.YtdihigmcihheoaaFL
import Derived.KernelRfl
set_option linter.unusedVariables false
set_option maxRecDepth 100000
namespace Go.Proofs.Ytdihigmcihheoaa
open Go.FW

/-! 14: moiety/moietyref02.Pack -/
def m14_5 (p4 : Value) (R : Ending → World → Prop) (w : World) : Prop :=
 R (.returned (.tuple #[p4, (Value.int .i64 0)])) w

def m14_9 (p0 : Value) (p4 : Value) (p5 : Value) (N1 : (Value × Value × Value) → World → Prop) (R : Ending → World → Prop) (w : World) : Prop :=
 runK Try.prog (px R) (Builtin.len_ #[22] 3 #[p0]) w fun v12 w =>
 runK Try.prog (px R) (binOp .lss 3 p5 v12) w fun v13 w =>
 condF v13
 (runK Try.prog (px R) (Instr.indexAt 22 p0 p5) w fun v18 w =>
 runK Try.prog (px R) (Instr.loadAt 36 v18) w fun v19 w =>
 callS Try.prog (px R) 17 #[v19] w fun v20 w =>
 runK Try.prog (px R) (eqS .neq 26 false true v20 (Value.int .i64 0)) w fun v22 w =>
 condF v22
 (R (.returned (.tuple #[(Value.string ⟨#[]⟩), v20])) w)
 (runK Try.prog (px R) (Instr.indexAt 22 p0 p5) w fun v27 w =>
 runK Try.prog (px R) (Instr.loadAt 36 v27) w fun v28 w =>
 callS Try.prog (px R) 21 #[v28] w fun v29 w =>
 runK Try.prog (px R) (binOp .add 9 p4 v29) w fun v30 w =>
 runK Try.prog (px R) (binOp .add 3 p5 (Value.int .i64 1)) w fun v15 w =>
 N1 (p0, v30, v15) w))
 (m14_5 p4 R w)

def m14_8 (p0 : Value) (p4 : Value) (p5 : Value) (R : Ending → World → Prop) (w : World) : Prop :=
 LoopM (τ := Value × Value × Value) (fun t N1 w => m14_9 t.1 t.2.1 t.2.2 N1 R w) (p0, p4, p5) w

def m14_6 (p0 : Value) (p4 : Value) (R : Ending → World → Prop) (w : World) : Prop :=
 m14_8 p0 p4 (Value.int .i64 0) R w

def m14_3 (p0 : Value) (R : Ending → World → Prop) (w : World) : Prop :=
 m14_6 p0 (Value.string ⟨#[]⟩) R w

def m14_2 (p0 : Value) (R : Ending → World → Prop) (w : World) : Prop :=
 runK Try.prog (px R) (Builtin.len_ #[22] 3 #[p0]) w fun v8 w =>
 runK Try.prog (px R) (binOp .gtr 3 v8 (Value.int .i64 1000)) w fun v9 w =>
 condF v9
 (R (.returned (.tuple #[(Value.string ⟨#[]⟩), (Value.int .i64 20)])) w)
 (m14_3 p0 R w)

def m14_1 (p0 : Value) (R : Ending → World → Prop) (w : World) : Prop :=
 m14_2 p0 R w

def h14 : Nat → List (Nat × Nat) := fun _ => []

def m14 (a0 : Value) (R : Ending → World → Prop) (w : World) : Prop := m14_1 a0 R w

theorem c14 (a0 : Value) (R : Ending → World → Prop) (w : World) (h : m14 a0 R w) : Calls Try.prog 14 #[a0] w R := by
  refine calls_G h14 (by kernel_rfl) Try.func14 rfl (by kernel_rfl) (by kernel_rfl) ?_
  intro ρ hρ
  obtain rfl : ρ 0 = a0 := hρ 0
  have h : m14_1 (ρ 0) R w := h
  refine seq_sound (fun ρ w => m14_2 (ρ 0) R w) ?_ ?_
  · intro ρ w h
    refine seq_sound (fun ρ w => m14_3 (ρ 0) R w) ?_ ?_
    · intro ρ w h
      refine seq_sound (fun ρ w => m14_6 (ρ 0) (ρ 4) R w) ?_ ?_
      · intro ρ w h
        refine seq_sound (fun ρ w => m14_5 (ρ 4) R w) ?_ ?_
        · intro ρ w h
          exact cast_prop h (by kernel_rfl)
        refine seq_sound (fun ρ w => m14_8 (ρ 0) (ρ 4) (ρ 5) R w) ?_ ?_
        · intro ρ w h
          refine block_sound ?_
          refine loop_sound (τ := Value × Value × Value) (fun ρ => (ρ 0, ρ 4, ρ 5)) (fun t N1 w => m14_9 t.1 t.2.1 t.2.2 N1 R w) ?_ h
          clear h
          intro N1 ρ w h
          have h : m14_9 (ρ 0) (ρ 4) (ρ 5) N1 R w := h
          exact cast_prop h (by kernel_rfl)
        exact cast_prop h (by kernel_rfl)
      exact cast_prop h (by kernel_rfl)
    exact cast_prop h (by kernel_rfl)
  exact cast_prop h (by kernel_rfl)

theorem e14 (args : Array Value) (w : World) : (callFunc 14 args).run Try.prog w = .ok (.enter 14 args) w := callFunc_enter Try.func14 (by kernel_rfl) (by kernel_rfl) args w

theorem s14 {a0 : Value} {x : PX} {w : World} {K : Value → World → Prop} (h : m14 a0 (onE K x) w) : callS Try.prog x 14 #[a0] w K := callS_enter (e14 _ w) (c14 a0 _ w h)

/-! 15: moiety/moietyref02.All -/
def m15_4 (R : Ending → World → Prop) (w : World) : Prop :=
 R (.returned (Value.bool true)) w

def m15_8 (p0 : Value) (p1 : Value) (p5 : Value) (N1 : (Value × Value × Value) → World → Prop) (R : Ending → World → Prop) (w : World) : Prop :=
 runK Try.prog (px R) (Builtin.len_ #[22] 3 #[p0]) w fun v13 w =>
 runK Try.prog (px R) (binOp .lss 3 p5 v13) w fun v14 w =>
 condF v14
 (drawM w fun S w =>
 quietK Try.prog S (Instr.indexAt 22 p0 p5) fun v19 =>
 quietK Try.prog S (Instr.loadAt 36 v19) fun v20 =>
 quietK Try.prog S (Instr.indexAt 22 p1 p5) fun v23 =>
 quietK Try.prog S (Instr.loadAt 36 v23) fun v24 =>
 callS Try.prog (px R) 19 #[v20, v24] w fun v25 w =>
 moreS S w fun S =>
 quietK Try.prog S (Op.unary .not v25) fun v26 =>
 condF v26
 (R (.returned (Value.bool false)) w)
 (runK Try.prog (px R) (binOp .add 3 p5 (Value.int .i64 1)) w fun v16 w =>
 N1 (p0, p1, v16) w))
 (m15_4 R w)

def m15_7 (p0 : Value) (p1 : Value) (p5 : Value) (R : Ending → World → Prop) (w : World) : Prop :=
 LoopM (τ := Value × Value × Value) (fun t N1 w => m15_8 t.1 t.2.1 t.2.2 N1 R w) (p0, p1, p5) w

def m15_5 (p0 : Value) (p1 : Value) (R : Ending → World → Prop) (w : World) : Prop :=
 m15_7 p0 p1 (Value.int .i64 0) R w

def m15_2 (p0 : Value) (p1 : Value) (R : Ending → World → Prop) (w : World) : Prop :=
 runK Try.prog (px R) (Builtin.len_ #[22] 3 #[p0]) w fun v7 w =>
 runK Try.prog (px R) (Builtin.len_ #[22] 3 #[p1]) w fun v9 w =>
 runK Try.prog (px R) (eqS .neq 3 false false v7 v9) w fun v10 w =>
 condF v10
 (R (.returned (Value.bool false)) w)
 (m15_5 p0 p1 R w)

def m15_1 (p0 : Value) (p1 : Value) (R : Ending → World → Prop) (w : World) : Prop :=
 m15_2 p0 p1 R w

def h15 : Nat → List (Nat × Nat) := fun id => cond (Nat.beq id 6) [(0, 1), (1, 1), (2, 1), (3, 1), (4, 1), (5, 1), (6, 1), (7, 1), (8, 0), (9, 1)] ([])

def m15 (a0 a1 : Value) (R : Ending → World → Prop) (w : World) : Prop := m15_1 a0 a1 R w

theorem c15 (a0 a1 : Value) (R : Ending → World → Prop) (w : World) (h : m15 a0 a1 R w) : Calls Try.prog 15 #[a0, a1] w R := by
  refine calls_G h15 (by kernel_rfl) Try.func15 rfl (by kernel_rfl) (by kernel_rfl) ?_
  intro ρ hρ
  obtain rfl : ρ 0 = a0 := hρ 0
  obtain rfl : ρ 1 = a1 := hρ 1
  have h : m15_1 (ρ 0) (ρ 1) R w := h
  refine seq_sound (fun ρ w => m15_2 (ρ 0) (ρ 1) R w) ?_ ?_
  · intro ρ w h
    refine seq_sound (fun ρ w => m15_5 (ρ 0) (ρ 1) R w) ?_ ?_
    · intro ρ w h
      refine seq_sound (fun ρ w => m15_4 R w) ?_ ?_
      · intro ρ w h
        exact cast_prop h (by kernel_rfl)
      refine seq_sound (fun ρ w => m15_7 (ρ 0) (ρ 1) (ρ 5) R w) ?_ ?_
      · intro ρ w h
        refine block_sound ?_
        refine loop_sound (τ := Value × Value × Value) (fun ρ => (ρ 0, ρ 1, ρ 5)) (fun t N1 w => m15_8 t.1 t.2.1 t.2.2 N1 R w) ?_ h
        clear h
        intro N1 ρ w h
        have h : m15_8 (ρ 0) (ρ 1) (ρ 5) N1 R w := h
        exact cast_prop h (by kernel_rfl)
      exact cast_prop h (by kernel_rfl)
    exact cast_prop h (by kernel_rfl)
  exact cast_prop h (by kernel_rfl)

theorem e15 (args : Array Value) (w : World) : (callFunc 15 args).run Try.prog w = .ok (.enter 15 args) w := callFunc_enter Try.func15 (by kernel_rfl) (by kernel_rfl) args w

theorem s15 {a0 a1 : Value} {x : PX} {w : World} {K : Value → World → Prop} (h : m15 a0 a1 (onE K x) w) : callS Try.prog x 15 #[a0, a1] w K := callS_enter (e15 _ w) (c15 a0 a1 _ w h)

/-! 16: moiety/wire.Valid -/
def m16_1 (p0 : Value) (R : Ending → World → Prop) (w : World) : Prop :=
 runK Try.prog (px R) (Instr.box 36 p0) w fun v1 w =>
 runK Try.prog (px R) (Instr.loadAt 36 v1) w fun v4 w =>
 callS Try.prog (px R) 22 #[v4] w fun v5 w =>
 runK Try.prog (px R) (Op.unary .not v5) w fun v6 w =>
 condF v6
 (R (.returned (Value.int .i64 21)) w)
 (runK Try.prog (px R) (Instr.fieldAt 36 v1 4) w fun v8 w =>
 runK Try.prog (px R) (Instr.loadAt 9 v8) w fun v9 w =>
 runK Try.prog (px R) (Builtin.len_ #[9] 3 #[v9]) w fun v10 w =>
 runK Try.prog (px R) (binOp .gtr 3 v10 (Value.int .i64 1000)) w fun v11 w =>
 condF v11
 (R (.returned (Value.int .i64 24)) w)
 (R (.returned (Value.int .i64 0)) w))

def h16 : Nat → List (Nat × Nat) := fun _ => []

def m16 (a0 : Value) (R : Ending → World → Prop) (w : World) : Prop := m16_1 a0 R w

theorem c16 (a0 : Value) (R : Ending → World → Prop) (w : World) (h : m16 a0 R w) : Calls Try.prog 16 #[a0] w R := by
  refine calls_G h16 (by kernel_rfl) Try.func16 rfl (by kernel_rfl) (by kernel_rfl) ?_
  intro ρ hρ
  obtain rfl : ρ 0 = a0 := hρ 0
  have h : m16_1 (ρ 0) R w := h
  exact cast_prop h (by kernel_rfl)

theorem e16 (args : Array Value) (w : World) : (callFunc 16 args).run Try.prog w = .ok (.enter 16 args) w := callFunc_enter Try.func16 (by kernel_rfl) (by kernel_rfl) args w

theorem s16 {a0 : Value} {x : PX} {w : World} {K : Value → World → Prop} (h : m16 a0 (onE K x) w) : callS Try.prog x 16 #[a0] w K := callS_enter (e16 _ w) (c16 a0 _ w h)

/-! 17: moiety/moietyref02.Valid -/
def m17_5 (p1 : Value) (R : Ending → World → Prop) (w : World) : Prop :=
 runK Try.prog (px R) (Instr.fieldAt 36 p1 4) w fun v59 w =>
 runK Try.prog (px R) (Instr.loadAt 9 v59) w fun v60 w =>
 runK Try.prog (px R) (Builtin.len_ #[9] 3 #[v60]) w fun v61 w =>
 runK Try.prog (px R) (binOp .gtr 3 v61 (Value.int .i64 1000)) w fun v62 w =>
 condF v62
 (R (.returned (Value.int .i64 24)) w)
 (R (.returned (Value.int .i64 0)) w)

def m17_4 (p1 : Value) (p3 : Value) (R : Ending → World → Prop) (w : World) : Prop :=
 runK Try.prog (px R) (Instr.fieldAt 36 p3 1) w fun v29 w =>
 runK Try.prog (px R) (Instr.loadAt 33 v29) w fun v30 w =>
 runK Try.prog (px R) (Instr.fieldAt 36 p1 1) w fun v31 w =>
 runK Try.prog (px R) (Instr.loadAt 33 v31) w fun v32 w =>
 runK Try.prog (px R) (eqS .neq 33 false false v30 v32) w fun v33 w =>
 condF v33
 (R (.returned (Value.int .i64 21)) w)
 (runK Try.prog (px R) (Instr.fieldAt 36 p3 2) w fun v35 w =>
 runK Try.prog (px R) (Instr.loadAt 2 v35) w fun v36 w =>
 runK Try.prog (px R) (Instr.fieldAt 36 p1 2) w fun v37 w =>
 runK Try.prog (px R) (Instr.loadAt 2 v37) w fun v38 w =>
 runK Try.prog (px R) (eqS .neq 2 false false v36 v38) w fun v39 w =>
 condF v39
 (R (.returned (Value.int .i64 21)) w)
 (runK Try.prog (px R) (Instr.fieldAt 36 p3 4) w fun v42 w =>
 runK Try.prog (px R) (Instr.loadAt 9 v42) w fun v43 w =>
 runK Try.prog (px R) (Instr.fieldAt 36 p1 4) w fun v44 w =>
 runK Try.prog (px R) (Instr.loadAt 9 v44) w fun v45 w =>
 runK Try.prog (px R) (eqS .neq 9 false false v43 v45) w fun v46 w =>
 condF v46
 (R (.returned (Value.int .i64 21)) w)
 (runK Try.prog (px R) (Instr.fieldAt 36 p1 0) w fun v49 w =>
 runK Try.prog (px R) (Instr.loadAt 32 v49) w fun v50 w =>
 runK Try.prog (px R) (eqS .neq 32 false true v50 (Value.int .i64 3)) w fun v51 w =>
 condF v51
 (runK Try.prog (px R) (Instr.fieldAt 36 p1 3) w fun v53 w =>
 runK Try.prog (px R) (Instr.loadAt 34 v53) w fun v54 w =>
 callS Try.prog (px R) 23 #[v54] w fun v55 w =>
 runK Try.prog (px R) (eqS .neq 33 false true v55 (Value.int .u64 0)) w fun v56 w =>
 condF v56
 (R (.returned (Value.int .i64 21)) w)
 (m17_5 p1 R w))
 (m17_5 p1 R w))))

def m17_3 (p1 : Value) (p3 : Value) (R : Ending → World → Prop) (w : World) : Prop :=
 runK Try.prog (px R) (Instr.fieldAt 36 p1 0) w fun v7 w =>
 runK Try.prog (px R) (Instr.loadAt 32 v7) w fun v8 w =>
 runK Try.prog (px R) (eqS .eql 32 false true v8 (Value.int .i64 1)) w fun v10 w =>
 condF v10
 (runK Try.prog (px R) (Instr.fieldAt 36 p1 1) w fun v11 w =>
 runK Try.prog (px R) (Instr.loadAt 33 v11) w fun v12 w =>
 runK Try.prog (px R) (Instr.fieldAt 36 p3 1) w fun v13 w =>
 runU Try.prog (px R) (Instr.storeAt 33 v13 v12) w fun w =>
 m17_4 p1 p3 R w)
 (runK Try.prog (px R) (eqS .eql 32 false true v8 (Value.int .i64 2)) w fun v15 w =>
 condF v15
 (runK Try.prog (px R) (Instr.fieldAt 36 p1 2) w fun v16 w =>
 runK Try.prog (px R) (Instr.loadAt 2 v16) w fun v17 w =>
 runK Try.prog (px R) (Instr.fieldAt 36 p3 2) w fun v18 w =>
 runU Try.prog (px R) (Instr.storeAt 2 v18 v17) w fun w =>
 m17_4 p1 p3 R w)
 (runK Try.prog (px R) (eqS .eql 32 false true v8 (Value.int .i64 3)) w fun v20 w =>
 condF v20
 (runK Try.prog (px R) (Instr.fieldAt 36 p1 3) w fun v21 w =>
 runK Try.prog (px R) (Instr.loadAt 34 v21) w fun v22 w =>
 runK Try.prog (px R) (Instr.fieldAt 36 p3 3) w fun v23 w =>
 runU Try.prog (px R) (Instr.storeAt 34 v23 v22) w fun w =>
 m17_4 p1 p3 R w)
 (runK Try.prog (px R) (eqS .eql 32 false true v8 (Value.int .i64 4)) w fun v25 w =>
 condF v25
 (runK Try.prog (px R) (Instr.fieldAt 36 p1 4) w fun v26 w =>
 runK Try.prog (px R) (Instr.loadAt 9 v26) w fun v27 w =>
 runK Try.prog (px R) (Instr.fieldAt 36 p3 4) w fun v28 w =>
 runU Try.prog (px R) (Instr.storeAt 9 v28 v27) w fun w =>
 m17_4 p1 p3 R w)
 (R (.returned (Value.int .i64 21)) w))))

def m17_2 (p1 : Value) (R : Ending → World → Prop) (w : World) : Prop :=
 runK Try.prog (px R) (Instr.fieldAt 36 p1 0) w fun v4 w =>
 runK Try.prog (px R) (Instr.loadAt 32 v4) w fun v5 w =>
 runK Try.prog (px R) (Instr.build 36 #[(0, v5)]) w fun v6 w =>
 runK Try.prog (px R) (Instr.alloc 36 true (.tuple #[])) w fun v3 w =>
 runU Try.prog (px R) (Instr.storeAt 36 v3 v6) w fun w =>
 m17_3 p1 v3 R w

def m17_1 (p0 : Value) (R : Ending → World → Prop) (w : World) : Prop :=
 runK Try.prog (px R) (Instr.box 36 p0) w fun v1 w =>
 m17_2 v1 R w

def h17 : Nat → List (Nat × Nat) := fun _ => []

def m17 (a0 : Value) (R : Ending → World → Prop) (w : World) : Prop := m17_1 a0 R w

theorem c17 (a0 : Value) (R : Ending → World → Prop) (w : World) (h : m17 a0 R w) : Calls Try.prog 17 #[a0] w R := by
  refine calls_G h17 (by kernel_rfl) Try.func17 rfl (by kernel_rfl) (by kernel_rfl) ?_
  intro ρ hρ
  obtain rfl : ρ 0 = a0 := hρ 0
  have h : m17_1 (ρ 0) R w := h
  refine seq_sound (fun ρ w => m17_2 (ρ 1) R w) ?_ ?_
  · intro ρ w h
    refine seq_sound (fun ρ w => m17_3 (ρ 1) (ρ 3) R w) ?_ ?_
    · intro ρ w h
      refine seq_sound (fun ρ w => m17_4 (ρ 1) (ρ 3) R w) ?_ ?_
      · intro ρ w h
        refine seq_sound (fun ρ w => m17_5 (ρ 1) R w) ?_ ?_
        · intro ρ w h
          exact cast_prop h (by kernel_rfl)
        exact cast_prop h (by kernel_rfl)
      exact cast_prop h (by kernel_rfl)
    exact cast_prop h (by kernel_rfl)
  exact cast_prop h (by kernel_rfl)

theorem e17 (args : Array Value) (w : World) : (callFunc 17 args).run Try.prog w = .ok (.enter 17 args) w := callFunc_enter Try.func17 (by kernel_rfl) (by kernel_rfl) args w

theorem s17 {a0 : Value} {x : PX} {w : World} {K : Value → World → Prop} (h : m17 a0 (onE K x) w) : callS Try.prog x 17 #[a0] w K := callS_enter (e17 _ w) (c17 a0 _ w h)

/-! 18: moiety/wire.Unpack -/
def m18_2 (p2 : Value) (p3 : Value) (p4 : Value) (R : Ending → World → Prop) (w : World) : Prop :=
 runK Try.prog (px R) (Instr.loadAt 22 p2) w fun v32 w =>
 runU Try.prog (px R) (Instr.storeAt 22 p2 v32) w fun w =>
 runU Try.prog (px R) (Instr.storeAt 3 p3 (Value.int .i64 0)) w fun w =>
 runU Try.prog (px R) (Instr.storeAt 26 p4 (Value.int .i64 0)) w fun w =>
 R (.returned undef) w

def m18_5 (p0 : Value) (p2 : Value) (p3 : Value) (p4 : Value) (p5 : Value) (p6 : Value) (N1 : (Value × Value × Value × Value × Value × Value) → World → Prop) (R : Ending → World → Prop) (w : World) : Prop :=
 runK Try.prog (px R) (nilCheckS p5) w fun v12 w =>
 runK Try.prog (px R) (Instr.fieldAt 50 v12 1) w fun v13 w =>
 runK Try.prog (px R) (Instr.loadAt 3 v13) w fun v14 w =>
 runK Try.prog (px R) (Builtin.len_ #[25] 3 #[p0]) w fun v16 w =>
 runK Try.prog (px R) (binOp .lss 3 v14 v16) w fun v17 w =>
 condF v17
 (runK Try.prog (px R) (nilCheckS p5) w fun v19 w =>
 runK Try.prog (px R) (Instr.fieldAt 50 v19 1) w fun v20 w =>
 runK Try.prog (px R) (Instr.loadAt 3 v20) w fun v21 w =>
 runU Try.prog (px R) (Instr.storeAt 3 p6 v21) w fun w =>
 runK Try.prog (px R) (Instr.loadAt 22 p2) w fun v22 w =>
 runK Try.prog (px R) (Builtin.len_ #[22] 3 #[v22]) w fun v23 w =>
 runK Try.prog (px R) (eqS .eql 3 false true v23 (Value.int .i64 1000)) w fun v24 w =>
 condF v24
 (runK Try.prog (px R) (Instr.build 52 #[(0, (Value.int .i64 20))]) w fun v25 w =>
 runK Try.prog (px R) (Instr.makeInterface 52 v25) w fun v26 w =>
 runK Try.prog (px R) (Instr.panic v26) w fun _ w =>
 drawM w fun S w =>
 (runK Try.prog (px R) (Instr.loadAt 22 p2) w fun v27 w =>
 moreS S w fun S =>
 callS Try.prog (px R) 25 #[p5] w fun v29 w =>
 moreS S w fun S =>
 runK Try.prog (px R) (Instr.buildSlice 22 1 #[(0, v29)]) w fun v30 w =>
 moreS S w fun S =>
 runK Try.prog (px R) (Builtin.append_ #[22, 22] 22 #[v27, v30]) w fun v31 w =>
 moreS S w fun S =>
 runU Try.prog (px R) (Instr.storeAt 22 p2 v31) w fun w =>
 moreS S w fun S =>
 N1 (p0, p2, p3, p4, p5, p6) w) ∧
 (callS Try.prog (px R) 25 #[p5] w fun v29_1 w =>
 moreS S w fun S =>
 (runK Try.prog (px R) (Instr.loadAt 22 p2) w fun v27_1 w =>
 moreS S w fun S =>
 runK Try.prog (px R) (Instr.buildSlice 22 1 #[(0, v29_1)]) w fun v30_1 w =>
 moreS S w fun S =>
 runK Try.prog (px R) (Builtin.append_ #[22, 22] 22 #[v27_1, v30_1]) w fun v31_1 w =>
 moreS S w fun S =>
 runU Try.prog (px R) (Instr.storeAt 22 p2 v31_1) w fun w =>
 moreS S w fun S =>
 N1 (p0, p2, p3, p4, p5, p6) w) ∧
 (runK Try.prog (px R) (Instr.buildSlice 22 1 #[(0, v29_1)]) w fun v30_2 w =>
 moreS S w fun S =>
 runK Try.prog (px R) (Instr.loadAt 22 p2) w fun v27_2 w =>
 moreS S w fun S =>
 runK Try.prog (px R) (Builtin.append_ #[22, 22] 22 #[v27_2, v30_2]) w fun v31_2 w =>
 moreS S w fun S =>
 runU Try.prog (px R) (Instr.storeAt 22 p2 v31_2) w fun w =>
 moreS S w fun S =>
 N1 (p0, p2, p3, p4, p5, p6) w)))
 (drawM w fun S w =>
 (runK Try.prog (px R) (Instr.loadAt 22 p2) w fun v27_3 w =>
 moreS S w fun S =>
 callS Try.prog (px R) 25 #[p5] w fun v29_2 w =>
 moreS S w fun S =>
 runK Try.prog (px R) (Instr.buildSlice 22 1 #[(0, v29_2)]) w fun v30_3 w =>
 moreS S w fun S =>
 runK Try.prog (px R) (Builtin.append_ #[22, 22] 22 #[v27_3, v30_3]) w fun v31_3 w =>
 moreS S w fun S =>
 runU Try.prog (px R) (Instr.storeAt 22 p2 v31_3) w fun w =>
 moreS S w fun S =>
 N1 (p0, p2, p3, p4, p5, p6) w) ∧
 (callS Try.prog (px R) 25 #[p5] w fun v29_3 w =>
 moreS S w fun S =>
 (runK Try.prog (px R) (Instr.loadAt 22 p2) w fun v27_4 w =>
 moreS S w fun S =>
 runK Try.prog (px R) (Instr.buildSlice 22 1 #[(0, v29_3)]) w fun v30_4 w =>
 moreS S w fun S =>
 runK Try.prog (px R) (Builtin.append_ #[22, 22] 22 #[v27_4, v30_4]) w fun v31_4 w =>
 moreS S w fun S =>
 runU Try.prog (px R) (Instr.storeAt 22 p2 v31_4) w fun w =>
 moreS S w fun S =>
 N1 (p0, p2, p3, p4, p5, p6) w) ∧
 (runK Try.prog (px R) (Instr.buildSlice 22 1 #[(0, v29_3)]) w fun v30_5 w =>
 moreS S w fun S =>
 runK Try.prog (px R) (Instr.loadAt 22 p2) w fun v27_5 w =>
 moreS S w fun S =>
 runK Try.prog (px R) (Builtin.append_ #[22, 22] 22 #[v27_5, v30_5]) w fun v31_5 w =>
 moreS S w fun S =>
 runU Try.prog (px R) (Instr.storeAt 22 p2 v31_5) w fun w =>
 moreS S w fun S =>
 N1 (p0, p2, p3, p4, p5, p6) w))))
 (m18_2 p2 p3 p4 R w)

def m18_4 (p0 : Value) (p2 : Value) (p3 : Value) (p4 : Value) (p5 : Value) (p6 : Value) (R : Ending → World → Prop) (w : World) : Prop :=
 LoopM (τ := Value × Value × Value × Value × Value × Value) (fun t N1 w => m18_5 t.1 t.2.1 t.2.2.1 t.2.2.2.1 t.2.2.2.2.1 t.2.2.2.2.2 N1 R w) (p0, p2, p3, p4, p5, p6) w

def h18 : Nat → List (Nat × Nat) := fun id => cond (Nat.beq id 8) [(1, 1), (0, 6), (2, 0), (3, 0), (4, 0), (5, 0), (2, 0), (0, 5), (3, 0), (4, 0), (5, 0), (3, 0), (0, 0), (4, 0), (5, 0)] ([])

/-- The part's own text: m18_4. -/
theorem v18 (R : Ending → World → Prop) (ρ : Nat → Value) (w : World) (h : m18_4 (ρ 0) (ρ 2) (ρ 3) (ρ 4) (ρ 5) (ρ 6) R w) : codeF Try.prog h18 (subC [1, 1, 1, 1] (Try.f18.body.getD .skip)) (postV R) ⟨ρ, []⟩ w := by
  refine seq_sound (fun ρ w => m18_2 (ρ 2) (ρ 3) (ρ 4) R w) ?_ ?_
  · intro ρ w h
    exact cast_prop h (by kernel_rfl)
  refine block_sound ?_
  refine loop_sound (τ := Value × Value × Value × Value × Value × Value) (fun ρ => (ρ 0, ρ 2, ρ 3, ρ 4, ρ 5, ρ 6)) (fun t N1 w => m18_5 t.1 t.2.1 t.2.2.1 t.2.2.2.1 t.2.2.2.2.1 t.2.2.2.2.2 N1 R w) ?_ h
  clear h
  intro N1 ρ w h
  have h : m18_5 (ρ 0) (ρ 2) (ρ 3) (ρ 4) (ρ 5) (ρ 6) N1 R w := h
  exact cast_prop h (by kernel_rfl)

theorem e18 (args : Array Value) (w : World) : (callFunc 18 args).run Try.prog w = .ok (.enter 18 args) w := callFunc_enter Try.func18 (by kernel_rfl) (by kernel_rfl) args w

/-! 19: moiety/moietyref02.Same -/
def m19_1 (p0 : Value) (p1 : Value) (R : Ending → World → Prop) (w : World) : Prop :=
 runK Try.prog (px R) (Instr.box 36 p0) w fun v2 w =>
 runK Try.prog (px R) (Instr.box 36 p1) w fun v3 w =>
 drawM w fun S w =>
 quietK Try.prog S (Instr.fieldAt 36 v2 0) fun v5 =>
 quietK Try.prog S (Instr.loadAt 32 v5) fun v6 =>
 quietK Try.prog S (Instr.fieldAt 36 v3 0) fun v7 =>
 quietK Try.prog S (Instr.loadAt 32 v7) fun v8 =>
 quietK Try.prog S (eqS .eql 32 false false v6 v8) fun v9 =>
 condF v9
 (quietK Try.prog S (Instr.fieldAt 36 v2 1) fun v11 =>
 quietK Try.prog S (Instr.loadAt 33 v11) fun v12 =>
 quietK Try.prog S (Instr.fieldAt 36 v3 1) fun v13 =>
 quietK Try.prog S (Instr.loadAt 33 v13) fun v14 =>
 quietK Try.prog S (eqS .eql 33 false false v12 v14) fun v15 =>
 condF v15
 (quietK Try.prog S (Instr.fieldAt 36 v2 2) fun v18 =>
 quietK Try.prog S (Instr.loadAt 2 v18) fun v19 =>
 quietK Try.prog S (Instr.fieldAt 36 v3 2) fun v20 =>
 quietK Try.prog S (Instr.loadAt 2 v20) fun v21 =>
 quietK Try.prog S (eqS .eql 2 false false v19 v21) fun v22 =>
 condF v22
 (quietK Try.prog S (Instr.fieldAt 36 v2 4) fun v25 =>
 quietK Try.prog S (Instr.loadAt 9 v25) fun v26 =>
 quietK Try.prog S (Instr.fieldAt 36 v3 4) fun v27 =>
 quietK Try.prog S (Instr.loadAt 9 v27) fun v28 =>
 quietK Try.prog S (eqS .eql 9 false false v26 v28) fun v29 =>
 condF v29
 (quietK Try.prog S (Instr.fieldAt 36 v2 3) fun v32 =>
 quietK Try.prog S (Instr.loadAt 34 v32) fun v33 =>
 quietK Try.prog S (Instr.fieldAt 36 v3 3) fun v35 =>
 quietK Try.prog S (Instr.loadAt 34 v35) fun v36 =>
 callS Try.prog (px R) 26 #[v33] w fun v34 w =>
 moreS S w fun S =>
 callS Try.prog (px R) 26 #[v36] w fun v37 w =>
 moreS S w fun S =>
 quietK Try.prog S (eqS .eql 33 false false v34 v37) fun v38 =>
 R (.returned v38) w)
 (R (.returned (Value.bool false)) w))
 (R (.returned (Value.bool false)) w))
 (R (.returned (Value.bool false)) w))
 (R (.returned (Value.bool false)) w)

def h19 : Nat → List (Nat × Nat) := fun id => cond (Nat.beq id 1) [(0, 1), (1, 1), (2, 1), (3, 1), (4, 1), (5, 1), (6, 1), (7, 1), (8, 1), (9, 1), (10, 1), (11, 1), (12, 1), (13, 1), (14, 1), (15, 1), (16, 1), (17, 1), (18, 1), (19, 1), (20, 1), (21, 1), (22, 1), (23, 1), (24, 1), (25, 1), (26, 1), (27, 1), (28, 1), (30, 1), (31, 1), (29, 0), (32, 0), (33, 1), (34, 1), (35, 1)] ([])

def m19 (a0 a1 : Value) (R : Ending → World → Prop) (w : World) : Prop := m19_1 a0 a1 R w

theorem c19 (a0 a1 : Value) (R : Ending → World → Prop) (w : World) (h : m19 a0 a1 R w) : Calls Try.prog 19 #[a0, a1] w R := by
  refine calls_G h19 (by kernel_rfl) Try.func19 rfl (by kernel_rfl) (by kernel_rfl) ?_
  intro ρ hρ
  obtain rfl : ρ 0 = a0 := hρ 0
  obtain rfl : ρ 1 = a1 := hρ 1
  have h : m19_1 (ρ 0) (ρ 1) R w := h
  exact cast_prop h (by kernel_rfl)

theorem e19 (args : Array Value) (w : World) : (callFunc 19 args).run Try.prog w = .ok (.enter 19 args) w := callFunc_enter Try.func19 (by kernel_rfl) (by kernel_rfl) args w

theorem s19 {a0 a1 : Value} {x : PX} {w : World} {K : Value → World → Prop} (h : m19 a0 a1 (onE K x) w) : callS Try.prog x 19 #[a0, a1] w K := callS_enter (e19 _ w) (c19 a0 a1 _ w h)

/-! 20: moiety/wire.put -/
def m20_4 (p0 : Value) (p3 : Value) (R : Ending → World → Prop) (w : World) : Prop :=
 drawM w fun S w =>
 quietK Try.prog S (Instr.fieldAt 36 p3 4) fun v53 =>
 quietK Try.prog S (Instr.loadAt 9 v53) fun v54 =>
 quietK Try.prog S (Builtin.len_ #[9] 3 #[v54]) fun v55 =>
 quietK Try.prog S (convert 3 33 v55) fun v56 =>
 quietK Try.prog S (Instr.fieldAt 36 p3 4) fun v58 =>
 quietK Try.prog S (Instr.loadAt 9 v58) fun v59 =>
 callS Try.prog (px R) 27 #[p0, v56] w fun v57 w =>
 moreS S w fun S =>
 runK Try.prog (px R) (Builtin.append_ #[25, 9] 25 #[v57, v59]) w fun v60 w =>
 moreS S w fun S =>
 R (.returned v60) w

def m20_9 (p0 : Value) (p3 : Value) (R : Ending → World → Prop) (w : World) : Prop :=
 runK Try.prog (px R) (Instr.fieldAt 36 p3 1) w fun v18 w =>
 runK Try.prog (px R) (Instr.loadAt 33 v18) w fun v19 w =>
 callS Try.prog (px R) 27 #[p0, v19] w fun v20 w =>
 R (.returned v20) w

def m20_12 (p0 : Value) (p3 : Value) (R : Ending → World → Prop) (w : World) : Prop :=
 runK Try.prog (px R) (Instr.fieldAt 36 p3 2) w fun v24 w =>
 runK Try.prog (px R) (Instr.loadAt 2 v24) w fun v25 w =>
 runK Try.prog (px R) (convert 2 33 v25) w fun v26 w =>
 runK Try.prog (px R) (binOp .shl 33 v26 (Value.int .u64 1)) w fun v27 w =>
 runK Try.prog (px R) (Instr.fieldAt 36 p3 2) w fun v28 w =>
 runK Try.prog (px R) (Instr.loadAt 2 v28) w fun v29 w =>
 runK Try.prog (px R) (binOp .shr 2 v29 (Value.int .u64 63)) w fun v30 w =>
 runK Try.prog (px R) (convert 2 33 v30) w fun v31 w =>
 runK Try.prog (px R) (binOp .xor 33 v27 v31) w fun v32 w =>
 callS Try.prog (px R) 27 #[p0, v32] w fun v33 w =>
 R (.returned v33) w

def m20_17 (p0 : Value) (R : Ending → World → Prop) (w : World) : Prop :=
 R (.returned p0) w

def m20_21 (p0 : Value) (p5 : Value) (p6 : Value) (N1 : (Value × Value × Value) → World → Prop) (R : Ending → World → Prop) (w : World) : Prop :=
 runK Try.prog (px R) (binOp .geq 3 p6 (Value.int .i64 0)) w fun v40 w =>
 condF v40
 (runK Try.prog (px R) (convert 3 56 p6) w fun v46 w =>
 runK Try.prog (px R) (binOp .shr 33 p5 v46) w fun v47 w =>
 runK Try.prog (px R) (convert 33 5 v47) w fun v48 w =>
 runK Try.prog (px R) (Instr.buildSlice 25 1 #[(0, v48)]) w fun v49 w =>
 runK Try.prog (px R) (Builtin.append_ #[25, 25] 25 #[p0, v49]) w fun v50 w =>
 runK Try.prog (px R) (binOp .sub 3 p6 (Value.int .i64 8)) w fun v42 w =>
 N1 (v50, p5, v42) w)
 (m20_17 p0 R w)

def m20_20 (p0 : Value) (p5 : Value) (p6 : Value) (R : Ending → World → Prop) (w : World) : Prop :=
 LoopM (τ := Value × Value × Value) (fun t N1 w => m20_21 t.1 t.2.1 t.2.2 N1 R w) (p0, p5, p6) w

def m20_18 (p0 : Value) (p5 : Value) (R : Ending → World → Prop) (w : World) : Prop :=
 m20_20 p0 p5 (Value.int .i64 56) R w

def m20_15 (p0 : Value) (p3 : Value) (R : Ending → World → Prop) (w : World) : Prop :=
 runK Try.prog (px R) (Instr.fieldAt 36 p3 3) w fun v36 w =>
 runK Try.prog (px R) (Instr.loadAt 34 v36) w fun v37 w =>
 callS Try.prog (px R) 28 #[v37] w fun v38 w =>
 m20_18 p0 v38 R w

def m20_22 (p0 : Value) (p3 : Value) (R : Ending → World → Prop) (w : World) : Prop :=
 m20_4 p0 p3 R w

def m20_14 (p0 : Value) (p3 : Value) (p34 : Value) (R : Ending → World → Prop) (w : World) : Prop :=
 condF p34
 (m20_15 p0 p3 R w)
 (m20_22 p0 p3 R w)

def m20_13 (p0 : Value) (p3 : Value) (p14 : Value) (R : Ending → World → Prop) (w : World) : Prop :=
 runK Try.prog (px R) (eqS .eql 32 false true p14 (Value.int .i64 3)) w fun v35 w =>
 m20_14 p0 p3 v35 R w

def m20_11 (p0 : Value) (p3 : Value) (p14 : Value) (p21 : Value) (R : Ending → World → Prop) (w : World) : Prop :=
 condF p21
 (m20_12 p0 p3 R w)
 (m20_13 p0 p3 p14 R w)

def m20_10 (p0 : Value) (p3 : Value) (p14 : Value) (R : Ending → World → Prop) (w : World) : Prop :=
 runK Try.prog (px R) (eqS .eql 32 false true p14 (Value.int .i64 2)) w fun v22 w =>
 m20_11 p0 p3 p14 v22 R w

def m20_8 (p0 : Value) (p3 : Value) (p14 : Value) (p15 : Value) (R : Ending → World → Prop) (w : World) : Prop :=
 condF p15
 (m20_9 p0 p3 R w)
 (m20_10 p0 p3 p14 R w)

def m20_7 (p0 : Value) (p3 : Value) (p14 : Value) (R : Ending → World → Prop) (w : World) : Prop :=
 runK Try.prog (px R) (eqS .eql 32 false true p14 (Value.int .i64 1)) w fun v16 w =>
 m20_8 p0 p3 p14 v16 R w

def m20_5 (p0 : Value) (p3 : Value) (R : Ending → World → Prop) (w : World) : Prop :=
 runK Try.prog (px R) (Instr.fieldAt 36 p3 0) w fun v13 w =>
 runK Try.prog (px R) (Instr.loadAt 32 v13) w fun v14 w =>
 m20_7 p0 p3 v14 R w

def m20_2 (p0 : Value) (p3 : Value) (R : Ending → World → Prop) (w : World) : Prop :=
 runK Try.prog (px R) (Instr.fieldAt 36 p3 0) w fun v8 w =>
 runK Try.prog (px R) (Instr.loadAt 32 v8) w fun v9 w =>
 runK Try.prog (px R) (convert 32 5 v9) w fun v10 w =>
 runK Try.prog (px R) (Instr.buildSlice 25 1 #[(0, v10)]) w fun v11 w =>
 runK Try.prog (px R) (Builtin.append_ #[25, 25] 25 #[p0, v11]) w fun v12 w =>
 m20_5 v12 p3 R w

def m20_1 (p0 : Value) (p1 : Value) (R : Ending → World → Prop) (w : World) : Prop :=
 runK Try.prog (px R) (Instr.box 36 p1) w fun v3 w =>
 m20_2 p0 v3 R w

def h20 : Nat → List (Nat × Nat) := fun id => cond (Nat.beq id 14) [(0, 1), (1, 1), (2, 1), (3, 1), (4, 1), (6, 1), (7, 1), (5, 0), (8, 0), (9, 1)] ([])

def m20 (a0 a1 : Value) (R : Ending → World → Prop) (w : World) : Prop := m20_1 a0 a1 R w

theorem c20 (a0 a1 : Value) (R : Ending → World → Prop) (w : World) (h : m20 a0 a1 R w) : Calls Try.prog 20 #[a0, a1] w R := by
  refine calls_G h20 (by kernel_rfl) Try.func20 rfl (by kernel_rfl) (by kernel_rfl) ?_
  intro ρ hρ
  obtain rfl : ρ 0 = a0 := hρ 0
  obtain rfl : ρ 1 = a1 := hρ 1
  have h : m20_1 (ρ 0) (ρ 1) R w := h
  refine seq_sound (fun ρ w => m20_2 (ρ 0) (ρ 3) R w) ?_ ?_
  · intro ρ w h
    refine seq_sound (fun ρ w => m20_5 (ρ 0) (ρ 3) R w) ?_ ?_
    · intro ρ w h
      refine seq_sound (fun ρ w => m20_4 (ρ 0) (ρ 3) R w) ?_ ?_
      · intro ρ w h
        exact cast_prop h (by kernel_rfl)
      refine seq_sound (fun ρ w => m20_7 (ρ 0) (ρ 3) (ρ 14) R w) ?_ ?_
      · intro ρ w h
        refine block_sound ?_
        refine seq_sound (fun ρ w => m20_8 (ρ 0) (ρ 3) (ρ 14) (ρ 15) R w) ?_ ?_
        · intro ρ w h
          refine cond_sound (m20_9 (ρ 0) (ρ 3) R w) (m20_10 (ρ 0) (ρ 3) (ρ 14) R w) ?_ ?_ h
          · clear h
            intro h
            exact cast_prop h (by kernel_rfl)
          · clear h
            intro h
            refine seq_sound (fun ρ w => m20_11 (ρ 0) (ρ 3) (ρ 14) (ρ 21) R w) ?_ ?_
            · intro ρ w h
              refine cond_sound (m20_12 (ρ 0) (ρ 3) R w) (m20_13 (ρ 0) (ρ 3) (ρ 14) R w) ?_ ?_ h
              · clear h
                intro h
                exact cast_prop h (by kernel_rfl)
              · clear h
                intro h
                refine seq_sound (fun ρ w => m20_14 (ρ 0) (ρ 3) (ρ 34) R w) ?_ ?_
                · intro ρ w h
                  refine cond_sound (m20_15 (ρ 0) (ρ 3) R w) (m20_22 (ρ 0) (ρ 3) R w) ?_ ?_ h
                  · clear h
                    intro h
                    refine seq_sound (fun ρ w => m20_18 (ρ 0) (ρ 5) R w) ?_ ?_
                    · intro ρ w h
                      refine seq_sound (fun ρ w => m20_17 (ρ 0) R w) ?_ ?_
                      · intro ρ w h
                        exact cast_prop h (by kernel_rfl)
                      refine seq_sound (fun ρ w => m20_20 (ρ 0) (ρ 5) (ρ 6) R w) ?_ ?_
                      · intro ρ w h
                        refine block_sound ?_
                        refine loop_sound (τ := Value × Value × Value) (fun ρ => (ρ 0, ρ 5, ρ 6)) (fun t N1 w => m20_21 t.1 t.2.1 t.2.2 N1 R w) ?_ h
                        clear h
                        intro N1 ρ w h
                        have h : m20_21 (ρ 0) (ρ 5) (ρ 6) N1 R w := h
                        exact cast_prop h (by kernel_rfl)
                      exact cast_prop h (by kernel_rfl)
                    exact cast_prop h (by kernel_rfl)
                  · clear h
                    intro h
                    exact cast_prop h (by kernel_rfl)
                exact cast_prop h (by kernel_rfl)
            exact cast_prop h (by kernel_rfl)
        exact cast_prop h (by kernel_rfl)
      exact cast_prop h (by kernel_rfl)
    exact cast_prop h (by kernel_rfl)
  exact cast_prop h (by kernel_rfl)

theorem e20 (args : Array Value) (w : World) : (callFunc 20 args).run Try.prog w = .ok (.enter 20 args) w := callFunc_enter Try.func20 (by kernel_rfl) (by kernel_rfl) args w

theorem s20 {a0 a1 : Value} {x : PX} {w : World} {K : Value → World → Prop} (h : m20 a0 a1 (onE K x) w) : callS Try.prog x 20 #[a0, a1] w K := callS_enter (e20 _ w) (c20 a0 a1 _ w h)

/-! 21: moiety/moietyref02.One -/
def m21_1 (p0 : Value) (R : Ending → World → Prop) (w : World) : Prop :=
 runK Try.prog (px R) (Instr.box 36 p0) w fun v1 w =>
 runK Try.prog (px R) (Instr.fieldAt 36 v1 0) w fun v4 w =>
 runK Try.prog (px R) (Instr.loadAt 32 v4) w fun v5 w =>
 runK Try.prog (px R) (convert 32 5 v5) w fun v6 w =>
 runK Try.prog (px R) (Instr.buildSlice 25 1 #[(0, v6)]) w fun v7 w =>
 runK Try.prog (px R) (convert 25 9 v7) w fun v8 w =>
 runK Try.prog (px R) (Instr.fieldAt 36 v1 0) w fun v9 w =>
 runK Try.prog (px R) (Instr.loadAt 32 v9) w fun v10 w =>
 runK Try.prog (px R) (eqS .eql 32 false true v10 (Value.int .i64 1)) w fun v12 w =>
 condF v12
 (runK Try.prog (px R) (Instr.fieldAt 36 v1 1) w fun v14 w =>
 runK Try.prog (px R) (Instr.loadAt 33 v14) w fun v15 w =>
 callS Try.prog (px R) 29 #[v15] w fun v16 w =>
 runK Try.prog (px R) (binOp .add 9 v8 v16) w fun v17 w =>
 R (.returned v17) w)
 (runK Try.prog (px R) (eqS .eql 32 false true v10 (Value.int .i64 2)) w fun v19 w =>
 condF v19
 (runK Try.prog (px R) (Instr.fieldAt 36 v1 2) w fun v20 w =>
 runK Try.prog (px R) (Instr.loadAt 2 v20) w fun v21 w =>
 runK Try.prog (px R) (binOp .lss 2 v21 (Value.int .i64 0)) w fun v22 w =>
 condF v22
 (runK Try.prog (px R) (Instr.fieldAt 36 v1 2) w fun v24 w =>
 runK Try.prog (px R) (Instr.loadAt 2 v24) w fun v25 w =>
 runK Try.prog (px R) (binOp .add 2 v25 (Value.int .i64 1)) w fun v26 w =>
 runK Try.prog (px R) (Op.unary .neg v26) w fun v27 w =>
 runK Try.prog (px R) (convert 2 33 v27) w fun v28 w =>
 runK Try.prog (px R) (binOp .mul 33 (Value.int .u64 2) v28) w fun v29 w =>
 runK Try.prog (px R) (binOp .add 33 v29 (Value.int .u64 1)) w fun v30 w =>
 callS Try.prog (px R) 29 #[v30] w fun v31 w =>
 runK Try.prog (px R) (binOp .add 9 v8 v31) w fun v32 w =>
 R (.returned v32) w)
 (runK Try.prog (px R) (Instr.fieldAt 36 v1 2) w fun v34 w =>
 runK Try.prog (px R) (Instr.loadAt 2 v34) w fun v35 w =>
 runK Try.prog (px R) (convert 2 33 v35) w fun v36 w =>
 runK Try.prog (px R) (binOp .mul 33 (Value.int .u64 2) v36) w fun v37 w =>
 callS Try.prog (px R) 29 #[v37] w fun v38 w =>
 runK Try.prog (px R) (binOp .add 9 v8 v38) w fun v39 w =>
 R (.returned v39) w))
 (runK Try.prog (px R) (eqS .eql 32 false true v10 (Value.int .i64 3)) w fun v41 w =>
 condF v41
 (runK Try.prog (px R) (Instr.fieldAt 36 v1 3) w fun v43 w =>
 runK Try.prog (px R) (Instr.loadAt 34 v43) w fun v44 w =>
 callS Try.prog (px R) 26 #[v44] w fun v45 w =>
 callS Try.prog (px R) 30 #[v45] w fun v46 w =>
 runK Try.prog (px R) (binOp .add 9 v8 v46) w fun v47 w =>
 R (.returned v47) w)
 (drawM w fun S w =>
 quietK Try.prog S (Instr.fieldAt 36 v1 4) fun v49 =>
 quietK Try.prog S (Instr.loadAt 9 v49) fun v50 =>
 quietK Try.prog S (Builtin.len_ #[9] 3 #[v50]) fun v51 =>
 quietK Try.prog S (convert 3 33 v51) fun v52 =>
 quietK Try.prog S (Instr.fieldAt 36 v1 4) fun v55 =>
 quietK Try.prog S (Instr.loadAt 9 v55) fun v56 =>
 callS Try.prog (px R) 29 #[v52] w fun v53 w =>
 moreS S w fun S =>
 quietK Try.prog S (binOp .add 9 v8 v53) fun v54 =>
 quietK Try.prog S (binOp .add 9 v54 v56) fun v57 =>
 R (.returned v57) w)))

def h21 : Nat → List (Nat × Nat) := fun id => cond (Nat.beq id 11) [(0, 1), (1, 1), (2, 1), (3, 1), (4, 1), (7, 1), (8, 1), (5, 0), (6, 1), (9, 1), (10, 1)] ([])

def m21 (a0 : Value) (R : Ending → World → Prop) (w : World) : Prop := m21_1 a0 R w

theorem c21 (a0 : Value) (R : Ending → World → Prop) (w : World) (h : m21 a0 R w) : Calls Try.prog 21 #[a0] w R := by
  refine calls_G h21 (by kernel_rfl) Try.func21 rfl (by kernel_rfl) (by kernel_rfl) ?_
  intro ρ hρ
  obtain rfl : ρ 0 = a0 := hρ 0
  have h : m21_1 (ρ 0) R w := h
  exact cast_prop h (by kernel_rfl)

theorem e21 (args : Array Value) (w : World) : (callFunc 21 args).run Try.prog w = .ok (.enter 21 args) w := callFunc_enter Try.func21 (by kernel_rfl) (by kernel_rfl) args w

theorem s21 {a0 : Value} {x : PX} {w : World} {K : Value → World → Prop} (h : m21 a0 (onE K x) w) : callS Try.prog x 21 #[a0] w K := callS_enter (e21 _ w) (c21 a0 _ w h)

/-! 22: moiety/wire.plain -/
def m22_1 (p0 : Value) (R : Ending → World → Prop) (w : World) : Prop :=
 runK Try.prog (px R) (Instr.box 36 p0) w fun v1 w =>
 drawM w fun S w =>
 quietK Try.prog S (Instr.fieldAt 36 v1 1) fun v7 =>
 quietK Try.prog S (Instr.loadAt 33 v7) fun v8 =>
 quietK Try.prog S (eqS .eql 33 false true v8 (Value.int .u64 0)) fun v9 =>
 quietK Try.prog S (Instr.fieldAt 36 v1 2) fun v10 =>
 quietK Try.prog S (Instr.loadAt 2 v10) fun v11 =>
 quietK Try.prog S (eqS .eql 2 false true v11 (Value.int .i64 0)) fun v12 =>
 quietK Try.prog S (Instr.fieldAt 36 v1 3) fun v13 =>
 quietK Try.prog S (Instr.loadAt 34 v13) fun v14 =>
 quietN Try.prog S (callFunc 23 #[v14]) fun v15 =>
 quietK Try.prog S (eqS .eql 33 false true v15 (Value.int .u64 0)) fun v16 =>
 quietK Try.prog S (Instr.fieldAt 36 v1 4) fun v17 =>
 quietK Try.prog S (Instr.loadAt 9 v17) fun v18 =>
 quietK Try.prog S (eqS .eql 9 false true v18 (Value.string ⟨#[]⟩)) fun v19 =>
 runK Try.prog (px R) (Instr.fieldAt 36 v1 0) w fun v20 w =>
 runK Try.prog (px R) (Instr.loadAt 32 v20) w fun v21 w =>
 runK Try.prog (px R) (eqS .eql 32 false true v21 (Value.int .i64 1)) w fun v23 w =>
 condF v23
 (condF v12
 (condF v16
 (R (.returned v19) w)
 (R (.returned (Value.bool false)) w))
 (R (.returned (Value.bool false)) w))
 (runK Try.prog (px R) (eqS .eql 32 false true v21 (Value.int .i64 2)) w fun v32 w =>
 condF v32
 (condF v9
 (condF v16
 (R (.returned v19) w)
 (R (.returned (Value.bool false)) w))
 (R (.returned (Value.bool false)) w))
 (runK Try.prog (px R) (eqS .eql 32 false true v21 (Value.int .i64 3)) w fun v41 w =>
 condF v41
 (condF v9
 (condF v12
 (R (.returned v19) w)
 (R (.returned (Value.bool false)) w))
 (R (.returned (Value.bool false)) w))
 (runK Try.prog (px R) (eqS .eql 32 false true v21 (Value.int .i64 4)) w fun v50 w =>
 condF v50
 (condF v9
 (condF v12
 (R (.returned v16) w)
 (R (.returned (Value.bool false)) w))
 (R (.returned (Value.bool false)) w))
 (R (.returned (Value.bool false)) w))))

def h22 : Nat → List (Nat × Nat) := fun id => cond (Nat.beq id 1) [(0, 1), (1, 1), (2, 1), (3, 1), (4, 1), (5, 1), (6, 1), (7, 1), (8, 1), (9, 1), (10, 1), (11, 1), (12, 1), (13, 1), (14, 1), (15, 1), (16, 1)] ([])

def m22 (a0 : Value) (R : Ending → World → Prop) (w : World) : Prop := m22_1 a0 R w

theorem c22 (a0 : Value) (R : Ending → World → Prop) (w : World) (h : m22 a0 R w) : Calls Try.prog 22 #[a0] w R := by
  refine calls_G h22 (by kernel_rfl) Try.func22 rfl (by kernel_rfl) (by kernel_rfl) ?_
  intro ρ hρ
  obtain rfl : ρ 0 = a0 := hρ 0
  have h : m22_1 (ρ 0) R w := h
  exact cast_prop h (by kernel_rfl)

theorem e22 (args : Array Value) (w : World) : (callFunc 22 args).run Try.prog w = .ok (.enter 22 args) w := callFunc_enter Try.func22 (by kernel_rfl) (by kernel_rfl) args w

theorem s22 {a0 : Value} {x : PX} {w : World} {K : Value → World → Prop} (h : m22 a0 (onE K x) w) : callS Try.prog x 22 #[a0] w K := callS_enter (e22 _ w) (c22 a0 _ w h)

/-! 24: moiety/wire.Unpack$1 -/
def m24_1 (p0 : Value) (p1 : Value) (p2 : Value) (p3 : Value) (p4 : Value) (R : Ending → World → Prop) (w : World) : Prop :=
 runK Try.prog (px R) (eqS .neq 20 false true p4 Value.nilIface) w fun v9 w =>
 condF v9
 (runK Try.prog (px R) (Instr.typeAssert p4 20 52 true) w fun v12 w =>
 runK Try.prog (px R) (Instr.extract v12 0) w fun v13 w =>
 runK Try.prog (px R) (Instr.extract v12 1) w fun v14 w =>
 runK Try.prog (px R) (Instr.alloc 52 true (.tuple #[])) w fun v5 w =>
 runU Try.prog (px R) (Instr.storeAt 52 v5 v13) w fun w =>
 runK Try.prog (px R) (Op.unary .not v14) w fun v16 w =>
 condF v16
 (runK Try.prog (px R) (Instr.panic p4) w fun _ w =>
 drawM w fun S w =>
 quietK Try.prog S (Instr.fieldAt 52 v5 0) fun v19 =>
 (runK Try.prog (px R) (Instr.loadAt 3 p0) w fun v18 w =>
 moreS S w fun S =>
 (runK Try.prog (px R) (Instr.loadAt 26 v19) w fun v20 w =>
 moreS S w fun S =>
 runU Try.prog (px R) (Instr.storeAt 22 p1 (Value.slice none 0 0)) w fun w =>
 moreS S w fun S =>
 runU Try.prog (px R) (Instr.storeAt 3 p2 v18) w fun w =>
 moreS S w fun S =>
 runU Try.prog (px R) (Instr.storeAt 26 p3 v20) w fun w =>
 moreS S w fun S =>
 R (.returned undef) w) ∧
 (runU Try.prog (px R) (Instr.storeAt 22 p1 (Value.slice none 0 0)) w fun w =>
 moreS S w fun S =>
 (runK Try.prog (px R) (Instr.loadAt 26 v19) w fun v20_1 w =>
 moreS S w fun S =>
 runU Try.prog (px R) (Instr.storeAt 3 p2 v18) w fun w =>
 moreS S w fun S =>
 runU Try.prog (px R) (Instr.storeAt 26 p3 v20_1) w fun w =>
 moreS S w fun S =>
 R (.returned undef) w) ∧
 (runU Try.prog (px R) (Instr.storeAt 3 p2 v18) w fun w =>
 moreS S w fun S =>
 runK Try.prog (px R) (Instr.loadAt 26 v19) w fun v20_2 w =>
 moreS S w fun S =>
 runU Try.prog (px R) (Instr.storeAt 26 p3 v20_2) w fun w =>
 moreS S w fun S =>
 R (.returned undef) w))) ∧
 (runK Try.prog (px R) (Instr.loadAt 26 v19) w fun v20_3 w =>
 moreS S w fun S =>
 runK Try.prog (px R) (Instr.loadAt 3 p0) w fun v18_1 w =>
 moreS S w fun S =>
 runU Try.prog (px R) (Instr.storeAt 22 p1 (Value.slice none 0 0)) w fun w =>
 moreS S w fun S =>
 runU Try.prog (px R) (Instr.storeAt 3 p2 v18_1) w fun w =>
 moreS S w fun S =>
 runU Try.prog (px R) (Instr.storeAt 26 p3 v20_3) w fun w =>
 moreS S w fun S =>
 R (.returned undef) w))
 (drawM w fun S w =>
 quietK Try.prog S (Instr.fieldAt 52 v5 0) fun v19_1 =>
 (runK Try.prog (px R) (Instr.loadAt 3 p0) w fun v18_2 w =>
 moreS S w fun S =>
 (runK Try.prog (px R) (Instr.loadAt 26 v19_1) w fun v20_4 w =>
 moreS S w fun S =>
 runU Try.prog (px R) (Instr.storeAt 22 p1 (Value.slice none 0 0)) w fun w =>
 moreS S w fun S =>
 runU Try.prog (px R) (Instr.storeAt 3 p2 v18_2) w fun w =>
 moreS S w fun S =>
 runU Try.prog (px R) (Instr.storeAt 26 p3 v20_4) w fun w =>
 moreS S w fun S =>
 R (.returned undef) w) ∧
 (runU Try.prog (px R) (Instr.storeAt 22 p1 (Value.slice none 0 0)) w fun w =>
 moreS S w fun S =>
 (runK Try.prog (px R) (Instr.loadAt 26 v19_1) w fun v20_5 w =>
 moreS S w fun S =>
 runU Try.prog (px R) (Instr.storeAt 3 p2 v18_2) w fun w =>
 moreS S w fun S =>
 runU Try.prog (px R) (Instr.storeAt 26 p3 v20_5) w fun w =>
 moreS S w fun S =>
 R (.returned undef) w) ∧
 (runU Try.prog (px R) (Instr.storeAt 3 p2 v18_2) w fun w =>
 moreS S w fun S =>
 runK Try.prog (px R) (Instr.loadAt 26 v19_1) w fun v20_6 w =>
 moreS S w fun S =>
 runU Try.prog (px R) (Instr.storeAt 26 p3 v20_6) w fun w =>
 moreS S w fun S =>
 R (.returned undef) w))) ∧
 (runK Try.prog (px R) (Instr.loadAt 26 v19_1) w fun v20_7 w =>
 moreS S w fun S =>
 runK Try.prog (px R) (Instr.loadAt 3 p0) w fun v18_3 w =>
 moreS S w fun S =>
 runU Try.prog (px R) (Instr.storeAt 22 p1 (Value.slice none 0 0)) w fun w =>
 moreS S w fun S =>
 runU Try.prog (px R) (Instr.storeAt 3 p2 v18_3) w fun w =>
 moreS S w fun S =>
 runU Try.prog (px R) (Instr.storeAt 26 p3 v20_7) w fun w =>
 moreS S w fun S =>
 R (.returned undef) w)))
 (R (.returned undef) w)

def h24 : Nat → List (Nat × Nat) := fun id => cond (Nat.beq id 5) [(1, 1), (0, 13), (2, 5), (3, 0), (4, 0), (5, 0), (3, 0), (2, 4), (4, 0), (5, 0), (4, 0), (2, 0), (5, 0), (2, 0), (0, 0), (3, 0), (4, 0), (5, 0)] ([])

/-- The part's own text: m24_1. -/
theorem v24 (R : Ending → World → Prop) (ρ : Nat → Value) (w : World) (h : m24_1 (ρ 0) (ρ 1) (ρ 2) (ρ 3) (ρ 4) R w) : codeF Try.prog h24 (subC [1] (Try.f24.body.getD .skip)) (postV R) ⟨ρ, []⟩ w := by
  exact cast_prop h (by kernel_rfl)

theorem e24 (args : Array Value) (w : World) : (callFunc 24 args).run Try.prog w = .ok (.enter 24 args) w := callFunc_enter Try.func24 (by kernel_rfl) (by kernel_rfl) args w

end Go.Proofs.Ytdihigmcihheoaa
