/-
  A deferred closure that asks 'recover' first.
-/
import Derived.Test.YtdihigmcihheoaaFL
import Derived.Recover
import Derived.Tactics
import Derived.Tactics2
set_option linter.unusedVariables false
set_option linter.unusedSimpArgs false
namespace Go.FW
open Go.RowKit

/-- A deferred closure that asks 'recover' first (v: what it gives), and goes on with a part of its own. -/
theorem callsD_V {P : Program} {f : FuncId} {fn : Func} {id d x : Nat} {o1 o2 : Oper} {y : Code} {args : Array Value} {u u' : FrameMode} {w : World} {v : Value} {H : Nat → List (Nat × Nat)} {R' : Ending → World → Prop} {R : Ending → FrameMode → World → Prop}
    (hm : P.follows .mixedOrders = true) (hf : P.funcs[f]? = some fn) (hb : fn.body = some (.seq (.region id #[o1, o2] false) y)) (hres : fn.results = #[])
    (h1 : o1.op = .call ⟨.builtin .recover, #[], #[]⟩ ∧ o1.dst = some d ∧ o1.guard = none) (h2 : o2.op = .assign (.tmp d) ∧ o2.dst = some x ∧ o2.guard = none)
    (ho : codeOk fn.ntmps [] H y = true) (hs : Nat.ble args.size fn.ntmps = true) (hd : Nat.blt d fn.ntmps = true) (hxn : Nat.blt x fn.ntmps = true)
    (hu : (∃ older, u = .panicking ({ v, recovered := false } :: older) ∧ u' = .panicking ({ v, recovered := true } :: older)) ∨ (u = .returning ∧ u' = .returning ∧ v = .nilIface))
    (hr : ∀ w, R' (.returned undef) w → R (.returned (.tuple #[])) u' w) (hx : ∀ c w, R' (.panicked c) w → R (.panicked c) u' w)
    (h : codeF P H y (postV R') ⟨(((⟨fun i => args.getD i undef, []⟩ : FA).put (some d) v).put (some x) v).ρ, []⟩ w) : CallsD P f args u w R := by
  obtain ⟨a1, a2, a3⟩ := h1
  obtain ⟨b1, b2, b3⟩ := h2
  have hd' : d < fn.ntmps := Nat.le_of_ble_eq_true hd
  have hxn' : x < fn.ntmps := Nat.le_of_ble_eq_true hxn
  refine callsD_of_wpS hf hb fun c₀ cs hu0 => wpS_seq (wpS_region ?_)
  have hx1 : ∀ (ev : Operand → Value) (w : World), (execOp ev o1).run P w = .ok .recover w := by
    intro ev w
    simp [execOp, a1, go_sem]
  have hs' : args.size ≤ fn.ntmps := Nat.le_of_ble_eq_true hs
  have hsz : (args ++ Array.replicate (fn.ntmps - args.size) undef).size = fn.ntmps := by simp; omega
  have key : ∀ (cs' : List Frame), (∃ c1 : Frame, cs' = { c₀ with mode := u' } :: cs) →
      (y.wpS P (bodyPostS P fn c₀ cs R) ((({ tmps := args ++ Array.replicate (fn.ntmps - args.size) undef, defers := [] } : Act).put (some d) v).put (some x) v) cs' w) := by
    rintro cs' ⟨_, rfl⟩
    refine wpS_of_wp ?_
    have hgood : Good fn.ntmps [] ((({ tmps := args ++ Array.replicate (fn.ntmps - args.size) undef, defers := [] } : Act).put (some d) v).put (some x) v) := Good.plain (by
      rw [size_put, size_put]; simp; omega)
    have hfa : codeF P H y (postV R') (fa ((({ tmps := args ++ Array.replicate (fn.ntmps - args.size) undef, defers := [] } : Act).put (some d) v).put (some x) v)) w := by
      have e1 := fa_init args (fn.ntmps - args.size)
      rw [fa_put _ _ _ (fun q hq => by cases hq; rw [size_put]; show x < (args ++ Array.replicate (fn.ntmps - args.size) undef).size; rw [hsz]; exact hxn'), fa_put _ _ _ (fun q hq => by cases hq; show d < (args ++ Array.replicate (fn.ntmps - args.size) undef).size; rw [hsz]; exact hd'), e1]
      exact h
    refine wp_mono (code_sound hm y (postV R') _ w ho hgood hfa) fun e a w hq => ?_
    · cases e with
      | normal =>
        obtain ⟨h1, h2⟩ := dsK_spec hq.2
        refine ⟨h1, u', rfl, .tuple #[], ?_, hr w h2⟩
        simp [results, hres, go_sem]
      | ret =>
        obtain ⟨h1, h2⟩ := dsK_spec hq.2
        refine ⟨h1, u', rfl, .tuple #[], ?_, hr w h2⟩
        simp [results, hres, go_sem]
      | panic c =>
        obtain ⟨h1, h2⟩ := dsK_spec hq.2
        exact ⟨h1, u', rfl, hx c w h2⟩
      | exit id => exact hq.2.elim
      | goto l => exact hq.elim
      | outgrown => exact hq.elim
  have hput : ∀ (a : Act), ((a.put (some d) v).tmps.getD d undef) = v ∨ a.tmps.size ≤ d := fun a => by
    rcases Nat.lt_or_ge d a.tmps.size with hlt | hge
    · left
      simp [Act.put, Array.getD_eq_getD_getElem?, hlt]
    · exact .inr hge
  have hev : ((({ tmps := args ++ Array.replicate (fn.ntmps - args.size) undef, defers := [] } : Act).put (some d) v).eval (.tmp d)) = v := by
    rcases hput { tmps := args ++ Array.replicate (fn.ntmps - args.size) undef, defers := [] } with e | e
    · exact e
    · simp at e; omega
  have hr0 : List.range (#[o1, o2] : Array Oper).size = [0, 1] := rfl
  rw [hr0]
  have w1 : ∀ f, Region.wanted o1 f = true := fun f => by unfold Region.wanted; rw [a3]
  have w2 : ∀ f, Region.wanted o2 f = true := fun f => by unfold Region.wanted; rw [b3]
  have hx2 : (execOp ((({ tmps := args ++ Array.replicate (fn.ntmps - args.size) undef, defers := [] } : Act).put (some d) v).eval) o2).run P w = .ok (.value v) w := by
    unfold execOp
    rw [b1]
    dsimp only
    rw [hev]
    rfl
  have e0 : (#[o1, o2] : Array Oper)[0]? = some o1 := rfl
  have e1 : (#[o1, o2] : Array Oper)[1]? = some o2 := rfl
  rcases hu with ⟨older, h1, h2⟩ | ⟨h1, h2, h3⟩
  · have hrec : recoverD (c₀ :: cs) = some (v, { c₀ with mode := u' } :: cs) := by
      simp only [recoverD, hu0, h1]
      rw [h2]
    unfold wpOpsS
    simp only [e0, w1, if_true, hx1, hrec, a2]
    unfold wpOpsS
    simp only [e1, w2, if_true, hx2, Oper.upon, b2]
    unfold wpOpsS
    exact key _ ⟨c₀, rfl⟩
  · have hrec : recoverD (c₀ :: cs) = none := by
      simp only [recoverD, hu0, h1]
    have hc : c₀ = { c₀ with mode := u' } := by
      rw [h2, ← h1, ← hu0]
    unfold wpOpsS
    simp only [e0, w1, if_true, hx1, hrec, a2]
    rw [← h3]
    unfold wpOpsS
    simp only [e1, w2, if_true, hx2, Oper.upon, b2]
    unfold wpOpsS
    refine key _ ⟨c₀, ?_⟩
    rw [← hc]
end Go.FW
