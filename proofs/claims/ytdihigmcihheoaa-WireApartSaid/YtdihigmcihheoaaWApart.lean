/-
  WireApart.
-/
import Derived.Test.YtdihigmcihheoaaWM
import Derived.Test.YtdihigmcihheoaaWV
set_option linter.unusedVariables false
namespace Go.Proofs.Ytdihigmcihheoaa
open Go.FW Go.RowKit Go.WideShapes Go.ChangeShapes Go.Deep Go.Joins Go.ChangeAt
open Go.ChangeMaps (open_string shut_string)

set_option maxRecDepth 100000 in
theorem wireApart_lifted (os : Os) (started : os.Started) (H : Type) (enc : TypeId × Value → H) :
    ReturnsInHanded {} Try.checked os 9 .any (Rows.wireApartSpec.pre6 enc Try.prog Try.f9 Rows.wireApartRow.domain false) (Rows.wireApartSpec.post enc Try.prog Try.f9 false true false false) := by
  refine returnsInHanded_of_change (C := Try.checked) own started (by kernel_rfl) Try.func9
    (ChangeSpec.witness6 (enc := enc) (C := Try.checked) false ⟨#[], #[.agg #[.int .i64 0, .int .u64 0, .int .i64 0, .float .f64 0, .string ⟨#[]⟩], .agg #[.int .i64 0, .int .u64 0, .int .i64 0, .float .f64 0, .string ⟨#[]⟩]], []⟩ 8 (by kernel_rfl) (by kernel_rfl) (by kernel_rfl) (by kernel_rfl)) ?_
  intro W base args ds gs before hval0 hW hcnd _
  have hval : ∀ (j : Nat) t v, Try.f9.params[j]? = some t → args[j]? = some v → Value.okWide Try.prog W .any base t v := hval0
  have hW' := hW
  obtain ⟨p, q, hA0, hV, rfl, hfz, hnd⟩ := hW
  obtain ⟨rfl, rfl⟩ := trodVars_none hV
  have hA : DataW.TrodAll enc Try.prog W 0 (fun _ => true) true Try.f9.params.toList args.toList ds p := hA0
  have hA' := hA
  rw [Try.params9] at hA hval
  obtain ⟨v0, vs0, d0, ds0, p0, q0, hargs, rfl, rfl, h0, r0⟩ := trodAll_cons hA
  obtain ⟨v1, vs1, d1, ds1, p1, q1, rfl, rfl, rfl, h1, r1⟩ := trodAll_cons r0
  obtain ⟨rfl, rfl, rfl⟩ := trodAll_nil r1
  obtain rfl : args = #[v0, v1] := by cases args; simp_all
  obtain ⟨V0, rfl, hw0⟩ := open_val (hval 0 36 v0 rfl rfl) h0
  obtain ⟨V1, rfl, hw1⟩ := open_val (hval 1 36 v1 rfl rfl) h1
  simp only [List.append_nil] at hW' hA'
  refine (apart_walk V0 V1 hw0 hw1 W).mono fun e W' ⟨he, hf⟩ => ?_
  subst he
  exact ⟨_, rfl, law_post (P := Try.prog) laidOut (by kernel_rfl) hW' hA' rfl rfl (by kernel_rfl) Try.underlying4 hf⟩

theorem wireApart_holds : Rows.WireApartSaid :=
  OpenClaim.holds_of_wide 9 Try.f9 rfl rfl rfl rfl rfl rfl rfl ⟨rfl, rfl, rfl, rfl, rfl⟩ rfl rfl rfl rfl rfl (by kernel_rfl) Try.func9 (by kernel_rfl)
    (of_decide_eq_true (by kernel_rfl)) (by unfold Func.isWrapper; first | (rw [if_pos (by decide +kernel)]; kernel_rfl) | (rw [if_neg (by decide +kernel)]; exact ⟨rfl, rfl⟩))
    (fun os started H enc _ => wireApart_lifted os started H enc)
#print axioms wireApart_holds
end Go.Proofs.Ytdihigmcihheoaa
