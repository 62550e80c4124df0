/-
  The wire's laws: what their arguments are.
-/
import Derived.Test.YtdihigmcihheoaaWL
import Derived.Test.YtdihigmcihheoaaFR
import Derived.Test.YtdihigmcihheoaaRows
import Derived.OpenShut
set_option linter.unusedVariables false
set_option linter.unusedSimpArgs false
set_option maxRecDepth 20000
namespace Go.Proofs.Ytdihigmcihheoaa
open Go.FW Go.RowKit Go.WideShapes Go.ChangeShapes Go.Deep Go.Joins Go.ChangeAt
open Go.ChangeMaps (open_string shut_string)

theorem own : ownKnob Try.prog.godebug = none := by kernel_rfl
theorem laidOut : laidOutB Try.prog = true := by kernel_rfl

section
variable {H : Type} {enc : TypeId × Value → H} {w : World} {base : Nat} {spare : Nat → Bool} {held : Bool}

theorem wf_of {c0 c1 c2 c3 c4 : Value} {fuel0 fuel1 fuel2 fuel3 fuel4 : Nat} {y0 y1 y2 y3 y4 : DataW H × List MemPlace}
    (h0 : DataW.trod enc Try.prog w base spare held fuel0 32 [c0] = some y0) (h1 : DataW.trod enc Try.prog w base spare held fuel1 33 [c1] = some y1)
    (h2 : DataW.trod enc Try.prog w base spare held fuel2 2 [c2] = some y2) (h3 : DataW.trod enc Try.prog w base spare held fuel3 34 [c3] = some y3)
    (h4 : DataW.trod enc Try.prog w base spare held fuel4 9 [c4] = some y4) : ∃ v : Vl, [c0, c1, c2, c3, c4] = v.cells ∧ v.Wf := by
  obtain ⟨k, e0, _, w0⟩ := DataW.trod_int Try.underlying32 h0
  obtain ⟨u, e1, _, w1⟩ := DataW.trod_int Try.underlying33 h1
  obtain ⟨i, e2, _, w2⟩ := DataW.trod_int Try.underlying2 h2
  obtain ⟨f, e3, w3⟩ := trod_float Try.underlying34 h3
  obtain ⟨s, e4, _, w4⟩ := DataW.trod_string Try.underlying9 h4
  simp only [List.cons.injEq, and_true] at e0 e1 e2 e3 e4
  subst e0 e1 e2 e3 e4
  refine ⟨⟨k, u, i, f, s⟩, rfl, ?_⟩
  have b0 := bounds_i64 w0
  have b1 := bounds_u64 w1
  have b2 := bounds_i64 w2
  have b3 : f < 18446744073709551616 := of_decide_eq_true w3
  exact ⟨b0, ⟨b1.1, by show u < 18446744073709551616; omega⟩, b2, b3, w4⟩

theorem fields_val : Try.prog.underlying 36 = some (.struct (match Try.prog.underlying 36 with | some (.struct fs) => fs | _ => #[])) := by kernel_rfl

theorem open_vals {r : Reach} {b0 : Nat} {v : Value} {d : DataW H} {p : List MemPlace} (hv : Value.okWide Try.prog w r b0 22 v) (h : DataW.Trod enc Try.prog w base spare held 22 v d p) : ∃ l : List Vl, RdV w v l ∧ ∀ x ∈ l, x.Wf := by
  obtain ⟨a0, len0, cap0, rfl⟩ := okWide_slice Try.underlying22 hv
  obtain ⟨fuel, hf⟩ := h
  rcases open_slice_fields (t := 22) (e := 36) Try.underlying22 fields_val (by kernel_rfl) (by kernel_rfl) hf with ⟨hc, _⟩ | ⟨a, len, cap, m, D, Pl, hc, _, hle, hcap, hm, _, hi⟩
  · have hc : Value.slice a0 len0 cap0 = .slice none 0 0 := by simpa [Value.cells] using hc
    rw [hc]
    exact ⟨[], ⟨none, 0, rfl, Nat.le_refl _, fun i hi => absurd hi (Nat.not_lt_zero _)⟩, fun x hx => by cases hx⟩
  · have hc : Value.slice a0 len0 cap0 = .slice (some a) len cap := by simpa [Value.cells] using hc
    rw [hc]
    have hlm : len ≤ m := by rw [hm]; split <;> omega
    have key : ∀ i, i < len → ∃ V : Vl, (∀ j u, V.cells[j]? = some u → w.cell? (a.add (i * 5 + j)) = some u) ∧ V.Wf := by
      intro i hil
      obtain ⟨ys, n, _, _, _, hg⟩ := hi i (by omega)
      obtain ⟨c0, y0, k0, _, t0⟩ := hg 0 _ rfl
      obtain ⟨c1, y1, k1, _, t1⟩ := hg 1 _ rfl
      obtain ⟨c2, y2, k2, _, t2⟩ := hg 2 _ rfl
      obtain ⟨c3, y3, k3, _, t3⟩ := hg 3 _ rfl
      obtain ⟨c4, y4, k4, _, t4⟩ := hg 4 _ rfl
      obtain ⟨V, hV, hw⟩ := wf_of t0 t1 t2 t3 t4
      refine ⟨V, fun j u hu => ?_, hw⟩
      rw [← hV] at hu
      match j, hu with
      | 0, hu => cases hu; exact k0
      | 1, hu => cases hu; exact k1
      | 2, hu => cases hu; exact k2
      | 3, hu => cases hu; exact k3
      | 4, hu => cases hu; exact k4
      | j + 5, hu => simp at hu
    refine ⟨List.ofFn fun i : Fin len => Classical.choose (key i.1 i.2), ⟨some a, cap, by simp, by simpa using hle, fun i hi => ⟨a, rfl, fun j u hu => ?_⟩⟩, fun x hx => ?_⟩
    · have hil : i < len := by simpa using hi
      rw [List.getElem_ofFn] at hu
      exact (Classical.choose_spec (key i hil)).1 j u hu
    · obtain ⟨i, rfl⟩ := List.mem_ofFn.1 hx
      exact (Classical.choose_spec (key i.1 i.2)).2
theorem open_val {r : Reach} {b0 : Nat} {v : Value} {d : DataW H} {p : List MemPlace} (hv : Value.okWide Try.prog w r b0 36 v) (h : DataW.Trod enc Try.prog w base spare held 36 v d p) : ∃ V : Vl, v = V.val ∧ V.Wf := by
  obtain ⟨c0, c1, c2, c3, c4, y0, y1, y2, y3, y4, n, rfl, _, _, t0, t1, t2, t3, t4⟩ := open_agg5 fields_val (by kernel_rfl) (by kernel_rfl) hv h
  obtain ⟨V, hV, hw⟩ := wf_of t0 t1 t2 t3 t4
  refine ⟨V, ?_, hw⟩
  simp only [Vl.cells, List.cons.injEq, and_true] at hV
  obtain ⟨rfl, rfl, rfl, rfl, rfl⟩ := hV
  rfl
end
end Go.Proofs.Ytdihigmcihheoaa
