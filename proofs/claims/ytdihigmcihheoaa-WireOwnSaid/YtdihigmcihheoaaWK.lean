/-
  What is read is determined; the chapter's example.
-/
import Derived.Test.YtdihigmcihheoaaWJ
set_option linter.unusedVariables false
set_option linter.unusedSimpArgs false
set_option maxRecDepth 20000
namespace Go.Proofs.Ytdihigmcihheoaa
open Go.FW

theorem drop_inj {α : Type} {l : List α} {a b : Nat} (h : l.drop a = l.drop b) (ha : a ≤ l.length) (hb : b ≤ l.length) : a = b := by
  have := congrArg List.length h
  rw [List.length_drop, List.length_drop] at this
  omega
theorem Got.pre {bs : List UInt8} {l : List Vl} {a : Nat} (h : Got bs l a) {l' : List Vl} {a' : Nat} (h' : Got bs l' a') : l.length ≤ l'.length → ∃ r, l' = l ++ r ∧ (r = [] → a' = a) ∧ (r ≠ [] → a < a') := by
  induction h' generalizing l a with
  | nil =>
    intro hl
    cases h with
    | nil => exact ⟨[], rfl, fun _ => rfl, fun h => absurd rfl h⟩
    | snoc => simp at hl
  | snoc h0 n0 p0 lt0 le0 w0 ih =>
    rename_i l0 a0 a1 v0
    intro hl
    rcases Nat.lt_or_ge l.length (l0.length + 1) with hlt | hge
    · obtain ⟨r, e1, e2, e3⟩ := ih h (by omega)
      refine ⟨r ++ [v0], by rw [e1, List.append_assoc], fun e => by simp at e, fun _ => ?_⟩
      by_cases hr : r = []
      · have := e2 hr; omega
      · have := e3 hr; omega
    · -- as long as the other
      cases h with
      | nil => simp at hge
      | snoc h2 n2 p2 lt2 le2 w2 =>
        rename_i l2 a2 v2
        have hlen : l2.length = l0.length := by simp at hge hl; omega
        obtain ⟨r, e1, e2, e3⟩ := ih h2 (by omega)
        have hr : r = [] := by
          have := congrArg List.length e1
          rw [List.length_append] at this
          exact List.eq_nil_of_length_eq_zero (by omega)
        subst hr
        rw [List.append_nil] at e1
        subst e1
        have := e2 rfl
        subst this
        rw [p0] at p2
        injection p2 with p2
        injection p2 with q1 q2
        subst q1
        exact ⟨[], by simp, fun _ => drop_inj q2 le0 le2, fun h => absurd rfl h⟩
theorem Got.one {bs : List UInt8} {l : List Vl} {a : Nat} (h : Got bs l a) {l' : List Vl} {a' : Nat} (h' : Got bs l' a') (hl : l.length = l'.length) : l = l' ∧ a = a' := by
  obtain ⟨r, e1, e2, _⟩ := h.pre h' (by omega)
  have hr : r = [] := by
    have := congrArg List.length e1
    rw [List.length_append] at this
    exact List.eq_nil_of_length_eq_zero (by omega)
  subst hr
  exact ⟨by rw [e1, List.append_nil], (e2 rfl).symm⟩
theorem Got.all_one {bs : List UInt8} {l l' : List Vl} (h : Got bs l bs.length) (h' : Got bs l' bs.length) : l = l' := by
  have key : ∀ {l l' : List Vl}, Got bs l bs.length → Got bs l' bs.length → l.length ≤ l'.length → l = l' := by
    intro l l' h h' hl
    obtain ⟨r, e1, _, e3⟩ := h.pre h' hl
    by_cases hr : r = []
    · rw [e1, hr, List.append_nil]
    · have := e3 hr; omega
  rcases Nat.le_total l.length l'.length with hl | hl
  · exact key h h' hl
  · exact (key h' h hl).symm

/-- Where it stops, and why. -/
def Stop (bs : List UInt8) (l : List Vl) (a : Nat) (e : Int) : Prop := Got bs l a ∧ a < bs.length ∧ (l.length = 1000 ∧ e = 20 ∨ l.length ≠ 1000 ∧ valP (bs.drop a) = .error e)
theorem Stop.most {bs : List UInt8} {l : List Vl} {a : Nat} {e : Int} (h : Stop bs l a e) {l' : List Vl} {a' : Nat} (h' : Got bs l' a') : l'.length ≤ l.length := by
  induction h' with
  | nil => simp
  | snoc h0 n0 p0 lt0 le0 w0 ih =>
    rename_i l0 a0 a1 v0
    rcases Nat.lt_or_ge l0.length l.length with hlt | hge
    · rw [List.length_append, List.length_singleton]; omega
    · have hl : l.length = l0.length := by omega
      obtain ⟨rfl, rfl⟩ := h.1.one h0 hl
      rcases h.2.2 with ⟨h3, _⟩ | ⟨_, h3⟩
      · exact absurd h3 n0
      · rw [p0] at h3; cases h3
theorem Stop.one {bs : List UInt8} {l l' : List Vl} {a a' : Nat} {e e' : Int} (h : Stop bs l a e) (h' : Stop bs l' a' e') : l = l' ∧ a = a' ∧ e = e' := by
  have h1 := h.most h'.1
  have h2 := h'.most h.1
  obtain ⟨rfl, rfl⟩ := h.1.one h'.1 (by omega)
  refine ⟨rfl, rfl, ?_⟩
  rcases h.2.2 with ⟨q1, q2⟩ | ⟨q1, q2⟩ <;> rcases h'.2.2 with ⟨r1, r2⟩ | ⟨r1, r2⟩
  · rw [q2, r2]
  · exact absurd q1 r1
  · exact absurd r1 q1
  · rw [q2] at r2; injection r2
theorem Stop.not_all {bs : List UInt8} {l l' : List Vl} {a : Nat} {e : Int} (h : Stop bs l a e) (h' : Got bs l' bs.length) : False := by
  have h1 := h.most h'
  obtain ⟨r, e1, e2, e3⟩ := h'.pre h.1 h1
  have h2 := h.2.1
  by_cases hr : r = []
  · have := e2 hr; omega
  · have := e3 hr; omega

/-! ### Bytes of a constant text -/
theorem k_bb {x : PX} {w : World} {K : Value → World → Prop} {g : Nat} {cs : List Value} {n c : Nat} (hB : Blk w g 5 cs)
    (hk : ∀ w1, Fr (· = g) w w1 → (∀ i, w1.cell? ⟨g, i, none⟩ = cs[i]?) → K (.slice (some ⟨g, 0, none⟩) n c) w1) : runK Try.prog x (convert 25 25 (.slice (some ⟨g, 0, none⟩) n c)) w K := by
  have hsh : w.shape? g = some (5, cs.length) := by
    unfold Blk at hB
    unfold World.shape?
    rw [hB]
    simp
  have hr : (convert 25 25 (.slice (some ⟨g, 0, none⟩) n c)).run Try.prog w = .ok (.slice (some ⟨g, 0, none⟩) n c) (w.freeze ⟨g, cs.length, none⟩ 1) := by
    simp [convert, run_underlying Try.underlying25, run_underlying Try.underlying5, markStringish, shape, freeze, hsh, Sem.run]
  have hcell : ∀ i, (w.freeze ⟨g, cs.length, none⟩ 1).cell? ⟨g, i, none⟩ = cs[i]? := by
    intro i
    unfold Blk at hB
    simp [World.freeze, World.cell?, Array.getElem?_modify, hB]
  refine runK_of hr (hk _ ⟨rfl, rfl, rfl, ?_, fun k hk hn => ?_⟩ hcell)
  · simp [World.freeze]
  · have : g ≠ k := fun e => hn e.symm
    simp [World.freeze, Array.getElem?_modify, this]
end Go.Proofs.Ytdihigmcihheoaa
