/-
  Lists of values in memory; what 'Pack' of the wire gives.
-/
import Derived.Test.YtdihigmcihheoaaWB
set_option linter.unusedVariables false
set_option linter.unusedSimpArgs false
namespace Go.Proofs.Ytdihigmcihheoaa
open Go.FW

/-- A slice of values reads as a list. -/
def RdV (w : World) (v : Value) (l : List Vl) : Prop := ∃ A c, v = .slice A l.length c ∧ l.length ≤ c ∧ ∀ i (h : i < l.length), ∃ a, A = some a ∧ ∀ j u, (l[i]).cells[j]? = some u → w.cell? (a.add (i * 5 + j)) = some u

theorem RdV.no {w w1 : World} {v : Value} {l : List Vl} (h : RdV w v l) (hf : Fr No w w1) : RdV w1 v l := by
  obtain ⟨A, c, hv, hc, hr⟩ := h
  refine ⟨A, c, hv, hc, fun i hi => ?_⟩
  obtain ⟨a, ha, hj⟩ := hr i hi
  refine ⟨a, ha, fun j u hu => ?_⟩
  have h1 := hj j u hu
  have hlt := World.block_lt_of_cell? w _ h1
  rw [← h1]
  exact World.cell?_of_block (hf.block _ hlt id)

/-- An element's cells. -/
theorem RdV.at_ {w : World} {v : Value} {l : List Vl} (h : RdV w v l) {i : Nat} (hi : i < l.length) :
    ∃ a c, v = .slice (some a) l.length c ∧ ∀ j u, (l[i]).cells[j]? = some u → w.cell? ((a.add (i * 5)).add j) = some u := by
  obtain ⟨A, c, hv, hc, hr⟩ := h
  obtain ⟨a, rfl, hj⟩ := hr i hi
  exact ⟨a, c, hv, fun j u hu => by rw [add_add]; exact hj j u hu⟩
theorem RdV.form {w : World} {v : Value} {l : List Vl} (h : RdV w v l) : ∃ A c, v = .slice A l.length c := by
  obtain ⟨A, c, hv, _⟩ := h
  exact ⟨A, c, hv⟩

theorem size_val : ((Try.prog.info? 36).map (·.size)) = some 5 := by kernel_rfl

theorem firstE_take {l : List Vl} : ∀ {j : Nat} (hj : j < l.length), firstE (l.take j) = 0 → (l[j]).validE ≠ 0 → firstE l = (l[j]).validE := by
  induction l with
  | nil => intro j hj; cases hj
  | cons v r ih =>
    intro j hj h1 h2
    cases j with
    | zero =>
      simp only [List.getElem_cons_zero] at h2 ⊢
      rw [firstE, if_neg h2]
    | succ j =>
      simp only [List.take_succ_cons, firstE] at h1
      simp only [List.getElem_cons_succ] at h2 ⊢
      by_cases hv : v.validE = 0
      · rw [if_pos hv] at h1
        rw [firstE, if_pos hv]
        exact ih (by simpa using hj) h1 h2
      · rw [if_neg hv] at h1
        exact absurd h1 hv
theorem firstE_snoc {l : List Vl} {j : Nat} (hj : j < l.length) (h1 : firstE (l.take j) = 0) (h2 : (l[j]).validE = 0) : firstE (l.take (j + 1)) = 0 := by
  have key : ∀ (a : List Vl) (v : Vl), firstE a = 0 → v.validE = 0 → firstE (a ++ [v]) = 0 := by
    intro a v
    induction a with
    | nil => intro _ h; simp [firstE, h]
    | cons x r ih =>
      intro h h'
      simp only [List.cons_append, firstE] at h ⊢
      by_cases hv : x.validE = 0
      · rw [if_pos hv] at h ⊢; exact ih h h'
      · rw [if_neg hv] at h; exact absurd h hv
  rw [List.take_succ_eq_append_getElem hj]
  exact key _ _ h1 h2
theorem packB_snoc {l : List Vl} {j : Nat} (hj : j < l.length) : packB (l.take (j + 1)) = packB (l.take j) ++ oneB l[j] := by
  unfold packB
  rw [List.take_succ_eq_append_getElem hj, List.flatMap_append]
  simp only [List.flatMap_cons, List.flatMap_nil, List.append_nil]
theorem packB_len {l : List Vl} (hw : ∀ v ∈ l, v.Wf) (h : firstE l = 0) : (packB l).length ≤ 1011 * l.length := by
  induction l with
  | nil => simp [packB]
  | cons v r ih =>
    simp only [firstE] at h
    by_cases hv : v.validE = 0
    · rw [if_pos hv] at h
      have h1 := oneB_len (hw v (by simp)) hv
      have h2 := ih (fun x hx => hw x (by simp [hx])) h
      simp only [packB, List.flatMap_cons, List.length_append, List.length_cons] at h2 ⊢
      omega
    · rw [if_neg hv] at h; exact absurd h hv

section
variable {x : PX} {w : World} {K : Value → World → Prop}

theorem pack_s {v : Value} {l : List Vl} (hr : RdV w v l) (hw : ∀ x ∈ l, x.Wf) (hlen : l.length ≤ 1000000)
    (hk1 : ∀ b w1, packE l = 0 → OwnB w1 b (packB l) → Fr No w w1 → (∀ k, b.ownBlock = some k → w.heap.size ≤ k) → K (.tuple #[b, .int .i64 0]) w1)
    (hk2 : ∀ w1, packE l ≠ 0 → Fr No w w1 → K (.tuple #[.slice none 0 0, .int .i64 (packE l)]) w1) : callS Try.prog x 13 #[v] w K := by
  obtain ⟨A, c, rfl⟩ := hr.form
  refine s13 ?_
  unfold m13 m13_1 m13_2
  refine runK_of (r_len _ _ _ 36 _ Try.underlying22 _ _ _) ?_
  refine runK_of (r_gtr ..) ?_
  refine condF_dec (fun h => ?_) (fun h => ?_)
  · have e : packE l = 20 := by unfold packE; rw [if_pos (by omega)]
    have := hk2 w (by rw [e]; decide) (Fr.refl _ w)
    rw [e] at this
    exact this
  have hle : l.length ≤ 1000 := by omega
  have hE : packE l = firstE l := by unfold packE; rw [if_neg (by omega)]
  rw [hE] at hk1 hk2
  unfold m13_3 m13_6
  refine runK_of (r_len _ _ _ 36 _ Try.underlying22 _ _ _) ?_
  unfold m13_8
  refine ⟨fun t w' => ∃ (b : Value) (j : Nat), j ≤ l.length ∧ t = (b, .slice A l.length c, .int .i64 l.length, .int .i64 j) ∧ firstE (l.take j) = 0 ∧ OwnB w' b (packB (l.take j)) ∧ Fr No w w' ∧
      (∀ k, b.ownBlock = some k → w.heap.size ≤ k), fun t _ => match t.2.2.2 with | .int _ q => l.length - q.toNat | _ => 0,
    ⟨_, 0, by omega, rfl, rfl, ⟨by simp [packB], .inl ⟨rfl, rfl⟩⟩, Fr.refl _ w, by simp [Value.ownBlock]⟩, ?_⟩
  rintro _ w1 ⟨b, j, hj, rfl, hf0, ho, hf, hfr⟩
  dsimp only
  unfold m13_9 m13_5
  refine runK_of (r_lss ..) ?_
  refine condF_dec (fun h => ?_) (fun h => ?_)
  · have hjl : j < l.length := by omega
    obtain ⟨a, c', hv, hc⟩ := (hr.no hf).at_ hjl
    injection hv with hA _ _
    subst hA
    have hwj := hw _ (List.getElem_mem hjl)
    refine runK_of (r_indexAddr _ _ Try.underlying22 5 size_val _ _ _ _ _ hjl _) ?_
    refine runK_of (r_loadn 36 (l[j]).cells (by kernel_rfl) _ _ hc) ?_
    refine k_alloc (z := .agg #[.int .i64 0, .int .u64 0, .int .i64 0, .float .f64 0, .string ⟨#[]⟩]) (by kernel_rfl) fun w2 hf2 hs2 hb2 => ?_
    refine k_storen hb2 rfl (by intro u hu; simp [Vl.cells] at hu; rcases hu with rfl | rfl | rfl | rfl | rfl <;> rfl) size_val fun w3 hf3 hs3 hb3 => ?_
    have hn3 : Fr No w1 w3 := hf2.new hf3 (by intro k hk; omega)
    have hload : ∀ w4, Blk w4 w1.heap.size 36 (l[j]).cells → (Instr.loadAt 36 (.pointer (some ⟨w1.heap.size, 0, none⟩))).run Try.prog w4 = .ok (l[j]).val w4 := fun w4 hb =>
      r_loadn 36 (l[j]).cells (by kernel_rfl) _ _ (fun i u hi => by rw [add_lit, hb.cell, Nat.zero_add]; exact hi)
    refine runK_of (hload w3 hb3) ?_
    refine valid_s (l[j]) fun w4 hf4 => ?_
    have hn4 := hn3.no hf4
    refine runK_of (r_neq ..) ?_
    refine condF_of (fun he => ?_) (fun he => ?_)
    · have he' : (l[j]).validE ≠ 0 := by simpa using he
      have e := firstE_take hjl hf0 he'
      have := hk2 w4 (by rw [e]; exact he') (hf.no hn4)
      rw [e] at this
      exact this
    · have he' : (l[j]).validE = 0 := by simpa using he
      refine runK_of (hload w4 (hb3.no hf4)) ?_
      have hpl : (packB (l.take j)).length ≤ 1011 * 1000 := by
        have := packB_len (l := l.take j) (fun x hx => hw x (List.mem_of_mem_take hx)) hf0
        have h2 : (l.take j).length ≤ 1000 := by rw [List.length_take]; omega
        omega
      refine put_s (l[j]) hwj he' (own_no ho hn4) (by omega) fun b5 w5 ho5 ha5 => ?_
      refine runK_of (r_add ..) ?_
      rw [wrap_i64 _ (by omega) (by omega)]
      have hsz := hn4.size
      have hsz0 := hf.size
      refine ⟨⟨b5, j + 1, by omega, by simp, firstE_snoc hjl hf0 he', by rw [packB_snoc hjl]; exact ho5, (hf.no hn4).new ha5.fr (fun k hk => hfr k hk), fun k hk => ?_⟩, by dsimp only; omega⟩
      rcases ha5.own with e | e
      · rw [e] at hk; exact hfr k hk
      · have := e k hk; omega
  · have hjl : j = l.length := by omega
    subst hjl
    rw [List.take_length] at hf0 ho
    exact hk1 b w1 hf0 ho hf hfr
end
end Go.Proofs.Ytdihigmcihheoaa
