/-
  The walks of WireJoins and WireApart.
-/
import Derived.Test.YtdihigmcihheoaaWT
set_option linter.unusedVariables false
set_option linter.unusedSimpArgs false
set_option maxRecDepth 20000
namespace Go.Proofs.Ytdihigmcihheoaa
open Go.FW

theorem OwnB.lt {w : World} {v : Value} {bs : List UInt8} (h : OwnB w v bs) : ∀ k, v.ownBlock = some k → k < w.heap.size := by
  intro k hk
  obtain ⟨_, ⟨rfl, _⟩ | ⟨g, cap, cur, rfl, _, hg, _⟩⟩ := h
  · simp [Value.ownBlock] at hk
  · have : g = k := by simpa [Value.ownBlock] using hk
    subst this
    exact (Array.getElem?_eq_some_iff.1 hg).1
theorem OwnV.lt {w : World} {v : Value} {l : List Vl} (h : OwnV w v l) : ∀ k, v.ownBlock = some k → k < w.heap.size := by
  intro k hk
  obtain ⟨_, ⟨rfl, _⟩ | ⟨g, cap, cur, rfl, _, hg, _⟩⟩ := h
  · simp [Value.ownBlock] at hk
  · have : g = k := by simpa [Value.ownBlock] using hk
    subst this
    exact (Array.getElem?_eq_some_iff.1 hg).1

section
variable {x : PX} {w : World} {K : Value → World → Prop}

theorem app_bytes {v u : Value} {l m : List UInt8} (hown : OwnB w v l) (hr : RdB w u m) (hl : l.length + m.length ≤ 1000000000) (hk : ∀ v' w1, OwnB w1 v' (l ++ m) → App w v w1 v' → K v' w1) :
    runK Try.prog x (Builtin.append_ #[25, 25] 25 #[v, u]) w K := by
  obtain ⟨i0, hi0, hz0, hz1, hz2⟩ := info_parts info_u8
  obtain ⟨A, c, rfl, hcc⟩ := hr.form
  by_cases hm : m = []
  · subst hm
    have hrun : (Builtin.append_ #[25, 25] 25 #[v, .slice A ([] : List UInt8).length c]).run Try.prog w = .ok v w := by
      obtain ⟨_, ⟨rfl, _⟩ | ⟨g, cap, cur, rfl, _, _, hle, _⟩⟩ := hown
      · cases A <;> simp [Builtin.append_, run_underlying Try.underlying25, sizeOf, typeInfo, hi0, hz1, Builtin.lenOf, Builtin.firstCells, loadCells, loadCellsFrom]
      · cases A <;> simp [Builtin.append_, run_underlying Try.underlying25, sizeOf, typeInfo, hi0, hz1, Builtin.lenOf, Builtin.firstCells, loadCells, loadCellsFrom, hle, storeCells]
    exact runK_of hrun (hk v w (by rw [List.append_nil]; exact hown) (App.refl _ _))
  · obtain ⟨A', c', hv, _, hcell⟩ := hr
    obtain ⟨g, o, rfl, hg⟩ := hcell hm
    injection hv with hv _ _
    subst hv
    refine k_append (news := m.map bv) Try.underlying25 hi0 hz0 hz1 hz2 rfl (by decide) hown (by simp) (fun j u hj => by rw [add_lit]; exact hg j u hj) ?_ (by omega) (by decide) fun v' w1 ho ha => hk v' w1 ?_ ha
    · intro q hq
      obtain ⟨z, _, rfl⟩ := List.mem_map.1 hq
      rfl
    · unfold OwnB
      rw [List.map_append, List.length_append]
      exact ho

/-- 'append(append([]byte{}, a...), b...)'. -/
theorem join_bytes {u1 u2 : Value} {l m : List UInt8} (h1 : RdB w u1 l) (h2 : RdB w u2 m) (hl : l.length + m.length ≤ 1000000000) (hk : ∀ v' w1, OwnB w1 v' (l ++ m) → Fr No w w1 → K v' w1) :
    runK Try.prog x (Instr.buildSlice 25 0 #[]) w fun s w => runK Try.prog x (Builtin.append_ #[25, 25] 25 #[s, u1]) w fun s w => runK Try.prog x (Builtin.append_ #[25, 25] 25 #[s, u2]) w K := by
  refine runK_of (w' := w.alloc (.cells #[] 5)) (v := .slice (some ⟨w.heap.size, 0, none⟩) 0 0) (by kernel_rfl) ?_
  have hf1 := Fr.alloc w (.cells #[] 5)
  have ho1 : OwnB (w.alloc (.cells #[] 5)) (.slice (some ⟨w.heap.size, 0, none⟩) 0 0) [] :=
    ⟨rfl, .inr ⟨w.heap.size, 0, #[], rfl, Nat.zero_le _, heap_alloc_new w _, Nat.le_refl _, Nat.zero_le _, rfl, rfl⟩⟩
  refine app_bytes ho1 (h1.no hf1) (by simp; omega) fun v2 w2 ho2 ha2 => ?_
  have hf2 : Fr No w w2 := hf1.new ha2.fr (fun k hk => by simp [Value.ownBlock] at hk; omega)
  refine app_bytes ho2 (h2.no hf2) (by simpa using hl) fun v3 w3 ho3 ha3 => ?_
  refine hk v3 w3 ho3 (hf2.new ha3.fr fun k hk => ?_)
  rcases ha2.own with e | e
  · rw [e] at hk; simp [Value.ownBlock] at hk; omega
  · have := e k hk; have := hf1.size; omega
theorem join_vals {u1 u2 : Value} {l m : List Vl} (h1 : RdV w u1 l) (h2 : RdV w u2 m) (hl : l.length + m.length ≤ 1000000) (hk : ∀ v' w1, OwnV w1 v' (l ++ m) → Fr No w w1 → K v' w1) :
    runK Try.prog x (Instr.buildSlice 22 0 #[]) w fun s w => runK Try.prog x (Builtin.append_ #[22, 22] 22 #[s, u1]) w fun s w => runK Try.prog x (Builtin.append_ #[22, 22] 22 #[s, u2]) w K := by
  refine runK_of (w' := w.alloc (.cells #[] 36)) (v := .slice (some ⟨w.heap.size, 0, none⟩) 0 0) (by kernel_rfl) ?_
  have hf1 := Fr.alloc w (.cells #[] 36)
  have ho1 : OwnV (w.alloc (.cells #[] 36)) (.slice (some ⟨w.heap.size, 0, none⟩) 0 0) [] :=
    ⟨rfl, .inr ⟨w.heap.size, 0, #[], rfl, Nat.zero_le _, heap_alloc_new w _, Nat.le_refl _, Nat.zero_le _, rfl, rfl⟩⟩
  refine app_vals ho1 (h1.no hf1) (by simp; omega) fun v2 w2 ho2 ha2 => ?_
  have hf2 : Fr No w w2 := hf1.new ha2.fr (fun k hk => by simp [Value.ownBlock] at hk; omega)
  refine app_vals ho2 (h2.no hf2) (by simpa using hl) fun v3 w3 ho3 ha3 => ?_
  refine hk v3 w3 ho3 (hf2.new ha3.fr fun k hk => ?_)
  rcases ha2.own with e | e
  · rw [e] at hk; simp [Value.ownBlock] at hk; omega
  · have := e k hk; have := hf1.size; omega

theorem joins_walk {v1 v2 : Value} {l m : List Vl} (w : World) (hr1 : RdV w v1 l) (hr2 : RdV w v2 m) (hw1 : ∀ x ∈ l, x.Wf) (hw2 : ∀ x ∈ m, x.Wf) : Calls Try.prog 8 #[v1, v2] w (Yes w) := by
  obtain ⟨A, c, rfl⟩ := hr1.form
  obtain ⟨B, d, rfl⟩ := hr2.form
  refine c8 _ _ _ _ ?_
  unfold m8 m8_1 m8_2
  refine few_s hr1 fun r hfew => ?_
  refine runK_of (r_not _ _ _) ?_
  refine condF_of (fun h => ?_) (fun h => ?_)
  · exact awake_yes (Fr.refl _ w)
  have hfew1 : FewP l := hfew.1 (by simpa using h)
  refine few_s hr2 fun r hfew => ?_
  refine runK_of (r_not _ _ _) ?_
  refine condF_of (fun h => ?_) (fun h => ?_)
  · exact awake_yes (Fr.refl _ w)
  have hfew2 : FewP m := hfew.1 (by simpa using h)
  have hl1 := hfew1.1
  have hl2 := hfew2.1
  unfold m8_3
  have tail : ∀ (b1 b2 : Value) (w2 : World), Fr No w w2 → (packE l = 0 → OwnB w2 b1 (packB l)) → (packE m = 0 → OwnB w2 b2 (packB m)) → m8_5 (.slice A l.length c) (.slice B m.length d) b1 (.int .i64 (packE l)) b2 (.int .i64 (packE m)) (Yes w) w2 := by
    intro b1 b2 w2 hn2 ho1 ho2
    unfold m8_5
    refine awake_s fun w3 hf3 => ?_
    have hn3 := hn2.no hf3
    refine runK_of (r_not _ _ _) ?_
    refine not_yes ?_
    refine runK_of (r_neq ..) ?_
    by_cases he1 : packE l = 0
    rotate_left
    · refine condF_neq' he1 ?_
      exact awake_yes hn3
    refine condF_neq he1 ?_
    refine runK_of (r_neq ..) ?_
    by_cases he2 : packE m = 0
    rotate_left
    · refine condF_neq' he2 ?_
      exact awake_yes hn3
    refine condF_neq he2 ?_
    have ho1 := own_no (ho1 he1) hf3
    have ho2 := own_no (ho2 he2) hf3
    have bd1 := packB_bound hw1 he1
    have bd2 := packB_bound hw2 he2
    unfold m8_6
    refine join_bytes (OwnB.rdb ho1) (OwnB.rdb ho2) (by omega) fun b w4 ho4 hf4 => ?_
    have hn4 := hn3.no hf4
    have hwA : ∀ z ∈ l ++ m, z.Wf := fun z hz => by
      rcases List.mem_append.1 hz with h | h
      · exact hw1 z h
      · exact hw2 z h
    have hfA : firstE (l ++ m) = 0 := (firstE_append l m).2 ⟨(packE_zero he1).2, (packE_zero he2).2⟩
    rw [← packB_append] at ho4
    have hlenA : (l ++ m).length = l.length + m.length := List.length_append
    refine unpack_s (OwnB.rdb ho4) (by rw [packB_append, List.length_append]; omega) (fun l' v' w5 hg hf5 ho5 _ => ?_) (fun l' a e w5 hg hlt he' hf5 => ?_)
    · have hn5 := hn4.no hf5
      have hle : l.length + m.length ≤ 1000 := by
        rcases Nat.lt_or_ge 1000 (l ++ m).length with h | h
        · exact (Stop.not_all (stop_many hfA hwA h) hg).elim
        · omega
      have hl' := Got.all_one hg (got_pack (packE_of (by omega) hfA) hwA)
      subst hl'
      refine runK_of (r_ext0 _ _ [_, _, _] 0 _ rfl) ?_
      refine runK_of (r_ext0 _ _ [_, _, _] 1 _ rfl) ?_
      refine runK_of (r_ext0 _ _ [_, _, _] 2 _ rfl) ?_
      refine runK_of (r_len _ _ _ 36 _ Try.underlying22 _ _ _) ?_
      refine runK_of (r_len _ _ _ 36 _ Try.underlying22 _ _ _) ?_
      refine runK_of (r_add ..) ?_
      rw [wrap_i64 _ (by omega) (by omega)]
      refine runK_of (r_gtr ..) ?_
      refine condF_no (by omega) ?_
      refine runK_of (r_eql ..) ?_
      refine condF_yes rfl ?_
      refine join_vals (hr1.no hn5) (hr2.no hn5) (by omega) fun v6 w6 ho6 hf6 => ?_
      refine all_r ((OwnV.rd ho5).no hf6) (OwnV.rd ho6) (fun u hu => ?_) hwA (by rw [List.length_map]; omega) fun r w7 hf7 hr7 => ?_
      · obtain ⟨z, hz, rfl⟩ := List.mem_map.1 hu
        exact normV_wf (hwA z hz)
      · rw [hr7.2 (all_norm' _)]
        exact yes_of ((hn5.no hf6).no hf7)
    · have hn5 := hn4.no hf5
      have hgt : 1000 < (l ++ m).length := by
        rcases Nat.lt_or_ge 1000 (l ++ m).length with h | h
        · exact h
        · exact (Stop.not_all (⟨hg, hlt, he'⟩ : Stop _ _ _ _) (got_pack (packE_of h hfA) hwA)).elim
      obtain ⟨_, _, rfl⟩ := (stop_many hfA hwA hgt).one (⟨hg, hlt, he'⟩ : Stop _ _ _ _)
      refine runK_of (r_ext0 _ _ [_, _, _] 0 _ rfl) ?_
      refine runK_of (r_ext0 _ _ [_, _, _] 1 _ rfl) ?_
      refine runK_of (r_ext0 _ _ [_, _, _] 2 _ rfl) ?_
      refine runK_of (r_len _ _ _ 36 _ Try.underlying22 _ _ _) ?_
      refine runK_of (r_len _ _ _ 36 _ Try.underlying22 _ _ _) ?_
      refine runK_of (r_add ..) ?_
      rw [wrap_i64 _ (by omega) (by omega)]
      refine runK_of (r_gtr ..) ?_
      refine condF_yes (by omega) ?_
      refine runK_of (r_eql ..) ?_
      refine condF_yes rfl ?_
      refine runK_of (r_len _ _ _ 36 _ Try.underlying22 _ _ _) ?_
      refine runK_of (r_eql ..) ?_
      exact yes_of hn5
  have mid : ∀ (b1 : Value) (w1 : World), Fr No w w1 → (packE l = 0 → OwnB w1 b1 (packB l)) → m8_4 (.slice A l.length c) (.slice B m.length d) b1 (.int .i64 (packE l)) (Yes w) w1 := by
    intro b1 w1 hn1 ho1
    unfold m8_4
    refine pack_s (hr2.no hn1) hw2 (by omega) (fun b w2 he ho hf2 _ => ?_) (fun w2 he hf2 => ?_)
    · refine runK_of (r_ext0 _ _ [_, _] 0 _ rfl) ?_
      refine runK_of (r_ext0 _ _ [_, _] 1 _ rfl) ?_
      have := tail b1 b w2 (hn1.no hf2) (fun h => own_no (ho1 h) hf2) (fun _ => ho)
      rw [he] at this
      exact this
    · refine runK_of (r_ext0 _ _ [_, _] 0 _ rfl) ?_
      refine runK_of (r_ext0 _ _ [_, _] 1 _ rfl) ?_
      exact tail b1 _ w2 (hn1.no hf2) (fun h => own_no (ho1 h) hf2) (fun h => absurd h he)
  refine pack_s hr1 hw1 (by omega) (fun b w1 he ho hf1 _ => ?_) (fun w1 he hf1 => ?_)
  · refine runK_of (r_ext0 _ _ [_, _] 0 _ rfl) ?_
    refine runK_of (r_ext0 _ _ [_, _] 1 _ rfl) ?_
    have := mid b w1 hf1 (fun _ => ho)
    rw [he] at this
    exact this
  · refine runK_of (r_ext0 _ _ [_, _] 0 _ rfl) ?_
    refine runK_of (r_ext0 _ _ [_, _] 1 _ rfl) ?_
    exact mid _ w1 hf1 (fun h => absurd h he)
end
end Go.Proofs.Ytdihigmcihheoaa
