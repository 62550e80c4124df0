/-
  The laws WireValid, WirePacks and WireBack: the walks.
-/
import Derived.Test.YtdihigmcihheoaaWL
set_option linter.unusedVariables false
set_option linter.unusedSimpArgs false
set_option maxRecDepth 20000
namespace Go.Proofs.Ytdihigmcihheoaa
open Go.FW

/-- What a law's walk ends with. -/
def Yes (w : World) (e : Ending) (w' : World) : Prop := e = .returned (.bool true) ∧ Fr No w w'

theorem valid_walk (v : Vl) (w : World) : Calls Try.prog 4 #[v.val] w (Yes w) := by
  refine c4 _ _ _ ?_
  unfold m4 m4_1
  refine k_box fun w1 hf1 hs1 hb1 => ?_
  have hb1 : Blk w1 w.heap.size 36 v.cells := hb1
  generalize w.heap.size = g at *
  have hd := Fr.drew w1
  refine ⟨fun w' => Blk w' g 36 v.cells, hb1.no hd, ?_⟩
  have hb1 := hb1.no hd
  have hf1 := hf1.no hd
  refine awake_s fun w2 hf2 => ?_
  refine moreS_keep (hb1.no hf2) ?_
  rw [condF_true]
  refine quietK_of (fun w' hS => r_field 36 4 4 (by kernel_rfl) _ _) ?_
  refine quietK_of (fun w' hS => r_load1 9 (by kernel_rfl) _ _ _ (hS.cell 4)) ?_
  refine quietK_of (fun w' hS => r_slen _ _ _ _ _ Try.underlying9) ?_
  refine quietK_of (fun w' hS => r_gtr ..) ?_
  refine condF_dec (fun h => ?_) (fun h => ?_)
  · exact ⟨rfl, hf1.no hf2⟩
  have hl : ∀ w', Blk w' g 36 v.cells → (Instr.loadAt 36 (.pointer (some ⟨g, 0, none⟩))).run Try.prog w' = .ok v.val w' := fun w' hb =>
    r_loadn 36 v.cells (by kernel_rfl) _ _ (fun i u hi => by rw [add_lit, hb.cell, Nat.zero_add]; exact hi)
  refine quietK_of (fun w' hS => hl w' hS) ?_
  refine quietK_of (fun w' hS => hl w' hS) ?_
  refine valid_s v fun w3 hf3 => ?_
  have hb3 := (hb1.no hf2).no hf3
  refine moreS_keep hb3 ?_
  refine valid_r v fun w4 hf4 => ?_
  refine moreS_keep (hb3.no hf4) ?_
  refine quietK_of (fun w' hS => r_eql ..) ?_
  exact ⟨by rw [decide_eq_true rfl], ((hf1.no hf2).no hf3).no hf4⟩

theorem flat_len : ∀ (l : List Vl), (l.flatMap Vl.cells).length = l.length * 5
  | [] => rfl
  | v :: r => by rw [List.flatMap_cons, List.length_append, flat_len r, List.length_cons]; show 5 + _ = _; omega
theorem flat_get : ∀ (l : List Vl) (j : Nat) (u : Value), (l.flatMap Vl.cells)[j]? = some u → ∃ (i : Nat) (hi : i < l.length) (q : Nat), j = i * 5 + q ∧ (l[i]).cells[q]? = some u
  | [], j, u, h => by simp at h
  | v :: r, j, u, h => by
    rw [List.flatMap_cons] at h
    have h5 : v.cells.length = 5 := rfl
    rcases Nat.lt_or_ge j 5 with hj | hj
    · rw [List.getElem?_append_left (by omega)] at h
      exact ⟨0, by simp, j, by omega, h⟩
    · rw [List.getElem?_append_right (by omega), h5] at h
      obtain ⟨i, hi, q, e, hq⟩ := flat_get r (j - 5) u h
      exact ⟨i + 1, by simpa using hi, q, by omega, by simpa using hq⟩
theorem RdV.flat {w : World} {a : Addr} {n c : Nat} {l : List Vl} (h : RdV w (.slice (some a) n c) l) (j : Nat) (u : Value) (hu : (l.flatMap Vl.cells)[j]? = some u) : w.cell? (a.add j) = some u := by
  obtain ⟨i, hi, q, e, hq⟩ := flat_get l j u hu
  obtain ⟨A, c', hv, _, hr⟩ := h
  obtain ⟨a', ha, hc⟩ := hr i hi
  injection hv with hv
  rw [ha] at hv
  cases hv
  rw [e]
  exact hc q u hq

section
variable {x : PX} {w : World} {K : Value → World → Prop}

/-- 'append(v, u...)' over lists of values. -/
theorem app_vals {v u : Value} {l m : List Vl} (hown : OwnV w v l) (hr : RdV w u m) (hl : l.length + m.length ≤ 1000000) (hk : ∀ v' w1, OwnV w1 v' (l ++ m) → App w v w1 v' → K v' w1) :
    runK Try.prog x (Builtin.append_ #[22, 22] 22 #[v, u]) w K := by
  obtain ⟨i0, hi0, hz0, hz1, hz2⟩ := info_parts info_val
  obtain ⟨A, c, rfl⟩ := hr.form
  cases A with
  | some a =>
    refine k_append (news := m.flatMap Vl.cells) Try.underlying22 hi0 hz0 hz1 hz2 rfl (by decide) hown (flat_len m) hr.flat ?_ (by omega) (by decide) fun v' w1 ho ha => hk v' w1 ?_ ha
    · intro q hq
      obtain ⟨z, _, hq⟩ := List.mem_flatMap.1 hq
      simp [Vl.cells] at hq
      rcases hq with rfl | rfl | rfl | rfl | rfl <;> rfl
    · unfold OwnV
      rw [List.flatMap_append, List.length_append]
      exact ho
  | none =>
    have hm : m = [] := by
      cases m with
      | nil => rfl
      | cons z r =>
        obtain ⟨a, _, hv, _⟩ := hr.at_ (i := 0) (by simp)
        injection hv with hv
        cases hv
    subst hm
    have hrun : (Builtin.append_ #[22, 22] 22 #[v, .slice none ([] : List Vl).length c]).run Try.prog w = .ok v w := by
      obtain ⟨_, ⟨rfl, _⟩ | ⟨g, cap, cur, rfl, _, _, hle, _⟩⟩ := hown
      · simp [Builtin.append_, run_underlying Try.underlying22, sizeOf, typeInfo, hi0, hz1, Builtin.lenOf, Builtin.firstCells]
      · simp [Builtin.append_, run_underlying Try.underlying22, sizeOf, typeInfo, hi0, hz1, Builtin.lenOf, Builtin.firstCells, hle, storeCells]
    exact runK_of hrun (hk v w (by rw [List.append_nil]; exact hown) (App.refl _ _))

/-- 'append([]T{}, v...)'. -/
theorem copy_vals {v : Value} {l : List Vl} (hr : RdV w v l) (hl : l.length ≤ 1000000)
    (hk : ∀ v' w1, OwnV w1 v' l → Fr No w w1 → K v' w1) : runK Try.prog x (Instr.buildSlice 22 0 #[]) w fun s w => runK Try.prog x (Builtin.append_ #[22, 22] 22 #[s, v]) w K := by
  refine runK_of (w' := w.alloc (.cells #[] 36)) (v := .slice (some ⟨w.heap.size, 0, none⟩) 0 0) (by kernel_rfl) ?_
  have hf1 := Fr.alloc w (.cells #[] 36)
  have ho1 : OwnV (w.alloc (.cells #[] 36)) (.slice (some ⟨w.heap.size, 0, none⟩) 0 0) [] :=
    ⟨rfl, .inr ⟨w.heap.size, 0, #[], rfl, Nat.zero_le _, heap_alloc_new w _, Nat.le_refl _, Nat.zero_le _, rfl, rfl⟩⟩
  refine app_vals ho1 (hr.no hf1) (by simpa using hl) fun v' w2 ho2 ha2 => ?_
  exact hk v' w2 ho2 (hf1.new ha2.fr (fun k hk => by simp [Value.ownBlock] at hk; omega))

theorem packs_walk {v : Value} {l : List Vl} (w : World) (hr : RdV w v l) (hw : ∀ x ∈ l, x.Wf) : Calls Try.prog 3 #[v] w (Yes w) := by
  refine c3 _ _ _ ?_
  unfold m3 m3_1
  refine few_s hr fun r hfew => ?_
  refine runK_of (r_not _ _ _) ?_
  refine condF_of (fun h => ?_) (fun h => ?_)
  · exact awake_s fun w1 hf1 => ⟨rfl, hf1⟩
  have hfew : FewP l := hfew.1 (by simpa using h)
  have hlen := hfew.1
  refine copy_vals hr (by omega) fun v' w1 ho1 hf1 => ?_
  have hin := ho1.rd
  -- what is compared, behind both packs
  have last : ∀ (w5 : World), Fr No w w5 → RdV w5 v' l → callS Try.prog (px (Yes w)) 15 #[v', v] w5 fun v40 w5 => Yes w (.returned v40) w5 := fun w5 hf5 hr5 =>
    all_r hr5 (hr.no hf5) hw hw (by omega) fun r w6 hf6 hr6 => ⟨by rw [hr6.2 ⟨rfl, fun i h h' => by simp [sameB]⟩], hf5.no hf6⟩
  refine pack_s hin hw (by omega) (fun b w2 he ho2 hf2 _ => ?_) (fun w2 he hf2 => ?_)
  · have hn2 := hf1.no hf2
    refine runK_of (r_ext0 _ _ [_, _] 0 _ rfl) ?_
    refine runK_of (r_ext0 _ _ [_, _] 1 _ rfl) ?_
    refine pack_r (hr.no hn2) hw (by omega) (fun w3 _ hf3 => ?_) (fun w3 he' => absurd he he')
    refine runK_of (r_ext0 _ _ [_, _] 0 _ rfl) ?_
    refine runK_of (r_ext0 _ _ [_, _] 1 _ rfl) ?_
    refine awake_s fun w4 hf4 => ?_
    rw [condF_true]
    refine runK_of (r_eql ..) ?_
    refine condF_yes rfl ?_
    refine runK_of (r_own_str ((own_no (own_no ho2 hf3) hf4))) ?_
    refine runK_of (r_seql ..) ?_
    rw [toList_eq]
    refine condF_yes rfl ?_
    exact last w4 ((hn2.no hf3).no hf4) (((hin.no hf2).no hf3).no hf4)
  · have hn2 := hf1.no hf2
    refine runK_of (r_ext0 _ _ [_, _] 0 _ rfl) ?_
    refine runK_of (r_ext0 _ _ [_, _] 1 _ rfl) ?_
    refine pack_r (hr.no hn2) hw (by omega) (fun w3 he' _ => absurd he' he) (fun w3 _ hf3 => ?_)
    refine runK_of (r_ext0 _ _ [_, _] 0 _ rfl) ?_
    refine runK_of (r_ext0 _ _ [_, _] 1 _ rfl) ?_
    refine awake_s fun w4 hf4 => ?_
    rw [condF_true]
    refine runK_of (r_eql ..) ?_
    refine condF_yes rfl ?_
    refine runK_of (run_convert_bytes_nil (P := Try.prog) w4 25 5 Try.underlying25 Try.underlying5 0 0 9 Try.underlying9) ?_
    refine runK_of (r_seql ..) ?_
    rw [toList_eq]
    refine condF_yes rfl ?_
    exact last w4 ((hn2.no hf3).no hf4) (((hin.no hf2).no hf3).no hf4)
end
end Go.Proofs.Ytdihigmcihheoaa
