/-
  The walks of WireApart and WireOwn.
-/
import Derived.Test.YtdihigmcihheoaaWU
import Derived.Laws.CopyRow
set_option linter.unusedVariables false
set_option linter.unusedSimpArgs false
set_option maxRecDepth 20000
namespace Go.Proofs.Ytdihigmcihheoaa
open Go.FW

section
variable {x : PX} {w : World} {K : Value → World → Prop}

theorem r_beql (P : Program) (w : World) (t : TypeId) (cx cy a b : Bool) (h : P.underlying t = some .bool) : (eqS .eql t cx cy (.bool a) (.bool b)).run P w = .ok (.bool (a == b)) w := by
  simp [eqS, eqGuard, run_eql_bool (P := P) w t a b h]

theorem packE_one {v : Vl} : packE [v] = v.validE := by
  unfold packE
  rw [if_neg (by simp)]
  unfold firstE
  split
  · rename_i h; rw [h]; rfl
  · rfl
theorem packB_one {v : Vl} : packB [v] = oneB v := by simp [packB]

theorem apart_walk (v1 v2 : Vl) (hw1 : v1.Wf) (hw2 : v2.Wf) (w : World) : Calls Try.prog 9 #[v1.val, v2.val] w (Yes w) := by
  refine c9 _ _ _ _ ?_
  unfold m9 m9_1
  refine k_box fun w1 hf1 hs1 hb1 => ?_
  have hb1 : Blk w1 w.heap.size 36 v1.cells := hb1
  refine k_box fun w2 hf2 hs2 hb2 => ?_
  have hb2 : Blk w2 w1.heap.size 36 v2.cells := hb2
  have hb1 := hb1.no hf2
  have hn2 := hf1.no hf2
  generalize w.heap.size = g1 at *
  generalize w1.heap.size = g2 at *
  unfold m9_2
  have hl : ∀ {w' : World} {g : Nat} {v : Vl}, Blk w' g 36 v.cells → (Instr.loadAt 36 (.pointer (some ⟨g, 0, none⟩))).run Try.prog w' = .ok v.val w' := fun hb =>
    r_loadn 36 _ (by kernel_rfl) _ _ (fun i u hi => by rw [add_lit, hb.cell, Nat.zero_add]; exact hi)
  refine runK_of (r_field 36 4 4 (by kernel_rfl) _ _) ?_
  refine runK_of (r_load1 9 (by kernel_rfl) _ _ _ (hb1.cell 4)) ?_
  refine runK_of (r_slen _ _ _ _ _ Try.underlying9) ?_
  refine runK_of (r_gtr ..) ?_
  refine condF_dec (fun h => awake_yes hn2) (fun h => ?_)
  refine runK_of (r_field 36 4 4 (by kernel_rfl) _ _) ?_
  refine runK_of (r_load1 9 (by kernel_rfl) _ _ _ (hb2.cell 4)) ?_
  refine runK_of (r_slen _ _ _ _ _ Try.underlying9) ?_
  refine runK_of (r_gtr ..) ?_
  refine condF_dec (fun h => awake_yes hn2) (fun h => ?_)
  -- behind both packs
  have tail : ∀ (b1 b2 : Value) (w3 : World), Fr No w w3 → Blk w3 g1 36 v1.cells → Blk w3 g2 36 v2.cells → (v1.validE = 0 → OwnB w3 b1 (oneB v1)) → (v2.validE = 0 → OwnB w3 b2 (oneB v2)) →
      m9_5 (.pointer (some ⟨g1, 0, none⟩)) (.pointer (some ⟨g2, 0, none⟩)) b1 (.int .i64 v1.validE) b2 (.int .i64 v2.validE) (Yes w) w3 := by
    intro b1 b2 w3 hn3 hb1 hb2 ho1 ho2
    unfold m9_5
    refine awake_s fun w4 hf4 => ?_
    have hn4 := hn3.no hf4
    refine runK_of (r_not _ _ _) ?_
    refine not_yes ?_
    refine runK_of (r_neq ..) ?_
    by_cases he1 : v1.validE = 0
    rotate_left
    · exact condF_neq' he1 (awake_yes hn4)
    refine condF_neq he1 ?_
    refine runK_of (r_neq ..) ?_
    by_cases he2 : v2.validE = 0
    rotate_left
    · exact condF_neq' he2 (awake_yes hn4)
    refine condF_neq he2 ?_
    have ho1 := own_no (ho1 he1) hf4
    have ho2 := own_no (ho2 he2) hf4
    unfold m9_6
    refine runK_of (hl (hb1.no hf4)) ?_
    refine runK_of (hl (hb2.no hf4)) ?_
    refine same_r v1 v2 hw1.f hw2.f fun w5 hf5 => ?_
    have hn5 := hn4.no hf5
    obtain ⟨law1, law2⟩ := apart_law he1 he2 hw1 hw2
    have hd := Fr.drew w5
    have hn6 := hn5.no hd
    have p1 : ∀ {w'}, Fr No w4 w' → OwnB w' b1 (oneB v1) := fun h => own_no ho1 h
    have p2 : ∀ {w'}, Fr No w4 w' → OwnB w' b2 (oneB v2) := fun h => own_no ho2 h
    obtain ⟨A1, c1, hv1, hc1⟩ := (OwnB.rdb ho1).form
    obtain ⟨A2, c2, hv2, hc2⟩ := (OwnB.rdb ho2).form
    refine ⟨fun w' => Fr No w4 w', hf5.no hd, ?_⟩
    refine quietK_of (fun w' hS => r_own_str (p1 hS)) ?_
    refine quietK_of (fun w' hS => r_own_str (p2 hS)) ?_
    refine quietK_of (fun w' hS => r_seql ..) ?_
    refine quietK_of (fun w' hS => r_beql _ _ _ _ _ _ _ Try.underlying4) ?_
    rw [toList_eq]
    have e1 : (decide (strB (oneB v1) = strB (oneB v2)) == sameB v1 v2) = true := by
      by_cases hs : sameB v1 v2 = true
      · rw [hs, decide_eq_true (by rw [law1.2 hs])]; rfl
      · rw [Bool.not_eq_true] at hs
        rw [hs, decide_eq_false (fun e => by have := law1.1 (strB_inj.1 e); rw [hs] at this; cases this)]; rfl
    rw [e1, condF_true]
    refine condF_of (fun hs => ⟨rfl, hn6⟩) (fun hs => ?_)
    have hlen1 : ∀ w', (Builtin.len_ #[25] 3 #[b1]).run Try.prog w' = .ok (.int .i64 (oneB v1).length) w' := fun w' => by
      rw [hv1]; exact r_len _ _ _ 5 _ Try.underlying25 _ _ _
    have hlen2 : ∀ w', (Builtin.len_ #[25] 3 #[b2]).run Try.prog w' = .ok (.int .i64 (oneB v2).length) w' := fun w' => by
      rw [hv2]; exact r_len _ _ _ 5 _ Try.underlying25 _ _ _
    refine quietK_of (fun w' hS => hlen1 w') ?_
    refine quietK_of (fun w' hS => hlen2 w') ?_
    refine quietK_of (fun w' hS => r_gtr ..) ?_
    refine condF_dec (fun h => ⟨rfl, hn6⟩) (fun h => ?_)
    have hle : ¬ (oneB v2).length < (oneB v1).length := by omega
    refine quietK_of (fun w' hS => hlen1 w') ?_
    refine quietK_of (v := .slice A2 (oneB v1).length c2) (fun w' hS => by rw [hv2]; exact r_hi Try.underlying25 (sz := 1) (by kernel_rfl) A2 _ c2 _ (by omega) _) ?_
    refine quietK_of (v := .string (strB ((oneB v2).take (oneB v1).length))) (fun w' hS => ?_) ?_
    · have hrd := (OwnB.rdb (p2 hS))
      rw [hv2] at hrd
      have := hrd.take (oneB v1).length (by omega)
      obtain ⟨A3, c3, e, _, hr⟩ := this
      have hpos : 0 < (oneB v1).length := by simp [oneB]
      have htl : ((oneB v2).take (oneB v1).length).length = (oneB v1).length := by rw [List.length_take]; omega
      obtain ⟨g, o, ha, hcell⟩ := hr (by intro e; rw [e] at htl; simp at htl; omega)
      injection e with e3 _ _
      rw [e3, ha]
      exact r_bytes_str htl hcell
    refine quietK_of (fun w' hS => r_own_str (p1 hS)) ?_
    refine quietK_of (fun w' hS => r_sneq ..) ?_
    have hne := law2 (by rw [hs]; simp) hle
    rw [toList_eq, decide_eq_false (fun e => hne (strB_inj.1 e))]
    exact ⟨rfl, hn6⟩
  have mid : ∀ (b1 : Value) (w3 : World), Fr No w w3 → Blk w3 g1 36 v1.cells → Blk w3 g2 36 v2.cells → (v1.validE = 0 → OwnB w3 b1 (oneB v1)) →
      m9_4 (.pointer (some ⟨g1, 0, none⟩)) (.pointer (some ⟨g2, 0, none⟩)) b1 (.int .i64 v1.validE) (Yes w) w3 := by
    intro b1 w3 hn3 hb1 hb2 ho1
    unfold m9_4
    refine runK_of (hl hb2) ?_
    refine k_oneV v2 fun w4 hf4 hb4 => ?_
    have hr4 : RdV w4 (.slice (some ⟨w3.heap.size, 0, none⟩) 1 1) [v2] := RdV.blk (l := [v2]) (by simpa using hb4)
    refine pack_s hr4 (fun z hz => by rw [List.mem_singleton.1 hz]; exact hw2) (by simp) (fun b w5 he ho hf5 _ => ?_) (fun w5 he hf5 => ?_)
    · have hk := hf4.no hf5
      rw [packB_one] at ho
      rw [packE_one] at he
      refine runK_of (r_ext0 _ _ [_, _] 0 _ rfl) ?_
      refine runK_of (r_ext0 _ _ [_, _] 1 _ rfl) ?_
      have := tail b1 b w5 (hn3.no hk) (hb1.no hk) (hb2.no hk) (fun h => own_no (ho1 h) hk) (fun _ => ho)
      rw [he] at this
      exact this
    · have hk := hf4.no hf5
      rw [packE_one] at he ⊢
      refine runK_of (r_ext0 _ _ [_, _] 0 _ rfl) ?_
      refine runK_of (r_ext0 _ _ [_, _] 1 _ rfl) ?_
      exact tail b1 _ w5 (hn3.no hk) (hb1.no hk) (hb2.no hk) (fun h => own_no (ho1 h) hk) (fun h => absurd h he)
  unfold m9_3
  refine runK_of (hl hb1) ?_
  refine k_oneV v1 fun w4 hf4 hb4 => ?_
  have hr4 : RdV w4 (.slice (some ⟨w2.heap.size, 0, none⟩) 1 1) [v1] := RdV.blk (l := [v1]) (by simpa using hb4)
  refine pack_s hr4 (fun z hz => by rw [List.mem_singleton.1 hz]; exact hw1) (by simp) (fun b w5 he ho hf5 _ => ?_) (fun w5 he hf5 => ?_)
  · have hk := hf4.no hf5
    rw [packB_one] at ho
    rw [packE_one] at he
    refine runK_of (r_ext0 _ _ [_, _] 0 _ rfl) ?_
    refine runK_of (r_ext0 _ _ [_, _] 1 _ rfl) ?_
    have := mid b w5 (hn2.no hk) (hb1.no hk) (hb2.no hk) (fun _ => ho)
    rw [he] at this
    exact this
  · have hk := hf4.no hf5
    rw [packE_one] at he ⊢
    refine runK_of (r_ext0 _ _ [_, _] 0 _ rfl) ?_
    refine runK_of (r_ext0 _ _ [_, _] 1 _ rfl) ?_
    exact mid _ w5 (hn2.no hk) (hb1.no hk) (hb2.no hk) (fun h => absurd h he)

/-- A struct is laid into a row. -/
theorem k_storeRow {t te : TypeId} {g off : Nat} {cs vs : List Value} {k : World → Prop} (hB : Blk w g te cs) (hoff : off + vs.length ≤ cs.length) (h1 : ∀ v ∈ vs, v.oneCell' = true) (ht : ((Try.prog.info? t).map (·.size)) = some vs.length)
    (hk : ∀ w1 cs', Fr (· = g) w w1 → w1.heap.size = w.heap.size → Blk w1 g te cs' → cs'.length = cs.length → k w1) : runU Try.prog x (Instr.storeAt t (.pointer (some ⟨g, off, none⟩)) (.agg vs.toArray)) w k := by
  have hr := run_storeCells_at (P := Try.prog) g off te vs 0 cs.toArray w hB (by simpa using hoff) h1
  have hs : ∃ c' : Array Value, (Instr.storeAt t (.pointer (some ⟨g, off, none⟩)) (.agg vs.toArray)).run Try.prog w = .ok () (w.setRow g c') ∧ c'.size = cs.length := by
    refine ⟨(cs.take (off + 0) ++ vs ++ cs.drop (off + 0 + vs.length)).toArray, ?_, ?_⟩
    · simp only [Instr.storeAt, Instr.sureAddr, storeVar, Sem.run_bind, Sem.run_pure, Result.andThen, sizeOf_run ht, Value.cells]
      simpa using hr
    · simp only [List.size_toArray, List.length_append, List.length_take, List.length_drop]
      omega
  obtain ⟨c', hs, hsz⟩ := hs
  refine runU_of hs (hk _ c'.toList ⟨rfl, rfl, rfl, by simp, fun k _ hn => setRow_other w g k _ (fun e => hn e)⟩ (by simp) ?_ (by simpa using hsz))
  have := setRow_heap w g cs.toArray c' te (0, 0) hB
  simpa [Blk] using this
theorem OwnB.blk {v : Value} {bs : List UInt8} (h : OwnB w v bs) : (v = .slice none 0 0 ∧ bs = []) ∨ ∃ g cap cs, v = .slice (some ⟨g, 0, none⟩) bs.length cap ∧ Blk w g 5 cs ∧ cs.length = cap ∧ bs.length ≤ cap := by
  obtain ⟨_, ⟨rfl, hn⟩ | ⟨g, cap, cur, rfl, _, hg, hle, _, hsz, _⟩⟩ := h
  · exact .inl ⟨rfl, List.eq_nil_of_length_eq_zero hn⟩
  · exact .inr ⟨g, cap, cur.toList, rfl, by unfold Blk; simpa using hg, by simpa using hsz, hle⟩
theorem OwnV.blk {v : Value} {l : List Vl} (h : OwnV w v l) : (v = .slice none 0 0 ∧ l = []) ∨ ∃ g cap cs, v = .slice (some ⟨g, 0, none⟩) l.length cap ∧ Blk w g 36 cs ∧ cs.length = cap * 5 ∧ l.length ≤ cap := by
  obtain ⟨_, ⟨rfl, hn⟩ | ⟨g, cap, cur, rfl, _, hg, hle, _, hsz, _⟩⟩ := h
  · exact .inl ⟨rfl, List.eq_nil_of_length_eq_zero hn⟩
  · exact .inr ⟨g, cap, cur.toList, rfl, by unfold Blk; simpa using hg, by simpa using hsz, hle⟩
end
end Go.Proofs.Ytdihigmcihheoaa
