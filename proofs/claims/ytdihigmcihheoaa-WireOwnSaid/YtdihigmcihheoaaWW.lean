/-
  The walk of WireOwn.
-/
import Derived.Test.YtdihigmcihheoaaWV
set_option linter.unusedVariables false
set_option linter.unusedSimpArgs false
set_option maxRecDepth 20000
namespace Go.Proofs.Ytdihigmcihheoaa
open Go.FW

theorem own_walk {v : Value} {l : List Vl} (w : World) (hr : RdV w v l) (hw : ∀ x ∈ l, x.Wf) : Calls Try.prog 10 #[v] w (Yes w) := by
  obtain ⟨A, c, rfl⟩ := hr.form
  refine c10 _ _ _ ?_
  unfold m10 m10_1 m10_2
  refine few_s hr fun r hfew => ?_
  refine runK_of (r_not _ _ _) ?_
  refine condF_of (fun h => ?_) (fun h => ?_)
  · exact awake_yes (Fr.refl _ w)
  have hfew : FewP l := hfew.1 (by simpa using h)
  have hlen := hfew.1
  unfold m10_3
  refine pack_s hr hw (by omega) (fun b w1 he hob hf1 hbf => ?_) (fun w1 he hf1 => ?_)
  rotate_left
  · -- refused
    refine runK_of (r_ext0 _ _ [_, _] 0 _ rfl) ?_
    refine runK_of (r_ext0 _ _ [_, _] 1 _ rfl) ?_
    unfold m10_4
    refine pack_s (hr.no hf1) hw (by omega) (fun b w2 he' => absurd he' he) (fun w2 _ hf2 => ?_)
    refine runK_of (r_ext0 _ _ [_, _] 0 _ rfl) ?_
    refine runK_of (r_ext0 _ _ [_, _] 1 _ rfl) ?_
    unfold m10_5
    refine awake_s fun w3 hf3 => ?_
    refine runK_of (r_not _ _ _) ?_
    refine not_yes ?_
    refine runK_of (r_neq ..) ?_
    refine condF_neq rfl ?_
    refine runK_of (r_neq ..) ?_
    refine condF_neq' he ?_
    refine awake_s fun w4 hf4 => ?_
    rw [condF_true]
    refine runK_of (r_eql ..) ?_
    rw [decide_eq_true rfl]
    exact yes_of (((hf1.no hf2).no hf3).no hf4)
  refine runK_of (r_ext0 _ _ [_, _] 0 _ rfl) ?_
  refine runK_of (r_ext0 _ _ [_, _] 1 _ rfl) ?_
  unfold m10_4
  have hblt := hob.lt
  have hgp := got_pack he hw
  have hbound := packB_bound hw he
  have hl1000 := (packE_zero he).1
  refine pack_s (hr.no hf1) hw (by omega) (fun cc w2 _ hoc hf2 hcf => ?_) (fun w2 he' => absurd he he')
  refine runK_of (r_ext0 _ _ [_, _] 0 _ rfl) ?_
  refine runK_of (r_ext0 _ _ [_, _] 1 _ rfl) ?_
  have hclt := hoc.lt
  unfold m10_5
  refine awake_s fun w3 hf3 => ?_
  refine runK_of (r_not _ _ _) ?_
  refine not_yes ?_
  refine runK_of (r_neq ..) ?_
  refine condF_neq rfl ?_
  refine runK_of (r_neq ..) ?_
  refine condF_neq rfl ?_
  have hob3 := own_no (own_no hob hf2) hf3
  have hoc3 := own_no hoc hf3
  have hn3 := (hf1.no hf2).no hf3
  unfold m10_6
  refine unpack_s (OwnB.rdb hob3) (by omega) (fun l1 m w4 hg hf4 hom hmf => ?_) (fun l1 a e w4 hg hlt he' hf4 => (Stop.not_all (⟨hg, hlt, he'⟩ : Stop _ _ _ _) hgp).elim)
  have hl1 := Got.all_one hg hgp
  subst hl1
  refine runK_of (r_ext0 _ _ [_, _, _] 0 _ rfl) ?_
  refine runK_of (r_ext0 _ _ [_, _, _] 1 _ rfl) ?_
  refine runK_of (r_ext0 _ _ [_, _, _] 2 _ rfl) ?_
  have hmlt := OwnV.lt hom
  unfold m10_7
  have hob4 := own_no hob3 hf4
  have hoc4 := own_no hoc3 hf4
  refine unpack_s (OwnB.rdb hob4) (by omega) (fun l1 n w5 hg hf5 hon hnf => ?_) (fun l1 a e w5 hg hlt he' hf5 => (Stop.not_all (⟨hg, hlt, he'⟩ : Stop _ _ _ _) hgp).elim)
  have hl1 := Got.all_one hg hgp
  subst hl1
  refine runK_of (r_ext0 _ _ [_, _, _] 0 _ rfl) ?_
  refine runK_of (r_ext0 _ _ [_, _, _] 1 _ rfl) ?_
  refine runK_of (r_ext0 _ _ [_, _, _] 2 _ rfl) ?_
  have hnlt := OwnV.lt hon
  have hob5 := own_no hob4 hf5
  have hoc5 := own_no hoc4 hf5
  have hom5 := own_no hom hf5
  have hn5 := (hn3.no hf4).no hf5
  have z1 := hf1.size
  have z2 := hf2.size
  have z3 := hf3.size
  have z4 := hf4.size
  have z5 := hf5.size
  clear hob hob3 hob4 hoc hoc3 hoc4 hom hfew h
  have hmap : (l.map normV).length = l.length := List.length_map ..
  have hwn : ∀ u ∈ l.map normV, u.Wf := fun u hu => by
    obtain ⟨z, hz, rfl⟩ := List.mem_map.1 hu
    exact normV_wf (hw z hz)
  -- the last part
  have last : ∀ w7, Fr (fun k => b.ownBlock = some k ∨ m.ownBlock = some k) w5 w7 → m10_10 (.slice A l.length c) cc n (Yes w) w7 := by
    intro w7 hf7
    have hn7 : Fr No w w7 := hn5.new hf7 (fun k hk => by
      rcases hk with hk | hk
      · exact hbf k hk
      · have := hmf k hk; omega)
    have hoc7 : OwnB w7 cc (packB l) := own_fr hoc5 hf7 (fun k hk hk' => by
      have q := hcf k hk
      have q' := hclt k hk
      rcases hk' with h | h
      · have := hblt k h; omega
      · have := hmf k h; omega)
    have hon7 : OwnV w7 n (l.map normV) := own_fr hon hf7 (fun k hk hk' => by
      have q := hnf k hk
      rcases hk' with h | h
      · have := hblt k h; omega
      · have := hmlt k h; omega)
    unfold m10_10
    refine unpack_s (OwnB.rdb hoc7) (by omega) (fun l1 k w8 hg hf8 hok _ => ?_) (fun l1 a e w8 hg hlt he' hf8 => (Stop.not_all (⟨hg, hlt, he'⟩ : Stop _ _ _ _) hgp).elim)
    have hl1 := Got.all_one hg hgp
    subst hl1
    refine runK_of (r_ext0 _ _ [_, _, _] 0 _ rfl) ?_
    refine runK_of (r_ext0 _ _ [_, _, _] 1 _ rfl) ?_
    refine runK_of (r_ext0 _ _ [_, _, _] 2 _ rfl) ?_
    refine runK_of (r_eql ..) ?_
    refine condF_yes rfl ?_
    have hn8 := hn7.no hf8
    refine all_r (OwnV.rd hok) (hr.no hn8) hwn hw (by omega) fun r w9 hf9 hr9 => ?_
    rw [hr9.2 (all_norm' l), condF_true]
    refine all_r (OwnV.rd (own_no (own_no hon7 hf8) hf9)) (hr.no (hn8.no hf9)) hwn hw (by omega) fun r w10 hf10 hr10 => ?_
    rw [hr10.2 (all_norm' l)]
    exact yes_of ((hn8.no hf9).no hf10)
  -- the second loop
  have second : ∀ w6, Fr (fun k => b.ownBlock = some k) w5 w6 → m10_11 (.slice A l.length c) cc m n (Yes w) w6 := by
    intro w6 hf6
    have hom6 : OwnV w6 m (l.map normV) := own_fr hom5 hf6 (fun k hk hk' => by
      have q := hmf k hk
      have := hblt k hk'
      omega)
    obtain ⟨C, mc, hm⟩ := (OwnV.rd hom6).form
    rw [hmap] at hm
    have hlm : ∀ w', (Builtin.len_ #[22] 3 #[m]).run Try.prog w' = .ok (.int .i64 l.length) w' := fun w' => by
      rw [hm]; exact r_len _ _ _ 36 _ Try.underlying22 _ _ _
    unfold m10_11 m10_13
    refine ⟨fun t w' => ∃ j : Nat, j ≤ l.length ∧ t = (.slice A l.length c, cc, m, n, .int .i64 j) ∧ Fr (fun k => m.ownBlock = some k) w6 w' ∧
        (l.length = 0 ∨ ∃ g cap cs, m = .slice (some ⟨g, 0, none⟩) l.length cap ∧ Blk w' g 36 cs ∧ cs.length = cap * 5 ∧ l.length ≤ cap),
      fun t _ => match t.2.2.2.2 with | .int _ q => l.length - q.toNat | _ => 0, ⟨0, by omega, rfl, Fr.refl _ w6, ?_⟩, ?_⟩
    · rcases OwnV.blk hom6 with ⟨_, h⟩ | ⟨g, cap, cs, h1, h2, h3, h4⟩
      · have := congrArg List.length h
        rw [hmap] at this
        exact .inl this
      · rw [hmap] at h1 h4
        exact .inr ⟨g, cap, cs, h1, h2, h3, h4⟩
    rintro _ w7 ⟨j, hj, rfl, hf7, hblk⟩
    dsimp only
    unfold m10_14
    refine runK_of (hlm w7) ?_
    refine runK_of (r_lss ..) ?_
    refine condF_dec (fun h => ?_) (fun h => ?_)
    · have hjl : j < l.length := by omega
      rcases hblk with h0 | ⟨g, cap, cs, hmg, hB, hcs, hcap⟩
      · omega
      refine runK_of (w' := w7) (v := .agg [.int .i64 0, .int .u64 0, .int .i64 0, .float .f64 0, .string ⟨#[]⟩].toArray) (by kernel_rfl) ?_
      rw [hmg]
      refine runK_of (r_indexAddr _ _ Try.underlying22 5 size_val _ _ _ _ _ hjl _) ?_
      rw [add_lit, ← hmg]
      refine k_storeRow hB (by show 0 + j * 5 + 5 ≤ cs.length; omega) (by intro u hu; simp at hu; rcases hu with rfl | rfl | rfl | rfl | rfl <;> rfl) size_val fun w8 cs' hf8 _ hB8 hl8 => ?_
      refine runK_of (r_add ..) ?_
      rw [wrap_i64 _ (by omega) (by omega)]
      have hf8 : Fr (· = g) w7 w8 := hf8
      refine ⟨⟨j + 1, by omega, rfl, ?_, .inr ⟨g, cap, cs', hmg, hB8, by omega, hcap⟩⟩, by dsimp only; omega⟩
      exact hf7.trans hf8 (fun _ _ h => h) (fun k _ h => by rw [hmg]; have h : k = g := h; rw [h]; rfl)
    · have hje : j = l.length := by omega
      exact last w7 (hf6.trans hf7 (fun _ _ h => .inl h) (fun _ _ h => .inr h))
  -- the first loop
  obtain ⟨B, d, hb, hbd⟩ := (OwnB.rdb hob5).form
  have hlb : ∀ w', (Builtin.len_ #[25] 3 #[b]).run Try.prog w' = .ok (.int .i64 (packB l).length) w' := fun w' => by
    rw [hb]; exact r_len _ _ _ 5 _ Try.underlying25 _ _ _
  have hbb := OwnB.blk (w := w5) (bs := packB l) hob5
  generalize hN : (packB l).length = N at *
  unfold m10_15 m10_17
  refine ⟨fun t w' => ∃ j : Nat, j ≤ N ∧ t = (.slice A l.length c, b, cc, m, n, .int .i64 j) ∧ Fr (fun k => b.ownBlock = some k) w5 w' ∧
      (N = 0 ∨ ∃ g cap cs, b = .slice (some ⟨g, 0, none⟩) N cap ∧ Blk w' g 5 cs ∧ cs.length = cap ∧ N ≤ cap),
    fun t _ => match t.2.2.2.2.2 with | .int _ q => N - q.toNat | _ => 0, ⟨0, by omega, rfl, Fr.refl _ w5, ?_⟩, ?_⟩
  · rcases hbb with ⟨_, h⟩ | ⟨g, cap, cs, h1, h2, h3, h4⟩
    · left; rw [← hN, h]; rfl
    · exact .inr ⟨g, cap, cs, h1, h2, h3, h4⟩
  rintro _ w6 ⟨j, hj, rfl, hf6, hblk⟩
  dsimp only
  unfold m10_18
  refine runK_of (hlb w6) ?_
  refine runK_of (r_lss ..) ?_
  refine condF_dec (fun h => ?_) (fun h => ?_)
  · have hjl : j < N := by omega
    rcases hblk with h0 | ⟨g, cap, cs, hbg, hB, hcs, hcap⟩
    · omega
    rw [hbg]
    refine runK_of (r_indexAddr _ _ Try.underlying25 1 (by kernel_rfl) _ _ _ _ _ hjl _) ?_
    rw [add_lit, ← hbg]
    refine k_store hB (i := 0 + j * 1) (List.getElem?_eq_getElem (by omega)) rfl (by kernel_rfl) fun w7 hf7 _ hB7 => ?_
    refine runK_of (r_add ..) ?_
    rw [wrap_i64 _ (by omega) (by omega)]
    have hf7 : Fr (· = g) w6 w7 := hf7
    refine ⟨⟨j + 1, by omega, rfl, ?_, .inr ⟨g, cap, _, hbg, hB7, by rw [List.length_set]; exact hcs, hcap⟩⟩, by dsimp only; omega⟩
    exact hf6.trans hf7 (fun _ _ h => h) (fun k _ h => by rw [hbg]; have h : k = g := h; rw [h]; rfl)
  · exact second w6 hf6
end Go.Proofs.Ytdihigmcihheoaa
