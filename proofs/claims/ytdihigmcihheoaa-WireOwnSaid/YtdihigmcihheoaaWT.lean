/-
  The walks of WireApart, WireJoins and WireCuts.
-/
import Derived.Test.YtdihigmcihheoaaWR
set_option linter.unusedVariables false
set_option linter.unusedSimpArgs false
set_option maxRecDepth 20000
namespace Go.Proofs.Ytdihigmcihheoaa
open Go.FW

/-! ### Slices of what is read -/
theorem RdV.take {w : World} {A : Option Addr} {n c : Nat} {l : List Vl} (h : RdV w (.slice A n c) l) (j : Nat) (hj : j ≤ l.length) : RdV w (.slice A j c) (l.take j) := by
  obtain ⟨A', c', hv, hc, hr⟩ := h
  injection hv with h1 h2 h3
  subst h1 h3
  have hl : (l.take j).length = j := by rw [List.length_take]; omega
  refine ⟨A, c, by rw [hl], by omega, fun i hi => ?_⟩
  have hil : i < l.length := by omega
  obtain ⟨a, ha, hcell⟩ := hr i hil
  refine ⟨a, ha, fun q u hu => hcell q u ?_⟩
  rw [List.getElem_take] at hu
  exact hu
theorem RdB.take {w : World} {A : Option Addr} {n c : Nat} {bs : List UInt8} (h : RdB w (.slice A n c) bs) (j : Nat) (hj : j ≤ bs.length) : RdB w (.slice A j c) (bs.take j) := by
  obtain ⟨A', c', hv, hc, hr⟩ := h
  injection hv with h1 h2 h3
  subst h1 h3
  have hl : (bs.take j).length = j := by rw [List.length_take]; omega
  refine ⟨A, c, by rw [hl], by omega, fun hne => ?_⟩
  obtain ⟨g, o, ha, hcell⟩ := hr (by rintro rfl; simp at hne)
  refine ⟨g, o, ha, fun i u hu => hcell i u ?_⟩
  rw [List.map_take, List.getElem?_take] at hu
  split at hu
  · exact hu
  · cases hu
theorem r_sliceHi {P : Program} {t e : TypeId} (ht : P.underlying t = some (.slice e)) {sz : Nat} (hs : ((P.info? e).map (·.size)) = some sz) (A : Option Addr) (n c hi : Nat) (h2 : hi ≤ c) (w : World) :
    (Instr.sliceAt t (.slice A n c) none (some (.int .i64 hi)) none).run P w = .ok (.slice (if c = 0 then A else A.map (·.add (0 * sz))) hi c) w := by
  have e1 : (0 : Int) ≤ hi ∧ (hi : Int) ≤ c := by omega
  simp [Instr.sliceAt, Instr.slice, run_underlying ht, Instr.sliceBounds, Instr.sliceBound, asIntOf, h2, sizeOf_run hs]
theorem add0 (A : Option Addr) (c sz : Nat) : (if c = 0 then A else A.map (·.add (0 * sz))) = A := by
  have h0 : ∀ a : Addr, a.add (0 * sz) = a := fun a => by rw [Nat.zero_mul]; rfl
  split
  · rfl
  · cases A with
    | none => rfl
    | some a => show some (a.add (0 * sz)) = some a; rw [h0]
theorem r_hi {P : Program} {t e : TypeId} (ht : P.underlying t = some (.slice e)) {sz : Nat} (hs : ((P.info? e).map (·.size)) = some sz) (A : Option Addr) (n c hi : Nat) (h2 : hi ≤ c) (w : World) :
    (Instr.sliceAt t (.slice A n c) none (some (.int .i64 hi)) none).run P w = .ok (.slice A hi c) w := by
  rw [r_sliceHi ht hs A n c hi h2 w, add0]

section
variable {x : PX} {w : World} {K : Value → World → Prop}

/-- The way out of a law whose packs were refused. -/
theorem awake_yes {w w1 : World} (h : Fr No w w1) : callS Try.prog (px (Yes w)) 12 #[] w1 fun v w1 => Yes w (.returned v) w1 := awake_s fun w2 hf2 => yes_of (h.no hf2)

theorem cuts_walk {v : Value} {l : List Vl} (cut : Int) (hc0 : 0 ≤ cut) (hc1 : cut ≤ 65535) (w : World) (hr : RdV w v l) (hw : ∀ x ∈ l, x.Wf) : Calls Try.prog 7 #[v, .int .u16 cut] w (Yes w) := by
  obtain ⟨A, c, rfl⟩ := hr.form
  refine c7 _ _ _ _ ?_
  unfold m7 m7_1 m7_2
  refine few_s hr fun r hfew => ?_
  refine runK_of (r_not _ _ _) ?_
  refine condF_of (fun h => ?_) (fun h => ?_)
  · exact awake_yes (Fr.refl _ w)
  have hfew : FewP l := hfew.1 (by simpa using h)
  have hlen := hfew.1
  unfold m7_3
  refine pack_s hr hw (by omega) (fun b w1 he ho hf1 _ => ?_) (fun w1 he hf1 => ?_)
  rotate_left
  · refine runK_of (r_ext0 _ _ [_, _] 0 _ rfl) ?_
    refine runK_of (r_ext0 _ _ [_, _] 1 _ rfl) ?_
    unfold m7_4
    refine awake_s fun w2 hf2 => ?_
    refine runK_of (r_not _ _ _) ?_
    refine not_yes ?_
    refine runK_of (r_neq ..) ?_
    refine condF_neq' he ?_
    exact awake_yes (hf1.no hf2)
  refine runK_of (r_ext0 _ _ [_, _] 0 _ rfl) ?_
  refine runK_of (r_ext0 _ _ [_, _] 1 _ rfl) ?_
  unfold m7_4
  refine awake_s fun w2 hf2 => ?_
  refine runK_of (r_not _ _ _) ?_
  refine not_yes ?_
  refine runK_of (r_neq ..) ?_
  refine condF_neq rfl ?_
  have hn2 := hf1.no hf2
  have hb2 : RdB w2 b (packB l) := OwnB.rdb (own_no ho hf2)
  have hbound := packB_bound hw he
  obtain ⟨B, d, rfl, hbd⟩ := hb2.form
  refine runK_of (r_len _ _ _ 5 _ Try.underlying25 _ _ _) ?_
  refine runK_of (r_eql ..) ?_
  refine condF_dec (fun h => ?_) (fun h => ?_)
  · exact awake_yes hn2
  have hpos : 0 < (packB l).length := by omega
  unfold m7_5
  refine runK_of (r_conv_int _ _ _ _ _ _ .i64 (by kernel_rfl) Try.underlying3) ?_
  rw [wrap_i64 _ (by omega) (by omega)]
  refine runK_of (r_len _ _ _ 5 _ Try.underlying25 _ _ _) ?_
  refine runK_of (r_rem _ _ _ _ _ _ (by omega)) ?_
  obtain ⟨q, rfl⟩ : ∃ q : Nat, cut = q := ⟨cut.toNat, by omega⟩
  rw [tmod_nat]
  have hnl : q % (packB l).length < (packB l).length := Nat.mod_lt _ hpos
  generalize q % (packB l).length = n at hnl
  refine runK_of (r_hi Try.underlying25 (sz := 1) (by kernel_rfl) B _ d n (by omega) _) ?_
  obtain ⟨j, hj, hle, hwhole, hstop, hpre, hgot0⟩ := cut_law he hw hnl
  have hl1000 := (packE_zero he).1
  have htl : ((packB l).take n).length = n := by rw [List.length_take]; omega
  have hmap : ((l.take j).map normV).length = j := by rw [List.length_map, List.length_take]; omega
  have hwt : ∀ u ∈ (l.take j).map normV, u.Wf := fun u hu => by
    obtain ⟨z, hz, rfl⟩ := List.mem_map.1 hu
    exact normV_wf (hw z (List.mem_of_mem_take hz))
  have hwt0 : ∀ u ∈ l.take j, u.Wf := fun u hu => hw u (List.mem_of_mem_take hu)
  refine unpack_s (hb2.take n (by omega)) (by omega) (fun l' v' w3 hg hf3 ho3 _ => ?_) (fun l' a e w3 hg hlt he' hf3 => ?_)
  · -- whole
    have hn3 := hn2.no hf3
    have heq : (packB (l.take j)).length = n := by
      rcases Nat.lt_or_ge (packB (l.take j)).length n with h | h
      · exact (Stop.not_all (hstop h) hg).elim
      · omega
    have hl' := Got.all_one hg (hwhole heq)
    subst hl'
    obtain ⟨C, cc, hv'⟩ := (OwnV.rd ho3).form
    rw [hmap] at hv'
    refine runK_of (r_ext0 _ _ [_, _, _] 0 _ rfl) ?_
    refine runK_of (r_ext0 _ _ [_, _, _] 1 _ rfl) ?_
    refine runK_of (r_ext0 _ _ [_, _, _] 2 _ rfl) ?_
    refine runK_of (r_eql ..) ?_
    refine condF_yes rfl ?_
    have hr3 := (OwnV.rd ho3)
    subst hv'
    refine runK_of (r_len _ _ _ 36 _ Try.underlying22 _ _ _) ?_
    refine runK_of (r_len _ _ _ 36 _ Try.underlying22 _ _ _) ?_
    refine runK_of (r_lss ..) ?_
    refine condF_yes (by omega) ?_
    refine runK_of (r_len _ _ _ 36 _ Try.underlying22 _ _ _) ?_
    have hcl : l.length ≤ c := by obtain ⟨_, _, hv, hc, _⟩ := hr; injection hv with _ _ h3; omega
    refine runK_of (r_hi Try.underlying22 (sz := 5) size_val A _ c j (by omega) _) ?_
    refine all_r hr3 ((hr.no hn3).take j (by omega)) hwt hwt0 (by omega) fun r w4 hf4 hr4 => ?_
    rw [hr4.2 (all_norm' (l.take j))]
    exact yes_of (hn3.no hf4)
  · -- cut
    have hn3 := hn2.no hf3
    have hlt' : (packB (l.take j)).length < n := by
      rcases Nat.lt_or_ge (packB (l.take j)).length n with h | h
      · exact h
      · exact (Stop.not_all (⟨hg, hlt, he'⟩ : Stop _ _ _ _) (hwhole (by omega))).elim
    obtain ⟨rfl, rfl, rfl⟩ := (hstop hlt').one (⟨hg, hlt, he'⟩ : Stop _ _ _ _)
    refine runK_of (r_ext0 _ _ [_, _, _] 0 _ rfl) ?_
    refine runK_of (r_ext0 _ _ [_, _, _] 1 _ rfl) ?_
    refine runK_of (r_ext0 _ _ [_, _, _] 2 _ rfl) ?_
    refine runK_of (r_eql ..) ?_
    refine condF_no (by decide) ?_
    have hb3 : RdB w3 (.slice B (packB l).length d) (packB l) := hb2.no hf3
    refine runK_of (r_hi Try.underlying25 (sz := 1) (by kernel_rfl) B _ d (packB (l.take j)).length (by omega) _) ?_
    have hb4 := hb3.take (packB (l.take j)).length (by omega)
    rw [hpre] at hb4
    refine unpack_s hb4 (by omega) (fun l'' v'' w4 hg4 hf4 ho4 _ => ?_) (fun l'' a4 e4 w4 hg4 hlt4 he4 hf4 => ?_)
    rotate_left
    · exact (Stop.not_all (⟨hg4, hlt4, he4⟩ : Stop _ _ _ _) hgot0).elim
    have hl'' := Got.all_one hg4 hgot0
    subst hl''
    have hn4 := hn3.no hf4
    have hr4 := OwnV.rd ho4
    obtain ⟨C, cc, hv'⟩ := hr4.form
    rw [hmap] at hv'
    subst hv'
    refine runK_of (r_ext0 _ _ [_, _, _] 0 _ rfl) ?_
    refine runK_of (r_ext0 _ _ [_, _, _] 1 _ rfl) ?_
    refine runK_of (r_ext0 _ _ [_, _, _] 2 _ rfl) ?_
    refine runK_of (r_eql ..) ?_
    refine condF_yes rfl ?_
    refine runK_of (r_len _ _ _ 36 _ Try.underlying22 _ _ _) ?_
    refine runK_of (r_eql ..) ?_
    refine condF_yes rfl ?_
    refine runK_of (r_lss ..) ?_
    refine condF_yes (by omega) ?_
    refine runK_of (r_eql ..) ?_
    refine condF_yes rfl ?_
    refine runK_of (r_len _ _ _ 36 _ Try.underlying22 _ _ _) ?_
    refine runK_of (r_len _ _ _ 36 _ Try.underlying22 _ _ _) ?_
    refine runK_of (r_lss ..) ?_
    refine condF_yes (by omega) ?_
    refine runK_of (r_len _ _ _ 36 _ Try.underlying22 _ _ _) ?_
    have hcl : l.length ≤ c := by obtain ⟨_, _, hv, hc, _⟩ := hr; injection hv with _ _ h3; omega
    refine runK_of (r_hi Try.underlying22 (sz := 5) size_val A _ c j (by omega) _) ?_
    refine all_r hr4 ((hr.no hn4).take j (by omega)) hwt hwt0 (by omega) fun r w5 hf5 hr5 => ?_
    rw [hr5.2 (all_norm' (l.take j))]
    exact yes_of (hn4.no hf5)
end
end Go.Proofs.Ytdihigmcihheoaa
