/-
  The plain law of the wire's lists.
-/
import Derived.Test.YtdihigmcihheoaaWP
set_option linter.unusedVariables false
set_option linter.unusedSimpArgs false
set_option maxRecDepth 20000
namespace Go.Proofs.Ytdihigmcihheoaa
open Go.FW

theorem normV_wf {v : Vl} (h : v.Wf) : (normV v).Wf := { h with f := bitsF_lt v.f h.f }
theorem same_norm (v : Vl) : sameB v (normV v) = true := by
  simp [sameB, normV, bitsF_idem]
theorem all_norm (l : List Vl) : AllP l (l.map normV) := ⟨by simp, fun i h h' => by rw [List.getElem_map]; exact same_norm _⟩
theorem all_norm' (l : List Vl) : AllP (l.map normV) l := ⟨by simp, fun i h h' => by
  rw [List.getElem_map]
  simp [sameB, normV, bitsF_idem]⟩

theorem firstE_append (l m : List Vl) : firstE (l ++ m) = 0 ↔ firstE l = 0 ∧ firstE m = 0 := by
  induction l with
  | nil => simp [firstE]
  | cons v r ih =>
    simp only [List.cons_append, firstE]
    by_cases h : v.validE = 0
    · rw [if_pos h, if_pos h]; exact ih
    · rw [if_neg h, if_neg h]
      exact ⟨fun e => absurd e h, fun e => absurd e.1 h⟩
theorem firstE_mem {l : List Vl} (h : firstE l = 0) : ∀ v ∈ l, v.validE = 0 := by
  induction l with
  | nil => intro v hv; cases hv
  | cons x r ih =>
    intro v hv
    simp only [firstE] at h
    by_cases hx : x.validE = 0
    · rw [if_pos hx] at h
      rcases List.mem_cons.1 hv with rfl | hv
      · exact hx
      · exact ih h v hv
    · rw [if_neg hx] at h; exact absurd h hx
theorem firstE_of {l : List Vl} (h : ∀ v ∈ l, v.validE = 0) : firstE l = 0 := by
  induction l with
  | nil => rfl
  | cons x r ih =>
    rw [firstE, if_pos (h x (by simp))]
    exact ih fun v hv => h v (by simp [hv])
theorem packE_zero {l : List Vl} (h : packE l = 0) : l.length ≤ 1000 ∧ firstE l = 0 := by
  unfold packE at h
  split at h
  · cases h
  · exact ⟨by omega, h⟩
theorem packE_of {l : List Vl} (h1 : l.length ≤ 1000) (h2 : firstE l = 0) : packE l = 0 := by unfold packE; rw [if_neg (by omega)]; exact h2
theorem packB_append (l m : List Vl) : packB (l ++ m) = packB l ++ packB m := by unfold packB; rw [List.flatMap_append]
theorem packB_take_drop (l : List Vl) (j : Nat) : packB l = packB (l.take j) ++ packB (l.drop j) := by rw [← packB_append, List.take_append_drop]

/-- Bytes that begin with a list's are read so far. -/
theorem got_take {L : List Vl} (hv : firstE L = 0) (hw : ∀ v ∈ L, v.Wf) (hl : L.length ≤ 1000) {bs rest : List UInt8} (hb : bs = packB L ++ rest) : ∀ j, j ≤ L.length → Got bs ((L.take j).map normV) (packB (L.take j)).length
  | 0, _ => by simpa [packB] using Got.nil (bs := bs)
  | j + 1, hj => by
    have hjl : j < L.length := hj
    have ih := got_take hv hw hl hb j (by omega)
    have hmem := List.getElem_mem hjl
    have e0 : L.take (j + 1) = L.take j ++ [L[j]] := List.take_succ_eq_append_getElem hjl
    have e1 : bs = packB (L.take j) ++ (oneB L[j] ++ (packB (L.drop (j + 1)) ++ rest)) := by
      rw [hb, packB_take_drop L (j + 1), packB_snoc hjl]
      simp only [List.append_assoc]
    have e2 : packB (L.take (j + 1)) = packB (L.take j) ++ oneB L[j] := packB_snoc hjl
    have d1 : bs.drop (packB (L.take j)).length = oneB L[j] ++ (packB (L.drop (j + 1)) ++ rest) := by rw [e1]; exact List.drop_left
    have d2 : bs.drop (packB (L.take (j + 1))).length = packB (L.drop (j + 1)) ++ rest := by
      rw [e2, e1, ← List.append_assoc]; exact List.drop_left
    have hone : 0 < (oneB L[j]).length := by simp [oneB]
    rw [e0, List.map_append, List.map_cons, List.map_nil, ← e0]
    refine ih.snoc (v := normV L[j]) ?_ ?_ ?_ ?_ (normV_wf (hw _ hmem))
    · rw [List.length_map, List.length_take]; omega
    · rw [d1, d2]
      exact valP_all (firstE_mem hv _ hmem) (hw _ hmem) _
    · rw [e2, List.length_append]; omega
    · rw [e1, e2]
      simp only [List.length_append]
      omega
theorem got_pack {L : List Vl} (h : packE L = 0) (hw : ∀ v ∈ L, v.Wf) : Got (packB L) (L.map normV) (packB L).length := by
  obtain ⟨h1, h2⟩ := packE_zero h
  have := got_take h2 hw h1 (bs := packB L) (rest := []) (by simp) L.length (Nat.le_refl _)
  rwa [List.take_length] at this
/-- Too many values. -/
theorem stop_many {L : List Vl} (hv : firstE L = 0) (hw : ∀ v ∈ L, v.Wf) (hl : 1000 < L.length) : Stop (packB L) ((L.take 1000).map normV) (packB (L.take 1000)).length 20 := by
  have hlt : (L.take 1000).length = 1000 := by rw [List.length_take]; omega
  have hvt : firstE (L.take 1000) = 0 := firstE_of fun v h => firstE_mem hv v (List.mem_of_mem_take h)
  have := got_take hvt (fun v h => hw v (List.mem_of_mem_take h)) (by omega) (bs := packB L) (rest := packB (L.drop 1000)) (packB_take_drop L 1000) 1000 (by omega)
  rw [List.take_take, Nat.min_self] at this
  refine ⟨this, ?_, .inl ⟨by rw [List.length_map]; exact hlt, rfl⟩⟩
  have e : packB L = packB (L.take 1000) ++ packB (L.drop 1000) := packB_take_drop L 1000
  rw [e, List.length_append]
  have : 0 < (packB (L.drop 1000)).length := by
    rw [List.drop_eq_getElem_cons hl]
    unfold packB
    rw [List.flatMap_cons, List.length_append]
    have : 0 < (oneB L[1000]).length := by simp [oneB]
    omega
  omega

/-- What was read packs to its bytes. -/
theorem got_inv {bs : List UInt8} {l : List Vl} {a : Nat} (h : Got bs l a) : bs.take a = packB l ∧ firstE l = 0 ∧ l.map normV = l := by
  induction h with
  | nil => exact ⟨by simp [packB], rfl, rfl⟩
  | snoc h0 n0 p0 lt0 le0 w0 ih =>
    rename_i l0 a0 a1 v0
    obtain ⟨i1, i2, i3⟩ := ih
    obtain ⟨j1, j2, _, j4⟩ := valP_inv p0
    refine ⟨?_, ?_, by rw [List.map_append, i3, List.map_cons, List.map_nil, j4]⟩
    · have e : bs = (packB l0 ++ oneB v0) ++ bs.drop a1 := by
        conv => lhs; rw [← List.take_append_drop a0 bs, i1, j1]
        rw [List.append_assoc]
      have hlen : (packB l0 ++ oneB v0).length = a1 := by
        have := congrArg List.length e
        rw [List.length_append, List.length_drop] at this
        omega
      rw [packB_append]
      have e2 : packB [v0] = oneB v0 := by simp [packB]
      rw [e2]
      conv => lhs; rw [e]
      rw [← hlen]
      exact List.take_left
    · exact (firstE_append _ _).2 ⟨i2, by rw [firstE, if_pos j2]; rfl⟩
theorem got_once {bs : List UInt8} {l : List Vl} (h : Got bs l bs.length) : packE l = 0 ∧ packB l = bs := by
  obtain ⟨h1, h2, _⟩ := got_inv h
  rw [List.take_length] at h1
  exact ⟨packE_of h.len h2, h1.symm⟩

/-! ### Cut bytes -/
theorem valP_cut {v : Vl} (hv : v.validE = 0) (hw : v.Wf) (q : Nat) (h0 : 0 < q) (hq : q < (oneB v).length) : valP ((oneB v).take q) = .error 22 := by
  have hu := hw.u
  have hi := hw.i
  obtain ⟨q, rfl⟩ : ∃ r, q = r + 1 := ⟨q - 1, by omega⟩
  obtain ⟨k, u, i, f, s⟩ := v
  rcases valid_parts hv with ⟨h, a, b, c⟩ | ⟨h, a, b, c⟩ | ⟨h, a, b, c⟩ | ⟨h, a, b, c, d⟩ <;> dsimp only at h a b c hu hi <;> subst h a b c
  · have hq : q + 1 < (UInt8.ofNat 1 :: numB u.toNat).length := hq
    show valP ((UInt8.ofNat 1 :: numB u.toNat).take (q + 1)) = _
    rw [List.take_succ_cons, valP, if_pos (by decide), numP_cut _ 0 0 q (by simp; omega) (.inl rfl) (by simpa using hq)]
  · have hq : q + 1 < (UInt8.ofNat 2 :: numB (zig i)).length := hq
    show valP ((UInt8.ofNat 2 :: numB (zig i)).take (q + 1)) = _
    have := zig_lt hi.1 hi.2
    rw [List.take_succ_cons, valP, if_neg (by decide), if_pos (by decide), numP_cut _ 0 0 q (by simp; omega) (.inl rfl) (by simpa using hq)]
  · have hq : q + 1 < (UInt8.ofNat 3 :: eightB (bitsF f)).length := hq
    show valP ((UInt8.ofNat 3 :: eightB (bitsF f)).take (q + 1)) = _
    have hl := eightB_len (bitsF f)
    rw [List.length_cons, hl] at hq
    rw [List.take_succ_cons, valP, if_neg (by decide), if_neg (by decide), if_pos (by decide)]
    have : fltP ((eightB (bitsF f)).take q) = .error 22 := by
      unfold fltP
      rw [if_pos (by rw [List.length_take, hl]; omega)]
    rw [this]
  · have hq : q + 1 < (UInt8.ofNat 4 :: (numB s.size ++ s.data.toList)).length := hq
    show valP ((UInt8.ofNat 4 :: (numB s.size ++ s.data.toList)).take (q + 1)) = _
    have hl := size_list s
    have hd : s.size ≤ 1000 := d
    rw [List.length_cons, List.length_append, hl] at hq
    rw [List.take_succ_cons, valP, if_neg (by decide), if_neg (by decide), if_neg (by decide), if_pos (by decide)]
    have : txtP ((numB s.size ++ s.data.toList).take q) = .error 22 := by
      unfold txtP
      rcases Nat.lt_or_ge q (numB s.size).length with hlt | hge
      · rw [List.take_append_of_le_length (by omega), numP_cut _ 0 0 q (by simp; omega) (.inl rfl) hlt]
      · rw [List.take_append, List.take_of_length_le hge, numP_all _ _ (by omega)]
        dsimp only
        rw [if_neg (by omega), if_pos (by rw [List.length_take]; omega)]
    rw [this]

/-- Of cut bytes: where the first one begins that isn't whole. -/
theorem cut_place {L : List Vl} {n : Nat} (hn : n < (packB L).length) : ∀ k, k ≤ L.length → n < (packB (L.take k)).length → ∃ j, j < k ∧ (packB (L.take j)).length ≤ n ∧ n < (packB (L.take (j + 1))).length
  | 0, _, h => by simp [packB] at h
  | k + 1, hk, h => by
    rcases Nat.lt_or_ge n (packB (L.take k)).length with hlt | hge
    · obtain ⟨j, h1, h2, h3⟩ := cut_place hn k (by omega) hlt
      exact ⟨j, by omega, h2, h3⟩
    · exact ⟨k, by omega, hge, h⟩

theorem cut_law {L : List Vl} (he : packE L = 0) (hw : ∀ v ∈ L, v.Wf) {n : Nat} (hn : n < (packB L).length) : ∃ j, j < L.length ∧ (packB (L.take j)).length ≤ n ∧
    ((packB (L.take j)).length = n → Got ((packB L).take n) ((L.take j).map normV) ((packB L).take n).length) ∧ ((packB (L.take j)).length < n → Stop ((packB L).take n) ((L.take j).map normV) (packB (L.take j)).length 22) ∧
    (packB L).take (packB (L.take j)).length = packB (L.take j) ∧ Got (packB (L.take j)) ((L.take j).map normV) (packB (L.take j)).length := by
  obtain ⟨h1, h2⟩ := packE_zero he
  obtain ⟨j, hj, hle, hlt⟩ := cut_place hn L.length (Nat.le_refl _) (by rwa [List.take_length])
  have htk : (L.take j).length = j := by rw [List.length_take]; omega
  have hvt : firstE (L.take j) = 0 := firstE_of fun v h => firstE_mem h2 v (List.mem_of_mem_take h)
  have hwt : ∀ v ∈ L.take j, v.Wf := fun v h => hw v (List.mem_of_mem_take h)
  have hpre : (packB L).take (packB (L.take j)).length = packB (L.take j) := by
    conv => lhs; rw [packB_take_drop L j]
    exact List.take_left
  have hgot0 := got_pack (packE_of (by omega) hvt) hwt
  refine ⟨j, hj, hle, fun e => ?_, fun hl => ?_, hpre, hgot0⟩
  · rw [← e, hpre]
    exact hgot0
  · have e1 : packB L = packB (L.take j) ++ (oneB L[j] ++ packB (L.drop (j + 1))) := by
      rw [packB_take_drop L (j + 1), packB_snoc hj, List.append_assoc]
    have hlt' : n - (packB (L.take j)).length < (oneB L[j]).length := by
      rw [packB_snoc hj, List.length_append] at hlt
      omega
    have e2 : (packB L).take n = packB (L.take j) ++ (oneB L[j]).take (n - (packB (L.take j)).length) := by
      conv => lhs; rw [e1]
      rw [List.take_append, List.take_of_length_le hle, List.take_append_of_le_length (by omega)]
    have hg := got_take hvt hwt (by omega) (bs := (packB L).take n) (rest := (oneB L[j]).take (n - (packB (L.take j)).length)) e2 j (by omega)
    rw [List.take_take, Nat.min_self] at hg
    refine ⟨hg, by rw [List.length_take]; omega, .inr ⟨by rw [List.length_map]; omega, ?_⟩⟩
    have hd : ((packB L).take n).drop (packB (L.take j)).length = (oneB L[j]).take (n - (packB (L.take j)).length) := by
      rw [e2]; exact List.drop_left
    rw [hd]
    exact valP_cut (firstE_mem h2 _ (List.getElem_mem hj)) (hw _ (List.getElem_mem hj)) _ (by omega) hlt'

/-! ### Unlike values -/
theorem oneB_norm {v : Vl} (hv : v.validE = 0) : oneB (normV v) = oneB v := by
  unfold oneB normV
  dsimp only
  rw [bitsF_idem]
theorem same_iff {v w : Vl} (hv : v.validE = 0) (hw : w.validE = 0) : sameB v w = true ↔ normV v = normV w := by
  obtain ⟨k, u, i, f, s⟩ := v
  obtain ⟨k', u', i', f', s'⟩ := w
  simp only [sameB, normV, Bool.and_eq_true, decide_eq_true_eq, Vl.mk.injEq]
  constructor
  · rintro ⟨a, b, c, d, e⟩; exact ⟨a, b, c, e, d⟩
  · rintro ⟨a, b, c, e, d⟩; exact ⟨a, b, c, d, e⟩
theorem apart_law {v w : Vl} (hv : v.validE = 0) (hw : w.validE = 0) (wv : v.Wf) (ww : w.Wf) : (oneB v = oneB w ↔ sameB v w = true) ∧ (sameB v w ≠ true → ¬ (oneB w).length < (oneB v).length → (oneB w).take (oneB v).length ≠ oneB v) := by
  have key : ∀ r, oneB w = oneB v ++ r → normV v = normV w := fun r e => by
    have h1 := valP_all hw ww []
    have h2 := valP_all hv wv r
    rw [List.append_nil, e] at h1
    rw [h1] at h2
    injection h2 with h2
    injection h2 with h2 _
    exact h2.symm
  rw [same_iff hv hw]
  refine ⟨⟨fun e => key [] (by rw [List.append_nil, e]), fun e => ?_⟩, fun hne hle e => hne ((same_iff hv hw).2 (key ((oneB w).drop (oneB v).length) ?_))⟩
  · rw [← oneB_norm hv, ← oneB_norm hw, e]
  · conv => lhs; rw [← List.take_append_drop (oneB v).length (oneB w), e]
end Go.Proofs.Ytdihigmcihheoaa
