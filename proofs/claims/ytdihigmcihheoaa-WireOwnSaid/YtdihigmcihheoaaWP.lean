/-
  The plain law of the wire: what is packed is read; what is read packs to its bytes; of cut bytes the whole values are read.
-/
import Derived.Test.YtdihigmcihheoaaWL
set_option linter.unusedVariables false
set_option linter.unusedSimpArgs false
set_option maxRecDepth 20000
namespace Go.Proofs.Ytdihigmcihheoaa
open Go.FW

/-! ### Numbers -/
theorem pow_step (k n : Nat) : n % 128 * 128 ^ k + n / 128 * 128 ^ (k + 1) = n * 128 ^ k := by
  rw [Nat.pow_succ, Nat.mul_comm (128 ^ k) 128, ← Nat.mul_assoc, ← Nat.add_mul]
  congr 1
  omega
theorem num_top {k n : Nat} (h : n * 128 ^ k < 18446744073709551616) (hk : k = 9) : n ≤ 1 := by
  subst hk
  have : (128 : Nat) ^ 9 = 9223372036854775808 := by decide
  rw [this] at h
  omega
theorem num_small {k n : Nat} (h : n * 128 ^ k < 18446744073709551616) (hn : 0 < n) : k ≤ 9 := by
  rcases Nat.lt_or_ge 9 k with hk | hk
  · have h1 : (128 : Nat) ^ 10 ≤ 128 ^ k := Nat.pow_le_pow_right (by decide) hk
    have h2 : 1 * 128 ^ 10 ≤ n * 128 ^ k := Nat.mul_le_mul hn h1
    have : (1 : Nat) * 128 ^ 10 ≥ 18446744073709551616 := by decide
    omega
  · exact hk
theorem numP_numB (r : List UInt8) : ∀ (n k a : Nat), n * 128 ^ k < 18446744073709551616 → (k = 0 ∨ 0 < n) → numP k a (numB n ++ r) = .ok (a + n * 128 ^ k, r) := by
  intro n
  induction n using Nat.strongRecOn with
  | _ n ih =>
  intro k a h hk
  rcases Nat.lt_or_ge n 128 with hn | hn
  · rw [numB_lt hn]
    show numP k a (UInt8.ofNat n :: r) = _
    have hc : (UInt8.ofNat n).toNat = n := by rw [UInt8.toNat_ofNat']; omega
    rw [numP, hc, if_neg, if_pos hn, Nat.mod_eq_of_lt hn]
    rintro (⟨h9, h1⟩ | ⟨h0, h1⟩)
    · have := num_top h h9; omega
    · omega
  · rw [numB_ge hn]
    show numP k a (UInt8.ofNat (n % 128 + 128) :: (numB (n / 128) ++ r)) = _
    have hc : (UInt8.ofNat (n % 128 + 128)).toNat = n % 128 + 128 := by rw [UInt8.toNat_ofNat']; omega
    have hstep := pow_step k n
    rw [numP, hc, if_neg, if_neg (by omega), ih (n / 128) (by omega) (k + 1) _ (by omega) (.inr (by omega))]
    · have e : (n % 128 + 128) % 128 = n % 128 := by omega
      rw [e]
      congr 2
      omega
    · rintro (⟨h9, h1⟩ | ⟨h0, h1⟩)
      · have := num_top h h9; omega
      · omega
theorem numP_all (r : List UInt8) (n : Nat) (h : n < 18446744073709551616) : numP 0 0 (numB n ++ r) = .ok (n, r) := by
  have := numP_numB r n 0 0 (by simpa using h) (.inl rfl)
  simpa using this
/-- Of a number's bytes fewer than all are too few. -/
theorem numP_cut : ∀ (n k a j : Nat), n * 128 ^ k < 18446744073709551616 → (k = 0 ∨ 0 < n) → j < (numB n).length → numP k a ((numB n).take j) = .error 22 := by
  intro n
  induction n using Nat.strongRecOn with
  | _ n ih =>
  intro k a j h hk hj
  cases j with
  | zero => rfl
  | succ j =>
    rcases Nat.lt_or_ge n 128 with hn | hn
    · rw [numB_lt hn] at hj; simp at hj
    · rw [numB_ge hn] at hj ⊢
      have hc : (UInt8.ofNat (n % 128 + 128)).toNat = n % 128 + 128 := by rw [UInt8.toNat_ofNat']; omega
      have hstep := pow_step k n
      rw [List.take_succ_cons, numP, hc, if_neg, if_neg (by omega)]
      · exact ih (n / 128) (by omega) (k + 1) _ j (by omega) (.inr (by omega)) (by simpa using hj)
      · rintro (⟨h9, h1⟩ | ⟨h0, h1⟩)
        · have := num_top h h9; omega
        · omega
/-- What is read as a number has just these bytes. -/
theorem numP_inv : ∀ (l : List UInt8) (k a n : Nat) (r : List UInt8), k ≤ 9 → numP k a l = .ok (n, r) → ∃ m, n = a + m * 128 ^ k ∧ l = numB m ++ r ∧ (0 < k → 0 < m) ∧ m * 128 ^ k < 18446744073709551616
  | [], k, a, n, r, _, h => by simp [numP] at h
  | c :: l, k, a, n, r, hk9, h => by
    rw [numP] at h
    have hclt : c.toNat < 256 := c.toNat_lt
    split at h
    · cases h
    · rename_i hbad
      have hcc : UInt8.ofNat c.toNat = c := by simp
      split at h
      · rename_i hlt
        injection h with h
        injection h with h1 h2
        subst h2
        refine ⟨c.toNat, by rw [← h1, Nat.mod_eq_of_lt hlt], by rw [numB_lt hlt, hcc]; rfl, fun h0 => by omega, ?_⟩
        have := num_fits 0 k c.toNat (Nat.pow_pos (by decide)) hk9 (fun h9 => by omega)
        rw [Nat.mod_eq_of_lt hlt] at this
        omega
      · rename_i hge
        have hk8 : k ≤ 8 := by
          rcases Nat.lt_or_ge k 9 with h | h
          · omega
          · exact absurd (.inl ⟨by omega, by omega⟩) hbad
        obtain ⟨m, e1, e2, e3, e4⟩ := numP_inv l (k + 1) _ n r (by omega) h
        have hm : 0 < m := e3 (by omega)
        refine ⟨c.toNat % 128 + m * 128, ?_, ?_, fun _ => by omega, ?_⟩
        · rw [e1, Nat.pow_succ, Nat.add_mul, Nat.mul_assoc m 128, Nat.mul_comm 128 (128 ^ k), Nat.add_assoc]
        · have hge' : 128 ≤ c.toNat % 128 + m * 128 := by omega
          rw [numB_ge hge', show (c.toNat % 128 + m * 128) / 128 = m from by omega, show (c.toNat % 128 + m * 128) % 128 + 128 = c.toNat from by omega, hcc, e2]
          rfl
        · have hq : 18446744073709551616 = 2 ^ (64 - 7 * (k + 1)) * 128 ^ (k + 1) := by
            rw [show (128 : Nat) ^ (k + 1) = 2 ^ (7 * (k + 1)) from by rw [Nat.pow_mul], ← Nat.pow_add, show 64 - 7 * (k + 1) + 7 * (k + 1) = 64 from by omega]
          generalize 2 ^ (64 - 7 * (k + 1)) = q at hq
          have hmq : m < q := Nat.lt_of_mul_lt_mul_right (a := 128 ^ (k + 1)) (by rw [← hq]; exact e4)
          have h1 : (m + 1) * 128 ^ (k + 1) ≤ q * 128 ^ (k + 1) := Nat.mul_le_mul_right _ hmq
          have hp : 0 < 128 ^ k := Nat.pow_pos (by decide)
          have h2 : (c.toNat % 128) * 128 ^ k ≤ 127 * 128 ^ k := Nat.mul_le_mul_right _ (by omega)
          rw [← hq, Nat.add_mul, Nat.one_mul] at h1
          rw [Nat.add_mul, Nat.mul_assoc m 128, Nat.mul_comm 128 (128 ^ k), ← Nat.pow_succ]
          have h3 : 128 ^ (k + 1) = 128 ^ k * 128 := Nat.pow_succ ..
          generalize m * 128 ^ (k + 1) = M at *
          omega

/-! ### Floats -/
theorem eight_eq (n : Nat) : eightB n = [UInt8.ofNat (n / 2 ^ 56), UInt8.ofNat (n / 2 ^ 48), UInt8.ofNat (n / 2 ^ 40), UInt8.ofNat (n / 2 ^ 32), UInt8.ofNat (n / 2 ^ 24), UInt8.ofNat (n / 2 ^ 16), UInt8.ofNat (n / 2 ^ 8), UInt8.ofNat (n / 2 ^ 0)] := rfl
theorem beN_eight (n : Nat) (h : n < 18446744073709551616) : beN (eightB n) = n := by
  rw [eight_eq]
  unfold beN
  simp only [List.foldl_cons, List.foldl_nil, UInt8.toNat_ofNat']
  omega
theorem beN8 (c0 c1 c2 c3 c4 c5 c6 c7 : UInt8) : eightB (beN [c0, c1, c2, c3, c4, c5, c6, c7]) = [c0, c1, c2, c3, c4, c5, c6, c7] := by
  have h : beN [c0, c1, c2, c3, c4, c5, c6, c7] = (((((((c0.toNat * 256 + c1.toNat) * 256 + c2.toNat) * 256 + c3.toNat) * 256 + c4.toNat) * 256 + c5.toNat) * 256 + c6.toNat) * 256 + c7.toNat) := by
    simp [beN]
  have l0 := c0.toNat_lt
  have l1 := c1.toNat_lt
  have l2 := c2.toNat_lt
  have l3 := c3.toNat_lt
  have l4 := c4.toNat_lt
  have l5 := c5.toNat_lt
  have l6 := c6.toNat_lt
  have l7 := c7.toNat_lt
  have key : ∀ (c : UInt8) (m : Nat), m % 256 = c.toNat → UInt8.ofNat m = c := fun c m hm => by
    apply UInt8.toNat_inj.1
    rw [UInt8.toNat_ofNat']
    exact hm
  rw [eight_eq, h]
  congr 1
  · exact key _ _ (by omega)
  congr 1
  · exact key _ _ (by omega)
  congr 1
  · exact key _ _ (by omega)
  congr 1
  · exact key _ _ (by omega)
  congr 1
  · exact key _ _ (by omega)
  congr 1
  · exact key _ _ (by omega)
  congr 1
  · exact key _ _ (by omega)
  congr 1
  · exact key _ _ (by omega)

theorem isNan_usual : isNan usual = true := (isNan_iff _).2 (by decide)
theorem isNan_zero : isNan 0 = false := Bool.eq_false_iff.2 fun h => by have := (isNan_iff _).1 h; omega
theorem bitsF_idem (f : Nat) : bitsF (bitsF f) = bitsF f := by
  by_cases h : isNan f = true
  · rw [show bitsF f = usual from if_pos h]
    exact if_pos isNan_usual
  · rw [show bitsF f = f from if_neg h]
    exact if_neg h
theorem bitsF_zero : bitsF 0 = 0 := if_neg (by rw [isNan_zero]; simp)
theorem bitsF_lt (f : Nat) (h : f < 18446744073709551616) : bitsF f < 18446744073709551616 := by unfold bitsF usual; split <;> omega

/-! ### Values -/
def normV (v : Vl) : Vl := { v with f := bitsF v.f }
theorem zag_zig (i : Int) : zag (zig i) = i := by unfold zag zig; split <;> split <;> omega
theorem zig_zag (n : Nat) : zig (zag n) = n := by unfold zag zig; split <;> split <;> omega

theorem valid_parts {v : Vl} (h : v.validE = 0) : (v.k = 1 ∧ v.i = 0 ∧ v.f = 0 ∧ v.s = ⟨#[]⟩) ∨ (v.k = 2 ∧ v.u = 0 ∧ v.f = 0 ∧ v.s = ⟨#[]⟩) ∨ (v.k = 3 ∧ v.u = 0 ∧ v.i = 0 ∧ v.s = ⟨#[]⟩) ∨ (v.k = 4 ∧ v.u = 0 ∧ v.i = 0 ∧ v.f = 0 ∧ v.s.size ≤ 1000) := by
  have hs := (valid_kind h).2
  unfold Vl.validE at h
  split at h
  · rename_i hp
    unfold Vl.plainB at hp
    by_cases h1 : v.k = 1
    · rw [if_pos h1] at hp
      simp only [Bool.and_eq_true, decide_eq_true_eq, emptyS_iff] at hp
      exact .inl ⟨h1, hp⟩
    by_cases h2 : v.k = 2
    · rw [if_neg h1, if_pos h2] at hp
      simp only [Bool.and_eq_true, decide_eq_true_eq, emptyS_iff] at hp
      exact .inr (.inl ⟨h2, hp⟩)
    by_cases h3 : v.k = 3
    · rw [if_neg h1, if_neg h2, if_pos h3] at hp
      simp only [Bool.and_eq_true, decide_eq_true_eq, emptyS_iff] at hp
      exact .inr (.inr (.inl ⟨h3, hp⟩))
    by_cases h4 : v.k = 4
    · rw [if_neg h1, if_neg h2, if_neg h3, if_pos h4] at hp
      simp only [Bool.and_eq_true, decide_eq_true_eq] at hp
      exact .inr (.inr (.inr ⟨h4, hp.1, hp.2.1, hp.2.2, hs⟩))
    rw [if_neg h1, if_neg h2, if_neg h3, if_neg h4] at hp
    cases hp
  · cases h
theorem valid_of {v : Vl} (h : (v.k = 1 ∧ v.i = 0 ∧ v.f = 0 ∧ v.s = ⟨#[]⟩) ∨ (v.k = 2 ∧ v.u = 0 ∧ v.f = 0 ∧ v.s = ⟨#[]⟩) ∨ (v.k = 3 ∧ v.u = 0 ∧ v.i = 0 ∧ v.s = ⟨#[]⟩) ∨ (v.k = 4 ∧ v.u = 0 ∧ v.i = 0 ∧ v.f = 0 ∧ v.s.size ≤ 1000)) : v.validE = 0 := by
  have hp : v.plainB = true := by
    unfold Vl.plainB
    rcases h with ⟨h, a, b, c⟩ | ⟨h, a, b, c⟩ | ⟨h, a, b, c⟩ | ⟨h, a, b, c, _⟩
    · rw [if_pos h, a, b, c, emptyS_nil]; rfl
    · rw [if_neg (by omega), if_pos h, a, b, c, emptyS_nil]; rfl
    · rw [if_neg (by omega), if_neg (by omega), if_pos h, a, b, c, emptyS_nil]; rfl
    · rw [if_neg (by omega), if_neg (by omega), if_neg (by omega), if_pos h, a, b, c]; rfl
  unfold Vl.validE
  rw [if_pos hp, if_neg]
  have h0 : (⟨#[]⟩ : ByteArray).size = 0 := rfl
  rcases h with ⟨_, _, _, c⟩ | ⟨_, _, _, c⟩ | ⟨_, _, _, c⟩ | ⟨_, _, _, _, c⟩
  · rw [c, h0]; omega
  · rw [c, h0]; omega
  · rw [c, h0]; omega
  · omega

/-! ### One value -/
theorem strB_nil : strB [] = ⟨#[]⟩ := rfl
theorem txtP_all (s : ByteArray) (hs : s.size ≤ 1000) (r : List UInt8) : txtP (numB s.size ++ (s.data.toList ++ r)) = .ok (s, r) := by
  have hl := size_list s
  unfold txtP
  rw [numP_all _ _ (by omega)]
  dsimp only
  rw [if_neg (by omega), if_neg (by rw [List.length_append, hl]; omega)]
  have e1 : (s.data.toList ++ r).take s.size = s.data.toList := by rw [← hl]; exact List.take_left
  have e2 : (s.data.toList ++ r).drop s.size = r := by rw [← hl]; exact List.drop_left
  rw [e1, e2, strB_of]
theorem fltP_all (n : Nat) (hn : n < 18446744073709551616) (hb : bitsF n = n) (r : List UInt8) : fltP (eightB n ++ r) = .ok (n, r) := by
  have hl := eightB_len n
  unfold fltP
  have e1 : (eightB n ++ r).take 8 = eightB n := by rw [← hl]; exact List.take_left
  have e2 : (eightB n ++ r).drop 8 = r := by rw [← hl]; exact List.drop_left
  rw [if_neg (by rw [List.length_append, hl]; omega), e1, e2, beN_eight n hn, if_pos hb]

theorem valP_all {v : Vl} (hv : v.validE = 0) (hw : v.Wf) (r : List UInt8) : valP (oneB v ++ r) = .ok (normV v, r) := by
  have hu := hw.u
  have hi := hw.i
  obtain ⟨k, u, i, f, s⟩ := v
  rcases valid_parts hv with ⟨h, a, b, c⟩ | ⟨h, a, b, c⟩ | ⟨h, a, b, c⟩ | ⟨h, a, b, c, d⟩ <;> dsimp only at h a b c hu hi <;> subst h a b c
  · show valP (UInt8.ofNat 1 :: (numB u.toNat ++ r)) = _
    rw [valP, if_pos (by decide), numP_all _ _ (by omega)]
    dsimp only [normV, noV]
    rw [bitsF_zero, Int.toNat_of_nonneg hu.1]
  · show valP (UInt8.ofNat 2 :: (numB (zig i) ++ r)) = _
    rw [valP, if_neg (by decide), if_pos (by decide), numP_all _ _ (zig_lt hi.1 hi.2)]
    dsimp only [normV, noV]
    rw [bitsF_zero, zag_zig]
  · show valP (UInt8.ofNat 3 :: (eightB (bitsF f) ++ r)) = _
    rw [valP, if_neg (by decide), if_neg (by decide), if_pos (by decide), fltP_all _ (bitsF_lt f hw.f) (bitsF_idem f)]
    rfl
  · show valP (UInt8.ofNat 4 :: ((numB s.size ++ s.data.toList) ++ r)) = _
    rw [valP, if_neg (by decide), if_neg (by decide), if_neg (by decide), if_pos (by decide), List.append_assoc, txtP_all s d]
    dsimp only [normV, noV]
    rw [bitsF_zero]

/-- What is read as a value has just these bytes, and may be. -/
theorem valP_inv {l : List UInt8} {v : Vl} {r : List UInt8} (h : valP l = .ok (v, r)) : l = oneB v ++ r ∧ v.validE = 0 ∧ v.Wf ∧ normV v = v := by
  cases l with
  | nil => cases h
  | cons c l =>
    have hcc : UInt8.ofNat c.toNat = c := by simp
    rw [valP] at h
    split at h
    · rename_i hc
      split at h
      · cases h
      · rename_i n q hp
        injection h with h
        injection h with h1 h2
        subst h1 h2
        obtain ⟨m, e1, e2, _, e4⟩ := numP_inv l 0 0 n q (by omega) hp
        have em : m = n := by rw [e1]; simp
        subst em
        refine ⟨?_, valid_of (.inl ⟨rfl, rfl, rfl, rfl⟩), ?_, ?_⟩
        · rw [e2, ← hcc, hc]; rfl
        · exact { noV_wf 1 (by decide) with u := by show (0 : Int) ≤ (m : Int) ∧ (m : Int) < 18446744073709551616; simp at e4; omega }
        · show Vl.mk _ _ _ (bitsF 0) _ = _; rw [bitsF_zero]; rfl
    · split at h
      · rename_i hc
        split at h
        · cases h
        · rename_i n q hp
          injection h with h
          injection h with h1 h2
          subst h1 h2
          obtain ⟨m, e1, e2, _, e4⟩ := numP_inv l 0 0 n q (by omega) hp
          have em : m = n := by rw [e1]; simp
          subst em
          refine ⟨?_, valid_of (.inr (.inl ⟨rfl, rfl, rfl, rfl⟩)), ?_, ?_⟩
          · show c :: l = UInt8.ofNat 2 :: (numB (zig (zag m)) ++ q)
            rw [e2, ← hcc, hc, zig_zag]
          · exact { noV_wf 2 (by decide) with i := by show -9223372036854775808 ≤ zag m ∧ zag m ≤ 9223372036854775807; simp at e4; unfold zag; split <;> omega }
          · show Vl.mk _ _ _ (bitsF 0) _ = _; rw [bitsF_zero]; rfl
      · split at h
        · rename_i hc
          split at h
          · cases h
          · rename_i n q hp
            injection h with h
            injection h with h1 h2
            subst h1 h2
            unfold fltP at hp
            split at hp
            · cases hp
            · rename_i h8
              split at hp
              · rename_i hb
                injection hp with hp
                injection hp with h1 h2
                have e8 : ∃ c0 c1 c2 c3 c4 c5 c6 c7 r', l = c0 :: c1 :: c2 :: c3 :: c4 :: c5 :: c6 :: c7 :: r' := by
                  match l, h8 with
                  | c0 :: c1 :: c2 :: c3 :: c4 :: c5 :: c6 :: c7 :: r', _ => exact ⟨_, _, _, _, _, _, _, _, _, rfl⟩
                  | [], h => simp at h
                  | [_], h => simp at h
                  | [_, _], h => simp at h
                  | [_, _, _], h => simp at h
                  | [_, _, _, _], h => simp at h
                  | [_, _, _, _, _], h => simp at h
                  | [_, _, _, _, _, _], h => simp at h
                  | [_, _, _, _, _, _, _], h => simp at h
                obtain ⟨c0, c1, c2, c3, c4, c5, c6, c7, r', rfl⟩ := e8
                simp only [List.take_succ_cons, List.take_zero, List.drop_succ_cons, List.drop_zero] at h1 h2 hb
                have hlt := beN_lt [c0, c1, c2, c3, c4, c5, c6, c7]
                rw [h1] at hb hlt
                have hlt : n < 18446744073709551616 := Nat.lt_of_lt_of_le hlt (by show 256 ^ 8 ≤ _; decide)
                refine ⟨?_, valid_of (.inr (.inr (.inl ⟨rfl, rfl, rfl, rfl⟩))), ?_, ?_⟩
                · show c :: _ = UInt8.ofNat 3 :: (eightB (bitsF n) ++ q)
                  rw [hb, ← h1, beN8, ← hcc, hc, ← h2]
                  rfl
                · exact { noV_wf 3 (by decide) with f := hlt }
                · show Vl.mk _ _ _ (bitsF n) _ = _; rw [hb]
              · cases hp
        · split at h
          · rename_i hc
            split at h
            · cases h
            · rename_i s q hp
              injection h with h
              injection h with h1 h2
              subst h1 h2
              unfold txtP at hp
              split at hp
              · cases hp
              · rename_i n q' hnum
                split at hp
                · cases hp
                · split at hp
                  · cases hp
                  · rename_i hn1 hn2
                    injection hp with hp
                    injection hp with h1 h2
                    obtain ⟨m, e1, e2, _, e4⟩ := numP_inv l 0 0 n q' (by omega) hnum
                    have em : m = n := by rw [e1]; simp
                    subst em
                    have hsz : s.size = m := by rw [← h1, strB_size, List.length_take]; omega
                    refine ⟨?_, valid_of (.inr (.inr (.inr ⟨rfl, rfl, rfl, rfl, by show s.size ≤ 1000; omega⟩))), ?_, ?_⟩
                    · show c :: l = UInt8.ofNat 4 :: ((numB s.size ++ s.data.toList) ++ q)
                      rw [hsz, ← hcc, hc, e2, ← h2, ← h1, List.append_assoc]
                      show _ = UInt8.ofNat 4 :: (numB m ++ ((q'.take m).toArray.toList ++ q'.drop m))
                      rw [List.toList_toArray, List.take_append_drop]
                    · exact { noV_wf 4 (by decide) with s := by show s.size ≤ maxLen; simp only [maxLen]; omega }
                    · show Vl.mk _ _ _ (bitsF 0) _ = _; rw [bitsF_zero]; rfl
          · cases h
end Go.Proofs.Ytdihigmcihheoaa
