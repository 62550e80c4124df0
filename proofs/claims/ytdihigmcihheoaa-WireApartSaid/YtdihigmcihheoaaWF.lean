/-
  What the document's 'Pack' of layer 2 gives.
-/
import Derived.Test.YtdihigmcihheoaaWE
set_option linter.unusedVariables false
set_option linter.unusedSimpArgs false
set_option maxRecDepth 20000
namespace Go.Proofs.Ytdihigmcihheoaa
open Go.FW

section
variable {x : PX} {w : World} {K : Value → World → Prop}

theorem k_head {S : Prop} (c : UInt8) (n : Int) (hn : n = (c.toNat : Int)) (hk : ∀ w1, Fr No w w1 → K (.string (strB [c])) w1) :
    runK Try.prog x (Instr.buildSlice 25 1 #[(0, .int .u8 n)]) w fun v w => runK Try.prog x (convert 25 9 v) w K := by
  refine k_byte c n hn fun g w1 hf hs hc hg => ?_
  exact runK_of (hs _ hc) (hk w1 hf)

theorem zig_neg {i : Int} (h : i < 0) : (zig i : Int) = 2 * (-(i + 1)) + 1 := by unfold zig; rw [if_neg (by omega)]; omega
theorem zig_pos {i : Int} (h : 0 ≤ i) : (zig i : Int) = 2 * i := by unfold zig; rw [if_pos h]; omega

theorem one_r (v : Vl) (hw : v.Wf) (hv : v.validE = 0) (hk : ∀ w1, Fr No w w1 → K (.string (strB (oneB v))) w1) : callS Try.prog x 21 #[v.val] w K := by
  obtain ⟨hkind, hsz⟩ := valid_kind hv
  have hu := hw.u
  have hi := hw.i
  refine s21 ?_
  unfold m21 m21_1
  refine k_box fun w1 hf1 hs1 hb1 => ?_
  have hb1 : Blk w1 w.heap.size 36 v.cells := hb1
  generalize w.heap.size = g at *
  refine runK_of (r_field 36 0 0 (by kernel_rfl) _ _) ?_
  refine runK_of (r_load1 32 (by kernel_rfl) _ _ _ (hb1.cell 0)) ?_
  refine runK_of (r_conv_int _ _ _ _ _ _ .u8 (by kernel_rfl) Try.underlying5) ?_
  refine k_head (S := True) (UInt8.ofNat v.k.toNat) _ (by rw [← byte8, Int.toNat_of_nonneg (by omega)]) fun w2 hf2 => ?_
  have hb2 := hb1.no hf2
  have hn2 := hf1.no hf2
  have hd : oneB v = [UInt8.ofNat v.k.toNat] ++ (oneB v).tail := rfl
  refine runK_of (r_field 36 0 0 (by kernel_rfl) _ _) ?_
  refine runK_of (r_load1 32 (by kernel_rfl) _ _ _ (hb2.cell 0)) ?_
  refine runK_of (r_eql ..) ?_
  refine condF_dec (fun h => ?_) (fun n1 => ?_)
  · refine runK_of (r_field 36 1 1 (by kernel_rfl) _ _) ?_
    refine runK_of (r_load1 33 (by kernel_rfl) _ _ _ (hb2.cell 1)) ?_
    have e : v.u = (v.u.toNat : Int) := (Int.toNat_of_nonneg hw.u.1).symm
    have hl := numB_len64 (n := v.u.toNat) (by omega)
    rw [e]
    refine number_r v.u.toNat (by omega) fun w3 hf3 => ?_
    refine runK_of (r_sadd _ _ _ _ _ (by rw [strB_size, strB_size]; simp; omega)) ?_
    rw [strB_append]
    have := hk w3 (hn2.no hf3)
    unfold oneB at this
    rwa [if_pos h] at this
  refine runK_of (r_eql ..) ?_
  refine condF_dec (fun h => ?_) (fun n2 => ?_)
  · have hl := numB_len64 (n := zig v.i) (zig_lt hi.1 hi.2)
    have hz := zig_lt hi.1 hi.2
    have fin : ∀ w3, Fr No w2 w3 → onE K x (.returned (.string (strB [UInt8.ofNat v.k.toNat] ++ strB (numB (zig v.i))))) w3 := fun w3 hf3 => by
      rw [strB_append]
      have := hk w3 (hn2.no hf3)
      unfold oneB at this
      rwa [if_neg n1, if_pos h] at this
    refine runK_of (r_field 36 2 2 (by kernel_rfl) _ _) ?_
    refine runK_of (r_load1 2 (by kernel_rfl) _ _ _ (hb2.cell 2)) ?_
    refine runK_of (r_lss ..) ?_
    refine condF_dec (fun hneg => ?_) (fun hneg => ?_)
    · have hz' := zig_neg hneg
      refine runK_of (r_field 36 2 2 (by kernel_rfl) _ _) ?_
      refine runK_of (r_load1 2 (by kernel_rfl) _ _ _ (hb2.cell 2)) ?_
      refine runK_of (r_add ..) ?_
      rw [wrap_i64 _ (by omega) (by omega)]
      refine runK_of (r_neg ..) ?_
      rw [wrap_i64 _ (by omega) (by omega)]
      refine runK_of (r_conv_int _ _ _ _ _ _ .u64 (by kernel_rfl) Try.underlying33) ?_
      refine runK_of (r_mul ..) ?_
      refine runK_of (r_add ..) ?_
      have e : IntKind.u64.wrap (IntKind.u64.wrap (2 * IntKind.u64.wrap (0 - (v.i + 1))) + 1) = (zig v.i : Nat) := by
        rw [hz']; simp [IntKind.wrap, IntKind.bits, IntKind.signed]; omega
      rw [e]
      refine number_r _ hz fun w3 hf3 => ?_
      refine runK_of (r_sadd _ _ _ _ _ (by rw [strB_size, strB_size]; simp; omega)) ?_
      exact fin w3 hf3
    · have hz' := zig_pos (i := v.i) (by omega)
      refine runK_of (r_field 36 2 2 (by kernel_rfl) _ _) ?_
      refine runK_of (r_load1 2 (by kernel_rfl) _ _ _ (hb2.cell 2)) ?_
      refine runK_of (r_conv_int _ _ _ _ _ _ .u64 (by kernel_rfl) Try.underlying33) ?_
      refine runK_of (r_mul ..) ?_
      have e : IntKind.u64.wrap (2 * IntKind.u64.wrap v.i) = (zig v.i : Nat) := by
        rw [hz']; simp [IntKind.wrap, IntKind.bits, IntKind.signed]; omega
      rw [e]
      refine number_r _ hz fun w3 hf3 => ?_
      refine runK_of (r_sadd _ _ _ _ _ (by rw [strB_size, strB_size]; simp; omega)) ?_
      exact fin w3 hf3
  refine runK_of (r_eql ..) ?_
  refine condF_dec (fun h => ?_) (fun n3 => ?_)
  · refine runK_of (r_field 36 3 3 (by kernel_rfl) _ _) ?_
    refine runK_of (r_load1 34 (by kernel_rfl) _ _ _ (hb2.cell 3)) ?_
    refine bits_r v.f hw.f ?_
    have hbl : bitsF v.f < 18446744073709551616 := by have := hw.f; unfold bitsF usual; split <;> omega
    refine eight_r _ hbl fun w3 hf3 => ?_
    refine runK_of (r_sadd _ _ _ _ _ (by rw [strB_size, strB_size, eightB_len]; simp)) ?_
    rw [strB_append]
    have := hk w3 (hn2.no hf3)
    unfold oneB at this
    rwa [if_neg n1, if_neg n2, if_pos h] at this
  · refine ⟨fun w' => Blk w' g 36 v.cells, hb2.no (Fr.drew w2), ?_⟩
    refine quietK_of (fun w' hS => r_field 36 4 4 (by kernel_rfl) _ _) ?_
    refine quietK_of (fun w' hS => r_load1 9 (by kernel_rfl) _ _ _ (hS.cell 4)) ?_
    refine quietK_of (fun w' hS => r_slen _ _ _ _ _ Try.underlying9) ?_
    refine quietK_of (fun w' hS => r_conv_int _ _ _ _ _ _ .u64 (by kernel_rfl) Try.underlying33) ?_
    refine quietK_of (fun w' hS => r_field 36 4 4 (by kernel_rfl) _ _) ?_
    refine quietK_of (fun w' hS => r_load1 9 (by kernel_rfl) _ _ _ (hS.cell 4)) ?_
    rw [wrap_u64 _ (by omega)]
    have hl := numB_len64 (n := v.s.size) (by omega)
    refine number_r v.s.size (by omega) fun w3 hf3 => ?_
    refine moreS_keep ((hb2.no (Fr.drew w2)).no hf3) ?_
    refine quietK_of (fun w' hS => r_sadd _ _ _ _ _ (by rw [strB_size, strB_size]; simp; omega)) ?_
    rw [strB_append]
    refine quietK_of (fun w' hS => r_sadd _ _ _ _ _ (by rw [strB_size]; simp; omega)) ?_
    have := hk w3 ((hn2.no (Fr.drew w2)).no hf3)
    unfold oneB at this
    rw [if_neg n1, if_neg n2, if_neg n3] at this
    have e : strB ([UInt8.ofNat v.k.toNat] ++ numB v.s.size) ++ v.s = strB (UInt8.ofNat v.k.toNat :: (numB v.s.size ++ v.s.data.toList)) := by
      conv => lhs; rw [← strB_of v.s]
      rw [strB_append]
      rfl
    show K (.string _) _
    rw [e]
    exact this

theorem pack_r {v : Value} {l : List Vl} (hr : RdV w v l) (hw : ∀ x ∈ l, x.Wf) (hlen : l.length ≤ 1000000)
    (hk1 : ∀ w1, packE l = 0 → Fr No w w1 → K (.tuple #[.string (strB (packB l)), .int .i64 0]) w1)
    (hk2 : ∀ w1, packE l ≠ 0 → Fr No w w1 → K (.tuple #[.string ⟨#[]⟩, .int .i64 (packE l)]) w1) : callS Try.prog x 14 #[v] w K := by
  obtain ⟨A, c, rfl⟩ := hr.form
  refine s14 ?_
  unfold m14 m14_1 m14_2
  refine runK_of (r_len _ _ _ 36 _ Try.underlying22 _ _ _) ?_
  refine runK_of (r_gtr ..) ?_
  refine condF_dec (fun h => ?_) (fun h => ?_)
  · have e : packE l = 20 := by unfold packE; rw [if_pos (by omega)]
    have := hk2 w (by rw [e]; decide) (Fr.refl _ w)
    rw [e] at this
    exact this
  have hle : l.length ≤ 1000 := by omega
  have hE : packE l = firstE l := by unfold packE; rw [if_neg (by omega)]
  rw [hE] at hk1 hk2
  unfold m14_3 m14_6 m14_8
  refine ⟨fun t w' => ∃ (j : Nat), j ≤ l.length ∧ t = (.slice A l.length c, .string (strB (packB (l.take j))), .int .i64 j) ∧ firstE (l.take j) = 0 ∧ Fr No w w', fun t _ => match t.2.2 with | .int _ q => l.length - q.toNat | _ => 0,
    ⟨0, by omega, rfl, rfl, Fr.refl _ w⟩, ?_⟩
  rintro _ w1 ⟨j, hj, rfl, hf0, hf⟩
  dsimp only
  unfold m14_9 m14_5
  refine runK_of (r_len _ _ _ 36 _ Try.underlying22 _ _ _) ?_
  refine runK_of (r_lss ..) ?_
  refine condF_dec (fun h => ?_) (fun h => ?_)
  · have hjl : j < l.length := by omega
    obtain ⟨a, c', hv, _⟩ := (hr.no hf).at_ hjl
    injection hv with hA _ _
    subst hA
    have hwj := hw _ (List.getElem_mem hjl)
    refine runK_of (r_indexAddr _ _ Try.underlying22 5 size_val _ _ _ _ _ hjl _) ?_
    refine runK_of ((hr.no hf).load hjl) ?_
    refine valid_r (l[j]) fun w4 hf4 => ?_
    have hn4 := hf.no hf4
    refine runK_of (r_neq ..) ?_
    refine condF_of (fun he => ?_) (fun he => ?_)
    · have he' : (l[j]).validE ≠ 0 := by simpa using he
      have e := firstE_take hjl hf0 he'
      have := hk2 w4 (by rw [e]; exact he') hn4
      rw [e] at this
      exact this
    · have he' : (l[j]).validE = 0 := by simpa using he
      refine runK_of (r_indexAddr _ _ Try.underlying22 5 size_val _ _ _ _ _ hjl _) ?_
      refine runK_of ((hr.no hn4).load hjl) ?_
      refine one_r (l[j]) hwj he' fun w5 hf5 => ?_
      have hpl : (packB (l.take j)).length ≤ 1011 * 1000 := by
        have := packB_len (l := l.take j) (fun x hx => hw x (List.mem_of_mem_take hx)) hf0
        have h2 : (l.take j).length ≤ 1000 := by rw [List.length_take]; omega
        omega
      have hol := oneB_len hwj he'
      refine runK_of (r_sadd _ _ _ _ _ (by rw [strB_size, strB_size]; omega)) ?_
      refine runK_of (r_add ..) ?_
      rw [wrap_i64 _ (by omega) (by omega), strB_append, ← packB_snoc hjl]
      exact ⟨⟨j + 1, by omega, rfl, firstE_snoc hjl hf0 he', hn4.no hf5⟩, by dsimp only; omega⟩
  · have hjl : j = l.length := by omega
    subst hjl
    rw [List.take_length] at hf0 ⊢
    exact hk1 w1 hf0 hf
end
end Go.Proofs.Ytdihigmcihheoaa
