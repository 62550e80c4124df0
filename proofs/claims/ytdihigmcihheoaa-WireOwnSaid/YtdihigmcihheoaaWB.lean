/-
  What 'number', 'put' and 'Pack' of the wire give.
-/
import Derived.Test.YtdihigmcihheoaaWA
import Derived.Test.YtdihigmcihheoaaWS
set_option linter.unusedVariables false
set_option linter.unusedSimpArgs false
namespace Go.Proofs.Ytdihigmcihheoaa
open Go.FW

theorem info_u8 : (Try.prog.info? 5).map (fun i => (i.zero, i.size, i.bytes)) = some (some (.int .u8 0), 1, 1) := by kernel_rfl

section
variable {x : PX} {w : World} {K : Value → World → Prop}

/-- Owned bytes. -/
def OwnB (w : World) (v : Value) (bs : List UInt8) : Prop := w.ownsRow 0 5 1 v bs.length (bs.map bv)

theorem app_byte {v : Value} {bs : List UInt8} (hown : OwnB w v bs) (hb : bs.length < 1000000000) (c : UInt8) (n : Int) (hn : n = (c.toNat : Int)) (hk : ∀ v' w1, OwnB w1 v' (bs ++ [c]) → App w v w1 v' → K v' w1) :
    runK Try.prog x (Instr.buildSlice 25 1 #[(0, .int .u8 n)]) w fun s w => runK Try.prog x (Builtin.append_ #[25, 25] 25 #[v, s]) w K := by
  subst hn
  obtain ⟨i0, hi0, hz0, hz1, hz2⟩ := info_parts info_u8
  refine k_app1 Try.underlying25 hi0 hz0 hz1 hz2 rfl hown rfl rfl (by omega) (by omega) fun v' w1 ho ha => hk v' w1 ?_ ha
  unfold OwnB
  simpa [bv] using ho

theorem number_s {b : Value} {bs : List UInt8} (n : Nat) (hn : n < 18446744073709551616) (hown : OwnB w b bs) (hb : bs.length < 900000000)
    (hk : ∀ v' w1, OwnB w1 v' (bs ++ numB n) → App w b w1 v' → K v' w1) : callS Try.prog x 27 #[b, .int .u64 n] w K := by
  refine s27 ?_
  unfold m27 m27_1 m27_5
  have hl := numB_len64 hn
  refine ⟨fun t w' => ∃ (b' : Value) (n' : Nat) (zs : List UInt8), t = (b', .int .u64 n') ∧ OwnB w' b' (bs ++ zs) ∧ App w b w' b' ∧ numB n = zs ++ numB n', fun t _ => match t.2 with | .int _ q => q.toNat | _ => 0,
    ⟨b, n, [], rfl, by simpa using hown, App.refl _ _, rfl⟩, ?_⟩
  rintro _ w1 ⟨b', n', zs, rfl, ho, ha, he⟩
  have hzl : zs.length ≤ 10 := by have := congrArg List.length he; simp at this; omega
  dsimp only
  unfold m27_6 m27_3
  refine runK_of (r_geq ..) ?_
  refine condF_dec (fun h => ?_) (fun h => ?_)
  · have h' : 128 ≤ n' := by omega
    rw [numB_ge h'] at he
    refine runK_of (r_conv_int _ _ _ _ _ _ .u8 (by kernel_rfl) Try.underlying5) ?_
    refine runK_of (r_or ..) ?_
    refine app_byte ho (by simp; omega) _ _ (or128 n') fun v2 w2 ho2 ha2 => ?_
    refine runK_of (r_shr _ _ _ _ _ _ _ (by omega)) ?_
    refine ⟨⟨v2, n' / 128, zs ++ [UInt8.ofNat (n' % 128 + 128)], ?_, by simpa using ho2, ha.trans ha2, by rw [he]; simp⟩, ?_⟩
    · rw [shr_nat .u64 n' 7 7 rfl (by decide)]
    · dsimp only
      rw [shr_nat .u64 n' 7 7 rfl (by decide)]
      omega
  · have h' : n' < 128 := by omega
    rw [numB_lt h'] at he
    refine runK_of (r_conv_int _ _ _ _ _ _ .u8 (by kernel_rfl) Try.underlying5) ?_
    refine app_byte ho (by simp; omega) _ _ (byte8 n') fun v2 w2 ho2 ha2 => ?_
    exact hk v2 w2 (by rw [he]; simpa using ho2) (ha.trans ha2)
end

/-! ### Values and lists as bytes -/
def oneB (v : Vl) : List UInt8 :=
  UInt8.ofNat v.k.toNat :: (if v.k = 1 then numB v.u.toNat else if v.k = 2 then numB (zig v.i) else if v.k = 3 then eightB (bitsF v.f) else numB v.s.size ++ v.s.data.toList)
def packB (l : List Vl) : List UInt8 := l.flatMap oneB
def firstE : List Vl → Int
  | [] => 0
  | v :: r => if v.validE = 0 then firstE r else v.validE
def packE (l : List Vl) : Int := if 1000 < l.length then 20 else firstE l

/-- The numbers fit their kinds. -/
structure Vl.Wf (v : Vl) : Prop where
  k : -9223372036854775808 ≤ v.k ∧ v.k ≤ 9223372036854775807
  u : 0 ≤ v.u ∧ v.u < 18446744073709551616
  i : -9223372036854775808 ≤ v.i ∧ v.i ≤ 9223372036854775807
  f : v.f < 18446744073709551616
  s : v.s.size ≤ maxLen

theorem valid_kind {v : Vl} (h : v.validE = 0) : (v.k = 1 ∨ v.k = 2 ∨ v.k = 3 ∨ v.k = 4) ∧ v.s.size ≤ 1000 := by
  unfold Vl.validE at h
  split at h
  · rename_i hp
    split at h
    · cases h
    · refine ⟨?_, by omega⟩
      unfold Vl.plainB at hp
      by_cases h1 : v.k = 1
      · exact .inl h1
      by_cases h2 : v.k = 2
      · exact .inr (.inl h2)
      by_cases h3 : v.k = 3
      · exact .inr (.inr (.inl h3))
      by_cases h4 : v.k = 4
      · exact .inr (.inr (.inr h4))
      rw [if_neg h1, if_neg h2, if_neg h3, if_neg h4] at hp
      cases hp
  · cases h

theorem size_list (s : ByteArray) : s.data.toList.length = s.size := by rw [Array.length_toList]; rfl
theorem oneB_len {v : Vl} (hw : v.Wf) (h : v.validE = 0) : (oneB v).length ≤ 1011 := by
  obtain ⟨hk, hs⟩ := valid_kind h
  have h1 := numB_len64 (n := v.u.toNat) (by have := hw.u; omega)
  have h2 := numB_len64 (n := zig v.i) (zig_lt hw.i.1 hw.i.2)
  have h3 := numB_len64 (n := v.s.size) (by omega)
  have h4 := eightB_len (bitsF v.f)
  have h5 := size_list v.s
  unfold oneB
  simp only [List.length_cons]
  split
  · omega
  · split
    · omega
    · split
      · omega
      · rw [List.length_append]; omega

section
variable {x : PX} {w : World} {K : Value → World → Prop}

theorem own_ne_blk {v : Value} {bs : List UInt8} {g : Nat} {cs : List Value} (h : OwnB w v bs) (hb : Blk w g 36 cs) : v.ownBlock ≠ some g := own_ne h hb (by decide)

theorem put_s {b : Value} {bs : List UInt8} (v : Vl) (hw : v.Wf) (hv : v.validE = 0) (hown : OwnB w b bs) (hb : bs.length < 800000000)
    (hk : ∀ v' w1, OwnB w1 v' (bs ++ oneB v) → App w b w1 v' → K v' w1) : callS Try.prog x 20 #[b, v.val] w K := by
  obtain ⟨hkind, hsz⟩ := valid_kind hv
  refine s20 ?_
  unfold m20 m20_1
  refine k_box fun w1 hf1 hs1 hb1 => ?_
  have hb1 : Blk w1 w.heap.size 36 v.cells := hb1
  have ho1 : OwnB w1 b bs := own_no hown hf1
  unfold m20_2
  refine runK_of (r_field 36 0 0 (by kernel_rfl) _ _) ?_
  refine runK_of (r_load1 32 (by kernel_rfl) _ _ _ (hb1.cell 0)) ?_
  refine runK_of (r_conv_int _ _ _ _ _ _ .u8 (by kernel_rfl) Try.underlying5) ?_
  refine app_byte ho1 (by omega) (UInt8.ofNat v.k.toNat) _ (by rw [← byte8, Int.toNat_of_nonneg (by omega)]) fun b2 w2 ho2 ha2 => ?_
  have hb2 := hb1.app ha2 (own_ne_blk ho1 hb1)
  have hne := own_ne_blk ho2 hb2
  have ha : App w b w2 b2 := (App.no hf1).trans ha2
  generalize hg : w.heap.size = g at *
  unfold m20_5
  refine runK_of (r_field 36 0 0 (by kernel_rfl) _ _) ?_
  refine runK_of (r_load1 32 (by kernel_rfl) _ _ _ (hb2.cell 0)) ?_
  unfold m20_7
  refine runK_of (r_eql ..) ?_
  unfold m20_8
  refine condF_dec (fun h => ?_) (fun h1 => ?_)
  · unfold m20_9
    refine runK_of (r_field 36 1 1 (by kernel_rfl) _ _) ?_
    refine runK_of (r_load1 33 (by kernel_rfl) _ _ _ (hb2.cell 1)) ?_
    have hu : v.u = (v.u.toNat : Int) := (Int.toNat_of_nonneg hw.u.1).symm
    rw [hu]
    refine number_s v.u.toNat (by have := hw.u; omega) ho2 (by simp; omega) fun b3 w3 ho3 ha3 => ?_
    exact hk b3 w3 (by unfold oneB; rw [if_pos h]; simpa using ho3) (ha.trans ha3)
  unfold m20_10
  refine runK_of (r_eql ..) ?_
  unfold m20_11
  refine condF_dec (fun h => ?_) (fun h2 => ?_)
  · unfold m20_12
    refine runK_of (r_field 36 2 2 (by kernel_rfl) _ _) ?_
    refine runK_of (r_load1 2 (by kernel_rfl) _ _ _ (hb2.cell 2)) ?_
    refine runK_of (r_conv_int _ _ _ _ _ _ .u64 (by kernel_rfl) Try.underlying33) ?_
    refine runK_of (r_shl _ _ _ _ _ _ _ (by omega)) ?_
    refine runK_of (r_field 36 2 2 (by kernel_rfl) _ _) ?_
    refine runK_of (r_load1 2 (by kernel_rfl) _ _ _ (hb2.cell 2)) ?_
    refine runK_of (r_shr _ _ _ _ _ _ _ (by omega)) ?_
    refine runK_of (r_conv_int _ _ _ _ _ _ .u64 (by kernel_rfl) Try.underlying33) ?_
    refine runK_of (r_xor ..) ?_
    rw [zig_bits hw.i.1 hw.i.2]
    refine number_s (zig v.i) (zig_lt hw.i.1 hw.i.2) ho2 (by simp; omega) fun b3 w3 ho3 ha3 => ?_
    exact hk b3 w3 (by unfold oneB; rw [if_neg h1, if_pos h]; simpa using ho3) (ha.trans ha3)
  unfold m20_13
  refine runK_of (r_eql ..) ?_
  unfold m20_14
  refine condF_dec (fun h => ?_) (fun h3 => ?_)
  · unfold m20_15
    refine runK_of (r_field 36 3 3 (by kernel_rfl) _ _) ?_
    refine runK_of (r_load1 34 (by kernel_rfl) _ _ _ (hb2.cell 3)) ?_
    refine bits_s v.f ?_
    unfold m20_18 m20_20
    refine ⟨fun t w' => ∃ (b' : Value) (j : Nat), j ≤ 8 ∧ t = (b', .int .u64 (bitsF v.f : Nat), .int .i64 (56 - 8 * (j : Int))) ∧
        OwnB w' b' (bs ++ [UInt8.ofNat v.k.toNat] ++ (List.range j).map fun j => UInt8.ofNat (bitsF v.f / 2 ^ (8 * (7 - j)))) ∧ App w2 b2 w' b', fun t _ => match t.2.2 with | .int _ q => (q + 8).toNat | _ => 0,
      ⟨b2, 0, by omega, rfl, by simpa using ho2, App.refl _ _⟩, ?_⟩
    rintro _ w4 ⟨b', j, hj, rfl, ho, ha4⟩
    dsimp only
    unfold m20_21 m20_17
    refine runK_of (r_geq ..) ?_
    refine condF_dec (fun hc => ?_) (fun hc => ?_)
    · have hj7 : j ≤ 7 := by omega
      refine runK_of (r_conv_int _ _ _ _ _ _ .u64 (by kernel_rfl) Try.underlying56) ?_
      have e : (56 - 8 * (j : Int)) = ((8 * (7 - j) : Nat) : Int) := by omega
      rw [e, wrap_u64 _ (by omega)]
      refine runK_of (r_shr _ _ _ _ _ _ _ (by omega)) ?_
      rw [shr_nat .u64 _ _ (8 * (7 - j)) rfl (by show _ ≤ 64; omega)]
      refine runK_of (r_conv_int _ _ _ _ _ _ .u8 (by kernel_rfl) Try.underlying5) ?_
      refine app_byte ho (by simp; omega) _ _ (byte8 _) fun b5 w5 ho5 ha5 => ?_
      refine runK_of (r_sub ..) ?_
      rw [wrap_i64 _ (by omega) (by omega)]
      refine ⟨⟨b5, j + 1, by omega, ?_, by rw [List.range_succ]; simpa using ho5, ha4.trans ha5⟩, ?_⟩
      · congr 3; omega
      · dsimp only; omega
    · have hj8 : j = 8 := by omega
      subst hj8
      exact hk b' w4 (by unfold oneB; rw [if_neg h1, if_neg h2, if_pos h]; simpa [eightB] using ho) (ha.trans ha4)
  · unfold m20_22 m20_4
    refine ⟨fun w' => Blk w' g 36 v.cells, hb2.no (Fr.drew w2), ?_⟩
    refine quietK_of (fun w' hS => r_field 36 4 4 (by kernel_rfl) _ _) ?_
    refine quietK_of (fun w' hS => r_load1 9 (by kernel_rfl) _ _ _ (hS.cell 4)) ?_
    refine quietK_of (fun w' hS => r_slen _ _ _ _ _ Try.underlying9) ?_
    refine quietK_of (fun w' hS => r_conv_int _ _ _ _ _ _ .u64 (by kernel_rfl) Try.underlying33) ?_
    refine quietK_of (fun w' hS => r_field 36 4 4 (by kernel_rfl) _ _) ?_
    refine quietK_of (fun w' hS => r_load1 9 (by kernel_rfl) _ _ _ (hS.cell 4)) ?_
    rw [wrap_u64 _ (by omega)]
    have ho2' : OwnB w2.drew b2 (bs ++ [UInt8.ofNat v.k.toNat]) := own_no ho2 (Fr.drew w2)
    refine number_s v.s.size (by omega) ho2' (by simp; omega) fun b3 w3 ho3 ha3 => ?_
    have hb3 : Blk w3 g 36 v.cells := (hb2.no (Fr.drew w2)).app ha3 hne
    refine moreS_keep hb3 ?_
    obtain ⟨i0, hi0, hz0, hz1, hz2⟩ := info_parts info_u8
    have hl3 := numB_len64 (n := v.s.size) (by omega)
    refine k_app_str Try.underlying25 Try.underlying9 hi0 hz0 hz1 hz2 ho3 v.s (by simp; omega) fun b4 w4 ho4 ha4 => ?_
    refine moreS_keep (hb3.app ha4 (own_ne_blk ho3 hb3)) ?_
    refine hk b4 w4 ?_ (ha.trans ((App.no (Fr.drew w2)).trans (ha3.trans ha4)))
    unfold oneB OwnB
    rw [if_neg h1, if_neg h2, if_neg h3]
    have e1 : Lib.strCells v.s = v.s.data.toList.map bv := rfl
    rw [e1, ← List.map_append] at ho4
    have e2 := size_list v.s
    have e3 : (bs ++ UInt8.ofNat v.k.toNat :: (numB v.s.size ++ v.s.data.toList)) = bs ++ [UInt8.ofNat v.k.toNat] ++ numB v.s.size ++ v.s.data.toList := by simp
    rw [e3]
    have e4 : (bs ++ [UInt8.ofNat v.k.toNat] ++ numB v.s.size ++ v.s.data.toList).length = (bs ++ [UInt8.ofNat v.k.toNat] ++ numB v.s.size).length + v.s.size := by rw [List.length_append, e2]
    rw [e4]
    exact ho4
end
end Go.Proofs.Ytdihigmcihheoaa
