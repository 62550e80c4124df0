/-
  What the document's answer of layer 2 gives (the package moietyref02, but for 'Unpack').
-/
import Derived.Test.YtdihigmcihheoaaWC
import Derived.Laws.BytesArg
set_option linter.unusedVariables false
set_option linter.unusedSimpArgs false
set_option maxRecDepth 20000
namespace Go.Proofs.Ytdihigmcihheoaa
open Go.FW

theorem isNan_iff (f : Nat) : isNan f = true ↔ 9218868437227405312 < f % 9223372036854775808 := by
  have hs : FloatKind.f64.format.signWeight = 9223372036854775808 := by decide
  have hb : FloatKind.f64.format.binade = 4503599627370496 := by decide
  have hi : FloatKind.f64.format.infRung = 9218868437227405312 := by decide
  unfold isNan Ieee.Format.order Ieee.Format.read
  rw [hs, hb, hi]
  dsimp only
  have hc : ∀ i : Int, compare i i = Ordering.eq := fun i => by rw [Int.compare_eq_ite_le]; simp
  have hcn : ∀ i : Nat, compare i i = Ordering.eq := fun i => by rw [Nat.compare_eq_ite_le]; simp
  split
  · simp only [Ieee.Datum.order, hc]; simp; omega
  split
  · simp only [Ieee.Datum.order, hc]; simp; omega
  split
  · simp only [Ieee.Datum.order, hcn]; simp; omega
  · simp only [Ieee.Datum.order]; simp; omega

/-! ### Strings of bytes -/
def strB (bs : List UInt8) : ByteArray := ⟨bs.toArray⟩
theorem strB_size (bs : List UInt8) : (strB bs).size = bs.length := by simp [strB, ByteArray.size]
theorem strB_append (a b : List UInt8) : strB a ++ strB b = strB (a ++ b) := by
  apply ByteArray.ext
  simp [strB]
theorem strB_of (s : ByteArray) : strB s.data.toList = s := by
  apply ByteArray.ext
  simp [strB]
theorem strOfNums_bv (bs : List UInt8) : strOfNums (bs.map fun c => (c.toNat : Int)) = strB bs := by
  unfold strOfNums strB
  congr 2
  rw [List.map_map]
  induction bs with
  | nil => rfl
  | cons c r ih => rw [List.map_cons, ih]; simp
theorem strB_inj {a b : List UInt8} : strB a = strB b ↔ a = b := by
  constructor
  · intro h
    have := congrArg (fun s => s.data.toList) h
    simpa [strB] using this
  · rintro rfl; rfl
theorem toList_eq (a b : ByteArray) : (a.toList == b.toList) = decide (a = b) := by
  by_cases h : a = b
  · subst h; simp
  · rw [decide_eq_false h]
    apply Bool.eq_false_iff.2
    intro e
    apply h
    have e := eq_of_beq e
    rw [ByteArray.toList_eq, ByteArray.toList_eq] at e
    apply ByteArray.ext
    exact Array.toList_inj.1 e

theorem r_bytes_str {g o n c : Nat} {bs : List UInt8} {w : World} (hl : bs.length = n) (hc : ∀ i u, (bs.map bv)[i]? = some u → w.cell? ⟨g, o + i, none⟩ = some u) :
    (convert 25 9 (.slice (some ⟨g, o, none⟩) n c)).run Try.prog w = .ok (.string (strB bs)) w := by
  have h := run_convert_bytes_arg (P := Try.prog) w 25 5 Try.underlying25 Try.underlying5 g o n c (bs.map fun c => (c.toNat : Int)) (by simpa using hl) (fun i hi => by
    have hi' : i < bs.length := by omega
    rw [hc i (bv bs[i]) (by simp [List.getElem?_eq_getElem hi'])]
    simp [bv, List.getD, List.getElem?_eq_getElem hi']) 9 Try.underlying9
  rw [strOfNums_bv] at h
  exact h
theorem r_own_str {v : Value} {bs : List UInt8} {w : World} (h : OwnB w v bs) : (convert 25 9 v).run Try.prog w = .ok (.string (strB bs)) w := by
  have h0 := h
  obtain ⟨_, ⟨rfl, hn⟩ | ⟨g, cap, cur, rfl, _⟩⟩ := h
  · have hb : bs = [] := List.eq_nil_of_length_eq_zero hn
    subst hb
    exact run_convert_bytes_nil (P := Try.prog) w 25 5 Try.underlying25 Try.underlying5 0 0 9 Try.underlying9
  · have hc := World.ownsRow.cells (g := g) h0 rfl
    refine r_bytes_str rfl fun i u hi => ?_
    have := hc i u hi
    rwa [add_lit] at this

section
variable {x : PX} {w : World} {K : Value → World → Prop}

theorem k_byte (c : UInt8) (n : Int) (hn : n = (c.toNat : Int)) (hk : ∀ g w1, Fr No w w1 → (∀ w2, w2.cell? ⟨g, 0, none⟩ = some (bv c) → (convert 25 9 (.slice (some ⟨g, 0, none⟩) 1 1)).run Try.prog w2 = .ok (.string (strB [c])) w2) →
    w1.cell? ⟨g, 0, none⟩ = some (bv c) → g < w1.heap.size → K (.slice (some ⟨g, 0, none⟩) 1 1) w1) : runK Try.prog x (Instr.buildSlice 25 1 #[(0, .int .u8 n)]) w K := by
  subst hn
  refine k_one (z := .int .u8 0) Try.underlying25 (by kernel_rfl) (by kernel_rfl) rfl rfl fun w1 hf hs hb => ?_
  refine hk _ w1 hf (fun w2 h2 => r_bytes_str rfl fun i u hi => ?_) (by rw [hb.cell]; rfl) hb.lt
  match i, hi with
  | 0, hi => simp at hi; rw [← hi]; exact h2

theorem tmod_nat (n m : Nat) : (n : Int).tmod (m : Int) = ((n % m : Nat) : Int) := rfl
theorem tdiv_nat (n m : Nat) : (n : Int).tdiv (m : Int) = ((n / m : Nat) : Int) := rfl

theorem number_r : ∀ (n : Nat), n < 18446744073709551616 → ∀ {x : PX} {w : World} {K : Value → World → Prop}, (∀ w1, Fr No w w1 → K (.string (strB (numB n))) w1) → callS Try.prog x 29 #[.int .u64 n] w K := by
  intro n
  induction n using Nat.strongRecOn with
  | _ n ih =>
  intro hn x w K hk
  refine s29 ?_
  unfold m29 m29_1
  rw [runK_eq (r_lss ..)]
  rcases Nat.lt_or_ge n 128 with h | h
  · rw [decide_eq_true (by omega), condF_true]
    refine runK_of (r_conv_int _ _ _ _ _ _ .u8 (by kernel_rfl) Try.underlying5) ?_
    refine k_byte (UInt8.ofNat n) _ (byte8 n) fun g w1 hf hs hc hg => ?_
    refine runK_of (hs _ hc) ?_
    have := hk w1 hf
    rwa [numB_lt (by omega)] at this
  · rw [decide_eq_false (by omega), condF_false]
    have h' : 128 ≤ n := by omega
    rw [numB_ge h'] at hk
    have hl := numB_len64 (n := n / 128) (by omega)
    have h1 := @ih (n / 128) (by omega) (by omega)
    refine ⟨fun _ => True, trivial, ?_⟩
    refine quietK_of (fun _ _ => r_rem _ _ _ _ _ _ (by decide)) ?_
    refine quietK_of (fun _ _ => r_add ..) ?_
    refine quietK_of (fun _ _ => r_conv_int _ _ _ _ _ _ .u8 (by kernel_rfl) Try.underlying5) ?_
    refine quietK_of (fun _ _ => r_quo _ _ _ _ _ _ (by decide)) ?_
    have e1 : IntKind.u64.wrap (128 + (n : Int).tmod 128) = ((128 + n % 128 : Nat) : Int) := by
      rw [show (128 : Int) = ((128 : Nat) : Int) from rfl, tmod_nat, ← Int.natCast_add, wrap_u64 _ (by omega)]
    have e2 : IntKind.u64.wrap ((n : Int).tdiv 128) = ((n / 128 : Nat) : Int) := by
      rw [show (128 : Int) = ((128 : Nat) : Int) from rfl, tdiv_nat, wrap_u64 _ (by omega)]
    rw [e1, e2, show 128 + n % 128 = n % 128 + 128 from Nat.add_comm ..]
    have hsz : (strB [UInt8.ofNat (n % 128 + 128)]).size + (strB (numB (n / 128))).size ≤ 9223372036854775807 := by rw [strB_size, strB_size]; simp; omega
    constructor
    · refine k_byte (UInt8.ofNat (n % 128 + 128)) _ (byte8 _) fun g w1 hf hs hc hg => ?_
      refine moreS_and (fun w => w.cell? ⟨g, 0, none⟩ = some (bv (UInt8.ofNat (n % 128 + 128)))) trivial hc ?_
      refine quietK_of (fun w2 h2 => hs w2 h2.2) ?_
      refine h1 fun w2 hf2 => ?_
      refine moreS_keep ⟨trivial, by rw [← hc]; exact World.cell?_of_block (hf2.block _ hg id)⟩ ?_
      refine quietK_of (fun w2 h2 => r_sadd _ _ _ _ _ hsz) ?_
      rw [strB_append]
      exact hk w2 (((Fr.drew w).no hf).no hf2)
    · refine h1 fun w2 hf2 => ?_
      refine moreS_keep trivial ?_
      refine k_byte (UInt8.ofNat (n % 128 + 128)) _ (byte8 _) fun g w1 hf hs hc hg => ?_
      refine moreS_and (fun w => w.cell? ⟨g, 0, none⟩ = some (bv (UInt8.ofNat (n % 128 + 128)))) trivial hc ?_
      refine quietK_of (fun w2 h2 => hs w2 h2.2) ?_
      refine quietK_of (fun w2 h2 => r_sadd _ _ _ _ _ hsz) ?_
      rw [strB_append]
      exact hk w1 (((Fr.drew w).no hf2).no hf)

theorem eight_r (n : Nat) (hn : n < 18446744073709551616) (hk : ∀ w1, Fr No w w1 → K (.string (strB (eightB n))) w1) : callS Try.prog x 30 #[.int .u64 n] w K := by
  refine s30 ?_
  unfold m30 m30_1 m30_2 m30_5 m30_7
  refine ⟨fun t w' => ∃ j : Nat, j ≤ 8 ∧ t = (.int .u64 (n / 2 ^ (8 * j) : Nat), .string (strB ((List.range j).map fun i => UInt8.ofNat (n / 2 ^ (8 * (j - 1 - i))))), .int .i64 j) ∧ Fr No w w',
    fun t _ => match t.2.2 with | .int _ q => 8 - q.toNat | _ => 0, ⟨0, by omega, by simp [strB], Fr.refl _ w⟩, ?_⟩
  rintro _ w1 ⟨j, hj, rfl, hf⟩
  dsimp only
  unfold m30_8 m30_4
  refine runK_of (r_lss ..) ?_
  refine condF_dec (fun h => ?_) (fun h => ?_)
  · have hj8 : j < 8 := by omega
    have hlt : n / 2 ^ (8 * j) < 18446744073709551616 := Nat.lt_of_le_of_lt (Nat.div_le_self ..) hn
    refine runK_of (r_rem _ _ _ _ _ _ (by decide)) ?_
    refine runK_of (r_conv_int _ _ _ _ _ _ .u8 (by kernel_rfl) Try.underlying5) ?_
    refine k_byte (UInt8.ofNat (n / 2 ^ (8 * j))) _ ?_ fun g w2 hf2 hs hc hg => ?_
    · rw [show (256 : Int) = ((256 : Nat) : Int) from rfl, tmod_nat, byte8]
      simp
    refine runK_of (hs _ hc) ?_
    refine runK_of (r_sadd _ _ _ _ _ (by rw [strB_size, strB_size]; simp; omega)) ?_
    refine runK_of (r_quo _ _ _ _ _ _ (by decide)) ?_
    refine runK_of (r_add ..) ?_
    rw [wrap_i64 _ (by omega) (by omega), strB_append, show (256 : Int) = ((256 : Nat) : Int) from rfl, tdiv_nat, wrap_u64 _ (by omega)]
    refine ⟨⟨j + 1, by omega, ?_, hf.no hf2⟩, by dsimp only; omega⟩
    have e1 : n / 2 ^ (8 * j) / 256 = n / 2 ^ (8 * (j + 1)) := by rw [Nat.div_div_eq_div_mul, show 8 * (j + 1) = 8 * j + 8 from by omega, Nat.pow_add]
    have e2 : [UInt8.ofNat (n / 2 ^ (8 * j))] ++ ((List.range j).map fun i => UInt8.ofNat (n / 2 ^ (8 * (j - 1 - i)))) = (List.range (j + 1)).map fun i => UInt8.ofNat (n / 2 ^ (8 * (j + 1 - 1 - i))) := by
      rw [List.range_succ_eq_map, List.map_cons, List.map_map]
      simp only [List.singleton_append, Nat.add_sub_cancel, Nat.sub_zero]
      congr 1
      apply List.map_congr_left
      intro i hi
      simp only [Function.comp, Nat.succ_eq_add_one]
      congr 4
      omega
    rw [e1, e2]
    rfl
  · have hj8 : j = 8 := by omega
    subst hj8
    exact hk w1 hf

theorem none_r (f : Nat) (hf : f < 18446744073709551616) (hk : K (.bool (isNan f)) w) : callS Try.prog x 35 #[.float .f64 f] w K := by
  refine s35 ?_
  unfold m35 m35_1
  refine callS_ext (x_f64bits ..) ?_
  refine runK_of (r_shl _ _ _ _ _ _ _ (by decide)) ?_
  refine runK_of (r_gtr ..) ?_
  have e : decide ((18437736874454810624 : Int) < IntKind.u64.wrap ((f : Int) * 2 ^ min (1 : Int).toNat IntKind.u64.bits)) = isNan f := by
    have hw : IntKind.u64.wrap ((f : Int) * 2 ^ min (1 : Int).toNat IntKind.u64.bits) = ((f * 2) % 18446744073709551616 : Nat) := by
      simp [IntKind.wrap, IntKind.bits, IntKind.signed]
    rw [hw]
    apply Bool.eq_iff_iff.2
    rw [isNan_iff, decide_eq_true_iff]
    omega
  show K (.bool _) w
  rw [e]
  exact hk

theorem bits_r (f : Nat) (hf : f < 18446744073709551616) (hk : K (.int .u64 (bitsF f)) w) : callS Try.prog x 26 #[.float .f64 f] w K := by
  refine s26 ?_
  unfold m26 m26_1
  refine none_r f hf ?_
  refine condF_of (fun h => ?_) (fun h => ?_)
  · rw [bitsF, if_pos h] at hk
    exact hk
  · rw [bitsF, if_neg (by rw [h]; simp)] at hk
    exact callS_ext (x_f64bits ..) hk
end
end Go.Proofs.Ytdihigmcihheoaa
