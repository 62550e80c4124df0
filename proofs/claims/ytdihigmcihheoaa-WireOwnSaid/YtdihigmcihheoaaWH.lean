/-
  What the wire's 'value' and 'Unpack' give.
-/
import Derived.Test.YtdihigmcihheoaaWG
import Derived.Test.YtdihigmcihheoaaFD
set_option linter.unusedVariables false
set_option linter.unusedSimpArgs false
set_option maxRecDepth 20000
namespace Go.Proofs.Ytdihigmcihheoaa
open Go.FW

theorem resC_n {P : Program} {t : TypeId} {cs : List Value} {a : Addr} {w : World} {k : Value → Prop} (h : aggB P t cs.length = true) (hc : ∀ j v, cs[j]? = some v → w.cell? (a.add j) = some v) (hk : k (.agg cs.toArray)) :
    resC P t (.pointer (some a)) w k := by
  refine ⟨_, ?_, hk⟩
  have := r_loadn (P := P) t cs h a w hc
  simp only [Instr.loadAt, Instr.sureAddr, Sem.run_bind, Sem.run_pure, Result.andThen] at this
  simp only [asAddr, Sem.run_bind, Sem.run_pure, Result.andThen]
  exact this
theorem resC_1 {P : Program} {t : TypeId} {v : Value} {a : Addr} {w : World} {k : Value → Prop} (h : cellB P t = true) (hc : w.cell? a = some v) (hk : k v) : resC P t (.pointer (some a)) w k := by
  refine ⟨_, ?_, hk⟩
  have := r_load1 (P := P) t h a v w hc
  simp only [Instr.loadAt, Instr.sureAddr, Sem.run_bind, Sem.run_pure, Result.andThen] at this
  simp only [asAddr, Sem.run_bind, Sem.run_pure, Result.andThen]
  exact this

theorem zag_bits (n : Nat) (hn : n < 18446744073709551616) :
    bits .xor .i64 (IntKind.i64.wrap ((n : Int).fdiv (2 ^ min (1 : Int).toNat IntKind.u64.bits))) (IntKind.i64.wrap (0 - IntKind.i64.wrap (bits .and .u64 (n : Int) 1))) = zag n := by
  have e1 : (n : Int).fdiv (2 ^ min (1 : Int).toNat IntKind.u64.bits) = ((n / 2 : Nat) : Int) := shr_nat .u64 n 1 1 rfl (by decide)
  have e2 : bits .and .u64 (n : Int) 1 = ((n % 2 : Nat) : Int) := by
    show IntKind.u64.wrap ((BitVec.ofInt 64 (n : Int) &&& BitVec.ofInt 64 1).toNat : Int) = _
    rw [BitVec.ofInt_natCast, show BitVec.ofInt 64 1 = 1#64 from rfl, BitVec.toNat_and, BitVec.toNat_ofNat, Nat.mod_eq_of_lt hn, show (1#64).toNat = 1 from rfl, Nat.and_one_is_mod, wrap_u64 _ (by omega)]
  rw [e1, e2, wrap_i64 _ (by omega) (by omega), wrap_i64 ((n % 2 : Nat) : Int) (by omega) (by omega), wrap_i64 _ (by omega) (by omega)]
  unfold zag
  show IntKind.i64.wrap ((BitVec.ofInt 64 ((n / 2 : Nat) : Int) ^^^ BitVec.ofInt 64 (0 - ((n % 2 : Nat) : Int))).toNat : Int) = _
  rcases Nat.mod_two_eq_zero_or_one n with h | h
  · rw [h, if_pos rfl, BitVec.ofInt_natCast, show BitVec.ofInt 64 (0 - ((0 : Nat) : Int)) = 0#64 from rfl, BitVec.xor_zero, BitVec.toNat_ofNat, Nat.mod_eq_of_lt (by omega), wrap_i64 _ (by omega) (by omega)]
  · rw [h, if_neg (by omega), BitVec.ofInt_natCast, show BitVec.ofInt 64 (0 - ((1 : Nat) : Int)) = BitVec.allOnes 64 from by decide, BitVec.xor_allOnes, BitVec.toNat_not, BitVec.toNat_ofNat, Nat.mod_eq_of_lt (by omega), IntKind.wrap_i64]
    omega

theorem valP_nil : valP [] = .error 22 := rfl
theorem noV_cells (k : Int) : (noV k).cells = [.int .i64 k, .int .u64 0, .int .i64 0, .float .f64 0, .string ⟨#[]⟩] := rfl

section
variable {x : PX} {w : World} {K : Value → World → Prop}

theorem rvalue_s {gR : Nat} {b : Value} {bs : List UInt8} {at_ : Nat} (hR : Rdr w gR b bs at_)
    (hk : ∀ v a w1, valP (bs.drop at_) = .ok (v, bs.drop a) → at_ < a → v.Wf → Fr (· = gR) w w1 → Rdr w1 gR b bs a → K v.val w1)
    (hx : ∀ e w1, valP (bs.drop at_) = .error e → Fr (· = gR) w w1 → x [{ v := faultV e, recovered := false }] w1) : callS Try.prog x 25 #[.pointer (some ⟨gR, 0, none⟩)] w K := by
  have hgR := hR.B.lt
  refine s25 ?_
  unfold m25 m25_1
  refine k_alloc (z := .agg #[.int .i64 0, .int .u64 0, .int .i64 0, .float .f64 0, .string ⟨#[]⟩]) (by kernel_rfl) fun w1 hf1 hs1 hb1 => ?_
  generalize hg2 : w.heap.size = g2 at *
  have hne2 : g2 ≠ gR := by omega
  have hF1 : Fr (· = gR) w w1 := hf1.mono fun _ _ h => h.elim
  refine next_r (hR.no hf1) (fun c w2 hc hle hf2 hR2 => ?_) (fun w2 hc hf2 => hx 22 w2 (by rw [hc]; rfl) (hF1.same hf2))
  have hF2 := hF1.same hf2
  have hb2 := hb1.fr hf2 hne2
  rw [hc] at hk hx
  unfold bv
  refine runK_of (r_conv_int _ _ _ _ _ _ .i64 (by kernel_rfl) Try.underlying32) ?_
  have hclt : c.toNat < 256 := c.toNat_lt
  rw [wrap_i64 _ (by omega) (by omega)]
  refine runK_of (w' := w2) (v := .agg #[.int .i64 (c.toNat : Int), .int .u64 0, .int .i64 0, .float .f64 0, .string ⟨#[]⟩]) (by kernel_rfl) ?_
  refine k_alloc (z := .agg #[.int .i64 0, .int .u64 0, .int .i64 0, .float .f64 0, .string ⟨#[]⟩]) (by kernel_rfl) fun w3 hf3 hs3 hb3 => ?_
  refine k_storen hb3 rfl (by intro u hu; simp at hu; rcases hu with rfl | rfl | rfl | rfl | rfl <;> rfl) size_val fun w4 hf4 hs4 hb4 => ?_
  have hsz2 := hF2.size
  have hsz12 := hf2.size
  generalize hg3 : w2.heap.size = g3 at *
  have hne3 : g3 ≠ gR := by omega
  have hne23 : g2 ≠ g3 := by omega
  have hn34 : Fr No w2 w4 := hf3.new hf4 (fun k hk => by have hk : k = g3 := hk; omega)
  have hF4 : Fr (· = gR) w w4 := hF2.new hn34 (fun k hk => hk.elim)
  have hR4 := hR2.no hn34
  have hb2 := hb2.no hn34
  -- behind the choice
  have fin : ∀ (v : Vl) (a : Nat) (w5 : World) (R : Ending → World → Prop), R = onE K x → Blk w5 g3 36 v.cells → Blk w5 g2 36 ((.agg #[.int .i64 0, .int .u64 0, .int .i64 0, .float .f64 0, .string ⟨#[]⟩] : Value).cells.toList) →
      valP (c :: bs.drop (at_ + 1)) = .ok (v, bs.drop a) → at_ < a → v.Wf → Fr (· = gR) w w5 → Rdr w5 gR b bs a →
      runK Try.prog (px R) (Instr.loadAt 36 (.pointer (some ⟨g3, 0, none⟩))) w5 fun v41 w => runU Try.prog (px R) (Instr.storeAt 36 (.pointer (some ⟨g2, 0, none⟩)) v41) w fun w =>
        resC Try.prog 36 (.pointer (some ⟨g2, 0, none⟩)) w fun r0 => R (.returned r0) w := by
    intro v a w5 R hRR hb5 hr5 hv hlt hwf hF5 hR5
    subst hRR
    refine runK_of (r_loadn 36 v.cells (by kernel_rfl) _ _ fun j u hj => by rw [add_lit, hb5.cell, Nat.zero_add]; exact hj) ?_
    refine k_storen hr5 rfl (by intro u hu; simp [Vl.cells] at hu; rcases hu with rfl | rfl | rfl | rfl | rfl <;> rfl) size_val fun w6 hf6 hs6 hb6 => ?_
    refine resC_n (by kernel_rfl) (fun j u hj => by rw [add_lit, hb6.cell, Nat.zero_add]; exact hj) ?_
    have hn : Fr (· = gR) w w6 := hF5.new hf6 (fun k hk => by have hk : k = g2 := hk; omega)
    refine hk v a w6 hv hlt hwf hn ?_
    have hno : ∀ k : Nat, k = g2 → ∀ i c, w5.cell? ⟨k, i, none⟩ ≠ some (bv c) := by
      rintro k rfl i c hc
      rw [hr5.cell] at hc
      match i, hc with
      | 0, hc => simp [bv, Value.cells] at hc
      | 1, hc => simp [bv, Value.cells] at hc
      | 2, hc => simp [bv, Value.cells] at hc
      | 3, hc => simp [bv, Value.cells] at hc
      | 4, hc => simp [bv, Value.cells] at hc
      | i + 5, hc => simp [Value.cells] at hc
    exact ⟨hR5.B.fr hf6 (fun e => hne2 e.symm), hR5.b.fr hf6 hno, hR5.len, hR5.at_⟩
  have wf0 : (noV c.toNat).Wf := ⟨by show -9223372036854775808 ≤ (c.toNat : Int) ∧ (c.toNat : Int) ≤ 9223372036854775807; omega, by show (0 : Int) ≤ 0 ∧ (0 : Int) < 18446744073709551616; omega, by show -9223372036854775808 ≤ (0 : Int) ∧ (0 : Int) ≤ 9223372036854775807; omega, by show 0 < 18446744073709551616; omega, by show 0 ≤ maxLen; omega⟩
  have st : ∀ (i : Nat) (u : Value) (w5 w6 : World), Fr (· = gR) w w5 → Rdr w5 gR b bs at_ → True := fun _ _ _ _ _ _ => trivial
  have hb4 : Blk w4 g3 36 (noV c.toNat).cells := hb4
  -- a store into the value's own block keeps all else
  have hset : ∀ {a : Nat} {w5 w6 : World} {cs : List Value}, Fr (· = gR) w w5 → Rdr w5 gR b bs a → Blk w5 g3 36 cs → (∀ (i : Nat) (c : UInt8), cs[i]? ≠ some (bv c)) → Fr (· = g3) w5 w6 → Fr (· = gR) w w6 ∧ Rdr w6 gR b bs a := by
    intro a w5 w6 cs hF hR5 hB5 hcs hf6
    refine ⟨hF.new hf6 (fun k hk => by have hk : k = g3 := hk; omega), hR5.B.fr hf6 (fun e => hne3 e.symm), hR5.b.fr hf6 ?_, hR5.len, hR5.at_⟩
    rintro k rfl i c hc
    rw [hB5.cell] at hc
    exact hcs i c hc
  have hcs0 : ∀ (i : Nat) (c' : UInt8), (noV c.toNat).cells[i]? ≠ some (bv c') := by
    intro i c' hc
    rw [noV_cells] at hc
    match i, hc with
    | 0, hc => simp [bv] at hc
    | 1, hc => simp [bv] at hc
    | 2, hc => simp [bv] at hc
    | 3, hc => simp [bv] at hc
    | 4, hc => simp [bv] at hc
    | i + 5, hc => simp at hc
  refine runK_of (r_field 36 0 0 (by kernel_rfl) _ _) ?_
  refine runK_of (r_load1 32 (by kernel_rfl) _ _ _ (hb4.cell 0)) ?_
  refine runK_of (r_eql ..) ?_
  refine condF_dec (fun h => ?_) (fun n1 => ?_)
  · have h : (c.toNat : Int) = 1 := h
    have h : c.toNat = 1 := by omega
    refine rnumber_s hR4 (fun n a w5 hp hlt hn hf5 hR5 => ?_) (fun e w5 hp hf5 => ?_)
    · have hb5 := hb4.fr hf5 hne3
      refine runK_of (r_field 36 1 1 (by kernel_rfl) _ _) ?_
      refine k_store hb5 (i := 1) rfl rfl (by kernel_rfl) fun w6 hf6 _ hb6 => ?_
      obtain ⟨hF6, hR6⟩ := hset (hF4.same hf5) hR5 hb5 hcs0 hf6
      rw [h] at hb6
      refine fin { noV 1 with u := n } a w6 _ rfl hb6 ((hb2.fr hf5 hne2).fr hf6 hne23) ?_ (by omega) ?_ hF6 hR6
      · rw [valP, if_pos h, hp]
      · rw [h] at wf0; exact { wf0 with u := by show (0 : Int) ≤ (n : Int) ∧ (n : Int) < 18446744073709551616; omega }
    · exact hx e w5 (by rw [valP, if_pos h, hp]) (hF4.same hf5)
  have n1 : c.toNat ≠ 1 := fun e => n1 (by show (c.toNat : Int) = 1; omega)
  refine runK_of (r_eql ..) ?_
  refine condF_dec (fun h => ?_) (fun n2 => ?_)
  · have h : (c.toNat : Int) = 2 := h
    have h : c.toNat = 2 := by omega
    refine rnumber_s hR4 (fun n a w5 hp hlt hn hf5 hR5 => ?_) (fun e w5 hp hf5 => ?_)
    · have hb5 := hb4.fr hf5 hne3
      refine runK_of (r_shr _ _ _ _ _ _ _ (by omega)) ?_
      refine runK_of (r_conv_int _ _ _ _ _ _ .i64 (by kernel_rfl) Try.underlying2) ?_
      refine runK_of (r_and ..) ?_
      refine runK_of (r_conv_int _ _ _ _ _ _ .i64 (by kernel_rfl) Try.underlying2) ?_
      refine runK_of (r_neg ..) ?_
      refine runK_of (r_xor ..) ?_
      rw [zag_bits n hn]
      refine runK_of (r_field 36 2 2 (by kernel_rfl) _ _) ?_
      refine k_store hb5 (i := 2) rfl rfl (by kernel_rfl) fun w6 hf6 _ hb6 => ?_
      obtain ⟨hF6, hR6⟩ := hset (hF4.same hf5) hR5 hb5 hcs0 hf6
      rw [h] at hb6
      refine fin { noV 2 with i := zag n } a w6 _ rfl hb6 ((hb2.fr hf5 hne2).fr hf6 hne23) ?_ (by omega) ?_ hF6 hR6
      · rw [valP, if_neg n1, if_pos h, hp]
      · rw [h] at wf0; exact { wf0 with i := by show -9223372036854775808 ≤ zag n ∧ zag n ≤ 9223372036854775807; unfold zag; split <;> omega }
    · exact hx e w5 (by rw [valP, if_neg n1, if_pos h, hp]) (hF4.same hf5)
  have n2 : c.toNat ≠ 2 := fun e => n2 (by show (c.toNat : Int) = 2; omega)
  refine runK_of (r_eql ..) ?_
  refine condF_dec (fun h => ?_) (fun n3 => ?_)
  · have h : (c.toNat : Int) = 3 := h
    have h : c.toNat = 3 := by omega
    refine rfloat_s hR4 (fun n w5 hp hn hf5 hR5 => ?_) (fun e w5 hp hf5 => ?_)
    · have hb5 := hb4.fr hf5 hne3
      refine runK_of (r_field 36 3 3 (by kernel_rfl) _ _) ?_
      refine k_store hb5 (i := 3) rfl rfl (by kernel_rfl) fun w6 hf6 _ hb6 => ?_
      obtain ⟨hF6, hR6⟩ := hset (hF4.same hf5) hR5 hb5 hcs0 hf6
      rw [h] at hb6
      refine fin { noV 3 with f := n } _ w6 _ rfl hb6 ((hb2.fr hf5 hne2).fr hf6 hne23) ?_ (by omega) ?_ hF6 hR6
      · rw [valP, if_neg n1, if_neg n2, if_pos h, hp]
      · rw [h] at wf0; exact { wf0 with f := hn }
    · exact hx e w5 (by rw [valP, if_neg n1, if_neg n2, if_pos h, hp]) (hF4.same hf5)
  have n3 : c.toNat ≠ 3 := fun e => n3 (by show (c.toNat : Int) = 3; omega)
  refine runK_of (r_eql ..) ?_
  refine condF_dec (fun h => ?_) (fun n4 => ?_)
  · have h : (c.toNat : Int) = 4 := h
    have h : c.toNat = 4 := by omega
    refine rtext_s hR4 (fun s a w5 hp hlt hs hf5 hR5 => ?_) (fun e w5 hp hf5 => ?_)
    · have hb5 := hb4.fr hf5 hne3
      refine runK_of (r_field 36 4 4 (by kernel_rfl) _ _) ?_
      refine k_store hb5 (i := 4) rfl rfl (by kernel_rfl) fun w6 hf6 _ hb6 => ?_
      obtain ⟨hF6, hR6⟩ := hset (hF4.same hf5) hR5 hb5 hcs0 hf6
      rw [h] at hb6
      refine fin { noV 4 with s := s } a w6 _ rfl hb6 ((hb2.fr hf5 hne2).fr hf6 hne23) ?_ (by omega) ?_ hF6 hR6
      · rw [valP, if_neg n1, if_neg n2, if_neg n3, if_pos h, hp]
      · rw [h] at wf0; exact { wf0 with s := by show s.size ≤ maxLen; simp only [maxLen]; omega }
    · exact hx e w5 (by rw [valP, if_neg n1, if_neg n2, if_neg n3, if_pos h, hp]) (hF4.same hf5)
  have n4 : c.toNat ≠ 4 := fun e => n4 (by show (c.toNat : Int) = 4; omega)
  exact k_fault 21 (hx 21 w4 (by rw [valP, if_neg n1, if_neg n2, if_neg n3, if_neg n4]) hF4)
end
end Go.Proofs.Ytdihigmcihheoaa
