/-
  The wire's readers: a plain parser, and what 'next', 'number', 'float', 'text' and 'value' give.
-/
import Derived.Test.YtdihigmcihheoaaWF
set_option linter.unusedVariables false
set_option linter.unusedSimpArgs false
set_option maxRecDepth 20000
namespace Go.Proofs.Ytdihigmcihheoaa
open Go.FW

/-! ### The parser -/
def numP : Nat → Nat → List UInt8 → Except Int (Nat × List UInt8)
  | _, _, [] => .error 22
  | k, n, c :: r => if (k = 9 ∧ 1 < c.toNat) ∨ (0 < k ∧ c.toNat = 0) then .error 23 else if c.toNat < 128 then .ok (n + c.toNat % 128 * 128 ^ k, r) else numP (k + 1) (n + c.toNat % 128 * 128 ^ k) r
def beN (l : List UInt8) : Nat := l.foldl (fun n c => n * 256 + c.toNat) 0
def fltP (l : List UInt8) : Except Int (Nat × List UInt8) := if l.length < 8 then .error 22 else if bitsF (beN (l.take 8)) = beN (l.take 8) then .ok (beN (l.take 8), l.drop 8) else .error 25
def txtP (l : List UInt8) : Except Int (ByteArray × List UInt8) := match numP 0 0 l with
  | .error e => .error e
  | .ok (n, r) => if 1000 < n then .error 24 else if r.length < n then .error 22 else .ok (strB (r.take n), r.drop n)
def zag (n : Nat) : Int := if n % 2 = 0 then (n / 2 : Nat) else -((n / 2 : Nat) : Int) - 1
def noV (k : Int) : Vl := ⟨k, 0, 0, 0, ⟨#[]⟩⟩
def valP : List UInt8 → Except Int (Vl × List UInt8)
  | [] => .error 22
  | c :: r => if c.toNat = 1 then match numP 0 0 r with
      | .error e => .error e
      | .ok (n, r) => .ok ({ noV 1 with u := n }, r)
    else if c.toNat = 2 then match numP 0 0 r with
      | .error e => .error e
      | .ok (n, r) => .ok ({ noV 2 with i := zag n }, r)
    else if c.toNat = 3 then match fltP r with
      | .error e => .error e
      | .ok (n, r) => .ok ({ noV 3 with f := n }, r)
    else if c.toNat = 4 then match txtP r with
      | .error e => .error e
      | .ok (s, r) => .ok ({ noV 4 with s := s }, r)
    else .error 21

theorem beN_snoc (l : List UInt8) (c : UInt8) : beN (l ++ [c]) = beN l * 256 + c.toNat := by simp [beN]
theorem foldl_lt : ∀ (l : List UInt8) (a k : Nat), a < 256 ^ k → l.foldl (fun n c => n * 256 + c.toNat) a < 256 ^ (k + l.length)
  | [], a, k, h => by simpa using h
  | c :: l, a, k, h => by
    have hc := c.toNat_lt
    have := foldl_lt l (a * 256 + c.toNat) (k + 1) (by rw [Nat.pow_succ]; omega)
    rw [List.foldl_cons, List.length_cons, show k + (l.length + 1) = k + 1 + l.length from by omega]
    exact this
theorem beN_lt (l : List UInt8) : beN l < 256 ^ l.length := by
  have := foldl_lt l 0 0 (by decide)
  rwa [Nat.zero_add] at this

theorem numP_err {k n : Nat} {l : List UInt8} {e : Int} (h : numP k n l = .error e) : e = 22 ∨ e = 23 := by
  induction l generalizing k n with
  | nil => simp [numP] at h; exact .inl h.symm
  | cons c r ih =>
    rw [numP] at h
    split at h
    · simp at h; exact .inr h.symm
    · split at h
      · cases h
      · exact ih h

/-! ### Bytes that are read -/
def RdB (w : World) (v : Value) (bs : List UInt8) : Prop := ∃ A c, v = .slice A bs.length c ∧ bs.length ≤ c ∧ (bs ≠ [] → ∃ g o, A = some ⟨g, o, none⟩ ∧ ∀ i u, (bs.map bv)[i]? = some u → w.cell? ⟨g, o + i, none⟩ = some u)

theorem RdB.fr {w w1 : World} {v : Value} {bs : List UInt8} {F : Nat → Prop} (h : RdB w v bs) (hf : Fr F w w1) (hF : ∀ k, F k → ∀ i c, w.cell? ⟨k, i, none⟩ ≠ some (bv c)) : RdB w1 v bs := by
  obtain ⟨A, c, hv, hc, hr⟩ := h
  refine ⟨A, c, hv, hc, fun hn => ?_⟩
  obtain ⟨g, o, ha, hg⟩ := hr hn
  refine ⟨g, o, ha, fun i u hu => ?_⟩
  have h1 := hg i u hu
  rw [← h1]
  refine World.cell?_of_block (hf.block g (World.block_lt_of_cell? w _ h1) fun hk => ?_)
  rw [List.getElem?_map] at hu
  cases hb : bs[i]? with
  | none => rw [hb] at hu; cases hu
  | some b =>
    rw [hb] at hu
    cases hu
    exact hF g hk _ _ h1
theorem RdB.no {w w1 : World} {v : Value} {bs : List UInt8} (h : RdB w v bs) (hf : Fr No w w1) : RdB w1 v bs := h.fr hf fun _ h => h.elim
theorem RdB.form {w : World} {v : Value} {bs : List UInt8} (h : RdB w v bs) : ∃ A c, v = .slice A bs.length c ∧ bs.length ≤ c := let ⟨A, c, h1, h2, _⟩ := h; ⟨A, c, h1, h2⟩
theorem RdB.blk {w w1 : World} {v : Value} {bs : List UInt8} {gR : Nat} {t : TypeId} {i : Int} {A : Option Addr} {n c : Nat} (h : RdB w v bs) (hB : Blk w gR t [.slice A n c, .int .i64 i]) (hf : Fr (· = gR) w w1) : RdB w1 v bs :=
  h.fr hf fun k hk j c hc => by
    subst hk
    rw [hB.cell] at hc
    match j, hc with
    | 0, hc => simp [bv] at hc
    | 1, hc => simp [bv] at hc
    | j + 2, hc => simp at hc

/-- What a fault is, as a value. -/
def faultV (e : Int) : Value := .iface 52 (.agg #[.int .i64 e])

section
variable {x : PX} {w : World} {K : Value → World → Prop}

theorem k_fault (e : Int) (h : x [{ v := faultV e, recovered := false }] w) :
    runK Try.prog x (Instr.build 52 #[(0, .int .i64 e)]) w fun v w => runK Try.prog x (Instr.makeInterface 52 v) w fun v w => runK Try.prog x (Instr.panic v) w K := by
  refine runK_of (w' := w) (v := .agg #[.int .i64 e]) (by kernel_rfl) ?_
  refine runK_of (w' := w) (v := faultV e) (by kernel_rfl) ?_
  exact runK_panic (v := faultV e) (w' := w) (by kernel_rfl) h
theorem r_nilCheck (a : Addr) (w : World) : (nilCheckS (.pointer (some a))).run Try.prog w = .ok (.pointer (some a)) w := rfl

theorem next_s {gR : Nat} {b : Value} {bs : List UInt8} {at_ : Nat} (hB : Blk w gR 50 [b, .int .i64 at_]) (hb : RdB w b bs) (hlen : bs.length ≤ 1000000000) (hat : at_ ≤ bs.length)
    (hk : ∀ c w1, bs[at_]? = some c → Fr (· = gR) w w1 → Blk w1 gR 50 [b, .int .i64 (at_ + 1 : Nat)] → K (bv c) w1)
    (hx : ∀ w1, bs.length ≤ at_ → Fr (· = gR) w w1 → x [{ v := faultV 22, recovered := false }] w1) : callS Try.prog x 31 #[.pointer (some ⟨gR, 0, none⟩)] w K := by
  obtain ⟨A, c, rfl, hc⟩ := hb.form
  refine s31 ?_
  unfold m31 m31_1 m31_2
  refine ⟨fun w' => Blk w' gR 50 [.slice A bs.length c, .int .i64 at_], hB.no (Fr.drew w), ?_⟩
  refine quietK_of (fun w' hS => r_nilCheck _ _) ?_
  refine quietK_of (fun w' hS => r_field 50 1 1 (by kernel_rfl) _ _) ?_
  refine quietK_of (fun w' hS => r_load1 3 (by kernel_rfl) _ _ _ (hS.cell 1)) ?_
  refine quietK_of (fun w' hS => r_nilCheck _ _) ?_
  refine quietK_of (fun w' hS => r_field 50 0 0 (by kernel_rfl) _ _) ?_
  refine quietK_of (fun w' hS => r_load1 25 (by kernel_rfl) _ _ _ (hS.cell 0)) ?_
  refine quietK_of (fun w' hS => r_len _ _ _ 5 _ Try.underlying25 _ _ _) ?_
  refine quietK_of (fun w' hS => r_geq ..) ?_
  have hB1 := hB.no (Fr.drew w)
  refine condF_dec (fun h => ?_) (fun h => ?_)
  · exact k_fault 22 (hx _ (by omega) ((Fr.drew w).mono fun _ _ h => h.elim))
  have hlt : at_ < bs.length := by omega
  obtain ⟨A', c', he, _, hr⟩ := hb
  injection he with e1 _ e3
  subst e1
  subst e3
  obtain ⟨g, o, rfl, hg⟩ := hr (by intro e; subst e; cases hlt)
  unfold m31_3
  refine runK_of (r_nilCheck _ _) ?_
  refine runK_of (r_field 50 1 1 (by kernel_rfl) _ _) ?_
  refine runK_of (r_load1 3 (by kernel_rfl) _ _ _ (hB1.cell 1)) ?_
  refine runK_of (r_add ..) ?_
  rw [wrap_i64 _ (by omega) (by omega)]
  refine runK_of (r_nilCheck _ _) ?_
  refine runK_of (r_field 50 1 1 (by kernel_rfl) _ _) ?_
  refine k_store hB1 (i := 1) rfl rfl (by kernel_rfl) fun w2 hf2 _ hB2 => ?_
  have hB2 : Blk w2 gR 50 [.slice (some ⟨g, o, none⟩) bs.length c, .int .i64 (at_ + 1 : Nat)] := hB2
  have hB3 := hB2.no (Fr.drew w2)
  have hf3 : Fr (· = gR) w w2.drew := ((Fr.drew w).mono (G := (· = gR)) fun _ _ h => h.elim).trans (hf2.trans (Fr.drew w2) (H := (· = gR)) (fun _ _ h => h) (fun _ _ h => h.elim)) (fun _ _ h => h) (fun _ _ h => h)
  have hb3 : RdB w2.drew (.slice (some ⟨g, o, none⟩) bs.length c) bs := RdB.blk (⟨_, _, rfl, hc, hr⟩ : RdB w _ bs) hB hf3
  refine ⟨fun w' => Blk w' gR 50 [.slice (some ⟨g, o, none⟩) bs.length c, .int .i64 (at_ + 1 : Nat)] ∧ RdB w' (.slice (some ⟨g, o, none⟩) bs.length c) bs, ⟨hB3, hb3⟩, ?_⟩
  refine quietK_of (fun w' hS => r_nilCheck _ _) ?_
  refine quietK_of (fun w' hS => r_field 50 0 0 (by kernel_rfl) _ _) ?_
  refine quietK_of (fun w' hS => r_load1 25 (by kernel_rfl) _ _ _ (hS.1.cell 0)) ?_
  refine quietK_of (fun w' hS => r_nilCheck _ _) ?_
  refine quietK_of (fun w' hS => r_field 50 1 1 (by kernel_rfl) _ _) ?_
  refine quietK_of (fun w' hS => r_load1 3 (by kernel_rfl) _ _ _ (hS.1.cell 1)) ?_
  refine quietK_of (fun w' hS => r_sub ..) ?_
  rw [wrap_i64 _ (by omega) (by omega), show ((at_ + 1 : Nat) : Int) - 1 = (at_ : Nat) from by omega]
  refine quietK_of (fun w' hS => r_indexAddr _ _ Try.underlying25 1 (by kernel_rfl) _ _ _ _ _ hlt _) ?_
  refine quietK_of (v := bv bs[at_]) (fun w' hS => ?_) ?_
  · obtain ⟨A', c', he, _, hr'⟩ := hS.2
    injection he with e1 _ _
    obtain ⟨g', o', e, hg'⟩ := hr' (by intro e; subst e; cases hlt)
    rw [e] at e1
    cases e1
    rw [add_lit, Nat.mul_one]
    exact r_load1 5 (by kernel_rfl) _ _ _ (hg' at_ _ (by simp [List.getElem?_eq_getElem hlt]))
  exact hk _ _ (List.getElem?_eq_getElem hlt) hf3 hB3

/-- The state of a reader. -/
structure Rdr (w : World) (gR : Nat) (b : Value) (bs : List UInt8) (at_ : Nat) : Prop where
  B : Blk w gR 50 [b, .int .i64 at_]
  b : RdB w b bs
  len : bs.length ≤ 1000000000
  at_ : at_ ≤ bs.length
theorem Rdr.go {w w1 : World} {gR : Nat} {b : Value} {bs : List UInt8} {at_ at' : Nat} (h : Rdr w gR b bs at_) (hf : Fr (· = gR) w w1) (hB : Blk w1 gR 50 [b, .int .i64 at']) (hat : at' ≤ bs.length) : Rdr w1 gR b bs at' := by
  obtain ⟨A, c, rfl, hc⟩ := h.b.form
  exact ⟨hB, h.b.blk h.B hf, h.len, hat⟩
theorem Rdr.no {w w1 : World} {gR : Nat} {b : Value} {bs : List UInt8} {at_ : Nat} (h : Rdr w gR b bs at_) (hf : Fr No w w1) : Rdr w1 gR b bs at_ := ⟨h.B.no hf, h.b.no hf, h.len, h.at_⟩

theorem next_r {gR : Nat} {b : Value} {bs : List UInt8} {at_ : Nat} (hR : Rdr w gR b bs at_)
    (hk : ∀ c w1, bs.drop at_ = c :: bs.drop (at_ + 1) → at_ + 1 ≤ bs.length → Fr (· = gR) w w1 → Rdr w1 gR b bs (at_ + 1) → K (bv c) w1)
    (hx : ∀ w1, bs.drop at_ = [] → Fr (· = gR) w w1 → x [{ v := faultV 22, recovered := false }] w1) : callS Try.prog x 31 #[.pointer (some ⟨gR, 0, none⟩)] w K := by
  refine next_s hR.B hR.b hR.len hR.at_ (fun c w1 hc hf hB => ?_) (fun w1 h hf => hx w1 (List.drop_eq_nil_iff.2 h) hf)
  obtain ⟨hlt, hc⟩ := List.getElem?_eq_some_iff.1 hc
  exact hk c w1 (by rw [← hc]; exact List.drop_eq_getElem_cons hlt) hlt hf (hR.go hf hB hlt)
theorem _root_.Go.FW.Fr.refl' (g : Nat) (w : World) : Fr (· = g) w w := Fr.refl _ w
theorem _root_.Go.FW.Fr.same {g : Nat} {w w1 w2 : World} (h : Fr (· = g) w w1) (h' : Fr (· = g) w1 w2) : Fr (· = g) w w2 := h.trans h' (fun _ _ h => h) (fun _ _ h => h)

/-! ### Numbers -/
theorem num_bits (n k c : Nat) (hn : n < 128 ^ k) (hk : k ≤ 9) (hc : c < 256) (h9 : k = 9 → c ≤ 1) :
    bits .or .u64 (n : Int) (IntKind.u64.wrap (IntKind.u64.wrap (bits .and .u8 (c : Int) 127) * 2 ^ min (((7 * k : Nat) : Int)).toNat IntKind.u64.bits)) = ((n + c % 128 * 128 ^ k : Nat) : Int) := by
  have e0 : ∀ a : Fin 256, bits .and .u8 ((a.val : Nat) : Int) 127 = ((a.val % 128 : Nat) : Int) := by decide +kernel
  rw [e0 ⟨c, hc⟩]
  dsimp only
  rw [wrap_u64 _ (by omega), Int.toNat_natCast, Nat.min_eq_left (by show 7 * k ≤ 64; omega)]
  have hp : (128 : Nat) ^ k = 2 ^ (7 * k) := by rw [Nat.pow_mul]
  have hb : c % 128 * 128 ^ k < 18446744073709551616 := by
    rcases Nat.lt_or_ge k 9 with h | h
    · have : (128 : Nat) ^ k ≤ 128 ^ 8 := Nat.pow_le_pow_right (by decide) (by omega)
      calc c % 128 * 128 ^ k ≤ 127 * 128 ^ 8 := Nat.mul_le_mul (by omega) this
        _ < _ := by decide
    · have : k = 9 := by omega
      subst this
      have := h9 rfl
      have : c % 128 ≤ 1 := by omega
      calc c % 128 * 128 ^ 9 ≤ 1 * 128 ^ 9 := Nat.mul_le_mul this (Nat.le_refl _)
        _ < _ := by decide
  have e1 : (((c % 128 : Nat) : Int) * 2 ^ (7 * k)) = ((c % 128 * 128 ^ k : Nat) : Int) := by rw [hp]; simp
  rw [e1, wrap_u64 _ hb]
  have hnl : n < 18446744073709551616 := by
    have : (128 : Nat) ^ k ≤ 128 ^ 9 := Nat.pow_le_pow_right (by decide) hk
    have : (128 : Nat) ^ 9 < 18446744073709551616 := by decide
    omega
  have hor : n ||| c % 128 * 128 ^ k = n + c % 128 * 128 ^ k := by
    rw [hp] at hn ⊢
    rw [Nat.mul_comm (c % 128), Nat.add_comm, Nat.two_pow_add_eq_or_of_lt hn, Nat.or_comm]
  have hsum : n + c % 128 * 128 ^ k < 18446744073709551616 := by
    rcases Nat.lt_or_ge k 9 with h | h
    · have : (128 : Nat) ^ k ≤ 128 ^ 8 := Nat.pow_le_pow_right (by decide) (by omega)
      have h1 : c % 128 * 128 ^ k ≤ 127 * 128 ^ 8 := Nat.mul_le_mul (by omega) this
      have : (127 : Nat) * 128 ^ 8 + 128 ^ 8 < 18446744073709551616 := by decide
      omega
    · have : k = 9 := by omega
      subst this
      have := h9 rfl
      have : c % 128 ≤ 1 := by omega
      have h1 : c % 128 * 128 ^ 9 ≤ 1 * 128 ^ 9 := Nat.mul_le_mul this (Nat.le_refl _)
      have : (1 : Nat) * 128 ^ 9 + 128 ^ 9 ≤ 18446744073709551616 := by decide
      omega
  show IntKind.u64.wrap ((BitVec.ofInt 64 (n : Int) ||| BitVec.ofInt 64 ((c % 128 * 128 ^ k : Nat) : Int)).toNat : Int) = _
  rw [BitVec.ofInt_natCast, BitVec.ofInt_natCast, BitVec.toNat_or, BitVec.toNat_ofNat, BitVec.toNat_ofNat, Nat.mod_eq_of_lt hnl, Nat.mod_eq_of_lt hb, hor, wrap_u64 _ hsum]

theorem num_next (n k c : Nat) (hn : n < 128 ^ k) : n + c % 128 * 128 ^ k < 128 ^ (k + 1) := by
  have : c % 128 ≤ 127 := by omega
  have h1 : c % 128 * 128 ^ k ≤ 127 * 128 ^ k := Nat.mul_le_mul this (Nat.le_refl _)
  rw [Nat.pow_succ]; omega
theorem num_fits (n k c : Nat) (hn : n < 128 ^ k) (hk : k ≤ 9) (h9 : k = 9 → c ≤ 1) : n + c % 128 * 128 ^ k < 18446744073709551616 := by
  rcases Nat.lt_or_ge k 9 with h | h
  · have : (128 : Nat) ^ k ≤ 128 ^ 8 := Nat.pow_le_pow_right (by decide) (by omega)
    have h1 : c % 128 * 128 ^ k ≤ 127 * 128 ^ 8 := Nat.mul_le_mul (by omega) this
    have : (127 : Nat) * 128 ^ 8 + 128 ^ 8 < 18446744073709551616 := by decide
    omega
  · have : k = 9 := by omega
    subst this
    have := h9 rfl
    have : c % 128 ≤ 1 := by omega
    have h1 : c % 128 * 128 ^ 9 ≤ 1 * 128 ^ 9 := Nat.mul_le_mul this (Nat.le_refl _)
    have : (1 : Nat) * 128 ^ 9 + 128 ^ 9 ≤ 18446744073709551616 := by decide
    omega

theorem rnumber_s {gR : Nat} {b : Value} {bs : List UInt8} {at_ : Nat} (hR : Rdr w gR b bs at_)
    (hk : ∀ n a w1, numP 0 0 (bs.drop at_) = .ok (n, bs.drop a) → at_ < a → n < 18446744073709551616 → Fr (· = gR) w w1 → Rdr w1 gR b bs a → K (.int .u64 n) w1)
    (hx : ∀ e w1, numP 0 0 (bs.drop at_) = .error e → Fr (· = gR) w w1 → x [{ v := faultV e, recovered := false }] w1) : callS Try.prog x 32 #[.pointer (some ⟨gR, 0, none⟩)] w K := by
  refine s32 ?_
  unfold m32 m32_1 m32_2 m32_3 m32_5
  refine ⟨fun t w' => ∃ k n : Nat, k ≤ 9 ∧ n < 128 ^ k ∧ t = (.pointer (some ⟨gR, 0, none⟩), .int .u64 n, .int .u64 (7 * k : Nat)) ∧ numP 0 0 (bs.drop at_) = numP k n (bs.drop (at_ + k)) ∧ Fr (· = gR) w w' ∧ Rdr w' gR b bs (at_ + k),
    fun t _ => match t.2.2 with | .int _ q => 70 - q.toNat | _ => 0, ⟨0, 0, by omega, by simp, rfl, rfl, Fr.refl _ w, hR⟩, ?_⟩
  rintro _ w1 ⟨k, n, hk9, hn, rfl, hp, hf, hR1⟩
  dsimp only
  unfold m32_9
  refine next_r hR1 (fun c w2 hc hle hf2 hR2 => ?_) (fun w2 hc hf2 => ?_)
  rotate_left
  · refine hx 22 w2 ?_ (hf.same hf2)
    rw [hp, hc]; rfl
  have hclt : c.toNat < 256 := c.toNat_lt
  rw [hc, numP] at hp
  have hbad : (k = 9 ∧ 1 < c.toNat) ∨ (0 < k ∧ c.toNat = 0) → x [{ v := faultV 23, recovered := false }] w2 := fun h => by
    rw [if_pos h] at hp
    exact hx 23 w2 hp (hf.same hf2)
  have hgood : ¬ ((k = 9 ∧ 1 < c.toNat) ∨ (0 < k ∧ c.toNat = 0)) → m32_11 (.pointer (some ⟨gR, 0, none⟩)) (.int .u64 n) (.int .u64 (7 * k : Nat)) (bv c) (fun t' w' => (∃ k n : Nat, k ≤ 9 ∧ n < 128 ^ k ∧ t' = (.pointer (some ⟨gR, 0, none⟩), .int .u64 n, .int .u64 (7 * k : Nat)) ∧ numP 0 0 (bs.drop at_) = numP k n (bs.drop (at_ + k)) ∧ Fr (· = gR) w w' ∧ Rdr w' gR b bs (at_ + k)) ∧
      (match t'.2.2 with | .int _ q => 70 - q.toNat | _ => 0) < 70 - (7 * k : Nat)) (onE K x) w2 := fun h => by
    rw [if_neg h] at hp
    unfold m32_11 m32_7 bv
    refine runK_of (r_and ..) ?_
    refine runK_of (r_conv_int _ _ _ _ _ _ .u64 (by kernel_rfl) Try.underlying33) ?_
    refine runK_of (r_shl _ _ _ _ _ _ _ (by omega)) ?_
    refine runK_of (r_or ..) ?_
    rw [num_bits n k c.toNat hn hk9 hclt (fun h9 => by omega)]
    refine runK_of (r_lss ..) ?_
    refine condF_dec (fun hl => ?_) (fun hl => ?_)
    · rw [if_pos (by omega)] at hp
      exact hk _ (at_ + k + 1) w2 hp (by omega) (num_fits n k c.toNat hn hk9 (fun h9 => by omega)) (hf.same hf2) hR2
    · rw [if_neg (by omega)] at hp
      have hk8 : k ≤ 8 := by omega
      refine runK_of (r_add ..) ?_
      rw [show ((7 * k : Nat) : Int) + 7 = ((7 * (k + 1) : Nat) : Int) from by omega, wrap_u64 _ (by omega)]
      refine ⟨⟨k + 1, _, by omega, num_next n k c.toNat hn, rfl, hp, hf.same hf2, hR2⟩, ?_⟩
      show 70 - ((7 * (k + 1) : Nat) : Int).toNat < 70 - 7 * k
      rw [Int.toNat_natCast]
      omega
  unfold m32_10
  refine runK_of (r_eql ..) ?_
  refine condF_dec (fun h => ?_) (fun h => ?_)
  · refine runK_of (r_gtr ..) ?_
    refine condF_dec (fun h1 => ?_) (fun h1 => ?_)
    · exact k_fault 23 (hbad (.inl ⟨by omega, by omega⟩))
    · refine runK_of (r_gtr ..) ?_
      refine condF_dec (fun h2 => ?_) (fun h2 => ?_)
      · refine runK_of (r_eql ..) ?_
        refine condF_dec (fun h3 => ?_) (fun h3 => ?_)
        · exact k_fault 23 (hbad (.inr ⟨by omega, by omega⟩))
        · exact hgood (by omega)
      · exact hgood (by omega)
  · refine runK_of (r_gtr ..) ?_
    refine condF_dec (fun h2 => ?_) (fun h2 => ?_)
    · refine runK_of (r_eql ..) ?_
      refine condF_dec (fun h3 => ?_) (fun h3 => ?_)
      · exact k_fault 23 (hbad (.inr ⟨by omega, by omega⟩))
      · exact hgood (by omega)
    · exact hgood (by omega)

/-! ### Floats -/
theorem or8 (n c : Nat) (hn : n < 72057594037927936) (hc : c < 256) :
    bits .or .u64 (IntKind.u64.wrap ((n : Int) * 2 ^ min (8 : Int).toNat IntKind.u64.bits)) (IntKind.u64.wrap (c : Int)) = ((n * 256 + c : Nat) : Int) := by
  have e1 : ((n : Int) * 2 ^ min (8 : Int).toNat IntKind.u64.bits) = ((n * 256 : Nat) : Int) := by
    rw [show (2 : Int) ^ min (8 : Int).toNat IntKind.u64.bits = 256 from by decide]; simp
  rw [e1, wrap_u64 _ (by omega), wrap_u64 _ (by omega)]
  have hor : n * 256 ||| c = n * 256 + c := by
    rw [Nat.mul_comm, show (256 : Nat) = 2 ^ 8 from by decide, Nat.two_pow_add_eq_or_of_lt (by omega)]
  show IntKind.u64.wrap ((BitVec.ofInt 64 ((n * 256 : Nat) : Int) ||| BitVec.ofInt 64 (c : Int)).toNat : Int) = _
  rw [BitVec.ofInt_natCast, BitVec.ofInt_natCast, BitVec.toNat_or, BitVec.toNat_ofNat, BitVec.toNat_ofNat, Nat.mod_eq_of_lt (by omega), Nat.mod_eq_of_lt (by omega), hor, wrap_u64 _ (by omega)]

theorem rfloat_s {gR : Nat} {b : Value} {bs : List UInt8} {at_ : Nat} (hR : Rdr w gR b bs at_)
    (hk : ∀ n w1, fltP (bs.drop at_) = .ok (n, bs.drop (at_ + 8)) → n < 18446744073709551616 → Fr (· = gR) w w1 → Rdr w1 gR b bs (at_ + 8) → K (.float .f64 n) w1)
    (hx : ∀ e w1, fltP (bs.drop at_) = .error e → Fr (· = gR) w w1 → x [{ v := faultV e, recovered := false }] w1) : callS Try.prog x 33 #[.pointer (some ⟨gR, 0, none⟩)] w K := by
  refine s33 ?_
  unfold m33 m33_1 m33_2 m33_5 m33_7
  refine ⟨fun t w' => ∃ j : Nat, j ≤ 8 ∧ t = (.pointer (some ⟨gR, 0, none⟩), .int .u64 (beN ((bs.drop at_).take j) : Nat), .int .i64 j) ∧ Fr (· = gR) w w' ∧ Rdr w' gR b bs (at_ + j),
    fun t _ => match t.2.2 with | .int _ q => 8 - q.toNat | _ => 0, ⟨0, by omega, rfl, Fr.refl _ w, hR⟩, ?_⟩
  rintro _ w1 ⟨j, hj, rfl, hf, hR1⟩
  have hat := hR1.at_
  have hlj : ((bs.drop at_).take j).length = j := by rw [List.length_take, List.length_drop]; omega
  have hlt := beN_lt ((bs.drop at_).take j)
  rw [hlj] at hlt
  dsimp only
  unfold m33_8 m33_4
  refine runK_of (r_lss ..) ?_
  refine condF_dec (fun h => ?_) (fun h => ?_)
  · have hj7 : j ≤ 7 := by omega
    have hlt7 : beN ((bs.drop at_).take j) < 72057594037927936 := Nat.lt_of_lt_of_le hlt (Nat.le_trans (Nat.pow_le_pow_right (by decide) hj7) (by decide))
    refine runK_of (r_shl _ _ _ _ _ _ _ (by omega)) ?_
    refine next_r hR1 (fun c w2 hc hle hf2 hR2 => ?_) (fun w2 hc hf2 => ?_)
    rotate_left
    · refine hx 22 w2 ?_ (hf.same hf2)
      have := List.drop_eq_nil_iff.1 hc
      unfold fltP
      rw [if_pos (by rw [List.length_drop]; omega)]
    refine runK_of (r_conv_int _ _ _ _ _ _ .u64 (by kernel_rfl) Try.underlying33) ?_
    refine runK_of (r_or ..) ?_
    rw [or8 _ _ hlt7 c.toNat_lt]
    refine runK_of (r_add ..) ?_
    rw [wrap_i64 _ (by omega) (by omega)]
    refine ⟨⟨j + 1, by omega, ?_, hf.same hf2, hR2⟩, by dsimp only; omega⟩
    have hd : (bs.drop at_)[j]? = some c := by rw [List.getElem?_drop, ← List.head?_drop, hc]; rfl
    have e : (bs.drop at_).take (j + 1) = (bs.drop at_).take j ++ [c] := by rw [List.take_add_one, hd]; rfl
    rw [e, beN_snoc]
    rfl
  · have hj8 : j = 8 := by omega
    subst hj8
    have hn : beN ((bs.drop at_).take 8) < 18446744073709551616 := hlt
    have hl8 : ¬ (bs.drop at_).length < 8 := by rw [List.length_drop]; omega
    refine callS_ext (x_f64from ..) ?_
    rw [Int.toNat_natCast]
    refine bits_s _ ?_
    refine runK_of (r_neq ..) ?_
    have hd8 : (bs.drop at_).drop 8 = bs.drop (at_ + 8) := by rw [List.drop_drop]
    refine condF_of (fun h => ?_) (fun h => ?_)
    · refine k_fault 25 (hx 25 w1 ?_ hf)
      have h' : bitsF (beN ((bs.drop at_).take 8)) ≠ beN ((bs.drop at_).take 8) := by intro e; rw [e] at h; simp at h
      unfold fltP
      rw [if_neg hl8, if_neg h']
    · refine hk _ w1 ?_ hn hf hR1
      have h' : bitsF (beN ((bs.drop at_).take 8)) = beN ((bs.drop at_).take 8) := by simp at h; omega
      unfold fltP
      rw [if_neg hl8, if_pos h', hd8]

/-! ### Texts -/
theorem r_sliceAt {t e : TypeId} (ht : Try.prog.underlying t = some (.slice e)) (hs : ((Try.prog.info? e).map (·.size)) = some 1) (A : Option Addr) (n c lo hi : Nat) (h1 : lo ≤ hi) (h2 : hi ≤ c) (w : World) :
    (Instr.sliceAt t (.slice A n c) (some (.int .i64 lo)) (some (.int .i64 hi)) none).run Try.prog w = .ok (.slice (if c = lo then A else A.map (·.add (lo * 1))) (hi - lo) (c - lo)) w := by
  have e1 : (0 : Int) ≤ hi ∧ (hi : Int) ≤ c := by omega
  have e2 : (0 : Int) ≤ lo ∧ (lo : Int) ≤ hi := by omega
  simp [Instr.sliceAt, Instr.slice, run_underlying ht, Instr.sliceBounds, Instr.sliceBound, asIntOf, h1, h2, sizeOf_run hs]

theorem rtext_s {gR : Nat} {b : Value} {bs : List UInt8} {at_ : Nat} (hR : Rdr w gR b bs at_)
    (hk : ∀ s a w1, txtP (bs.drop at_) = .ok (s, bs.drop a) → at_ < a → s.size ≤ 1000 → Fr (· = gR) w w1 → Rdr w1 gR b bs a → K (.string s) w1)
    (hx : ∀ e w1, txtP (bs.drop at_) = .error e → Fr (· = gR) w w1 → x [{ v := faultV e, recovered := false }] w1) : callS Try.prog x 34 #[.pointer (some ⟨gR, 0, none⟩)] w K := by
  refine s34 ?_
  unfold m34 m34_1 m34_2
  refine rnumber_s hR (fun n a w1 hp hlt hn hf hR1 => ?_) (fun e w1 hp hf => ?_)
  rotate_left
  · exact hx e w1 (by unfold txtP; rw [hp]) hf
  unfold m34_3
  refine runK_of (r_gtr ..) ?_
  refine condF_dec (fun h => ?_) (fun h => ?_)
  · exact k_fault 24 (hx 24 w1 (by unfold txtP; rw [hp]; dsimp only; rw [if_pos (by omega)]) hf)
  have hn1 : n ≤ 1000 := by omega
  have hat := hR1.at_
  have hlen := hR1.len
  obtain ⟨A, c, rfl, hc⟩ := hR1.b.form
  unfold m34_4
  refine ⟨fun w' => Blk w' gR 50 [.slice A bs.length c, .int .i64 a], hR1.B.no (Fr.drew w1), ?_⟩
  refine quietK_of (fun w' hS => r_nilCheck _ _) ?_
  refine quietK_of (fun w' hS => r_field 50 0 0 (by kernel_rfl) _ _) ?_
  refine quietK_of (fun w' hS => r_load1 25 (by kernel_rfl) _ _ _ (hS.cell 0)) ?_
  refine quietK_of (fun w' hS => r_len _ _ _ 5 _ Try.underlying25 _ _ _) ?_
  refine quietK_of (fun w' hS => r_nilCheck _ _) ?_
  refine quietK_of (fun w' hS => r_field 50 1 1 (by kernel_rfl) _ _) ?_
  refine quietK_of (fun w' hS => r_load1 3 (by kernel_rfl) _ _ _ (hS.cell 1)) ?_
  refine quietK_of (fun w' hS => r_sub ..) ?_
  refine quietK_of (fun w' hS => r_conv_int _ _ _ _ _ _ .u64 (by kernel_rfl) Try.underlying33) ?_
  refine quietK_of (fun w' hS => r_lss ..) ?_
  have hR1' := hR1.no (Fr.drew w1)
  have hf1 : Fr (· = gR) w w1.drew := hf.trans (Fr.drew w1) (fun _ _ h => h) (fun _ _ h => h.elim)
  rw [wrap_i64 _ (by omega) (by omega), show ((bs.length : Int) - a) = ((bs.length - a : Nat) : Int) from by omega, wrap_u64 _ (by omega)]
  refine condF_dec (fun h => ?_) (fun h => ?_)
  · refine k_fault 22 (hx 22 _ ?_ hf1)
    unfold txtP; rw [hp]; dsimp only; rw [if_neg (by omega), if_pos (by rw [List.length_drop]; omega)]
  have hfit : a + n ≤ bs.length := by omega
  unfold m34_5
  refine runK_of (r_nilCheck _ _) ?_
  refine runK_of (r_field 50 1 1 (by kernel_rfl) _ _) ?_
  refine runK_of (r_load1 3 (by kernel_rfl) _ _ _ (hR1'.B.cell 1)) ?_
  refine runK_of (r_conv_int _ _ _ _ _ _ .i64 (by kernel_rfl) Try.underlying3) ?_
  refine runK_of (r_add ..) ?_
  rw [wrap_i64 (n : Int) (by omega) (by omega), wrap_i64 _ (by omega) (by omega), show ((a : Int) + n) = ((a + n : Nat) : Int) from by omega]
  refine runK_of (r_nilCheck _ _) ?_
  refine runK_of (r_field 50 1 1 (by kernel_rfl) _ _) ?_
  refine k_store hR1'.B (i := 1) rfl rfl (by kernel_rfl) fun w2 hf2 _ hB2 => ?_
  have hR2 : Rdr w2 gR (.slice A bs.length c) bs (a + n) := hR1'.go hf2 hB2 hfit
  have hR3 := hR2.no (Fr.drew w2)
  have hf3 : Fr (· = gR) w w2.drew := (hf1.same hf2).trans (Fr.drew w2) (fun _ _ h => h) (fun _ _ h => h.elim)
  refine ⟨fun w' => Rdr w' gR (.slice A bs.length c) bs (a + n), hR3, ?_⟩
  refine quietK_of (fun w' hS => r_nilCheck _ _) ?_
  refine quietK_of (fun w' hS => r_field 50 0 0 (by kernel_rfl) _ _) ?_
  refine quietK_of (fun w' hS => r_load1 25 (by kernel_rfl) _ _ _ (hS.B.cell 0)) ?_
  refine quietK_of (fun w' hS => r_nilCheck _ _) ?_
  refine quietK_of (fun w' hS => r_field 50 1 1 (by kernel_rfl) _ _) ?_
  refine quietK_of (fun w' hS => r_load1 3 (by kernel_rfl) _ _ _ (hS.B.cell 1)) ?_
  refine quietK_of (fun w' hS => r_conv_int _ _ _ _ _ _ .i64 (by kernel_rfl) Try.underlying3) ?_
  refine quietK_of (fun w' hS => r_sub ..) ?_
  rw [wrap_i64 (n : Int) (by omega) (by omega), wrap_i64 _ (by omega) (by omega), show (((a + n : Nat) : Int) - n) = (a : Nat) from by omega]
  refine quietK_of (fun w' hS => r_nilCheck _ _) ?_
  refine quietK_of (fun w' hS => r_field 50 1 1 (by kernel_rfl) _ _) ?_
  refine quietK_of (fun w' hS => r_load1 3 (by kernel_rfl) _ _ _ (hS.B.cell 1)) ?_
  refine quietK_of (fun w' hS => r_sliceAt Try.underlying25 (by kernel_rfl) A bs.length c a (a + n) (by omega) (by omega) _) ?_
  have hres : txtP (bs.drop at_) = .ok (strB ((bs.drop a).take n), bs.drop (a + n)) := by
    unfold txtP; rw [hp]; dsimp only; rw [if_neg (by omega), if_neg (by rw [List.length_drop]; omega), List.drop_drop]
  have hlenT : ((bs.drop a).take n).length = n := by rw [List.length_take, List.length_drop]; omega
  refine quietK_of (v := .string (strB ((bs.drop a).take n))) (fun w' hS => ?_) ?_
  rotate_left
  · exact hk _ (a + n) _ hres (by omega) (by rw [strB_size, hlenT]; exact hn1) hf3 hR3
  rw [show a + n - a = n from by omega]
  rcases Nat.eq_zero_or_pos n with h0 | h0
  · subst h0
    rw [List.take_zero]
    cases hA : (if c = a then A else A.map (·.add (a * 1))) with
    | none => exact run_convert_bytes_nil (P := Try.prog) w' 25 5 Try.underlying25 Try.underlying5 _ _ 9 Try.underlying9
    | some q =>
      obtain ⟨qb, qo, qi⟩ := q
      have hl0 : (loadCells ⟨qb, qo, qi⟩ 0).run Try.prog w' = .ok (([] : List Int).map (Value.int .u8)).toArray w' := run_loadCells_list (P := Try.prog) w' _ [] (fun j v h => by simp at h)
      rw [run_convert_bytes_string w' 25 9 5 _ 0 _ Try.underlying25 Try.underlying5 Try.underlying9, run_bytesToString w' _ 0 _ [] hl0]
      rfl
  · obtain ⟨A', c', he, _, hr⟩ := hS.b
    injection he with e1 _ e3
    obtain ⟨g, o, e, hg⟩ := hr (by intro e; subst e; simp at hfit; omega)
    rw [← e1] at e
    subst e
    rw [if_neg (by omega)]
    show (convert 25 9 (.slice (some ((⟨g, o, none⟩ : Addr).add (a * 1))) n (c - a))).run Try.prog w' = _
    rw [add_lit, Nat.mul_one]
    refine r_bytes_str hlenT fun i u hi => ?_
    have := hg (a + i) u ?_
    · rwa [← Nat.add_assoc] at this
    · rw [List.getElem?_map] at hi ⊢
      have hin : i < n := by
        cases hb : ((bs.drop a).take n)[i]? with
        | none => rw [hb] at hi; cases hi
        | some q => have := (List.getElem?_eq_some_iff.1 hb).1; omega
      rw [List.getElem?_take_of_lt hin, List.getElem?_drop] at hi
      exact hi
end
end Go.Proofs.Ytdihigmcihheoaa
