/-
  What the document's answer of layer 2 gives for values and lists.
-/
import Derived.Test.YtdihigmcihheoaaWD
set_option linter.unusedVariables false
set_option linter.unusedSimpArgs false
set_option maxRecDepth 20000
namespace Go.Proofs.Ytdihigmcihheoaa
open Go.FW

section
variable {x : PX} {w : World} {K : Value → World → Prop}

theorem emptyS_iff (s : ByteArray) : emptyS s = true ↔ s = ⟨#[]⟩ := by
  unfold emptyS
  have := toList_eq s ⟨#[]⟩
  rw [show (ByteArray.mk #[]).toList = ([] : List UInt8) from by kernel_rfl] at this
  rw [this, decide_eq_true_iff]

/-- The reference's reason is the same one. -/
theorem valid_r (v : Vl) (hk : ∀ w1, Fr No w w1 → K (.int .i64 v.validE) w1) : callS Try.prog x 17 #[v.val] w K := by
  refine s17 ?_
  unfold m17 m17_1
  refine k_box fun w1 hf1 hs1 hb1 => ?_
  have hb1 : Blk w1 w.heap.size 36 v.cells := hb1
  unfold m17_2
  refine runK_of (r_field 36 0 0 (by kernel_rfl) _ _) ?_
  refine runK_of (r_load1 32 (by kernel_rfl) _ _ _ (hb1.cell 0)) ?_
  refine runK_of (w' := w1) (v := .agg #[.int .i64 v.k, .int .u64 0, .int .i64 0, .float .f64 0, .string ⟨#[]⟩]) (by kernel_rfl) ?_
  refine k_alloc (z := .agg #[.int .i64 0, .int .u64 0, .int .i64 0, .float .f64 0, .string ⟨#[]⟩]) (by kernel_rfl) fun w2 hf2 hs2 hb2 => ?_
  refine k_storen hb2 rfl (by intro u hu; simp at hu; rcases hu with rfl | rfl | rfl | rfl | rfl <;> rfl) size_val fun w3 hf3 hs3 hb3 => ?_
  generalize hg1 : w.heap.size = g1 at *
  generalize hg2 : w1.heap.size = g2 at *
  have hne : g1 ≠ g2 := by omega
  have hb1' : Blk w3 g1 36 v.cells := (hb1.no hf2).fr hf3 hne
  have hn3 : Fr No w w3 := hf1.no (hf2.new hf3 (by intro k hk; omega))
  clear hb1 hb2 hf1 hf2 hf3
  -- behind the choice: what is compared
  have tail : ∀ (u i : Int) (f : Nat) (s : ByteArray) (w4 : World), Blk w4 g2 36 [.int .i64 v.k, .int .u64 u, .int .i64 i, .float .f64 f, .string s] → Blk w4 g1 36 v.cells → Fr No w w4 →
      (v.plainB = true ↔ u = v.u ∧ i = v.i ∧ s = v.s ∧ (v.k = 3 ∨ v.f = 0)) →
      m17_4 (.pointer (some ⟨g1, 0, none⟩)) (.pointer (some ⟨g2, 0, none⟩)) (onE K x) w4 := by
    intro u i f s w4 hb4 ha4 hn4 hp
    have hk4 := hk w4 hn4
    have bad : v.plainB ≠ true → onE K x (.returned (.int .i64 21)) w4 := fun h => by
      unfold Vl.validE at hk4
      rwa [if_neg h] at hk4
    have good : v.plainB = true → m17_5 (.pointer (some ⟨g1, 0, none⟩)) (onE K x) w4 := fun h => by
      unfold Vl.validE at hk4
      rw [if_pos h] at hk4
      unfold m17_5
      refine runK_of (r_field 36 4 4 (by kernel_rfl) _ _) ?_
      refine runK_of (r_load1 9 (by kernel_rfl) _ _ _ (ha4.cell 4)) ?_
      refine runK_of (r_slen _ _ _ _ _ Try.underlying9) ?_
      refine runK_of (r_gtr ..) ?_
      refine condF_dec (fun h => ?_) (fun h => ?_)
      · rw [if_pos (by omega)] at hk4; exact hk4
      · rw [if_neg (by omega)] at hk4; exact hk4
    unfold m17_4
    refine runK_of (r_field 36 1 1 (by kernel_rfl) _ _) ?_
    refine runK_of (r_load1 33 (by kernel_rfl) _ _ _ (hb4.cell 1)) ?_
    refine runK_of (r_field 36 1 1 (by kernel_rfl) _ _) ?_
    refine runK_of (r_load1 33 (by kernel_rfl) _ _ _ (ha4.cell 1)) ?_
    refine runK_of (r_neq ..) ?_
    refine condF_of (fun h => bad fun h' => ?_) (fun h1 => ?_)
    · have := (hp.1 h').1; simp [this] at h
    have h1 : u = v.u := by simpa using h1
    refine runK_of (r_field 36 2 2 (by kernel_rfl) _ _) ?_
    refine runK_of (r_load1 2 (by kernel_rfl) _ _ _ (hb4.cell 2)) ?_
    refine runK_of (r_field 36 2 2 (by kernel_rfl) _ _) ?_
    refine runK_of (r_load1 2 (by kernel_rfl) _ _ _ (ha4.cell 2)) ?_
    refine runK_of (r_neq ..) ?_
    refine condF_of (fun h => bad fun h' => ?_) (fun h2 => ?_)
    · have := (hp.1 h').2.1; simp [this] at h
    have h2 : i = v.i := by simpa using h2
    refine runK_of (r_field 36 4 4 (by kernel_rfl) _ _) ?_
    refine runK_of (r_load1 9 (by kernel_rfl) _ _ _ (hb4.cell 4)) ?_
    refine runK_of (r_field 36 4 4 (by kernel_rfl) _ _) ?_
    refine runK_of (r_load1 9 (by kernel_rfl) _ _ _ (ha4.cell 4)) ?_
    refine runK_of (r_sneq ..) ?_
    rw [toList_eq]
    refine condF_of (fun h => bad fun h' => ?_) (fun h3 => ?_)
    · have := (hp.1 h').2.2.1; simp [this] at h
    have h3 : s = v.s := by simpa using h3
    refine runK_of (r_field 36 0 0 (by kernel_rfl) _ _) ?_
    refine runK_of (r_load1 32 (by kernel_rfl) _ _ _ (ha4.cell 0)) ?_
    refine runK_of (r_neq ..) ?_
    refine condF_of (fun h4 => ?_) (fun h4 => good ?_)
    · have h4 : v.k ≠ 3 := by simpa using h4
      refine runK_of (r_field 36 3 3 (by kernel_rfl) _ _) ?_
      refine runK_of (r_load1 34 (by kernel_rfl) _ _ _ (ha4.cell 3)) ?_
      refine callS_ext (x_f64bits ..) ?_
      refine runK_of (r_neq ..) ?_
      refine condF_of (fun h => bad fun h' => ?_) (fun h5 => good ?_)
      · rcases (hp.1 h').2.2.2 with e | e
        · exact h4 e
        · simp [e] at h
      · have h5 : (v.f : Int) = 0 := by simpa using h5
        exact hp.2 ⟨h1, h2, h3, .inr (by omega)⟩
    · have h4 : v.k = 3 := by simpa using h4
      exact hp.2 ⟨h1, h2, h3, .inl h4⟩
  have hE := emptyS_iff v.s
  unfold m17_3
  refine runK_of (r_field 36 0 0 (by kernel_rfl) _ _) ?_
  refine runK_of (r_load1 32 (by kernel_rfl) _ _ _ (hb1'.cell 0)) ?_
  refine runK_of (r_eql ..) ?_
  refine condF_dec (fun h => ?_) (fun n1 => ?_)
  · refine runK_of (r_field 36 1 1 (by kernel_rfl) _ _) ?_
    refine runK_of (r_load1 33 (by kernel_rfl) _ _ _ (hb1'.cell 1)) ?_
    refine runK_of (r_field 36 1 1 (by kernel_rfl) _ _) ?_
    refine k_store hb3 (i := 1) rfl rfl (by kernel_rfl) fun w4 hf4 _ hb4 => ?_
    refine tail v.u 0 0 ⟨#[]⟩ w4 hb4 (hb1'.fr hf4 hne) (hn3.new hf4 (fun k hk => by have hk : k = g2 := hk; omega)) ?_
    unfold Vl.plainB
    rw [if_pos h]
    have h3 : v.k ≠ 3 := by omega
    simp only [Bool.and_eq_true, decide_eq_true_eq, hE, true_and, h3, false_or]
    constructor
    · rintro ⟨a, b, c⟩; exact ⟨a.symm, c.symm, b⟩
    · rintro ⟨a, c, b⟩; exact ⟨a.symm, b, c.symm⟩
  refine runK_of (r_eql ..) ?_
  refine condF_dec (fun h => ?_) (fun n2 => ?_)
  · refine runK_of (r_field 36 2 2 (by kernel_rfl) _ _) ?_
    refine runK_of (r_load1 2 (by kernel_rfl) _ _ _ (hb1'.cell 2)) ?_
    refine runK_of (r_field 36 2 2 (by kernel_rfl) _ _) ?_
    refine k_store hb3 (i := 2) rfl rfl (by kernel_rfl) fun w4 hf4 _ hb4 => ?_
    refine tail 0 v.i 0 ⟨#[]⟩ w4 hb4 (hb1'.fr hf4 hne) (hn3.new hf4 (fun k hk => by have hk : k = g2 := hk; omega)) ?_
    unfold Vl.plainB
    rw [if_neg n1, if_pos h]
    have h3 : v.k ≠ 3 := by omega
    simp only [Bool.and_eq_true, decide_eq_true_eq, hE, true_and, h3, false_or]
    constructor
    · rintro ⟨a, b, c⟩; exact ⟨a.symm, c.symm, b⟩
    · rintro ⟨a, c, b⟩; exact ⟨a.symm, b, c.symm⟩
  refine runK_of (r_eql ..) ?_
  refine condF_dec (fun h => ?_) (fun n3 => ?_)
  · refine runK_of (r_field 36 3 3 (by kernel_rfl) _ _) ?_
    refine runK_of (r_load1 34 (by kernel_rfl) _ _ _ (hb1'.cell 3)) ?_
    refine runK_of (r_field 36 3 3 (by kernel_rfl) _ _) ?_
    refine k_store hb3 (i := 3) rfl rfl (by kernel_rfl) fun w4 hf4 _ hb4 => ?_
    refine tail 0 0 v.f ⟨#[]⟩ w4 hb4 (hb1'.fr hf4 hne) (hn3.new hf4 (fun k hk => by have hk : k = g2 := hk; omega)) ?_
    unfold Vl.plainB
    rw [if_neg n1, if_neg n2, if_pos h]
    simp only [Bool.and_eq_true, decide_eq_true_eq, hE, h, true_or, and_true]
    constructor
    · rintro ⟨a, b, c⟩; exact ⟨a.symm, b.symm, c.symm⟩
    · rintro ⟨a, b, c⟩; exact ⟨a.symm, b.symm, c.symm⟩
  refine runK_of (r_eql ..) ?_
  refine condF_dec (fun h => ?_) (fun n4 => ?_)
  · refine runK_of (r_field 36 4 4 (by kernel_rfl) _ _) ?_
    refine runK_of (r_load1 9 (by kernel_rfl) _ _ _ (hb1'.cell 4)) ?_
    refine runK_of (r_field 36 4 4 (by kernel_rfl) _ _) ?_
    refine k_store hb3 (i := 4) rfl rfl (by kernel_rfl) fun w4 hf4 _ hb4 => ?_
    refine tail 0 0 0 v.s w4 hb4 (hb1'.fr hf4 hne) (hn3.new hf4 (fun k hk => by have hk : k = g2 := hk; omega)) ?_
    unfold Vl.plainB
    rw [if_neg n1, if_neg n2, if_neg n3, if_pos h]
    have h3 : v.k ≠ 3 := by omega
    simp only [Bool.and_eq_true, decide_eq_true_eq, true_and, h3, false_or]
    constructor
    · rintro ⟨a, b, c⟩; exact ⟨a.symm, b.symm, c⟩
    · rintro ⟨a, b, c⟩; exact ⟨a.symm, b.symm, c⟩
  · have := hk w3 hn3
    unfold Vl.validE Vl.plainB at this
    rw [if_neg n1, if_neg n2, if_neg n3, if_neg n4, if_neg (by simp)] at this
    exact this

/-! ### Same -/
def sameB (a b : Vl) : Bool := decide (a.k = b.k) && (decide (a.u = b.u) && (decide (a.i = b.i) && (decide (a.s = b.s) && decide (bitsF a.f = bitsF b.f))))

theorem same_r (a b : Vl) (ha : a.f < 18446744073709551616) (hb : b.f < 18446744073709551616) (hk : ∀ w1, Fr No w w1 → K (.bool (sameB a b)) w1) : callS Try.prog x 19 #[a.val, b.val] w K := by
  refine s19 ?_
  unfold m19 m19_1
  refine k_box fun w1 hf1 hs1 hb1 => ?_
  have hb1 : Blk w1 w.heap.size 36 a.cells := hb1
  refine k_box fun w2 hf2 hs2 hb2 => ?_
  have hb2 : Blk w2 w1.heap.size 36 b.cells := hb2
  have hb1 := hb1.no hf2
  generalize w.heap.size = g1 at *
  generalize w1.heap.size = g2 at *
  have hn2 := (hf1.no hf2).no (Fr.drew w2)
  refine ⟨fun w' => Blk w' g1 36 a.cells ∧ Blk w' g2 36 b.cells, ⟨hb1.no (Fr.drew w2), hb2.no (Fr.drew w2)⟩, ?_⟩
  have hb1 := hb1.no (Fr.drew w2)
  have hb2 := hb2.no (Fr.drew w2)
  refine quietK_of (fun w' hS => r_field 36 0 0 (by kernel_rfl) _ _) ?_
  refine quietK_of (fun w' hS => r_load1 32 (by kernel_rfl) _ _ _ (hS.1.cell 0)) ?_
  refine quietK_of (fun w' hS => r_field 36 0 0 (by kernel_rfl) _ _) ?_
  refine quietK_of (fun w' hS => r_load1 32 (by kernel_rfl) _ _ _ (hS.2.cell 0)) ?_
  refine quietK_of (fun w' hS => r_eql ..) ?_
  have hk2 := hk w2.drew hn2
  refine condF_dec (fun h1 => ?_) (fun h1 => ?_)
  rotate_left
  · unfold sameB at hk2
    rw [decide_eq_false h1, Bool.false_and] at hk2
    exact hk2
  refine quietK_of (fun w' hS => r_field 36 1 1 (by kernel_rfl) _ _) ?_
  refine quietK_of (fun w' hS => r_load1 33 (by kernel_rfl) _ _ _ (hS.1.cell 1)) ?_
  refine quietK_of (fun w' hS => r_field 36 1 1 (by kernel_rfl) _ _) ?_
  refine quietK_of (fun w' hS => r_load1 33 (by kernel_rfl) _ _ _ (hS.2.cell 1)) ?_
  refine quietK_of (fun w' hS => r_eql ..) ?_
  refine condF_dec (fun h2 => ?_) (fun h2 => ?_)
  rotate_left
  · unfold sameB at hk2
    rw [decide_eq_false h2, Bool.false_and, Bool.and_false] at hk2
    exact hk2
  refine quietK_of (fun w' hS => r_field 36 2 2 (by kernel_rfl) _ _) ?_
  refine quietK_of (fun w' hS => r_load1 2 (by kernel_rfl) _ _ _ (hS.1.cell 2)) ?_
  refine quietK_of (fun w' hS => r_field 36 2 2 (by kernel_rfl) _ _) ?_
  refine quietK_of (fun w' hS => r_load1 2 (by kernel_rfl) _ _ _ (hS.2.cell 2)) ?_
  refine quietK_of (fun w' hS => r_eql ..) ?_
  refine condF_dec (fun h3 => ?_) (fun h3 => ?_)
  rotate_left
  · unfold sameB at hk2
    rw [decide_eq_false h3, Bool.false_and, Bool.and_false, Bool.and_false] at hk2
    exact hk2
  refine quietK_of (fun w' hS => r_field 36 4 4 (by kernel_rfl) _ _) ?_
  refine quietK_of (fun w' hS => r_load1 9 (by kernel_rfl) _ _ _ (hS.1.cell 4)) ?_
  refine quietK_of (fun w' hS => r_field 36 4 4 (by kernel_rfl) _ _) ?_
  refine quietK_of (fun w' hS => r_load1 9 (by kernel_rfl) _ _ _ (hS.2.cell 4)) ?_
  refine quietK_of (fun w' hS => r_seql ..) ?_
  rw [toList_eq]
  refine condF_dec (fun h4 => ?_) (fun h4 => ?_)
  rotate_left
  · unfold sameB at hk2
    rw [decide_eq_false h4, Bool.false_and, Bool.and_false, Bool.and_false, Bool.and_false] at hk2
    exact hk2
  refine quietK_of (fun w' hS => r_field 36 3 3 (by kernel_rfl) _ _) ?_
  refine quietK_of (fun w' hS => r_load1 34 (by kernel_rfl) _ _ _ (hS.1.cell 3)) ?_
  refine quietK_of (fun w' hS => r_field 36 3 3 (by kernel_rfl) _ _) ?_
  refine quietK_of (fun w' hS => r_load1 34 (by kernel_rfl) _ _ _ (hS.2.cell 3)) ?_
  refine bits_r a.f ha ?_
  refine moreS_keep ⟨hb1, hb2⟩ ?_
  refine bits_r b.f hb ?_
  refine moreS_keep ⟨hb1, hb2⟩ ?_
  refine quietK_of (fun w' hS => r_eql ..) ?_
  unfold sameB at hk2
  rw [decide_eq_true h1, decide_eq_true h2, decide_eq_true h3, decide_eq_true h4, Bool.true_and, Bool.true_and, Bool.true_and, Bool.true_and] at hk2
  have e : decide (((bitsF a.f : Nat) : Int) = (bitsF b.f : Nat)) = decide (bitsF a.f = bitsF b.f) := by
    apply Bool.eq_iff_iff.2
    rw [decide_eq_true_iff, decide_eq_true_iff]
    omega
  show K (.bool _) _
  rw [e]
  exact hk2

theorem RdV.load {w : World} {A : Addr} {l : List Vl} {n c : Nat} (h : RdV w (.slice (some A) n c) l) {i : Nat} (hi : i < l.length) :
    (Instr.loadAt 36 (.pointer (some (A.add (i * 5))))).run Try.prog w = .ok (l[i]).val w := by
  obtain ⟨a, c', hv, hc⟩ := h.at_ hi
  injection hv with hv
  injection hv with hv
  subst hv
  exact r_loadn 36 (l[i]).cells (by kernel_rfl) _ _ hc

/-! ### All -/
def AllP (l m : List Vl) : Prop := l.length = m.length ∧ ∀ i (h : i < l.length) (h' : i < m.length), sameB l[i] m[i] = true

theorem all_r {a b : Value} {l m : List Vl} (ha : RdV w a l) (hb : RdV w b m) (hla : ∀ v ∈ l, v.Wf) (hlb : ∀ v ∈ m, v.Wf) (hlen : l.length ≤ 1000000)
    (hk : ∀ (r : Bool) w1, Fr No w w1 → (r = true ↔ AllP l m) → K (.bool r) w1) : callS Try.prog x 15 #[a, b] w K := by
  obtain ⟨A, c, rfl⟩ := ha.form
  obtain ⟨B, d, rfl⟩ := hb.form
  refine s15 ?_
  unfold m15 m15_1 m15_2
  refine runK_of (r_len _ _ _ 36 _ Try.underlying22 _ _ _) ?_
  refine runK_of (r_len _ _ _ 36 _ Try.underlying22 _ _ _) ?_
  refine runK_of (r_neq ..) ?_
  refine condF_of (fun h => ?_) (fun h => ?_)
  · refine hk false w (Fr.refl _ w) ⟨(fun h => by cases h), fun h' => ?_⟩
    have := h'.1
    simp [this] at h
  have hlm : l.length = m.length := by simp at h; omega
  unfold m15_5 m15_7
  refine ⟨fun t w' => ∃ j : Nat, j ≤ l.length ∧ t = (.slice A l.length c, .slice B m.length d, .int .i64 j) ∧ Fr No w w' ∧ ∀ i (h : i < l.length) (h' : i < m.length), i < j → sameB l[i] m[i] = true,
    fun t _ => match t.2.2 with | .int _ q => l.length - q.toNat | _ => 0, ⟨0, by omega, rfl, Fr.refl _ w, fun i _ _ h => by omega⟩, ?_⟩
  rintro _ w1 ⟨j, hj, rfl, hf, hall⟩
  dsimp only
  unfold m15_8 m15_4
  refine runK_of (r_len _ _ _ 36 _ Try.underlying22 _ _ _) ?_
  refine runK_of (r_lss ..) ?_
  refine condF_dec (fun h => ?_) (fun h => ?_)
  · have hjl : j < l.length := by omega
    have hjm : j < m.length := by omega
    obtain ⟨a', _, hv, _⟩ := ha.at_ hjl
    injection hv with hv _ _
    subst hv
    obtain ⟨b', _, hv, _⟩ := hb.at_ hjm
    injection hv with hv _ _
    subst hv
    have hd := hf.no (Fr.drew w1)
    refine ⟨fun w' => Fr No w w', hd, ?_⟩
    refine quietK_of (fun w' hS => r_indexAddr _ _ Try.underlying22 5 size_val _ _ _ _ _ hjl _) ?_
    refine quietK_of (fun w' hS => (ha.no hS).load hjl) ?_
    refine quietK_of (fun w' hS => r_indexAddr _ _ Try.underlying22 5 size_val _ _ _ _ _ hjm _) ?_
    refine quietK_of (fun w' hS => (hb.no hS).load hjm) ?_
    refine same_r l[j] m[j] (hla _ (List.getElem_mem hjl)).f (hlb _ (List.getElem_mem hjm)).f fun w2 hf2 => ?_
    refine moreS_keep (hd.no hf2) ?_
    refine quietK_of (fun w' hS => r_not _ _ _) ?_
    refine condF_of (fun h => ?_) (fun h => ?_)
    · refine hk false w2 (hd.no hf2) ⟨(fun h => by cases h), fun h' => ?_⟩
      have := h'.2 j hjl hjm
      simp [this] at h
    · refine runK_of (r_add ..) ?_
      rw [wrap_i64 _ (by omega) (by omega)]
      refine ⟨⟨j + 1, by omega, rfl, hd.no hf2, fun i hi hi' hij => ?_⟩, by dsimp only; omega⟩
      by_cases e : i = j
      · subst e; simpa using h
      · exact hall i hi hi' (by omega)
  · exact hk true w1 hf ⟨fun _ => ⟨hlm, fun i hi hi' => hall i hi hi' (by omega)⟩, fun _ => rfl⟩

/-! ### few -/
def FewP (l : List Vl) : Prop := l.length ≤ 2000 ∧ ∀ v ∈ l, v.s.size ≤ 3000
theorem few_s {a : Value} {l : List Vl} (ha : RdV w a l)
    (hk : ∀ (r : Bool), (r = true ↔ FewP l) → K (.bool r) w) : callS Try.prog x 11 #[a] w K := by
  obtain ⟨A, c, rfl⟩ := ha.form
  refine s11 ?_
  unfold m11 m11_1 m11_2
  refine runK_of (r_len _ _ _ 36 _ Try.underlying22 _ _ _) ?_
  refine runK_of (r_gtr ..) ?_
  refine condF_dec (fun h => ?_) (fun h => ?_)
  · refine hk false ⟨(fun h => by cases h), fun h' => ?_⟩
    have := h'.1; omega
  unfold m11_5 m11_7
  refine ⟨fun t w' => w' = w ∧ ∃ j : Nat, j ≤ l.length ∧ t = (.slice A l.length c, .int .i64 j) ∧ ∀ i (h : i < l.length), i < j → (l[i]).s.size ≤ 3000,
    fun t _ => match t.2 with | .int _ q => l.length - q.toNat | _ => 0, ⟨rfl, 0, by omega, rfl, fun i _ h => by omega⟩, ?_⟩
  rintro _ w1 ⟨rfl, j, hj, rfl, hall⟩
  dsimp only
  unfold m11_8 m11_4
  refine runK_of (r_len _ _ _ 36 _ Try.underlying22 _ _ _) ?_
  refine runK_of (r_lss ..) ?_
  refine condF_dec (fun h' => ?_) (fun h' => ?_)
  · have hjl : j < l.length := by omega
    obtain ⟨a', _, hv, hc⟩ := ha.at_ hjl
    injection hv with hv _ _
    subst hv
    refine runK_of (r_indexAddr _ _ Try.underlying22 5 size_val _ _ _ _ _ hjl _) ?_
    refine runK_of (r_field 36 4 4 (by kernel_rfl) _ _) ?_
    refine runK_of (r_load1 9 (by kernel_rfl) _ _ _ (hc 4 _ rfl)) ?_
    refine runK_of (r_slen _ _ _ _ _ Try.underlying9) ?_
    refine runK_of (r_gtr ..) ?_
    refine condF_dec (fun h2 => ?_) (fun h2 => ?_)
    · refine hk false ⟨(fun h => by cases h), fun h'' => ?_⟩
      have := h''.2 _ (List.getElem_mem hjl); omega
    · refine runK_of (r_add ..) ?_
      rw [wrap_i64 _ (by omega) (by omega)]
      refine ⟨⟨rfl, j + 1, by omega, rfl, fun i hi hij => ?_⟩, by dsimp only; omega⟩
      by_cases e : i = j
      · subst e; omega
      · exact hall i hi (by omega)
  · refine hk true ⟨fun _ => ⟨by omega, fun v hv => ?_⟩, fun _ => rfl⟩
    obtain ⟨i, hi, rfl⟩ := List.getElem_of_mem hv
    exact hall i hi (by omega)
end
end Go.Proofs.Ytdihigmcihheoaa
