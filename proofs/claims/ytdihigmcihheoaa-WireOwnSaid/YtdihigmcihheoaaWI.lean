/-
  What the wire's 'Unpack' gives.
-/
import Derived.Test.YtdihigmcihheoaaWH
set_option linter.unusedVariables false
set_option linter.unusedSimpArgs false
set_option maxRecDepth 20000
namespace Go.Proofs.Ytdihigmcihheoaa
open Go.FW

/-- These values were read from these bytes up to a place. -/
inductive Got (bs : List UInt8) : List Vl → Nat → Prop
  | nil : Got bs [] 0
  | snoc {l : List Vl} {a a' : Nat} {v : Vl} : Got bs l a → l.length ≠ 1000 → valP (bs.drop a) = .ok (v, bs.drop a') → a < a' → a' ≤ bs.length → v.Wf → Got bs (l ++ [v]) a'
theorem Got.len {bs : List UInt8} {l : List Vl} {a : Nat} (h : Got bs l a) : l.length ≤ 1000 := by
  induction h with
  | nil => simp
  | snoc _ h1 _ _ _ _ ih => rw [List.length_append, List.length_singleton]; omega
theorem Got.wf {bs : List UInt8} {l : List Vl} {a : Nat} (h : Got bs l a) : ∀ v ∈ l, v.Wf := by
  induction h with
  | nil => intro v hv; cases hv
  | snoc _ _ _ _ _ hw ih =>
    intro v hv
    rcases List.mem_append.1 hv with h | h
    · exact ih v h
    · rw [List.mem_singleton.1 h]; exact hw
theorem Got.le {bs : List UInt8} {l : List Vl} {a : Nat} (h : Got bs l a) : a ≤ bs.length := by
  cases h with
  | nil => omega
  | snoc _ _ _ _ h _ => exact h

/-- A row of values that is the call's own. -/
def OwnV (w : World) (v : Value) (l : List Vl) : Prop := w.ownsRow 0 36 5 v l.length (l.flatMap Vl.cells)
theorem info_val : (Try.prog.info? 36).map (fun i => (i.zero, i.size, i.bytes)) = some (some (.agg #[.int .i64 0, .int .u64 0, .int .i64 0, .float .f64 0, .string ⟨#[]⟩]), 5, 48) := by kernel_rfl
theorem flat_at : ∀ (l : List Vl) (i : Nat) (hi : i < l.length) (j : Nat) (u : Value), (l[i]).cells[j]? = some u → (l.flatMap Vl.cells)[i * 5 + j]? = some u
  | v :: r, 0, _, j, u, h => by
    rw [List.flatMap_cons, Nat.zero_mul, Nat.zero_add, List.getElem?_append_left (by have := (List.getElem?_eq_some_iff.1 h).1; exact this)]
    exact h
  | v :: r, i + 1, hi, j, u, h => by
    rw [List.flatMap_cons, List.getElem?_append_right (by show 5 ≤ _; omega), show (i + 1) * 5 + j - v.cells.length = i * 5 + j from by show _ - 5 = _; omega]
    exact flat_at r i (by simpa using hi) j u (by simpa using h)
theorem OwnV.rd {w : World} {v : Value} {l : List Vl} (h : OwnV w v l) : RdV w v l := by
  have h0 : w.ownsRow 0 36 5 v l.length (l.flatMap Vl.cells) := h
  obtain ⟨_, ⟨rfl, hn⟩ | ⟨g, cap, cur, rfl, _, _, hle, _⟩⟩ := h
  · have hl : l = [] := List.eq_nil_of_length_eq_zero hn
    subst hl
    exact ⟨none, 0, rfl, Nat.le_refl _, fun i hi => absurd hi (Nat.not_lt_zero _)⟩
  · have hc := World.ownsRow.cells (g := g) h0 rfl
    refine ⟨some ⟨g, 0, none⟩, cap, rfl, hle, fun i hi => ⟨_, rfl, fun j u hu => ?_⟩⟩
    exact hc _ _ (flat_at l i hi j u hu)

section
variable {x : PX} {w : World} {K : Value → World → Prop}

/-- 'append(v, u)', u a value. -/
theorem app_val {w : World} {v : Value} {l : List Vl} (hown : OwnV w v l) (hl : l.length ≤ 1000000) (u : Vl) {a : Addr} (hnews : ∀ j q, u.cells[j]? = some q → w.cell? (a.add j) = some q)
    (hk : ∀ v' w1, OwnV w1 v' (l ++ [u]) → App w v w1 v' → K v' w1) : runK Try.prog x (Builtin.append_ #[22, 22] 22 #[v, .slice (some a) 1 1]) w K := by
  obtain ⟨i0, hi0, hz0, hz1, hz2⟩ := info_parts info_val
  refine k_append (news := u.cells) Try.underlying22 hi0 hz0 hz1 hz2 rfl (by decide) hown rfl hnews (by intro q hq; simp [Vl.cells] at hq; rcases hq with rfl | rfl | rfl | rfl | rfl <;> rfl) (by omega) (by decide) fun v' w1 ho ha => hk v' w1 ?_ ha
  unfold OwnV
  rw [List.flatMap_append, List.length_append, List.flatMap_cons, List.flatMap_nil, List.append_nil]
  exact ho
theorem k_oneV (u : Vl) (hk : ∀ w1, Fr No w w1 → Blk w1 w.heap.size 36 u.cells → K (.slice (some ⟨w.heap.size, 0, none⟩) 1 1) w1) : runK Try.prog x (Instr.buildSlice 22 1 #[(0, u.val)]) w K :=
  runK_of (w' := w.alloc (.cells u.cells.toArray 36)) (v := .slice (some ⟨w.heap.size, 0, none⟩) 1 1) (by kernel_rfl) (hk _ (Fr.alloc w _) (Blk.new w 36 u.cells))

/-- The closure behind a panic with a fault. -/
theorem unpackd_x {g2 g3 g4 g6 : Nat} {v2 : Value} {a3 a4 at_ e : Int} (hne : g2 ≠ g3 ∧ g2 ≠ g4 ∧ g3 ≠ g4) (h2 : Blk w g2 22 [v2]) (h3 : Blk w g3 3 [.int .i64 a3]) (h4 : Blk w g4 26 [.int .i64 a4]) (h6 : Blk w g6 3 [.int .i64 at_]) (h63 : g6 ≠ g3)
    {older : List PanicEntry} {R : Ending → FrameMode → World → Prop}
    (hk : ∀ w1, Fr (fun k => k = g2 ∨ k = g3 ∨ k = g4) w w1 → Blk w1 g2 22 [.slice none 0 0] → Blk w1 g3 3 [.int .i64 at_] → Blk w1 g4 26 [.int .i64 e] → R (.returned (.tuple #[])) (.panicking ({ v := faultV e, recovered := true } :: older)) w1) :
    CallsD Try.prog 24 #[.pointer (some ⟨g6, 0, none⟩), .pointer (some ⟨g2, 0, none⟩), .pointer (some ⟨g3, 0, none⟩), .pointer (some ⟨g4, 0, none⟩)] (.panicking ({ v := faultV e, recovered := false } :: older)) w R := by
  refine callsD_V (v := faultV e) (d := 7) (x := 4) (H := h24) (y := subC [1] (Try.f24.body.getD .skip)) (R' := fun en w1 => match en with | .returned _ => Fr (fun k => k = g2 ∨ k = g3 ∨ k = g4) w w1 ∧ Blk w1 g2 22 [.slice none 0 0] ∧ Blk w1 g3 3 [.int .i64 at_] ∧ Blk w1 g4 26 [.int .i64 e] | _ => False)
    (by kernel_rfl) Try.func24 rfl rfl ⟨rfl, rfl, rfl⟩ ⟨rfl, rfl, rfl⟩ (by kernel_rfl) (by kernel_rfl) (by kernel_rfl) (by kernel_rfl) (.inl ⟨older, rfl, rfl⟩) (fun w1 h => hk w1 h.1 h.2.1 h.2.2.1 h.2.2.2) (fun c w1 h => h.elim) ?_
  refine v24 _ _ _ ?_
  show m24_1 (.pointer (some ⟨g6, 0, none⟩)) (.pointer (some ⟨g2, 0, none⟩)) (.pointer (some ⟨g3, 0, none⟩)) (.pointer (some ⟨g4, 0, none⟩)) (faultV e) _ w
  unfold m24_1
  refine runK_of (w' := w) (v := .bool true) (by kernel_rfl) ?_
  rw [condF_true]
  refine runK_of (w' := w) (v := .tuple #[.agg #[.int .i64 e], .bool true]) (by kernel_rfl) ?_
  refine runK_of (r_ext0 _ _ [_, _] 0 _ rfl) ?_
  refine runK_of (r_ext0 _ _ [_, _] 1 _ rfl) ?_
  refine k_alloc (z := .agg #[.int .i64 0]) (by kernel_rfl) fun w1 hf1 hs1 hb1 => ?_
  refine k_storen hb1 rfl (by intro u hu; simp at hu; subst hu; rfl) (by kernel_rfl) fun w2 hf2 hs2 hb2 => ?_
  have l2 := h2.lt
  have l3 := h3.lt
  have l4 := h4.lt
  have l6 := h6.lt
  generalize hg5 : w.heap.size = g5 at *
  have hn2 : Fr No w w2 := hf1.new hf2 (fun k hk => by have hk : k = g5 := hk; omega)
  have h2 := h2.no hn2
  have h3 := h3.no hn2
  have h4 := h4.no hn2
  have h6 := h6.no hn2
  refine runK_of (r_not _ _ _) ?_
  rw [show (!true) = false from rfl, condF_false]
  refine ⟨fun _ => True, trivial, ?_⟩
  refine quietK_of (fun w' hS => r_field 52 0 0 (by kernel_rfl) _ _) ?_
  have hd := Fr.drew w2
  have hn3 := hn2.no hd
  have h2 := h2.no hd
  have h3 := h3.no hd
  have h4 := h4.no hd
  have h6 := h6.no hd
  have h5 := hb2.no hd
  have h5 : Blk w2.drew g5 52 [.int .i64 e] := h5
  generalize w2.drew = w3 at *
  clear hb2 hb1 hf1 hf2 hs1 hs2 hd hn2
  have L0 : (Instr.loadAt 3 (.pointer (some ⟨g6, 0, none⟩))).run Try.prog w3 = .ok (.int .i64 at_) w3 := r_load1 3 (by kernel_rfl) _ _ _ (h6.cell 0)
  have L1 : ∀ {w4 : World} {F : Nat → Prop}, Fr F w3 w4 → ¬ F g5 → (Instr.loadAt 26 (.pointer (some ((⟨g5, 0, none⟩ : Addr).add 0)))).run Try.prog w4 = .ok (.int .i64 e) w4 := fun hf hn => r_load1 26 (by kernel_rfl) _ _ _ ((h5.fr hf hn).cell 0)
  -- the three stores
  have S3 : ∀ {w4 : World}, Fr (fun k => k = g2 ∨ k = g3) w3 w4 → Blk w4 g2 22 [.slice none 0 0] → Blk w4 g3 3 [.int .i64 at_] → ∀ (k : World → Prop), (∀ w5, Fr (fun k => k = g2 ∨ k = g3 ∨ k = g4) w w5 → Blk w5 g2 22 [.slice none 0 0] → Blk w5 g3 3 [.int .i64 at_] → Blk w5 g4 26 [.int .i64 e] → k w5) →
      ∀ px, runU Try.prog px (Instr.storeAt 26 (.pointer (some ⟨g4, 0, none⟩)) (.int .i64 e)) w4 k := by
    intro w4 hf hb2 hb3 k hk px
    have hb4 := h4.fr hf (by rintro (e | e) <;> omega)
    refine k_store hb4 (i := 0) rfl rfl (by kernel_rfl) fun w5 hf5 _ hb5 => ?_
    refine hk w5 ?_ (hb2.fr hf5 (by show g2 ≠ g4; omega)) (hb3.fr hf5 (by show g3 ≠ g4; omega)) hb5
    have hf5 : Fr (· = g4) w4 w5 := hf5
    exact (hn3.trans (hf.trans hf5 (H := fun k => k = g2 ∨ k = g3 ∨ k = g4) (fun k _ h => by omega) (fun k _ h => by omega)) (fun _ _ h => h.elim) (fun _ _ h => h))
  have S2 : ∀ {w4 : World}, Fr (· = g2) w3 w4 → Blk w4 g2 22 [.slice none 0 0] → ∀ (k : World → Prop), (∀ w5, Fr (fun k => k = g2 ∨ k = g3) w3 w5 → Blk w5 g2 22 [.slice none 0 0] → Blk w5 g3 3 [.int .i64 at_] → k w5) →
      ∀ px, runU Try.prog px (Instr.storeAt 3 (.pointer (some ⟨g3, 0, none⟩)) (.int .i64 at_)) w4 k := by
    intro w4 hf hb2 k hk px
    have hb3 := h3.fr hf (by show g3 ≠ g2; omega)
    refine k_store hb3 (i := 0) rfl rfl (by kernel_rfl) fun w5 hf5 _ hb5 => ?_
    have hf5 : Fr (· = g3) w4 w5 := hf5
    exact hk w5 (hf.trans hf5 (fun k _ h => .inl h) (fun k _ h => .inr h)) (hb2.fr hf5 (by show g2 ≠ g3; omega)) hb5
  have S1 : ∀ (k : World → Prop), (∀ w5, Fr (· = g2) w3 w5 → Blk w5 g2 22 [.slice none 0 0] → k w5) →
      ∀ px, runU Try.prog px (Instr.storeAt 22 (.pointer (some ⟨g2, 0, none⟩)) (.slice none 0 0)) w3 k := by
    intro k hk px
    exact k_store h2 (i := 0) rfl rfl (by kernel_rfl) fun w5 hf5 _ hb5 => hk w5 hf5 hb5
  have n52 : ¬ g5 = g2 := by omega
  have n53 : ¬ (g5 = g2 ∨ g5 = g3) := by omega
  have fin : ∀ {w5 : World}, Fr (fun k => k = g2 ∨ k = g3 ∨ k = g4) w w5 → Blk w5 g2 22 [.slice none 0 0] → Blk w5 g3 3 [.int .i64 at_] → Blk w5 g4 26 [.int .i64 e] → Fr (fun k => k = g2 ∨ k = g3 ∨ k = g4) w w5 ∧ Blk w5 g2 22 [.slice none 0 0] ∧ Blk w5 g3 3 [.int .i64 at_] ∧ Blk w5 g4 26 [.int .i64 e] := fun a b c d => ⟨a, b, c, d⟩
  refine ⟨runK_of L0 (moreS_keep trivial ⟨?_, ?_⟩), ?_⟩
  · refine runK_of (L1 (Fr.refl No w3) id) (moreS_keep trivial ?_)
    refine S1 _ (fun w5 f5 b5 => moreS_keep trivial ?_) _
    refine S2 f5 b5 _ (fun w6 f6 b6 c6 => moreS_keep trivial ?_) _
    exact S3 f6 b6 c6 _ (fun w7 f7 b7 c7 d7 => moreS_keep trivial (fin f7 b7 c7 d7)) _
  · refine S1 _ (fun w5 f5 b5 => moreS_keep trivial ⟨?_, ?_⟩) _
    · refine runK_of (L1 f5 n52) (moreS_keep trivial ?_)
      refine S2 f5 b5 _ (fun w6 f6 b6 c6 => moreS_keep trivial ?_) _
      exact S3 f6 b6 c6 _ (fun w7 f7 b7 c7 d7 => moreS_keep trivial (fin f7 b7 c7 d7)) _
    · refine S2 f5 b5 _ (fun w6 f6 b6 c6 => moreS_keep trivial ?_) _
      refine runK_of (L1 f6 n53) (moreS_keep trivial ?_)
      exact S3 f6 b6 c6 _ (fun w7 f7 b7 c7 d7 => moreS_keep trivial (fin f7 b7 c7 d7)) _
  · refine runK_of (L1 (Fr.refl No w3) id) (moreS_keep trivial ?_)
    refine runK_of L0 (moreS_keep trivial ?_)
    refine S1 _ (fun w5 f5 b5 => moreS_keep trivial ?_) _
    refine S2 f5 b5 _ (fun w6 f6 b6 c6 => moreS_keep trivial ?_) _
    exact S3 f6 b6 c6 _ (fun w7 f7 b7 c7 d7 => moreS_keep trivial (fin f7 b7 c7 d7)) _

/-- The closure where nothing went wrong. -/
theorem unpackd_r {p0 p1 p2 p3 : Value} {R : Ending → FrameMode → World → Prop} (hk : R (.returned (.tuple #[])) .returning w) : CallsD Try.prog 24 #[p0, p1, p2, p3] .returning w R := by
  refine callsD_V (v := .nilIface) (d := 7) (x := 4) (H := h24) (y := subC [1] (Try.f24.body.getD .skip)) (R' := fun en w1 => match en with | .returned _ => w1 = w | _ => False)
    (by kernel_rfl) Try.func24 rfl rfl ⟨rfl, rfl, rfl⟩ ⟨rfl, rfl, rfl⟩ (by kernel_rfl) (by kernel_rfl) (by kernel_rfl) (by kernel_rfl) (.inr ⟨rfl, rfl, rfl⟩) (fun w1 h => by have h : w1 = w := h; rw [h]; exact hk) (fun c w1 h => h.elim) ?_
  refine v24 _ _ _ ?_
  show m24_1 p0 p1 p2 p3 .nilIface _ w
  unfold m24_1
  refine runK_of (w' := w) (v := .bool false) (by kernel_rfl) ?_
  rw [condF_false]
end
end Go.Proofs.Ytdihigmcihheoaa
