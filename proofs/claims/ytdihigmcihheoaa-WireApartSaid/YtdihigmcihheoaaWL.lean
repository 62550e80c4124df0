/-
  The chapter's example: 'awake' holds.
-/
import Derived.Test.YtdihigmcihheoaaWK
set_option linter.unusedVariables false
set_option linter.unusedSimpArgs false
set_option maxRecDepth 20000
namespace Go.Proofs.Ytdihigmcihheoaa
open Go.FW

theorem condF_yes {p : Prop} [Decidable p] {X Y : Prop} (h : p) (hX : X) : condF (.bool (decide p)) X Y := by rw [decide_eq_true h]; exact hX
theorem condF_no {p : Prop} [Decidable p] {X Y : Prop} (h : ¬ p) (hY : Y) : condF (.bool (decide p)) X Y := by rw [decide_eq_false h]; exact hY
theorem RdV.blk {w : World} {g : Nat} {l : List Vl} (h : Blk w g 36 (l.flatMap Vl.cells)) : RdV w (.slice (some ⟨g, 0, none⟩) l.length l.length) l :=
  ⟨some ⟨g, 0, none⟩, l.length, rfl, Nat.le_refl _, fun i hi => ⟨_, rfl, fun j u hu => by rw [add_lit, Nat.zero_add, h.cell]; exact flat_at l i hi j u hu⟩⟩
theorem RdB.of {w : World} {g c : Nat} {bs : List UInt8} (hc : bs.length ≤ c) (h : ∀ i, w.cell? ⟨g, i, none⟩ = (bs.map bv)[i]?) : RdB w (.slice (some ⟨g, 0, none⟩) bs.length c) bs :=
  ⟨_, c, rfl, hc, fun _ => ⟨g, 0, rfl, fun i u hu => by rw [Nat.zero_add, h]; exact hu⟩⟩

def exA : Vl := { noV 1 with u := 300 }
def exB : Vl := { noV 4 with s := ⟨#[104, 105]⟩ }
theorem exA_wf : exA.Wf := ⟨by decide, by decide, by decide, by decide, by show 0 ≤ maxLen; omega⟩
theorem exB_wf : exB.Wf := ⟨by decide, by decide, by decide, by decide, by show 2 ≤ maxLen; simp [maxLen]⟩
theorem emptyS_nil : emptyS ⟨#[]⟩ = true := (emptyS_iff _).2 rfl
theorem exA_valid : exA.validE = 0 := by
  have h : exA.plainB = true := by
    show (true && (true && emptyS ⟨#[]⟩)) = true
    rw [emptyS_nil]; rfl
  unfold Vl.validE
  rw [if_pos h]
  rfl
theorem exB_valid : exB.validE = 0 := by
  unfold Vl.validE
  rw [if_pos (by rfl)]
  rfl
theorem ex_packE : packE [exA, exB] = 0 := by
  unfold packE
  rw [if_neg (by decide)]
  unfold firstE
  rw [if_pos exA_valid]
  unfold firstE
  rw [if_pos exB_valid]
  rfl
theorem ex_packB : packB [exA, exB] = [1, 172, 2, 4, 2, 104, 105] := by
  have h1 : oneB exA = [1, 172, 2] := by
    unfold oneB
    rw [if_pos (by rfl)]
    rw [show exA.u.toNat = 300 from rfl, numB_ge (by decide), numB_lt (by decide)]
    rfl
  have h2 : oneB exB = [4, 2, 104, 105] := by
    unfold oneB
    rw [if_neg (by decide), if_neg (by decide), if_neg (by decide), show exB.s.size = 2 from rfl, numB_lt (by decide)]
    rfl
  unfold packB
  rw [List.flatMap_cons, List.flatMap_cons, List.flatMap_nil, h1, h2]
  rfl
theorem noV_wf (k : Int) (h : 0 ≤ k ∧ k < 256) : (noV k).Wf := ⟨by show -9223372036854775808 ≤ k ∧ k ≤ 9223372036854775807; omega, by show (0 : Int) ≤ 0 ∧ (0 : Int) < 18446744073709551616; omega, by show -9223372036854775808 ≤ (0 : Int) ∧ (0 : Int) ≤ 9223372036854775807; omega, by show 0 < 18446744073709551616; omega, by show 0 ≤ maxLen; omega⟩
theorem ex_got1 : Got [2, 1] [{ noV 2 with i := -1 }] 2 := by
  refine Got.snoc (l := []) (a := 0) .nil (by decide) (show valP [2, 1] = .ok ({ noV 2 with i := zag 1 }, []) from rfl) (by decide) (by decide) ?_
  exact { noV_wf 2 (by decide) with i := by show -9223372036854775808 ≤ (-1 : Int) ∧ (-1 : Int) ≤ 9223372036854775807; omega }
theorem ex_stop : Stop [1, 5, 4, 2, 104] [{ noV 1 with u := 5 }] 2 22 := by
  refine ⟨Got.snoc (l := []) (a := 0) .nil (by decide) (show valP [1, 5, 4, 2, 104] = .ok ({ noV 1 with u := 5 }, [4, 2, 104]) from rfl) (by decide) (by decide) ?_, by decide, .inr ⟨by decide, rfl⟩⟩
  exact { noV_wf 1 (by decide) with u := by show (0 : Int) ≤ 5 ∧ (5 : Int) < 18446744073709551616; omega }

section
variable {x : PX} {w : World} {K : Value → World → Prop}

theorem awake_s (hk : ∀ w1, Fr No w w1 → K (.bool true) w1) : callS Try.prog x 12 #[] w K := by
  refine s12 ?_
  unfold m12 m12_1
  refine runK_of (w' := w) (v := exA.val) (by kernel_rfl) ?_
  refine runK_of (w' := w) (v := exB.val) (by kernel_rfl) ?_
  refine runK_of (w' := w.alloc (.cells ([exA, exB].flatMap Vl.cells).toArray 36)) (v := .slice (some ⟨w.heap.size, 0, none⟩) 2 2) (by kernel_rfl) ?_
  have hf1 := Fr.alloc w (.cells ([exA, exB].flatMap Vl.cells).toArray 36)
  have hb1 : Blk (w.alloc (.cells ([exA, exB].flatMap Vl.cells).toArray 36)) w.heap.size 36 ([exA, exB].flatMap Vl.cells) := Blk.new w 36 _
  generalize w.alloc (.cells ([exA, exB].flatMap Vl.cells).toArray 36) = w1 at *
  refine pack_s (RdV.blk hb1) (fun v hv => by simp at hv; rcases hv with rfl | rfl; exact exA_wf; exact exB_wf) (by simp) (fun b w2 he ho hf2 hfr => ?_) (fun w2 he => absurd ex_packE he)
  rw [ex_packB] at ho
  have hn2 := hf1.no hf2
  refine runK_of (r_ext0 _ _ [_, _] 0 _ rfl) ?_
  refine runK_of (r_ext0 _ _ [_, _] 1 _ rfl) ?_
  -- the first text
  refine runK_of (w' := w2.alloc (.cells ([2, 1].map bv).toArray 5)) (v := .slice (some ⟨w2.heap.size, 0, none⟩) 2 2) (by kernel_rfl) ?_
  have hf3 := Fr.alloc w2 (.cells ([2, 1].map bv).toArray 5)
  have hb3 : Blk (w2.alloc (.cells ([2, 1].map bv).toArray 5)) w2.heap.size 5 ([2, 1].map bv) := Blk.new w2 5 _
  have hs3 : (w2.alloc (.cells ([2, 1].map bv).toArray 5)).heap.size = w2.heap.size + 1 := by simp
  generalize w2.alloc (.cells ([2, 1].map bv).toArray 5) = w3 at *
  refine k_bb hb3 fun w4 hf4 hc4 => ?_
  have hn24 : Fr No w2 w4 := hf3.new hf4 (fun k hk => by have hk : k = w2.heap.size := hk; omega)
  refine unpack_s (RdB.of (by decide) hc4) (by decide) (fun l v w5 hg hf5 ho5 _ => ?_) (fun l a e w5 hg hlt he hf5 => ?_)
  rotate_left
  · exact (Stop.not_all (⟨hg, hlt, he⟩ : Stop _ _ _ _) ex_got1).elim
  have hl := Got.all_one hg ex_got1
  subst hl
  have hn25 := hn24.no hf5
  refine runK_of (r_ext0 _ _ [_, _, _] 0 _ rfl) ?_
  refine runK_of (r_ext0 _ _ [_, _, _] 1 _ rfl) ?_
  refine runK_of (r_ext0 _ _ [_, _, _] 2 _ rfl) ?_
  -- the second text
  refine runK_of (w' := w5.alloc (.cells ([1, 5, 4, 2, 104].map bv).toArray 5)) (v := .slice (some ⟨w5.heap.size, 0, none⟩) 5 5) (by kernel_rfl) ?_
  have hf6 := Fr.alloc w5 (.cells ([1, 5, 4, 2, 104].map bv).toArray 5)
  have hb6 : Blk (w5.alloc (.cells ([1, 5, 4, 2, 104].map bv).toArray 5)) w5.heap.size 5 ([1, 5, 4, 2, 104].map bv) := Blk.new w5 5 _
  generalize w5.alloc (.cells ([1, 5, 4, 2, 104].map bv).toArray 5) = w6 at *
  refine k_bb hb6 fun w7 hf7 hc7 => ?_
  have hn57 : Fr No w5 w7 := hf6.new hf7 (fun k hk => by have hk : k = w5.heap.size := hk; omega)
  refine unpack_s (RdB.of (by decide) hc7) (by decide) (fun l v w5 hg hf5 ho5 _ => ?_) (fun l a e w8 hg hlt he hf8 => ?_)
  · exact (Stop.not_all ex_stop hg).elim
  obtain ⟨rfl, rfl, rfl⟩ := ex_stop.one (⟨hg, hlt, he⟩ : Stop _ _ _ _)
  have hn58 := hn57.no hf8
  have hn28 := hn25.no hn58
  refine runK_of (r_ext0 _ _ [_, _, _] 0 _ rfl) ?_
  refine runK_of (r_ext0 _ _ [_, _, _] 1 _ rfl) ?_
  refine runK_of (r_ext0 _ _ [_, _, _] 2 _ rfl) ?_
  refine runK_of (r_eql ..) ?_
  refine condF_yes rfl ?_
  refine runK_of (r_own_str (own_no ho hn28)) ?_
  refine runK_of (r_seql ..) ?_
  rw [toList_eq]
  refine condF_yes rfl ?_
  refine runK_of (r_eql ..) ?_
  refine condF_yes rfl ?_
  have hr := (OwnV.rd ho5).no hn58
  obtain ⟨a, c, rfl, hc⟩ := hr.at_ (i := 0) (by decide)
  refine runK_of (r_len _ _ _ 36 _ Try.underlying22 _ _ _) ?_
  refine runK_of (r_eql ..) ?_
  refine condF_yes rfl ?_
  refine runK_of (r_indexAddr _ _ Try.underlying22 5 size_val _ _ _ 0 _ (by decide) _) ?_
  refine runK_of (r_field 36 2 2 (by kernel_rfl) _ _) ?_
  refine runK_of (r_load1 2 (by kernel_rfl) _ _ _ (hc 2 _ rfl)) ?_
  refine runK_of (r_eql ..) ?_
  refine condF_yes rfl ?_
  refine runK_of (r_eql ..) ?_
  refine condF_yes rfl ?_
  refine runK_of (r_eql ..) ?_
  exact hk w8 (hn2.no hn28)
end
end Go.Proofs.Ytdihigmcihheoaa
