/-
  The walks of WireBack, WireOnce, WireApart, WireJoins and WireCuts.
-/
import Derived.Test.YtdihigmcihheoaaWN
import Derived.Test.YtdihigmcihheoaaWQ
import Derived.Lib.ConvBytes
set_option linter.unusedVariables false
set_option linter.unusedSimpArgs false
set_option maxRecDepth 20000
namespace Go.Proofs.Ytdihigmcihheoaa
open Go.FW

theorem OwnB.rdb {w : World} {v : Value} {bs : List UInt8} (h : OwnB w v bs) : RdB w v bs := by
  have h0 : w.ownsRow 0 5 1 v bs.length (bs.map bv) := h
  obtain ⟨_, ⟨rfl, hn⟩ | ⟨g, cap, cur, rfl, _, _, hle, _⟩⟩ := h
  · have hb : bs = [] := List.eq_nil_of_length_eq_zero hn
    subst hb
    exact ⟨none, 0, rfl, Nat.le_refl _, fun h => absurd rfl h⟩
  · have hc := World.ownsRow.cells (g := g) h0 rfl
    refine ⟨some ⟨g, 0, none⟩, cap, rfl, hle, fun _ => ⟨g, 0, rfl, fun i u hi => ?_⟩⟩
    have := hc i u hi
    rwa [add_lit] at this
theorem not_yes {X Y : Prop} (h : Y) : condF (.bool (!true)) X Y := h
theorem condF_neq {a b : Int} {X Y : Prop} (h : a = b) (hY : Y) : condF (.bool (!decide (a = b))) X Y := by rw [decide_eq_true h]; exact hY
theorem condF_neq' {a b : Int} {X Y : Prop} (h : a ≠ b) (hX : X) : condF (.bool (!decide (a = b))) X Y := by rw [decide_eq_false h]; exact hX
theorem packB_bound {l : List Vl} (hw : ∀ v ∈ l, v.Wf) (h : packE l = 0) : (packB l).length ≤ 1011000 := by
  obtain ⟨h1, h2⟩ := packE_zero h
  have := packB_len hw h2
  omega

theorem valP_noErr {l : List UInt8} (h : valP l = .error 0) : False := by
  cases l with
  | nil => simp [valP] at h
  | cons c r =>
    have hn : ∀ {k n : Nat} {l : List UInt8}, numP k n l ≠ .error 0 := fun {k n l} h => by rcases numP_err h with h | h <;> omega
    rw [valP] at h
    split at h
    · split at h
      · rename_i hp; injection h with h; subst h; exact hn hp
      · cases h
    split at h
    · split at h
      · rename_i hp; injection h with h; subst h; exact hn hp
      · cases h
    split at h
    · split at h
      · rename_i e hp
        injection h with h
        subst h
        unfold fltP at hp
        (repeat' split at hp) <;> first | (injection hp with hp; omega) | cases hp
      · cases h
    split at h
    · split at h
      · rename_i e hp
        injection h with h
        subst h
        unfold txtP at hp
        split at hp
        · rename_i hp'; injection hp with hp; subst hp; exact hn hp'
        · (repeat' split at hp) <;> first | (injection hp with hp; omega) | cases hp
      · cases h
    · injection h with h; omega

section
variable {x : PX} {w : World} {K : Value → World → Prop}

theorem yes_of {w w' : World} (h : Fr No w w') : Yes w (.returned (.bool true)) w' := ⟨rfl, h⟩

theorem back_walk {v : Value} {l : List Vl} (w : World) (hr : RdV w v l) (hw : ∀ x ∈ l, x.Wf) : Calls Try.prog 5 #[v] w (Yes w) := by
  refine c5 _ _ _ ?_
  unfold m5 m5_1
  refine few_s hr fun r hfew => ?_
  refine runK_of (r_not _ _ _) ?_
  refine condF_of (fun h => ?_) (fun h => ?_)
  · exact awake_s fun w1 hf1 => yes_of hf1
  have hfew : FewP l := hfew.1 (by simpa using h)
  have hlen := hfew.1
  refine pack_s hr hw (by omega) (fun b w1 he ho hf1 _ => ?_) (fun w1 he hf1 => ?_)
  · refine runK_of (r_ext0 _ _ [_, _] 0 _ rfl) ?_
    refine runK_of (r_ext0 _ _ [_, _] 1 _ rfl) ?_
    refine awake_s fun w2 hf2 => ?_
    refine runK_of (r_not _ _ _) ?_
    refine not_yes ?_
    refine runK_of (r_neq ..) ?_
    refine condF_neq rfl ?_
    have hn2 := hf1.no hf2
    refine unpack_s (OwnB.rdb (own_no ho hf2)) (by have := packB_bound hw he; omega) (fun l' v' w3 hg hf3 ho3 _ => ?_) (fun l' a e w3 hg hlt he' hf3 => ?_)
    rotate_left
    · exact (Stop.not_all (⟨hg, hlt, he'⟩ : Stop _ _ _ _) (got_pack he hw)).elim
    have hl' := Got.all_one hg (got_pack he hw)
    subst hl'
    have hn3 := hn2.no hf3
    refine runK_of (r_ext0 _ _ [_, _, _] 0 _ rfl) ?_
    refine runK_of (r_ext0 _ _ [_, _, _] 1 _ rfl) ?_
    refine runK_of (r_ext0 _ _ [_, _, _] 2 _ rfl) ?_
    refine runK_of (r_eql ..) ?_
    refine condF_yes rfl ?_
    refine runK_of (r_eql ..) ?_
    refine condF_yes rfl ?_
    refine all_r (hr.no hn3) (OwnV.rd ho3) hw (fun u hu => ?_) (by omega) fun r w4 hf4 hr4 => ?_
    · obtain ⟨z, hz, rfl⟩ := List.mem_map.1 hu
      exact normV_wf (hw z hz)
    · rw [hr4.2 (all_norm l)]
      exact yes_of (hn3.no hf4)
  · refine runK_of (r_ext0 _ _ [_, _] 0 _ rfl) ?_
    refine runK_of (r_ext0 _ _ [_, _] 1 _ rfl) ?_
    refine awake_s fun w2 hf2 => ?_
    refine runK_of (r_not _ _ _) ?_
    refine not_yes ?_
    refine runK_of (r_neq ..) ?_
    refine condF_neq' he ?_
    exact awake_s fun w3 hf3 => yes_of ((hf1.no hf2).no hf3)

/-- '[]byte(s)'. -/
theorem k_str_bytes (s : ByteArray) (hk : ∀ v w1, RdB w1 v s.data.toList → Fr No w w1 → K v w1) : runK Try.prog x (convert 9 25 (.string s)) w K := by
  refine runK_of (Lib.run_convert_string_bytes w 9 25 5 s Try.underlying9 Try.underlying25 Try.underlying5) ?_
  have hl := size_list s
  refine hk _ _ ⟨some ⟨w.heap.size, 0, none⟩, grownCap w s.size 0 5, by rw [hl], ?_, fun _ => ⟨w.heap.size, 0, rfl, fun i u hi => ?_⟩⟩ ⟨?_, ?_, ?_, ?_, fun k hk _ => Lib.bytesWorld_at_old w 5 s k hk⟩
  · rw [hl]; exact grownCap_ge w s.size 0 5
  · have hil : i < s.data.toList.length := by
      have := (List.getElem?_eq_some_iff.1 hi).1
      simpa using this
    rw [Nat.zero_add, Lib.bytesWorld_cell w 5 s i (by omega)]
    rw [List.getElem?_map, List.getElem?_eq_getElem hil] at hi
    cases hi
    simp [bv, List.getD, List.getElem?_eq_getElem hil]
  · simp [Lib.bytesWorld, World.freeze]; rfl
  · simp [Lib.bytesWorld, World.freeze]
  · simp [Lib.bytesWorld, World.freeze]; rfl
  · rw [Lib.bytesWorld_size]; omega

theorem once_walk (s : ByteArray) (w : World) : Calls Try.prog 6 #[.string s] w (Yes w) := by
  refine c6 _ _ _ ?_
  unfold m6 m6_1
  refine runK_of (r_slen _ _ _ _ _ Try.underlying9) ?_
  refine runK_of (r_gtr ..) ?_
  refine condF_dec (fun h => ?_) (fun h => ?_)
  · exact awake_s fun w1 hf1 => yes_of hf1
  have hsz : s.size ≤ 20000 := by omega
  have hl := size_list s
  refine k_str_bytes s fun b w1 hb1 hf1 => ?_
  refine unpack_s hb1 (by omega) (fun l v w2 hg hf2 ho2 _ => ?_) (fun l a e w2 hg hlt he hf2 => ?_)
  · have hn2 := hf1.no hf2
    refine runK_of (r_ext0 _ _ [_, _, _] 0 _ rfl) ?_
    refine runK_of (r_ext0 _ _ [_, _, _] 1 _ rfl) ?_
    refine runK_of (r_ext0 _ _ [_, _, _] 2 _ rfl) ?_
    refine awake_s fun w3 hf3 => ?_
    refine runK_of (r_not _ _ _) ?_
    refine not_yes ?_
    refine runK_of (r_neq ..) ?_
    refine condF_neq rfl ?_
    obtain ⟨he, hp⟩ := got_once hg
    have hn3 := hn2.no hf3
    refine pack_s (OwnV.rd (own_no ho2 hf3)) hg.wf (by have := hg.len; omega) (fun b' w4 _ ho4 hf4 _ => ?_) (fun w4 he' => absurd he he')
    refine runK_of (r_ext0 _ _ [_, _] 0 _ rfl) ?_
    refine runK_of (r_ext0 _ _ [_, _] 1 _ rfl) ?_
    refine runK_of (r_eql ..) ?_
    refine condF_yes rfl ?_
    refine runK_of (r_own_str ho4) ?_
    refine runK_of (r_seql ..) ?_
    rw [toList_eq, hp, strB_of, decide_eq_true rfl]
    exact yes_of (hn3.no hf4)
  · have hn2 := hf1.no hf2
    have he0 : e ≠ 0 := by
      rcases he with ⟨_, h⟩ | ⟨_, h⟩
      · omega
      · intro e0
        subst e0
        exact valP_noErr h
    refine runK_of (r_ext0 _ _ [_, _, _] 0 _ rfl) ?_
    refine runK_of (r_ext0 _ _ [_, _, _] 1 _ rfl) ?_
    refine runK_of (r_ext0 _ _ [_, _, _] 2 _ rfl) ?_
    refine awake_s fun w3 hf3 => ?_
    refine runK_of (r_not _ _ _) ?_
    refine not_yes ?_
    refine runK_of (r_neq ..) ?_
    refine condF_neq' he0 ?_
    refine awake_s fun w4 hf4 => ?_
    rw [condF_true]
    refine runK_of (r_len _ _ _ 36 _ Try.underlying22 _ _ _) ?_
    refine runK_of (r_eql ..) ?_
    exact yes_of ((hn2.no hf3).no hf4)
end
end Go.Proofs.Ytdihigmcihheoaa
