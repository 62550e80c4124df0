/-
  Memory for the functional frame: blocks, frames, owned rows; the operations that read and make memory.
-/
import Derived.Test.YtdihigmcihheoaaFL
import Derived.Maps.AppendAt
import Derived.Lib.ConvBytes
import Derived.Lib.AppendStr
set_option linter.unusedVariables false
set_option linter.unusedSimpArgs false
namespace Go.FW
open Go.RowKit

/-- Block g is just these cells, of element type t. -/
def Blk (w : World) (g : Nat) (t : TypeId) (cs : List Value) : Prop := w.heap[g]? = some (.cells cs.toArray t (0, 0))

/-- Of what was there, only the blocks of F may have turned. -/
structure Fr (F : Nat → Prop) (w w' : World) : Prop where
  os : w'.os = w.os
  tape : w'.tape = w.tape
  output : w'.output = w.output
  size : w.heap.size ≤ w'.heap.size
  block : ∀ k, k < w.heap.size → ¬ F k → w'.heap[k]? = w.heap[k]?

def No : Nat → Prop := fun _ => False

section fr
variable {F G H : Nat → Prop} {w w1 w2 : World} {g : Nat} {t : TypeId} {cs : List Value}
theorem Fr.refl (F : Nat → Prop) (w : World) : Fr F w w := ⟨rfl, rfl, rfl, Nat.le_refl _, fun _ _ _ => rfl⟩
theorem Fr.trans (h : Fr F w w1) (h' : Fr G w1 w2) (hF : ∀ k, k < w.heap.size → F k → H k) (hG : ∀ k, k < w.heap.size → G k → H k) : Fr H w w2 :=
  ⟨h'.os.trans h.os, h'.tape.trans h.tape, h'.output.trans h.output, Nat.le_trans h.size h'.size, fun k hk hn =>
    (h'.block k (Nat.lt_of_lt_of_le hk h.size) (fun hg => hn (hG k hk hg))).trans (h.block k hk (fun hf => hn (hF k hk hf)))⟩
theorem Fr.no (h : Fr No w w1) (h' : Fr No w1 w2) : Fr No w w2 := h.trans h' (fun _ _ h => h) (fun _ _ h => h)
theorem Fr.mono (h : Fr F w w1) (hF : ∀ k, k < w.heap.size → F k → G k) : Fr G w w1 := ⟨h.os, h.tape, h.output, h.size, fun k hk hn => h.block k hk (fun hf => hn (hF k hk hf))⟩
theorem Fr.new (h : Fr F w w1) (h' : Fr G w1 w2) (hG : ∀ k, G k → w.heap.size ≤ k) : Fr F w w2 := h.trans h' (fun _ _ h => h) (fun k hk hg => absurd (hG k hg) (by omega))
theorem Fr.below (h : Fr No w w1) : Below w.heap.size w w1 := ⟨h.os, h.tape, h.output, h.size, fun k hk => h.block k hk id⟩
theorem Fr.of_below (h : Below w.heap.size w w1) : Fr No w w1 := ⟨h.os, h.tape, h.output, h.size, fun k hk _ => h.block k hk⟩
theorem Fr.of_grown {r : Option Nat} (h : w.grownBy w1 r) : Fr (fun k => r = some k) w w1 := ⟨h.os, h.tape, h.output, h.size, fun k hk hn => h.block k hk (fun e => hn e.symm)⟩
theorem Fr.grown {r : Option Nat} (h : Fr (fun k => r = some k) w w1) : w.grownBy w1 r := ⟨h.os, h.tape, h.output, h.size, fun k hk hn => h.block k hk (fun e => hn e.symm)⟩
theorem Fr.drew (w : World) : Fr No w w.drew := ⟨rfl, rfl, rfl, Nat.le_refl _, fun _ _ _ => rfl⟩
theorem Fr.alloc (w : World) (o : Obj) : Fr No w (w.alloc o) := ⟨rfl, rfl, rfl, by simp, fun k hk _ => Below.heap_alloc w o k hk⟩

theorem Blk.lt (h : Blk w g t cs) : g < w.heap.size := by
  rcases Nat.lt_or_ge g w.heap.size with hlt | hge
  · exact hlt
  · unfold Blk at h; rw [Array.getElem?_eq_none hge] at h; cases h
theorem Blk.cell (h : Blk w g t cs) (i : Nat) : w.cell? ⟨g, i, none⟩ = cs[i]? := by
  rw [cell_of_row w g i cs.toArray t (0, 0) h]; simp
theorem Blk.frozen (h : Blk w g t cs) (i : Nat) : w.frozen? ⟨g, i, none⟩ = false := by
  unfold Blk at h; simp [World.frozen?, h]
theorem Blk.new (w : World) (t : TypeId) (cs : List Value) : Blk (w.alloc (.cells cs.toArray t)) w.heap.size t cs := heap_alloc_new w _
theorem Blk.fr (h : Blk w g t cs) (hf : Fr F w w1) (hn : ¬ F g) : Blk w1 g t cs := (hf.block g h.lt hn).trans h
theorem Blk.no (h : Blk w g t cs) (hf : Fr No w w1) : Blk w1 g t cs := h.fr hf id
theorem Blk.ne_ {g' : Nat} {t' : TypeId} {cs' : List Value} (h : Blk w g t cs) (h' : Blk w g' t' cs') (hne : t ≠ t') : g ≠ g' := by
  rintro rfl
  unfold Blk at h h'
  rw [h] at h'
  injection h' with h'
  injection h' with _ ht
  exact hne ht
theorem Blk.set (h : Blk w g t cs) (i : Nat) (u : Value) : Blk (w.setCell ⟨g, i, none⟩ u) g t (cs.set i u) := by
  unfold Blk at h ⊢
  simp [World.setCell, Array.getElem?_modify, h]
theorem Fr.set (w : World) (g i : Nat) (u : Value) : Fr (· = g) w (w.setCell ⟨g, i, none⟩ u) :=
  ⟨rfl, rfl, rfl, by simp, fun k hk hn => Below.heap_setCell w ⟨g, i, none⟩ u k hn⟩
end fr

theorem add_lit (b o n : Nat) : (⟨b, o, none⟩ : Addr).add n = ⟨b, o + n, none⟩ := by
  unfold Addr.add; split <;> simp_all
theorem add_add (a : Addr) (i j : Nat) : (a.add i).add j = a.add (i + j) := by
  unfold Addr.add
  by_cases hi : i = 0 <;> by_cases hj : j = 0 <;> simp [hi, hj, Nat.add_assoc]
theorem add_block (a : Addr) (n : Nat) : (a.add n).block = a.block := by unfold Addr.add; split <;> rfl

/-! ### What the table of types says, asked by a Bool -/
def cellB (P : Program) (t : TypeId) : Bool := match P.underlying t with
  | some (.struct _) => false
  | some (.array ..) => false
  | some _ => ((P.info? t).map (·.size)) == some 1
  | none => false
def aggB (P : Program) (t : TypeId) (n : Nat) : Bool := (match P.underlying t with
  | some (.struct _) => true
  | some (.array ..) => true
  | _ => false) && ((P.info? t).map (·.size)) == some n
def fieldB (P : Program) (s : TypeId) (f off : Nat) : Bool := match P.underlying s with
  | some (.struct fs) => match fs[f]? with
    | some fd => Nat.beq fd.offset off && (match (P.info? fd.type).map (·.size) with | some (_ + 1) => true | _ => false)
    | none => false
  | _ => false
def sliceB (P : Program) (t : TypeId) (n : Nat) : Bool := match P.underlying t with
  | some (.slice e) => ((P.info? e).map (·.size)) == some n
  | _ => false
def zeroB (P : Program) (t : TypeId) : Option Value := (P.info? t).bind (·.zero)

section laws
variable {P : Program} {x : PX} {w : World} {K : Value → World → Prop}

theorem sizeOf_run {t : TypeId} {n : Nat} (h : ((P.info? t).map (·.size)) = some n) (w : World) : (sizeOf t).run P w = .ok n w := by
  cases hi : P.info? t with
  | none => rw [hi] at h; cases h
  | some i =>
    rw [hi] at h
    simp only [Option.map_some, Option.some.injEq] at h
    simp [sizeOf, run_typeInfo w hi, h]

theorem r_field (s : TypeId) (f off : Nat) (h : fieldB P s f off = true) (a : Addr) (w : World) : (Instr.fieldAt s (.pointer (some a)) f).run P w = .ok (.pointer (some (a.add off))) w := by
  unfold fieldB at h
  split at h
  · rename_i fs hs
    split at h
    · rename_i fd hf
      simp only [Bool.and_eq_true] at h
      obtain ⟨h1, h2⟩ := h
      split at h2
      · rename_i m hm
        have e := Nat.eq_of_beq_eq_true h1
        subst e
        simp [Instr.fieldAt, run_underlying hs, hf, Instr.sureAddr, fieldPlace, sizeOf_run hm]
      · cases h2
    · cases h
  · cases h

theorem r_load1 (t : TypeId) (h : cellB P t = true) (a : Addr) (v : Value) (w : World) (hc : w.cell? a = some v) : (Instr.loadAt t (.pointer (some a))).run P w = .ok v w := by
  unfold cellB at h
  cases hs : P.underlying t with
  | none => rw [hs] at h; cases h
  | some u =>
    rw [hs] at h
    cases u <;> first | (cases h; done) | simp [Instr.loadAt, Instr.sureAddr, loadVar, isAgg, run_underlying hs, hc]

theorem r_loadn (t : TypeId) (cs : List Value) (h : aggB P t cs.length = true) (a : Addr) (w : World) (hc : ∀ j v, cs[j]? = some v → w.cell? (a.add j) = some v) :
    (Instr.loadAt t (.pointer (some a))).run P w = .ok (.agg cs.toArray) w := by
  unfold aggB at h
  simp only [Bool.and_eq_true, beq_iff_eq] at h
  obtain ⟨h1, h2⟩ := h
  have hl := run_loadCells_list (P := P) w a cs hc
  cases hs : P.underlying t with
  | none => rw [hs] at h1; cases h1
  | some u =>
    rw [hs] at h1
    cases u <;> first | (cases h1; done) | simp [Instr.loadAt, Instr.sureAddr, loadVar, isAgg, run_underlying hs, sizeOf_run h2, hl]

theorem r_box (t : TypeId) (v : Value) (w : World) : (Instr.box t v).run P w = .ok (.pointer (some ⟨w.heap.size, 0, none⟩)) (w.alloc (.cells v.cells t)) := rfl
theorem r_alloc (t : TypeId) (z : Value) (h : zeroB P t = some z) (u : Value) (w : World) : (Instr.alloc t true u).run P w = .ok (.pointer (some ⟨w.heap.size, 0, none⟩)) (w.alloc (.cells z.cells t)) := by
  unfold zeroB at h
  cases hi : P.info? t with
  | none => rw [hi] at h; cases h
  | some i =>
    rw [hi] at h
    have hz : i.zero = some z := h
    have hzv : (zeroValue t).run P w = .ok z w := by simp [zeroValue, run_typeInfo w hi, hz]
    simp only [Instr.alloc, Sem.run_bind, hzv, Result.andThen]
    rfl

/-- A box: a new block. -/
theorem k_box {t : TypeId} {v : Value} (hk : ∀ w1, Fr No w w1 → w1.heap.size = w.heap.size + 1 → Blk w1 w.heap.size t v.cells.toList → K (.pointer (some ⟨w.heap.size, 0, none⟩)) w1) : runK P x (Instr.box t v) w K :=
  runK_of (r_box t v w) (hk _ (Fr.alloc w _) (by simp) (by have := Blk.new w t v.cells.toList; simpa using this))
theorem k_alloc {t : TypeId} {z u : Value} (h : zeroB P t = some z) (hk : ∀ w1, Fr No w w1 → w1.heap.size = w.heap.size + 1 → Blk w1 w.heap.size t z.cells.toList → K (.pointer (some ⟨w.heap.size, 0, none⟩)) w1) :
    runK P x (Instr.alloc t true u) w K :=
  runK_of (r_alloc t z h u w) (hk _ (Fr.alloc w _) (by simp) (by have := Blk.new w t z.cells.toList; simpa using this))

/-- A store into a block that is known whole. -/
theorem k_store {t te : TypeId} {g i : Nat} {cs : List Value} {v u : Value} {k : World → Prop} (hB : Blk w g te cs) (hi : cs[i]? = some u) (hv : v.oneCell' = true) (ht : cellB P t = true)
    (hk : ∀ w1, Fr (· = g) w w1 → w1.heap.size = w.heap.size → Blk w1 g te (cs.set i v) → k w1) : runU P x (Instr.storeAt t (.pointer (some ⟨g, i, none⟩)) v) w k := by
  have hs : ((P.info? t).map (·.size)) = some 1 := by
    unfold cellB at ht
    split at ht <;> first | (cases ht; done) | simpa using ht
  have hz : v.cells = #[v] := by cases v <;> first | rfl | (cases hv; done)
  have hadd : (⟨g, i, none⟩ : Addr).add 0 = ⟨g, i, none⟩ := rfl
  refine runU_of (w' := w.setCell ⟨g, i, none⟩ v) ?_ (hk _ (Fr.set w g i v) (by simp) (hB.set i v))
  have hst : (store (⟨g, i, none⟩ : Addr) v).run P w = .ok () (w.setCell ⟨g, i, none⟩ v) := by
    rw [run_store P w _ v _ hv, hB.cell, hi, hB.frozen]; rfl
  simp [Instr.storeAt, Instr.sureAddr, storeVar, sizeOf_run hs, hz, storeCells, hadd, hst]

/-- A region that draws and only reads: from some world whose heap is the same. -/
theorem drawM_quiet {F : (World → Prop) → World → Prop} (h : ∀ w1, w1.heap = w.heap → Fr No w w1 → F (· = w1) w1) : drawM w F := ⟨(· = w.drew), rfl, h _ rfl (Fr.drew w)⟩
theorem quiet_eq {w1 : World} {s : Sem Value} {v : Value} {k : Value → Prop} (h : s.run P w1 = .ok v w1) (hk : k v) : quietK P (· = w1) s k := quietK_of (fun w hw => by subst hw; exact h) hk
theorem quietN_eq {w1 : World} {s : Sem Next} {v : Value} {k : Value → Prop} (h : s.run P w1 = .ok (.value v) w1) (hk : k v) : quietN P (· = w1) s k := quietN_of (fun w hw => by subst hw; exact h) hk

/-! ### Rows of the call's own, appended to -/
/-- From (w, v) one came to (w', v') by appending: only v's own block has turned; v' lies where v lay, or in a new block. -/
structure App (w : World) (v : Value) (w' : World) (v' : Value) : Prop where
  fr : Fr (fun k => v.ownBlock = some k) w w'
  own : v'.ownBlock = v.ownBlock ∨ ∀ k, v'.ownBlock = some k → w.heap.size ≤ k
theorem App.refl (w : World) (v : Value) : App w v w v := ⟨Fr.refl _ w, .inl rfl⟩
theorem App.trans {w w1 w2 : World} {v v1 v2 : Value} (h : App w v w1 v1) (h' : App w1 v1 w2 v2) : App w v w2 v2 := by
  refine ⟨h.fr.trans h'.fr (fun _ _ h => h) (fun k hk he => ?_), ?_⟩
  · rcases h.own with e | e
    · rw [← e]; exact he
    · have := e k he; omega
  · rcases h'.own with e' | e'
    · rw [e']; exact h.own
    · exact .inr fun k hk => Nat.le_trans h.fr.size (e' k hk)
theorem App.no {w w1 : World} {v : Value} (h : Fr No w w1) : App w v w1 v := ⟨h.mono (fun _ _ h => h.elim), .inl rfl⟩
theorem Blk.app {w w1 : World} {g : Nat} {t : TypeId} {cs : List Value} {v v1 : Value} (h : Blk w g t cs) (ha : App w v w1 v1) (hn : v.ownBlock ≠ some g) : Blk w1 g t cs := h.fr ha.fr hn
theorem own_ne {w : World} {B : Nat} {e t : TypeId} {sz n g : Nat} {v : Value} {xs cs : List Value} (h : w.ownsRow B e sz v n xs) (hb : Blk w g t cs) (hne : e ≠ t) : v.ownBlock ≠ some g := by
  rcases h.2 with ⟨rfl, _⟩ | ⟨g', cap, cur, rfl, _, hh, _⟩
  · simp [Value.ownBlock]
  · intro he
    have e1 : g' = g := by simpa [Value.ownBlock] using he
    subst e1
    exact Blk.ne_ (cs := cur.toList) (t := e) (by unfold Blk; simpa using hh) hb hne rfl
theorem own_fr {w w1 : World} {F : Nat → Prop} {B : Nat} {e : TypeId} {sz n : Nat} {v : Value} {xs : List Value} (h : w.ownsRow B e sz v n xs) (hf : Fr F w w1) (hn : ∀ k, v.ownBlock = some k → ¬ F k) : w1.ownsRow B e sz v n xs := by
  refine ⟨h.1, ?_⟩
  rcases h.2 with h0 | ⟨g, cap, cur, rfl, hb, hg, rest⟩
  · exact .inl h0
  · refine .inr ⟨g, cap, cur, rfl, hb, ?_, rest⟩
    rw [hf.block g (Array.getElem?_eq_some_iff.1 hg).1 (hn g rfl)]
    exact hg
theorem own_no {w w1 : World} {B : Nat} {e : TypeId} {sz n : Nat} {v : Value} {xs : List Value} (h : w.ownsRow B e sz v n xs) (hf : Fr No w w1) : w1.ownsRow B e sz v n xs := own_fr h hf (fun _ _ => id)

/-- append of what lies at an address. -/
theorem k_append {t ty e : TypeId} {i : TypeInfo} {z : Value} {sz bytes : Nat} (ht : P.underlying t = some (.slice e)) (hi : P.info? e = some i) (hz : i.zero = some z) (hsz : i.size = sz) (hby : i.bytes = bytes)
    (hzs : z.cells.size = sz) (h0 : 0 < sz) {v : Value} {n : Nat} {xs : List Value} (hown : w.ownsRow 0 e sz v n xs) {a : Addr} {m c : Nat} {news : List Value} (hl : news.length = m * sz)
    (hnews : ∀ j u, news[j]? = some u → w.cell? (a.add j) = some u) (h1 : ∀ u ∈ news, u.oneCell' = true) (hb : (n + m) * bytes ≤ 140737488355328) (hb0 : 0 < bytes)
    (hk : ∀ v' w1, w1.ownsRow 0 e sz v' (n + m) (xs ++ news) → App w v w1 v' → K v' w1) : runK P x (Builtin.append_ #[t, t] ty #[v, .slice (some a) m c]) w K := by
  have hm : n + m ≤ maxLen := by
    have : n + m ≤ (n + m) * bytes := Nat.le_mul_of_pos_right _ hb0
    simp only [maxLen]; omega
  obtain ⟨v', w', hr, h2, h3, _, h5⟩ := run_append_own_at (P := P) w 0 t ty e i z sz bytes ht hi hz hsz hby hzs h0 v n xs hown a m c news hl hnews h1 hm hb (Nat.zero_le _)
  refine runK_of hr (hk v' w' h2 ⟨Fr.of_grown h3, ?_⟩)
  rcases h5 with e | e
  · exact .inl e
  · exact .inr fun k hk => by rw [e] at hk; cases hk; exact Nat.le_refl _
/-- A slice of one element of one cell. -/
theorem k_one {t e : TypeId} {z : Value} (ht : P.underlying t = some (.slice e)) (hs : ((P.info? e).map (·.size)) = some 1) (hz : zeroB P e = some z) (hzs : z.cells.size = 1) {u : Value} (hu : u.cells = #[u])
    (hk : ∀ w1, Fr No w w1 → w1.heap.size = w.heap.size + 1 → Blk w1 w.heap.size e [u] → K (.slice (some ⟨w.heap.size, 0, none⟩) 1 1) w1) : runK P x (Instr.buildSlice t 1 #[(0, u)]) w K := by
  have hzv : (zeroValue e).run P w = .ok z w := by
    unfold zeroB at hz
    cases hi : P.info? e with
    | none => rw [hi] at hz; cases hz
    | some i =>
      rw [hi] at hz
      have hz' : i.zero = some z := hz
      simp [zeroValue, run_typeInfo w hi, hz']
  have hf : Instr.fill (fun i => some (i * 1, 1)) ((Array.range (1 * 1)).map (z.cells[· % z.cells.size]!)) [(0, u)] = some #[u] := by
    have e0 : ((Array.range (1 * 1)).map (z.cells[· % z.cells.size]!)) = #[z.cells[0 % z.cells.size]!] := by
      apply Array.ext
      · simp
      · intro i h1 h2
        have hi : i = 0 := by simp at h2; omega
        subst hi
        simp
    rw [e0]
    simp [Instr.fill, hu]
  have hr : (Instr.buildSlice t 1 #[(0, u)]).run P w = .ok (.slice (some ⟨w.heap.size, 0, none⟩) 1 1) (w.alloc (.cells #[u] e)) := by
    simp only [Instr.buildSlice, Sem.run_bind, run_underlying ht, Result.andThen, sizeOf_run hs]
    simp only [Nat.mul_one, Nat.reduceLT, gt_iff_lt, Nat.reducePow, if_false, Nat.one_ne_zero, Sem.run_bind, hzv, Result.andThen, Sem.run_pure] at hf ⊢
    simp [hzv, Result.andThen, hf]
    rfl
  exact runK_of hr (hk _ (Fr.alloc w _) (by simp) (by have := Blk.new w e [u]; simpa using this))

/-- 'append(v, u)'. -/
theorem k_app1 {t ty e : TypeId} {i : TypeInfo} {z : Value} {bytes : Nat} (ht : P.underlying t = some (.slice e)) (hi : P.info? e = some i) (hz : i.zero = some z) (hsz : i.size = 1) (hby : i.bytes = bytes)
    (hzs : z.cells.size = 1) {v : Value} {n : Nat} {xs : List Value} (hown : w.ownsRow 0 e 1 v n xs) {u : Value} (hu : u.cells = #[u]) (h1 : u.oneCell' = true) (hb : (n + 1) * bytes ≤ 140737488355328) (hb0 : 0 < bytes)
    (hk : ∀ v' w1, w1.ownsRow 0 e 1 v' (n + 1) (xs ++ [u]) → App w v w1 v' → K v' w1) : runK P x (Instr.buildSlice t 1 #[(0, u)]) w fun s w => runK P x (Builtin.append_ #[t, t] ty #[v, s]) w K := by
  refine k_one ht (by rw [hi]; simp [hsz]) (by unfold zeroB; rw [hi]; exact hz) hzs hu fun w1 hf1 hs1 hb1 => ?_
  refine k_append ht hi hz hsz hby hzs (by omega) (own_no hown hf1) (news := [u]) (by simp) (fun j q hj => by rw [add_lit, hb1.cell, Nat.zero_add]; exact hj) (by simpa using h1) hb hb0 fun v' w2 ho ha => ?_
  exact hk v' w2 ho ((App.no hf1).trans ha)
/-- 'append(v, s...)', v bytes of the call's own, s a string. -/
theorem k_app_str {t u ty e : TypeId} {i : TypeInfo} (ht : P.underlying t = some (.slice e)) (hu : P.underlying u = some .string) (hi : P.info? e = some i) (hz : i.zero = some (.int .u8 0)) (hsize : i.size = 1) (hby : i.bytes = 1)
    {v : Value} {n : Nat} {xs : List Value} (hown : w.ownsRow 0 e 1 v n xs) (s : ByteArray) (hb : n + s.size ≤ 140737488355328)
    (hk : ∀ v' w1, w1.ownsRow 0 e 1 v' (n + s.size) (xs ++ Lib.strCells s) → App w v w1 v' → K v' w1) : runK P x (Builtin.append_ #[t, u] ty #[v, .string s]) w K := by
  have h63 : n + s.size ≤ maxLen := by simp only [maxLen]; omega
  have hxl : xs.length = n := by simpa using hown.1
  have hlen : (xs ++ Lib.strCells s).length = (n + s.size) * 1 := by rw [List.length_append, hxl, Lib.strCells_length, Nat.mul_one]
  have grown : ∀ (old : Nat), old < n + s.size → ∀ (row : Option Nat),
      (w.drew.alloc (.cells (xs.toArray ++ (Lib.strCells s).toArray ++ Builtin.zeroCells (Value.int .u8 0).cells (grownCap w (n + s.size) old e - (n + s.size))) e)).ownsRow 0 e 1
        (.slice (some ⟨w.heap.size, 0, none⟩) (n + s.size) (grownCap w (n + s.size) old e)) (n + s.size) (xs ++ Lib.strCells s) ∧
      Fr (fun k => row = some k) w (w.drew.alloc (.cells (xs.toArray ++ (Lib.strCells s).toArray ++ Builtin.zeroCells (Value.int .u8 0).cells (grownCap w (n + s.size) old e - (n + s.size))) e)) := by
    intro old ho row
    have hge := grownCap_ge w (n + s.size) old e
    have hcm : grownCap w (n + s.size) old e ≤ maxLen := grownCap_le_maxLen w (n + s.size) old e h63
    refine ⟨⟨hlen, .inr ⟨w.heap.size, _, _, rfl, Nat.zero_le _, heap_alloc_new w.drew _, hge, hcm, ?_, ?_⟩⟩, ((Fr.drew w).no (Fr.alloc w.drew _)).mono (fun _ _ h => h.elim)⟩
    · have hz1 : (Value.int IntKind.u8 0).cells.size = 1 := rfl
      simp only [Array.size_append, List.size_toArray, size_zeroCells, hz1, hxl, Lib.strCells_length]
      omega
    · simp only [Array.toList_append, List.append_assoc]
      rw [← List.append_assoc, ← hlen]
      exact List.take_left
  rcases hown.2 with ⟨rfl, rfl⟩ | ⟨g, cap, cur, rfl, hbg, hg, hnc, hcm, hcs, htake⟩
  · have hx : xs = [] := List.eq_nil_of_length_eq_zero hxl
    subst hx
    by_cases hm : s.size = 0
    · have hn : Lib.strCells s = [] := List.eq_nil_of_length_eq_zero (by rw [Lib.strCells_length]; exact hm)
      have hf := Lib.run_firstCells_string (P := P) w 1 s
      rw [hm] at hf
      have hr : (Builtin.append_ #[t, u] ty #[.slice none 0 0, .string s]).run P w = .ok (.slice none 0 0) w := by
        simp [Builtin.append_, run_underlying ht, run_underlying hu, sizeOf, typeInfo, hi, hsize, Builtin.lenOf, hm, hf]
      exact runK_of hr (hk _ _ (by rw [hm, hn]; exact World.ownsRow_nil w 0 e 1) (App.refl _ _))
    · have hr := run_append_nil_string (P := P) w t u ty e i (.int .u8 0) ht hu hi hz s (by omega) (by omega) (by rw [hby]; omega)
      have hgr := grown 0 (by omega) (Value.ownBlock (.slice none 0 0))
      simp only [Nat.zero_add, List.nil_append, Array.empty_append] at hgr hk
      have e1 : (s.data.map fun b => Value.int .u8 b.toNat) = (Lib.strCells s).toArray := by
        apply Array.ext'
        simp [Lib.strCells]
      rw [e1] at hr
      exact runK_of hr (hk _ _ hgr.1 ⟨hgr.2, .inr fun k hk => by simp [Value.ownBlock] at hk; omega⟩)
  · by_cases hroom : n + s.size ≤ cap
    · have hcs' : cur.size = cap := by simpa using hcs
      have hr := Lib.run_append_room_string (P := P) w t u ty e i ht hu hi hsize g n cap cur hg s hroom (by omega)
      refine runK_of hr (hk _ _ ⟨hlen, .inr ⟨g, cap, _, rfl, hbg, setRow_heap w g cur _ e _ hg, hroom, hcm, ?_, ?_⟩⟩ ⟨⟨rfl, rfl, rfl, by simp, fun k _ hk => setRow_other w g k _ (fun e => hk (by simp [Value.ownBlock, e]))⟩, .inl rfl⟩)
      · simp only [List.size_toArray, List.length_append, List.length_take, List.length_drop, Array.length_toList, Lib.strCells_length]
        omega
      · have ht' : cur.toList.take n = xs := by simpa using htake
        rw [ht', ← hlen]
        exact List.take_left
    · have holds : ∀ j u, xs[j]? = some u → w.cell? ((⟨g, 0, none⟩ : Addr).add j) = some u := hown.cells (g := g) rfl
      have hr := Lib.run_append_grow_string (P := P) w t u ty e i (.int .u8 0) ht hu hi hz ⟨g, 0, none⟩ n cap xs (by rw [hsize]; simpa using hxl) holds s (by omega) (by omega) (by rw [hby]; exact growslice_fits (by omega) (by omega))
      have hgr := grown cap (by omega) (Value.ownBlock (.slice (some ⟨g, 0, none⟩) n cap))
      exact runK_of hr (hk _ _ hgr.1 ⟨hgr.2, .inr fun k hk => by simp [Value.ownBlock] at hk; omega⟩)

/-- A store of a whole struct into a block that is just it. -/
theorem k_storen {t : TypeId} {g : Nat} {cs vs : List Value} {te : TypeId} {k : World → Prop} (hB : Blk w g te cs) (hl : cs.length = vs.length) (h1 : ∀ v ∈ vs, v.oneCell' = true) (ht : ((P.info? t).map (·.size)) = some vs.length)
    (hk : ∀ w1, Fr (· = g) w w1 → w1.heap.size = w.heap.size → Blk w1 g te vs → k w1) : runU P x (Instr.storeAt t (.pointer (some ⟨g, 0, none⟩)) (.agg vs.toArray)) w k := by
  have hr := run_storeCells_from (P := P) g te vs 0 cs.toArray w hB (by simpa using hl.symm) h1
  have hs : (Instr.storeAt t (.pointer (some ⟨g, 0, none⟩)) (.agg vs.toArray)).run P w = .ok () (w.setRow g (cs.toArray.toList.take 0 ++ vs).toArray) := by
    simp only [Instr.storeAt, Instr.sureAddr, storeVar, Sem.run_bind, Sem.run_pure, Result.andThen, sizeOf_run ht, Value.cells]
    simpa using hr
  refine runU_of hs (hk _ ⟨rfl, rfl, rfl, by simp, fun k _ hn => setRow_other w g k _ (fun e => hn e)⟩ (by simp) ?_)
  have := setRow_heap w g cs.toArray (cs.toArray.toList.take 0 ++ vs).toArray te (0, 0) hB
  simpa [Blk] using this

/-- An element's address. -/
theorem r_indexAddr (t e : TypeId) (ht : P.underlying t = some (.slice e)) (sz : Nat) (hs : ((P.info? e).map (·.size)) = some sz) (a : Addr) (n c : Nat) (i : Nat) (k : IntKind) (hi : i < n) (w : World) :
    (Instr.indexAt t (.slice (some a) n c) (.int k i)).run P w = .ok (.pointer (some (a.add (i * sz)))) w := by
  have h2 : (i : Int) < n := by omega
  have h3 : ¬ n ≤ i := by omega
  simp [Instr.indexAt, asIntOf, run_underlying ht, sizeOf_run hs, h2, h3]
end laws
end Go.FW
