/-
  What the wire's 'Unpack' gives.
-/
import Derived.Test.YtdihigmcihheoaaWI
set_option linter.unusedVariables false
set_option linter.unusedSimpArgs false
set_option maxRecDepth 20000
namespace Go.Proofs.Ytdihigmcihheoaa
open Go.FW

theorem deferK_of {P : Program} {s : Sem Deferred} {w w' : World} {d : Deferred} {k : Deferred → World → Prop} (h : s.run P w = .ok d w') (hk : k d w') : deferK P s w k := by unfold deferK; rw [h]; exact hk

/-- What 'Unpack' keeps between its rounds. -/
structure USt (w w' : World) (g2 g3 g4 g6 gR : Nat) (b v : Value) (l : List Vl) (q a : Int) : Prop where
  fr : Fr No w w'
  own : OwnV w' v l
  fresh : ∀ k, v.ownBlock = some k → w.heap.size ≤ k
  h2 : Blk w' g2 22 [v]
  h3 : Blk w' g3 3 [.int .i64 0]
  h4 : Blk w' g4 26 [.int .i64 0]
  h6 : Blk w' g6 3 [.int .i64 q]
  hR : Blk w' gR 50 [b, .int .i64 a]
theorem USt.no {w w' w'' : World} {g2 g3 g4 g6 gR : Nat} {b v : Value} {l : List Vl} {q a : Int} (h : USt w w' g2 g3 g4 g6 gR b v l q a) (hf : Fr No w' w'') : USt w w'' g2 g3 g4 g6 gR b v l q a :=
  ⟨h.fr.no hf, own_no h.own hf, h.fresh, h.h2.no hf, h.h3.no hf, h.h4.no hf, h.h6.no hf, h.hR.no hf⟩

section
variable {x : PX} {w : World} {K : Value → World → Prop}

/-- The end of a round: the value is appended, and the row laid. -/
theorem unpack_app {w w11 : World} {g2 g3 g4 g6 gR g11 : Nat} {b v : Value} {l : List Vl} {q a : Int} {u : Vl} {k : World → Prop} (hS : USt w w11 g2 g3 g4 g6 gR b v l q a) (hl : l.length ≤ 1000) (hB : Blk w11 g11 36 u.cells)
    (hg : w.heap.size ≤ g2 ∧ g2 ≠ g3 ∧ g2 ≠ g4 ∧ g2 ≠ g6 ∧ g2 ≠ gR) (hk : ∀ v' w13, USt w w13 g2 g3 g4 g6 gR b v' (l ++ [u]) q a → k w13) {S : World → Prop} (hT : ∀ w, S w) :
    runK Try.prog x (Builtin.append_ #[22, 22] 22 #[v, .slice (some ⟨g11, 0, none⟩) 1 1]) w11 fun v31 w => moreS S w fun S => runU Try.prog x (Instr.storeAt 22 (.pointer (some ⟨g2, 0, none⟩)) v31) w fun w => moreS S w fun S => k w := by
  refine app_val hS.own (by omega) u (fun j p hj => by rw [add_lit, hB.cell, Nat.zero_add]; exact hj) fun v' w12 ho12 ha12 => ?_
  refine moreS_keep (hT _) ?_
  have n2 := own_ne hS.own hS.h2 (by decide)
  have n3 := own_ne hS.own hS.h3 (by decide)
  have n4 := own_ne hS.own hS.h4 (by decide)
  have n6 := own_ne hS.own hS.h6 (by decide)
  have nR := own_ne hS.own hS.hR (by decide)
  have h2 := hS.h2.app ha12 n2
  have h3 := hS.h3.app ha12 n3
  have h4 := hS.h4.app ha12 n4
  have h6 := hS.h6.app ha12 n6
  have hR := hS.hR.app ha12 nR
  have hf12 : Fr No w w12 := hS.fr.new ha12.fr (fun k hk => hS.fresh k hk)
  have hone : v'.oneCell' = true := by
    obtain ⟨_, ⟨rfl, _⟩ | ⟨g, cap, cur, rfl, _⟩⟩ := ho12 <;> rfl
  refine k_store h2 (i := 0) rfl hone (by kernel_rfl) fun w13 hf13 _ hb13 => ?_
  have hf13 : Fr (· = g2) w12 w13 := hf13
  refine moreS_keep (hT _) (hk v' w13 ?_)
  refine ⟨hf12.new hf13 (fun k hk => by have hk : k = g2 := hk; omega), own_fr ho12 hf13 (fun k hk e => own_ne ho12 h2 (by decide) (by rw [hk, e])), fun k hk => ?_, hb13, h3.fr hf13 (by show g3 ≠ g2; omega), h4.fr hf13 (by show g4 ≠ g2; omega), h6.fr hf13 (by show g6 ≠ g2; omega), hR.fr hf13 (by show gR ≠ g2; omega)⟩
  rcases ha12.own with e | e
  · exact hS.fresh k (by rw [← e]; exact hk)
  · exact Nat.le_trans hS.fr.size (e k hk)

/-- What the results are when the places hold these. -/
theorem unpack_res {g2 g3 g4 : Nat} {v2 : Value} {a3 a4 : Int} (h2 : Blk w g2 22 [v2]) (h3 : Blk w g3 3 [.int .i64 a3]) (h4 : Blk w g4 26 [.int .i64 a4]) (tmps : Array Value)
    (ht : ∀ p ∈ [(2, Value.pointer (some ⟨g2, 0, none⟩)), (3, Value.pointer (some ⟨g3, 0, none⟩)), (4, Value.pointer (some ⟨g4, 0, none⟩))], tmps.getD p.1 undef = p.2) :
    ∃ v, (results Try.f18 tmps).run Try.prog w = .ok v w ∧ v = .tuple #[v2, .int .i64 a3, .int .i64 a4] := by
  have t2 : tmps.getD 2 undef = .pointer (some ⟨g2, 0, none⟩) := ht (2, .pointer (some ⟨g2, 0, none⟩)) (by simp)
  have t3 : tmps.getD 3 undef = .pointer (some ⟨g3, 0, none⟩) := ht (3, .pointer (some ⟨g3, 0, none⟩)) (by simp)
  have t4 : tmps.getD 4 undef = .pointer (some ⟨g4, 0, none⟩) := ht (4, .pointer (some ⟨g4, 0, none⟩)) (by simp)
  have := results_sound (P := Try.prog) (fn := Try.f18) (a := { tmps, defers := [] }) (w := w) (k := fun v => v = .tuple #[v2, .int .i64 a3, .int .i64 a4]) ?_
  · exact this
  show resC Try.prog 22 (tmps.getD 2 undef) w fun v => resC Try.prog 3 (tmps.getD 3 undef) w fun v' => resC Try.prog 26 (tmps.getD 4 undef) w fun v'' => tup ([] ++ [v] ++ [v'] ++ [v'']) = _
  rw [t2, t3, t4]
  exact resC_1 (by kernel_rfl) (h2.cell 0) (resC_1 (by kernel_rfl) (h3.cell 0) (resC_1 (by kernel_rfl) (h4.cell 0) rfl))

theorem unpack_s {b : Value} {bs : List UInt8} (hb : RdB w b bs) (hlen : bs.length ≤ 1000000000)
    (hk1 : ∀ l v w1, Got bs l bs.length → Fr No w w1 → OwnV w1 v l → (∀ k, v.ownBlock = some k → w.heap.size ≤ k) → K (.tuple #[v, .int .i64 0, .int .i64 0]) w1)
    (hk2 : ∀ l a e w1, Got bs l a → a < bs.length → (l.length = 1000 ∧ e = 20 ∨ l.length ≠ 1000 ∧ valP (bs.drop a) = .error e) → Fr No w w1 → K (.tuple #[.slice none 0 0, .int .i64 a, .int .i64 e]) w1) :
    callS Try.prog x 18 #[b] w K := by
  obtain ⟨A, c, rfl, hcl⟩ := hb.form
  generalize hbv : Value.slice A bs.length c = b at *
  refine callS_enter (e18 _ w) ?_
  refine calls_D (x := subC [0] (Try.f18.body.getD .skip)) (y := subC [1] (Try.f18.body.getD .skip)) h18 (by kernel_rfl) Try.func18 (by kernel_rfl) (by kernel_rfl) (by kernel_rfl) ?_
  generalize hR : (onE K x) = R
  refine cast_prop (p := runK Try.prog (fun _ _ => False) (Instr.alloc 22 true (.tuple #[])) w fun v2 w => runK Try.prog (fun _ _ => False) (Instr.alloc 3 true (.tuple #[])) w fun v3 w => runK Try.prog (fun _ _ => False) (Instr.alloc 26 true (.tuple #[])) w fun v4 w =>
    ∃ pr : List (Nat × Value), codeOk Try.f18.ntmps pr h18 (subC [1] (Try.f18.body.getD .skip)) = true ∧
      (∀ p ∈ pr, ((((⟨fun i => #[b].getD i undef, []⟩ : FA).put (some 2) v2).put (some 3) v3).put (some 4) v4).ρ p.1 = p.2) ∧
      codeF Try.prog h18 (subC [1] (Try.f18.body.getD .skip)) (postD Try.prog Try.f18 R pr) ((((⟨fun i => #[b].getD i undef, []⟩ : FA).put (some 2) v2).put (some 3) v3).put (some 4) v4) w) ?_ (by kernel_rfl)
  refine k_alloc (z := .slice none 0 0) (by kernel_rfl) fun w1 hf1 hs1 hb1 => ?_
  refine k_alloc (z := .int .i64 0) (by kernel_rfl) fun w2 hf2 hs2 hb2 => ?_
  refine k_alloc (z := .int .i64 0) (by kernel_rfl) fun w3 hf3 hs3 hb3 => ?_
  generalize hg2 : w.heap.size = g2 at *
  generalize hg3 : w1.heap.size = g3 at *
  generalize hg4 : w2.heap.size = g4 at *
  have hn3 : Fr No w w3 := (hf1.no hf2).no hf3
  have hb1 : Blk w3 g2 22 [.slice none 0 0] := (hb1.no hf2).no hf3
  have hb2 : Blk w3 g3 3 [.int .i64 0] := hb2.no hf3
  have hb3 : Blk w3 g4 26 [.int .i64 0] := hb3
  refine ⟨[(2, .pointer (some ⟨g2, 0, none⟩)), (3, .pointer (some ⟨g3, 0, none⟩)), (4, .pointer (some ⟨g4, 0, none⟩))], by kernel_rfl, ?_, ?_⟩
  · intro p hp
    simp only [List.mem_cons, List.not_mem_nil, or_false] at hp
    rcases hp with rfl | rfl | rfl <;> rfl
  generalize hpr : [(2, Value.pointer (some ⟨g2, 0, none⟩)), (3, Value.pointer (some ⟨g3, 0, none⟩)), (4, Value.pointer (some ⟨g4, 0, none⟩))] = pr
  generalize hρ : (((⟨fun i => #[b].getD i undef, []⟩ : FA).put (some 2) (.pointer (some ⟨g2, 0, none⟩))).put (some 3) (.pointer (some ⟨g3, 0, none⟩))).put (some 4) (.pointer (some ⟨g4, 0, none⟩)) = A
  have e0 : A.ρ 0 = b := by rw [← hρ]; rfl
  have e2 : A.ρ 2 = .pointer (some ⟨g2, 0, none⟩) := by rw [← hρ]; rfl
  have e3 : A.ρ 3 = .pointer (some ⟨g3, 0, none⟩) := by rw [← hρ]; rfl
  have e4 : A.ρ 4 = .pointer (some ⟨g4, 0, none⟩) := by rw [← hρ]; rfl
  have ed : A = ⟨A.ρ, []⟩ := by rw [← hρ]; rfl
  rw [ed]
  generalize A.ρ = ρ at *
  clear hρ ed
  -- the reader, the place, the closure
  refine cast_prop (p := runK Try.prog (fun c w => (postD Try.prog Try.f18 R pr).x c [] w) (Instr.build 50 #[(0, ρ 0)]) w3 fun v8 w => runK Try.prog (fun c w => (postD Try.prog Try.f18 R pr).x c [] w) (Instr.box 50 v8) w fun v9 w =>
    runK Try.prog (fun c w => (postD Try.prog Try.f18 R pr).x c [] w) (Instr.alloc 3 true (.tuple #[])) w fun v6 w => runU Try.prog (fun c w => (postD Try.prog Try.f18 R pr).x c [] w) (Instr.storeAt 3 v6 (.int .i64 0)) w fun w =>
    runK Try.prog (fun c w => (postD Try.prog Try.f18 R pr).x c [] w) (Instr.makeFunc (.func 24) #[] #[v6, ρ 2, ρ 3, ρ 4]) w fun v10 w => deferK Try.prog (resolve (((((((⟨ρ, []⟩ : FA).put (some 7) (ρ 0)).put (some 8) v8).put (some 9) v9).put (some 5) v9).put (some 6) v6).put (some 10) v10).ev ⟨.value (.tmp 10), #[], #[]⟩ 0) w fun d w =>
      codeF Try.prog h18 (subC [1, 1, 1, 1] (Try.f18.body.getD .skip)) (postD Try.prog Try.f18 R pr) ⟨((((((⟨ρ, []⟩ : FA).put (some 7) (ρ 0)).put (some 8) v8).put (some 9) v9).put (some 5) v9).put (some 6) v6 |>.put (some 10) v10).ρ, [d]⟩ w) ?_ (by kernel_rfl)
  have hbuild : (Instr.build 50 #[(0, ρ 0)]).run Try.prog w3 = .ok (.agg #[ρ 0, .int .i64 0]) w3 := by
    rw [e0, ← hbv]; kernel_rfl
  refine runK_of hbuild ?_
  refine k_box fun w4 hf4 hs4 hb4 => ?_
  refine k_alloc (z := .int .i64 0) (by kernel_rfl) fun w5 hf5 hs5 hb5 => ?_
  refine k_store hb5 (i := 0) rfl rfl (by kernel_rfl) fun w6 hf6 hs6 hb6 => ?_
  refine runK_of (w' := w6) (v := .func (.func 24) #[] #[.pointer (some ⟨w4.heap.size, 0, none⟩), ρ 2, ρ 3, ρ 4]) (by kernel_rfl) ?_
  generalize hgR : w3.heap.size = gR at *
  generalize hg6 : w4.heap.size = g6 at *
  have hn6 : Fr No w3 w6 := hf4.no (hf5.new hf6 (fun k hk => by have hk : k = g6 := hk; omega))
  have hb4 : Blk w6 gR 50 [ρ 0, .int .i64 0] := (hb4.no hf5).fr hf6 (by show gR ≠ g6; omega)
  have hb6 : Blk w6 g6 3 [.int .i64 0] := hb6
  have hb1 := hb1.no hn6
  have hb2 := hb2.no hn6
  have hb3 := hb3.no hn6
  have hn : Fr No w w6 := hn3.no hn6
  rw [e0] at hb4
  have hRd : Rdr w6 gR b bs 0 := ⟨hb4, hb.no hn, hlen, by omega⟩
  refine deferK_of (w' := w6) (d := { target := .fn (.func 24) #[.pointer (some ⟨g6, 0, none⟩), ρ 2, ρ 3, ρ 4], args := #[] }) (by kernel_rfl) ?_
  have hsz : w6.heap.size = g6 + 1 := by rw [hs6, hs5]
  clear hbuild hf1 hf2 hf3 hf4 hf5 hf6 hb5 hs6 hs5 hn3 hn6
  rw [e2, e3, e4]
  -- what the rest of the function ends with
  refine tail_D (R' := fun en w' => Fr No w w' ∧ match en with
      | .returned _ => ∃ l v, Got bs l bs.length ∧ OwnV w' v l ∧ (∀ k, v.ownBlock = some k → w.heap.size ≤ k) ∧ Blk w' g2 22 [v] ∧ Blk w' g3 3 [.int .i64 0] ∧ Blk w' g4 26 [.int .i64 0]
      | .panicked c => ∃ l a e v2, c = [{ v := faultV e, recovered := false }] ∧ Got bs l a ∧ a < bs.length ∧ (l.length = 1000 ∧ e = 20 ∨ l.length ≠ 1000 ∧ valP (bs.drop a) = .error e) ∧ Blk w' g2 22 [v2] ∧ Blk w' g3 3 [.int .i64 0] ∧ Blk w' g4 26 [.int .i64 0] ∧ Blk w' g6 3 [.int .i64 a]
      | .outgrown => False) ?_ ?_ ?_
  · rintro w' ⟨hf, l, v, hgot, hown, hfresh, h2, h3, h4⟩ tmps htm
    refine leaves_cons (f := 24) (args := #[.pointer (some ⟨g6, 0, none⟩), .pointer (some ⟨g2, 0, none⟩), .pointer (some ⟨g3, 0, none⟩), .pointer (some ⟨g4, 0, none⟩)]) (by simp) (e24 _ w') ?_
    refine unpackd_r ?_
    obtain ⟨q, hr, rfl⟩ := unpack_res h2 h3 h4 tmps (by rw [hpr]; exact htm)
    refine ⟨_, hr, ?_⟩
    rw [← hR]
    exact hk1 l v w' hgot hf hown (fun k hk => by rw [← hg2]; exact hfresh k hk)
  · rintro cc w' ⟨hf, l, a, e, v2, rfl, hgot, hlt, he, h2, h3, h4, h6⟩ tmps htm
    refine leaves_cons (f := 24) (args := #[.pointer (some ⟨g6, 0, none⟩), .pointer (some ⟨g2, 0, none⟩), .pointer (some ⟨g3, 0, none⟩), .pointer (some ⟨g4, 0, none⟩)]) (by simp) (e24 _ w') ?_
    refine unpackd_x (a3 := 0) (a4 := 0) (at_ := a) (e := e) (by omega) h2 h3 h4 h6 (by omega) fun w8 hf8 h2' h3' h4' => ?_
    obtain ⟨q, hr, rfl⟩ := unpack_res h2' h3' h4' tmps (by rw [hpr]; exact htm)
    refine ⟨_, hr, ?_⟩
    rw [← hR]
    exact hk2 l a e w8 hgot hlt he (hf.new hf8 (fun k hk => by omega))
  -- the loop
  refine v18 _ _ _ ?_
  show m18_4 (ρ 0) (ρ 2) (ρ 3) (ρ 4) (.pointer (some ⟨gR, 0, none⟩)) (.pointer (some ⟨g6, 0, none⟩)) _ w6
  rw [e0, e2, e3, e4]
  generalize hR' : (fun (en : Ending) (w' : World) => Fr No w w' ∧ _) = R'
  unfold m18_4
  refine ⟨fun t w' => ∃ (l : List Vl) (a : Nat) (v : Value) (q : Nat), t = (b, .pointer (some ⟨g2, 0, none⟩), .pointer (some ⟨g3, 0, none⟩), .pointer (some ⟨g4, 0, none⟩), .pointer (some ⟨gR, 0, none⟩), .pointer (some ⟨g6, 0, none⟩)) ∧ Got bs l a ∧
      USt w w' g2 g3 g4 g6 gR b v l q a,
    fun t w' => match (w'.cell? ⟨gR, 1, none⟩) with | some (.int _ q) => bs.length - q.toNat | _ => 0,
    ⟨[], 0, .slice none 0 0, 0, rfl, .nil, ⟨hn, World.ownsRow_nil _ 0 36 5, by simp [Value.ownBlock], hb1, hb2, hb3, hb6, hb4⟩⟩, ?_⟩
  rintro _ w7 ⟨l, a, v, q, rfl, hgot, hS⟩
  have hat := hgot.le
  have hll := hgot.len
  have hcR := hS.hR.cell 1
  simp only [List.getElem?_cons_succ, List.getElem?_cons_zero] at hcR
  dsimp only
  rw [hcR]
  dsimp only
  obtain ⟨Av, cv, hv⟩ := hS.own.rd.form
  unfold m18_5 m18_2
  refine runK_of (r_nilCheck _ _) ?_
  refine runK_of (r_field 50 1 1 (by kernel_rfl) _ _) ?_
  refine runK_of (r_load1 3 (by kernel_rfl) _ _ _ (hS.hR.cell 1)) ?_
  rw [← hbv]
  refine runK_of (r_len _ _ _ 5 _ Try.underlying25 _ _ _) ?_
  rw [hbv]
  refine runK_of (r_lss ..) ?_
  refine condF_dec (fun h => ?_) (fun h => ?_)
  · have hlt : a < bs.length := by omega
    refine runK_of (r_nilCheck _ _) ?_
    refine runK_of (r_field 50 1 1 (by kernel_rfl) _ _) ?_
    refine runK_of (r_load1 3 (by kernel_rfl) _ _ _ (hS.hR.cell 1)) ?_
    refine k_store hS.h6 (i := 0) rfl rfl (by kernel_rfl) fun w8 hf8 _ hb8 => ?_
    have hf8 : Fr (· = g6) w7 w8 := hf8
    have hb8 : Blk w8 g6 3 [.int .i64 a] := hb8
    have hS8 : USt w w8 g2 g3 g4 g6 gR b v l a a := ⟨hS.fr.new hf8 (fun k hk => by have hk : k = g6 := hk; omega), own_fr hS.own hf8 (fun k hk e => own_ne hS.own hS.h6 (by decide) (by rw [hk, e])), hS.fresh, hS.h2.fr hf8 (by show g2 ≠ g6; omega),
      hS.h3.fr hf8 (by show g3 ≠ g6; omega), hS.h4.fr hf8 (by show g4 ≠ g6; omega), hb8, hS.hR.fr hf8 (by show gR ≠ g6; omega)⟩
    refine runK_of (r_load1 22 (by kernel_rfl) _ _ _ (hS8.h2.cell 0)) ?_
    rw [hv]
    refine runK_of (r_len _ _ _ 36 _ Try.underlying22 _ _ _) ?_
    refine runK_of (r_eql ..) ?_
    refine condF_dec (fun h1 => ?_) (fun h1 => ?_)
    · refine k_fault 20 ?_
      rw [← hR']
      exact ⟨hS8.fr, l, a, 20, v, rfl, hgot, hlt, .inl ⟨by omega, rfl⟩, hS8.h2, hS8.h3, hS8.h4, hS8.h6⟩
    have hl1 : l.length ≠ 1000 := by omega
    have hS9 := hS8.no (Fr.drew w8)
    refine ⟨fun _ => True, trivial, ?_⟩
    generalize w8.drew = w9 at *
    have hRd9 : Rdr w9 gR b bs a := ⟨hS9.hR, hb.no hS9.fr, hlen, hat⟩
    have L : ∀ {w' : World} {q : Int} {a : Int}, USt w w' g2 g3 g4 g6 gR b v l q a → (Instr.loadAt 22 (.pointer (some ⟨g2, 0, none⟩))).run Try.prog w' = .ok v w' := fun hS => r_load1 22 (by kernel_rfl) _ _ _ (hS.h2.cell 0)
    -- what the value's call leaves
    have hC : ∀ {w10 : World} {a' : Nat}, Fr (· = gR) w9 w10 → Blk w10 gR 50 [b, .int .i64 a'] → USt w w10 g2 g3 g4 g6 gR b v l a a' := fun {w10} {a'} hf hB =>
      ⟨hS9.fr.new hf (fun k hk => by have hk : k = gR := hk; omega), own_fr hS9.own hf (fun k hk e => own_ne hS9.own hS9.hR (by decide) (by rw [hk, e])), hS9.fresh, hS9.h2.fr hf (by show g2 ≠ gR; omega),
      hS9.h3.fr hf (by show g3 ≠ gR; omega), hS9.h4.fr hf (by show g4 ≠ gR; omega), hS9.h6.fr hf (by show g6 ≠ gR; omega), hB⟩
    have hX : ∀ e w10, valP (bs.drop a) = .error e → Fr (· = gR) w9 w10 → px R' [{ v := faultV e, recovered := false }] w10 := fun e w10 he hf => by
      rw [← hR']
      exact ⟨hS9.fr.new hf (fun k hk => by have hk : k = gR := hk; omega), l, a, e, v, rfl, hgot, hlt, .inr ⟨hl1, he⟩, hS9.h2.fr hf (by show g2 ≠ gR; omega), hS9.h3.fr hf (by show g3 ≠ gR; omega), hS9.h4.fr hf (by show g4 ≠ gR; omega), hS9.h6.fr hf (by show g6 ≠ gR; omega)⟩
    have hE : ∀ (u : Vl) (a' : Nat) (v' : Value) (w13 : World), valP (bs.drop a) = .ok (u, bs.drop a') → a < a' → a' ≤ bs.length → u.Wf → USt w w13 g2 g3 g4 g6 gR b v' (l ++ [u]) a a' →
        (∃ (l : List Vl) (a : Nat) (v : Value) (q : Nat), ((b, .pointer (some ⟨g2, 0, none⟩), .pointer (some ⟨g3, 0, none⟩), .pointer (some ⟨g4, 0, none⟩), .pointer (some ⟨gR, 0, none⟩), .pointer (some ⟨g6, 0, none⟩)) : Value × Value × Value × Value × Value × Value) = (b, .pointer (some ⟨g2, 0, none⟩), .pointer (some ⟨g3, 0, none⟩), .pointer (some ⟨g4, 0, none⟩), .pointer (some ⟨gR, 0, none⟩), .pointer (some ⟨g6, 0, none⟩)) ∧ Got bs l a ∧
          USt w w13 g2 g3 g4 g6 gR b v l q a) ∧ (match (w13.cell? ⟨gR, 1, none⟩) with | some (.int _ q) => bs.length - q.toNat | _ => 0) < bs.length - (a : Int).toNat := fun u a' v' w13 hp h1 h2 hw hS13 => by
      refine ⟨⟨l ++ [u], a', v', a, rfl, hgot.snoc hl1 hp h1 h2 hw, hS13⟩, ?_⟩
      have hc := hS13.hR.cell 1
      simp only [List.getElem?_cons_succ, List.getElem?_cons_zero] at hc
      rw [hc]
      dsimp only
      rw [Int.toNat_natCast, Int.toNat_natCast]
      exact Nat.sub_lt_sub_left hlt h1
    have hg : w.heap.size ≤ g2 ∧ g2 ≠ g3 ∧ g2 ≠ g4 ∧ g2 ≠ g6 ∧ g2 ≠ gR := by omega
    refine ⟨?_, ?_⟩
    · refine runK_of (L hS9) (moreS_keep trivial ?_)
      refine rvalue_s hRd9 (fun u a' w10 hp hla hw hf10 hRd10 => ?_) hX
      refine moreS_keep trivial ?_
      have hS10 := hC hf10 hRd10.B
      refine k_oneV u fun w11 hf11 hb11 => ?_
      refine moreS_keep trivial ?_
      exact unpack_app (hS10.no hf11) (by omega) hb11 hg (fun v' w13 h13 => hE u a' v' w13 hp hla hRd10.at_ hw h13) (fun _ => trivial)
    · refine rvalue_s hRd9 (fun u a' w10 hp hla hw hf10 hRd10 => ?_) hX
      have hS10 := hC hf10 hRd10.B
      refine moreS_keep trivial ⟨?_, ?_⟩
      · refine runK_of (L hS10) (moreS_keep trivial ?_)
        refine k_oneV u fun w11 hf11 hb11 => ?_
        refine moreS_keep trivial ?_
        exact unpack_app (hS10.no hf11) (by omega) hb11 hg (fun v' w13 h13 => hE u a' v' w13 hp hla hRd10.at_ hw h13) (fun _ => trivial)
      · refine k_oneV u fun w11 hf11 hb11 => ?_
        refine moreS_keep trivial ?_
        have hS11 := hS10.no hf11
        refine runK_of (L hS11) (moreS_keep trivial ?_)
        exact unpack_app hS11 (by omega) hb11 hg (fun v' w13 h13 => hE u a' v' w13 hp hla hRd10.at_ hw h13) (fun _ => trivial)
  · have hae : a = bs.length := by omega
    subst hae
    refine runK_of (r_load1 22 (by kernel_rfl) _ _ _ (hS.h2.cell 0)) ?_
    have hone : v.oneCell' = true := by rw [hv]; rfl
    refine k_store hS.h2 (i := 0) rfl hone (by kernel_rfl) fun w8 hf8 _ hb8 => ?_
    have hf8 : Fr (· = g2) w7 w8 := hf8
    refine k_store (hS.h3.fr hf8 (by show g3 ≠ g2; omega)) (i := 0) rfl rfl (by kernel_rfl) fun w9 hf9 _ hb9 => ?_
    have hf9 : Fr (· = g3) w8 w9 := hf9
    refine k_store ((hS.h4.fr hf8 (by show g4 ≠ g2; omega)).fr hf9 (by show g4 ≠ g3; omega)) (i := 0) rfl rfl (by kernel_rfl) fun w10 hf10 _ hb10 => ?_
    have hf10 : Fr (· = g4) w9 w10 := hf10
    rw [← hR']
    have o8 := own_fr hS.own hf8 (fun k hk e => own_ne hS.own hS.h2 (by decide) (by rw [hk, e]))
    have o9 := own_fr o8 hf9 (fun k hk e => own_ne hS.own hS.h3 (by decide) (by rw [hk, e]))
    have o10 := own_fr o9 hf10 (fun k hk e => own_ne hS.own hS.h4 (by decide) (by rw [hk, e]))
    refine ⟨((hS.fr.new hf8 (fun k hk => by have hk : k = g2 := hk; omega)).new hf9 (fun k hk => by have hk : k = g3 := hk; omega)).new hf10 (fun k hk => by have hk : k = g4 := hk; omega), l, v, hgot, o10, hS.fresh, ?_, ?_, hb10⟩
    · exact (Blk.fr hb8 hf9 (by show g2 ≠ g3; omega)).fr hf10 (by show g2 ≠ g4; omega)
    · exact Blk.fr hb9 hf10 (by show g3 ≠ g4; omega)
end
end Go.Proofs.Ytdihigmcihheoaa
