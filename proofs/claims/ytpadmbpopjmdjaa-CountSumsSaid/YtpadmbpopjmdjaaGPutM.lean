/-
  The memory of one call of count.Least: its list of clauses, what stays as it is; list.put: the walk.
-/
import Derived.Test.YtpadmbpopjmdjaaGPut
import Derived.Test.YtpadmbpopjmdjaaWLast
namespace Go.Proofs.Ytpadmbpopjmdjaa.G
set_option linter.unusedVariables false
set_option linter.unusedSimpArgs false
open Go.RowKit Go.Proofs.YtpadmbpopjmdjaaW.PrintWords Go.Proofs.YtpadmbpopjmdjaaW.PrintLast Go.Proofs.YtpadmbpopjmdjaaW.PrintMore
attribute [local go_sem] max2_int min2_int max_two min_two max_three min_three max_four min_four

/-- The blocks of one call: S0: the heap's size when the call began; S: when its list was laid; bl: the list. -/
structure LB where
  S0 : Nat
  S : Nat
  bl : Nat

/-- What was there before stays as it is, but for the list and rows of rows. -/
structure LB.Fr (t : LB) (w w' : World) : Prop where
  os : w'.os = w.os
  tape : w'.tape = w.tape
  output : w'.output = w.output
  size : w.heap.size ≤ w'.heap.size
  block : ∀ k, k < w.heap.size → (k < t.S0 ∨ (k ≠ t.bl ∧ ∀ cs fr, w.heap[k]? ≠ some (.cells cs 22 fr))) → w'.heap[k]? = w.heap[k]?

theorem LB.Fr.refl (t : LB) (w : World) : t.Fr w w := ⟨rfl, rfl, rfl, Nat.le_refl _, fun _ _ _ => rfl⟩
theorem LB.Fr.trans {t : LB} {a b c : World} (h : t.Fr a b) (k : t.Fr b c) : t.Fr a c :=
  ⟨k.os.trans h.os, k.tape.trans h.tape, k.output.trans h.output, Nat.le_trans h.size k.size, fun i hi hc => by
    have e := h.block i hi hc
    refine (k.block i (Nat.lt_of_lt_of_le hi h.size) ?_).trans e
    rcases hc with hc | ⟨h1, h4⟩
    · exact .inl hc
    · exact .inr ⟨h1, fun cs fr => by rw [e]; exact h4 cs fr⟩⟩
theorem LB.Fr.of_below {t : LB} {w w' : World} (h : Below w.heap.size w w') : t.Fr w w' := ⟨h.os, h.tape, h.output, h.size, fun k hk _ => h.block k hk⟩
theorem LB.Fr.below {t : LB} {w w' : World} (h : t.Fr w w') (hs : t.S0 ≤ w.heap.size) : Below t.S0 w w' := ⟨h.os, h.tape, h.output, h.size, fun k hk => h.block k (by omega) (.inl hk)⟩
theorem LB.Fr.drew {t : LB} {a w : World} (h : t.Fr a w) : t.Fr a w.drew := h.trans (.of_below (below_drew (Below.refl _ _)))
theorem LB.Fr.drewN {t : LB} {a w : World} (h : t.Fr a w) (n : Nat) : t.Fr a (w.drewN n) := h.trans (.of_below (pw_below_drewN (Below.refl _ _) n))
/-- A block of an int stays. -/
theorem LB.Fr.box {t : LB} {w w' : World} {p : Nat} {u : Value} (h : t.Fr w w') (hp : w.heap[p]? = some (.cells #[u] 3 (0, 0))) (hne : p ≠ t.bl) : w'.heap[p]? = some (.cells #[u] 3 (0, 0)) :=
  (h.block p (blk_lt hp) (.inr ⟨hne, fun cs fr e => by rw [hp] at e; injection e with e; injection e with _ e; exact absurd e (by decide)⟩)).trans hp

/-- The call's list, and its clauses so far. -/
structure LB.St (t : LB) (w : World) (v : Value) (cs : List (List Int)) : Prop where
  c : w.heap[t.bl]? = some (.cells #[v] 49 (0, 0))
  rows : KRows.R 22 w t.S (fun _ => True) v cs
  ge : t.S0 ≤ t.bl ∧ t.S0 ≤ t.S
  lt : t.bl < t.S
  size : t.S ≤ w.heap.size

theorem LB.St.below {t : LB} {w w' : World} {v : Value} {cs : List (List Int)} (h : t.St w v cs) (hb : Below w.heap.size w w') : t.St w' v cs := ⟨blk_below h.c hb, Kd.R_below h.rows hb, h.ge, h.lt, Nat.le_trans h.size hb.size⟩
theorem LB.St.drew {t : LB} {w : World} {v : Value} {cs : List (List Int)} (h : t.St w v cs) : t.St w.drew v cs := h.below (below_drew (Below.refl _ _))

/-- Behind an append to the clauses, and the store of what it gave. -/
theorem LB.St.setC {t : LB} {w w' : World} {v v' : Value} {cs cs' : List (List Int)} (h : t.St w v cs) (hg : w.grownBy w' v.ownBlock) (hR : KRows.R 22 w' t.S (fun _ => True) v' cs') : t.St (w'.setCell ⟨t.bl, 0, none⟩ v') v' cs' := by
  obtain ⟨inner, ho⟩ := Kd.R_own h.rows
  have gc := blk_grown h.c hg (fun e => by have := own_base ho _ e.symm; have := h.lt; omega)
  refine ⟨by simpa using blk_set gc 0 v', ?_, h.ge, h.lt, by have := hg.size; have := h.size; simp [World.setCell]; omega⟩
  exact Kd.R_mono (Kd.R_far (Kd.R_bound hR) (fun k hk => by have := hk.2.1; have := h.lt; show k ≠ t.bl; omega) _) (fun _ _ => trivial)
theorem LB.St.cAfter {t : LB} {w w' : World} {v : Value} {cs : List (List Int)} (h : t.St w v cs) (hg : w.grownBy w' v.ownBlock) : w'.heap[t.bl]? = some (.cells #[v] 49 (0, 0)) := by
  obtain ⟨inner, ho⟩ := Kd.R_own h.rows
  exact blk_grown h.c hg (fun e => by have := own_base ho _ e.symm; have := h.lt; omega)
theorem LB.St.frC {t : LB} {w w' : World} {v : Value} {cs : List (List Int)} (h : t.St w v cs) (hg : w.grownBy w' v.ownBlock) (u : Value) : t.Fr w (w'.setCell ⟨t.bl, 0, none⟩ u) := by
  obtain ⟨inner, ho⟩ := Kd.R_own h.rows
  refine ⟨hg.os, hg.tape, hg.output, by have := hg.size; simpa [World.setCell] using this, fun k hk hc => ?_⟩
  have hne : k ≠ t.bl := by
    rcases hc with hc | hc
    · have := h.ge; omega
    · exact hc.1
  rw [Below.heap_setCell w' ⟨t.bl, 0, none⟩ u k hne]
  refine hg.block k hk (fun e => ?_)
  obtain ⟨cells, hcc⟩ := own_typed ho k e.symm
  rcases hc with hc | ⟨_, h4⟩
  · have := own_base ho k e.symm; have := h.ge; omega
  · exact h4 _ _ hcc

/-- What slices.DeleteFunc makes of a row of n ints that lies at g. -/
def DelOk (g : Nat) (arr : Array Value) (n : Nat) (ys : List Int) : Prop := ∀ W : World, W.heap[g]? = some (.cells arr 3 (0, 0)) →
  Calls Try.prog 47 #[.slice (some ⟨g, 0, none⟩) n n, .func (.func 48) #[] #[]] W fun e w' => e = .returned (.slice (some ⟨g, 0, none⟩) ys.length n) ∧ (Kd.int .i64).R 3 w' g (fun _ => True) (.slice (some ⟨g, 0, none⟩) ys.length n) ys ∧ Below g W w'

theorem DelOk.at {g : Nat} {arr : Array Value} {n : Nat} {ys : List Int} (h : DelOk g arr n ys) (W : World) (hW : W.heap[g]? = some (.cells arr 3 (0, 0))) :
  Calls Try.prog 47 #[.slice (some ⟨g, 0, none⟩) n n, .func (.func 48) #[] #[]] W fun e w' => e = .returned (.slice (some ⟨g, 0, none⟩) ys.length n) ∧ (Kd.int .i64).R 3 w' g (fun _ => True) (.slice (some ⟨g, 0, none⟩) ys.length n) ys ∧ Below g W w' := h W hW

theorem row_R {W : World} {g n : Nat} {cur : Array Value} {ys : List Int} (h : W.heap[g]? = some (.cells cur 3 (0, 0))) (hs : cur.size = n) (hl : ys.length ≤ n) (hn : n ≤ 1000000) (ht : cur.toList.take ys.length = encs (Value.int .i64) ys) : (Kd.int .i64).R 3 W g (fun _ => True) (.slice (some ⟨g, 0, none⟩) ys.length n) ys := by
  refine Kd.R_of_own ⟨by simp [encs], .inr ⟨g, n, cur, rfl, Nat.le_refl _, h, hl, by unfold maxLen; omega, by omega, by rw [Nat.mul_one]; exact ht⟩⟩ (fun _ _ => trivial)

theorem row_new {w w1 : World} {g S b e0 s0 n0 : Nat} {v u : Value} {ys : List Int} {xs : List Value} (h : (Kd.int .i64).R 3 w1 g (fun _ => True) v ys) (ho : w.ownsRow b e0 s0 u n0 xs) (hg : w.heap.size = g) (hS : S ≤ w.heap.size) : (Kd.int .i64).R 3 w1 S (fun k => some k ≠ u.ownBlock) v ys := by
  subst hg
  exact Kd.R_lower (Kd.R_mono (Kd.R_new h ho) (fun k hk => hk.2)) hS

theorem del3 (g : Nat) (a b c : Int) (ha : a ≠ 0) (hb : b ≠ 0) (hc : c ≠ 0) : DelOk g #[.int .i64 a, .int .i64 b, .int .i64 c] 3 [a, b, c] := fun W h => by
  have hR := row_R (n := 3) (ys := [a, b, c]) h rfl (by simp) (by omega) rfl
  have hC := (Kd.R_reads hR)
  obtain ⟨A, c0, e, hl, hC⟩ := hC
  injection e with e1 e2 e3
  subst e1
  have := del_none (some ⟨g, 0, none⟩) 3 [a, b, c] W hC (by simp) (fun j hj => by
    match j, hj with
    | 0, _ => exact ha
    | 1, _ => exact hb
    | 2, _ => exact hc
    | j + 3, hj => exact absurd hj (by simp))
  refine this.mono ?_
  rintro e w' ⟨rfl, rfl⟩
  exact ⟨rfl, hR, Below.refl _ _⟩

theorem del1 (g : Nat) (a : Int) (ha : a ≠ 0) : DelOk g #[.int .i64 a] 1 [a] := fun W h => by
  have hR := row_R (n := 1) (ys := [a]) h rfl (by simp) (by omega) rfl
  obtain ⟨A, c0, e, hl, hC⟩ := (Kd.R_reads hR)
  injection e with e1 e2 e3
  subst e1
  have := del_none (some ⟨g, 0, none⟩) 1 [a] W hC (by simp) (fun j hj => by
    match j, hj with
    | 0, _ => exact ha
    | j + 1, hj => exact absurd hj (by simp))
  refine this.mono ?_
  rintro e w' ⟨rfl, rfl⟩
  exact ⟨rfl, hR, Below.refl _ _⟩

theorem del2 (g : Nat) (a b : Int) (ha : a ≠ 0) (hb : b ≠ 0) : DelOk g #[.int .i64 a, .int .i64 0, .int .i64 b] 3 [a, b] := fun W h => by
  refine (del_mid g a b W h ha hb).mono ?_
  rintro e w' ⟨rfl, rfl⟩
  have h2 := three_set2 (three_set1 h b) 0
  refine ⟨rfl, row_R (n := 3) (ys := [a, b]) h2 rfl (by simp) (by omega) rfl, ?_⟩
  exact ((Below.refl g W).setCell (p := ⟨g, 1, none⟩) (Nat.le_refl _) _).setCell (p := ⟨g, 2, none⟩) (Nat.le_refl _) _

set_option maxHeartbeats 800000 in
theorem put_calls (t : LB) (arr : Array Value) (n : Nat) (ys : List Int) (v : Value) (cs : List (List Int)) (w : World) (hst : t.St w v cs) (hd : DelOk w.heap.size arr n ys) (hcs : cs.length < 4000000000000) :
    Calls Try.prog 28 #[.pointer (some ⟨t.bl, 0, none⟩), .slice (some ⟨w.heap.size, 0, none⟩) n n] (w.alloc (.cells arr 3 (0, 0))) fun e w' => e = .returned (.tuple #[]) ∧ ∃ v', t.St w' v' (cs ++ [ys]) ∧ t.Fr w w' := by
  have hba := below_alloc (Below.refl w.heap.size w) (.cells arr 3 (0, 0))
  have HBA := Aside0.mk hba
  have HA := Aside0.mk (blk_new w (.cells arr 3 (0, 0)))
  have HS := Aside0.mk (hst.below hba)
  have HS0 := Aside0.mk hst
  have HD := Aside0.mk hd
  have HCS := Aside0.mk hcs
  obtain ⟨g, hg⟩ : ∃ g, w.heap.size = g := ⟨_, rfl⟩
  have HG := Aside0.mk hg
  obtain ⟨wa, hwa⟩ : ∃ wa, w.alloc (.cells arr 3 (0, 0)) = wa := ⟨_, rfl⟩
  rw [hwa] at HBA HA HS ⊢
  rw [hg] at HBA HA HD ⊢
  have HSZ := Aside0.mk hst.size
  obtain ⟨inn, hown⟩ := Kd.R_own hst.rows
  have HOW := Aside0.mk hown
  obtain ⟨Av, cv, ev⟩ := Kd.R_slice hst.rows
  subst ev
  clear hst hd hcs hba hg hwa hown
  have hcell := blk_cell HS.out.c 0
  go_enter Try.func28, Try.ntmps28
  go_wp2
  -- BELOW: written by wip/tools/mkput.py
  refine start_ (n := 12) (S := fun w' => w'.cell? ⟨t.bl, 0, none⟩ = some (Value.slice Av cs.length cv)) (ds := [11]) #[false, false, false, false, false, false, false, false, false, false, false, false] (by kernel_rfl) rfl rfl (hcell) (fun hHeld => ?_)
  refine pure_ (i := 0) (N := some 4) (v := ?_) (a' := ?_) #[true, false, false, false, false, false, false, false, false, false, false, false] rfl rfl (by kernel_rfl) (fun _ _ _ h => h) (Or.inl ⟨by rfl, ?_⟩) ?_ ?_
  rotate_left
  · intro w'
    go_simp
    with_reducible rfl
  rotate_left
  · simp only [Act.put, List.setIfInBounds_toArray, List.set_cons_zero, List.set_cons_succ, i64_w, i32_w]
    rfl
  refine pure_ (i := 1) (N := some 5) (v := ?_) (a' := ?_) #[true, true, false, false, false, false, false, false, false, false, false, false] rfl rfl (by kernel_rfl) (fun _ _ _ h => h) (Or.inl ⟨by rfl, ?_⟩) ?_ ?_
  rotate_left
  · intro w'
    go_simp
    with_reducible rfl
  rotate_left
  · simp only [Act.put, List.setIfInBounds_toArray, List.set_cons_zero, List.set_cons_succ, i64_w, i32_w]
    rfl
  refine pure_ (i := 2) (N := some 6) (v := ?_) (a' := ?_) #[true, true, true, false, false, false, false, false, false, false, false, false] rfl rfl (by kernel_rfl) (fun _ _ _ h => h) (Or.inl ⟨by rfl, ?_⟩) ?_ ?_
  rotate_left
  · intro w'
    go_simp
    with_reducible rfl
  rotate_left
  · simp only [Act.put, List.setIfInBounds_toArray, List.set_cons_zero, List.set_cons_succ, i64_w, i32_w]
    rfl
  refine pure_ (i := 3) (N := some 7) (v := ?_) (a' := ?_) #[true, true, true, true, false, false, false, false, false, false, false, false] rfl rfl (by kernel_rfl) (fun _ _ _ h => h) (Or.inl ⟨by rfl, ?_⟩) ?_ ?_
  rotate_left
  · intro w'
    go_simp
    with_reducible rfl
  rotate_left
  · simp only [Act.put, List.setIfInBounds_toArray, List.set_cons_zero, List.set_cons_succ, i64_w, i32_w]
    rfl
  refine pure_ (i := 5) (N := some 9) (v := ?_) (a' := ?_) #[true, true, true, true, false, true, false, false, false, false, false, false] rfl rfl (by kernel_rfl) (fun _ _ _ h => h) (Or.inl ⟨by rfl, ?_⟩) ?_ ?_
  rotate_left
  · intro w'
    go_simp
    with_reducible rfl
  rotate_left
  · simp only [Act.put, List.setIfInBounds_toArray, List.set_cons_zero, List.set_cons_succ, i64_w, i32_w]
    rfl
  refine take_ (i := 4) (N := some 8) (v := ?_) (a' := ?_) #[true, true, true, true, true, true, false, false, false, false, false, false] rfl rfl (by kernel_rfl) (fun _ _ _ h => h) (Or.inl ⟨by rfl, ?_⟩) hHeld ?_ ?_
  rotate_left
  · intro w' s0
    go_simp
    with_reducible rfl
  rotate_left
  · simp only [Act.put, List.setIfInBounds_toArray, List.set_cons_zero, List.set_cons_succ, i64_w, i32_w]
    rfl
  refine one_ (i := 6) (N := some 10) #[true, true, true, true, true, true, true, false, false, false, false, false] rfl rfl (by kernel_rfl) (by decide) (fun K hK => ?_)
  refine goes_ Try.func47 (by kernel_rfl) rfl #[.slice (some ⟨g, 0, none⟩) n n, .func (.func 48) #[] #[]] (by rfl) rfl rfl (by simp only [List.map_toArray, List.map_cons, List.map_nil]; rfl) ?_
  with_reducible refine (HD.out.at wa.drew (blk_drew HA.out)).mono ?_
  rintro e w1 ⟨rfl, hR1, hB1⟩
  refine ⟨_, rfl, ?_⟩
  have HB1 := Aside0.mk ((below_drew HBA.out).trans hB1)
  have HS1 := Aside0.mk (HS0.out.below (by rw [HG.out]; exact HB1.out))
  have hc1 := blk_cell HS1.out.c 0
  have HM := Aside0.mk (row_new hR1 HOW.out HG.out HSZ.out)
  have hw1 := Aside0.mk (show t.S ≤ w1.heap.size from HS1.out.size)
  clear hR1 hB1
  refine hK.out _ _ (hc1) (fun hHeld => ?_)
  clear hK K
  refine norm_ (a' := ?_) ?_ ?_
  rotate_left
  · show Act.put _ (some 10) _ = _
    simp only [Act.put, List.setIfInBounds_toArray, List.set_cons_zero, List.set_cons_succ, i64_w, i32_w]
    rfl
  refine one_ (i := 7) (N := some 11) #[true, true, true, true, true, true, true, true, false, false, false, false] rfl rfl (by kernel_rfl) (by decide) (fun K hK => ?_)
  refine value_ (w1 := ?_) (v := ?_) (by rfl) rfl ?_ ?_
  rotate_left 2
  · go_simp
    constructor
    · rfl
    · rfl
  have hc2 := pw_cell_below (below_alloc (Below.refl w1.heap.size w1) (.cells #[.slice (some ⟨g, 0, none⟩) ys.length n] 22)) hc1
  refine hK.out _ _ (hc2) (fun hHeld => ?_)
  clear hK K
  refine norm_ (a' := ?_) ?_ ?_
  rotate_left
  · show Act.put _ (some 11) _ = _
    simp only [Act.put, List.setIfInBounds_toArray, List.set_cons_zero, List.set_cons_succ, i64_w, i32_w]
    rfl
  refine one_ (i := 8) (N := some 12) #[true, true, true, true, true, true, true, true, true, false, false, false] rfl rfl (by kernel_rfl) (by decide) (fun K hK => ?_)
  refine Kd.R_append_step KRows (w0 := w1) t.S (by rfl) _ _ 24 22 (.slice none 0 0) 24 rfl Try.underlying24 infoT22 rfl (by decide) (by decide) (Value.slice Av cs.length cv) cs ys [.slice (some ⟨g, 0, none⟩) ys.length n] (fun _ => True) (fun k => some k ≠ (Value.slice Av cs.length cv).ownBlock) rfl rfl ⟨_, rfl, HM.out⟩ (fun k hk => ⟨trivial, hk⟩) (fun _ _ => trivial) HS1.out.rows (Below.refl _ _) hw1.out (by have := HCS.out; omega) ?_
  intro v1 w3 ho hb hg hat
  obtain ⟨A5, c5, e5⟩ := Kd.R_slice ho
  rw [List.length_append, List.length_singleton] at e5
  rw [e5]
  rw [e5] at ho
  have hc3 := HS1.out.cAfter hg
  have hce := blk_cell hc3 0
  have hfr := blk_frozen hc3 0
  have HST := Aside0.mk (HS1.out.setC hg ho)
  have HFR := Aside0.mk ((LB.Fr.of_below (by rw [HG.out]; exact HB1.out)).trans (HS1.out.frC hg (.slice A5 (cs.length + 1) c5)))
  clear ho hb hg hat hc3 e5
  refine hK.out _ _ (hce) (fun hHeld => ?_)
  clear hK K
  refine norm_ (a' := ?_) ?_ ?_
  rotate_left
  · show Act.put _ (some 12) _ = _
    simp only [Act.put, List.setIfInBounds_toArray, List.set_cons_zero, List.set_cons_succ, i64_w, i32_w]
    rfl
  refine pure_ (i := 9) (N := some 13) (v := ?_) (a' := ?_) #[true, true, true, true, true, true, true, true, true, true, false, false] rfl rfl (by kernel_rfl) (fun _ _ _ h => h) (Or.inl ⟨by rfl, ?_⟩) ?_ ?_
  rotate_left
  · intro w'
    go_simp
    with_reducible rfl
  rotate_left
  · simp only [Act.put, List.setIfInBounds_toArray, List.set_cons_zero, List.set_cons_succ, i64_w, i32_w]
    rfl
  refine pure_ (i := 10) (N := some 14) (v := ?_) (a' := ?_) #[true, true, true, true, true, true, true, true, true, true, true, false] rfl rfl (by kernel_rfl) (fun _ _ _ h => h) (Or.inl ⟨by rfl, ?_⟩) ?_ ?_
  rotate_left
  · intro w'
    go_simp
    with_reducible rfl
  rotate_left
  · simp only [Act.put, List.setIfInBounds_toArray, List.set_cons_zero, List.set_cons_succ, i64_w, i32_w]
    rfl
  refine last_ (i := 11) (N := none) #[true, true, true, true, true, true, true, true, true, true, true, true] rfl rfl (by kernel_rfl) (by decide) (fun K hK => ?_)
  refine skip_ (w1 := ?_) (by rfl) rfl ?_ ?_
  rotate_left
  · go_simp
    rfl
  refine hK.out _ _ ?_
  clear hK K
  refine done_ (by kernel_rfl) ?_

  go_end0
  exact ⟨rfl, _, HST.out, HFR.out⟩

#print axioms put_calls

end Go.Proofs.Ytpadmbpopjmdjaa.G
