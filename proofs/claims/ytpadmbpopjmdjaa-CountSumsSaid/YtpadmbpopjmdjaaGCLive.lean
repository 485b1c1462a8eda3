/-
  The chapter's sanity example: the walk.
-/
import Derived.Test.YtpadmbpopjmdjaaGCGive
import Derived.Test.YtpadmbpopjmdjaaQRefx1
namespace Go.Proofs.Ytpadmbpopjmdjaa.G
set_option linter.unusedVariables false
set_option linter.unusedSimpArgs false
open Go.RowKit Go.Proofs.YtpadmbpopjmdjaaW.PrintWords Go.Proofs.YtpadmbpopjmdjaaW.PrintLast Go.Proofs.YtpadmbpopjmdjaaW.PrintMore
attribute [local go_sem] max2_int min2_int max_two min_two max_three min_three max_four min_four

theorem live1 : leastOf [1, 2] 1 3 = ([[-3, 1], [-4, 3, 2], [4]], 5, 0) := by decide +kernel
theorem live2 : leastOf [1, 2] 3 3 = ([[]], 3, 0) := by decide +kernel
theorem live3 : mostOf [1, 2] 2 3 = ([], 3, 0) := by decide +kernel
theorem liveC : QRef.chalklineref16_Same.f 20 [[-3, 1], [-4, 3, 2], [4]] [[-3, 1], [-4, 3, 2], [4]] = some true := by simp [QRef.chalklineref16_Same.f, QRef.chalklineref16_Same.l0, QRef.chalklineref16_Same.l1, QRef.rd_L1, rd, wrap64]

theorem C_lit (W : World) (xs : List Int) (hl : xs.length ≤ 9223372036854775807) : (Kd.int .i64).C (W.alloc (.cells (xs.map (Value.int .i64)).toArray 3)) (some ⟨W.heap.size, 0, none⟩) xs.length xs := by
  refine Kd.C_of_reads (h1 := fun _ => rfl) (d := (0 : Int)) ⟨rfl, hl, fun hn => ⟨_, rfl, fun j hj => ?_⟩⟩
  rw [add_plain, blk_cell (blk_new W _)]
  have hj' : j < xs.length := hj
  simp only [List.getElem?_toArray, List.getElem?_map, List.getD_eq_getElem?_getD, List.getElem?_eq_getElem hj', Option.map_some, Option.getD_some]

/-- count.Least of a literal that is made for it. -/
theorem least_lit_at (W : World) (xs : List Int) (k next : Int) (r : List (List Int) × Int × Int) (hr : leastOf xs k next = r) (h40 : xs.length ≤ 40) (hw : xs.all (fun x => (Lit.int .i64 x).wf) = true) :
    Calls Try.prog 13 #[.slice (some ⟨W.heap.size, 0, none⟩) xs.length xs.length, .int .i64 k, .int .i64 next] (W.alloc (.cells (xs.map (Value.int .i64)).toArray 3)) fun e w' => ∃ A2 c2, e = .returned (.tuple #[.slice A2 r.1.length c2, .int .i64 r.2.1, .int .i64 r.2.2]) ∧
      (r.1.length ≤ c2 ∧ KRows.C w' A2 r.1.length r.1) ∧ Below W.heap.size W w' := by
  have h := least_calls (some ⟨W.heap.size, 0, none⟩) xs.length xs k next (W.alloc (.cells (xs.map (Value.int .i64)).toArray 3)) (C_lit W xs (by omega)) (Nat.le_refl _) (by omega) (by simpa using hw)
  rw [hr] at h
  refine h.mono ?_
  rintro e w' ⟨v1, rfl, h1, hb⟩
  obtain ⟨A2, c2, rfl, l2, C2⟩ := Kd.R_reads h1
  have hb0 := below_alloc (Below.refl W.heap.size W) (.cells (xs.map (Value.int .i64)).toArray 3)
  exact ⟨A2, c2, rfl, ⟨l2, C2⟩, hb0.trans (hb.mono hb0.size)⟩
theorem most_lit_at (W : World) (xs : List Int) (k next : Int) (r : List (List Int) × Int × Int) (hr : mostOf xs k next = r) (h40 : xs.length ≤ 40) (hw : xs.all (fun x => (Lit.int .i64 x).wf) = true) :
    Calls Try.prog 16 #[.slice (some ⟨W.heap.size, 0, none⟩) xs.length xs.length, .int .i64 k, .int .i64 next] (W.alloc (.cells (xs.map (Value.int .i64)).toArray 3)) fun e w' => ∃ A2 c2, e = .returned (.tuple #[.slice A2 r.1.length c2, .int .i64 r.2.1, .int .i64 r.2.2]) ∧
      (r.1.length ≤ c2 ∧ KRows.C w' A2 r.1.length r.1) ∧ Below W.heap.size W w' := by
  have h := most_calls (some ⟨W.heap.size, 0, none⟩) xs.length xs k next (W.alloc (.cells (xs.map (Value.int .i64)).toArray 3)) (C_lit W xs (by omega)) (Nat.le_refl _) (by omega) (by simpa using hw)
  rw [hr] at h
  refine h.mono ?_
  rintro e w' ⟨v1, rfl, h1, hb⟩
  obtain ⟨A2, c2, rfl, l2, C2⟩ := Kd.R_reads h1
  have hb0 := below_alloc (Below.refl W.heap.size W) (.cells (xs.map (Value.int .i64)).toArray 3)
  exact ⟨A2, c2, rfl, ⟨l2, C2⟩, hb0.trans (hb.mono hb0.size)⟩

theorem C_rows {w : World} {g : Nat} {ps : List (List Int)} {vs : List Value} (hb : w.heap[g]? = some (.cells vs.toArray 22 (0, 0))) (hlen : ps.length ≤ 9223372036854775807) (h : ∀ (j : Nat) (p : List Int), ps[j]? = some p → ∃ A c, vs[j]? = some (Value.slice A p.length c) ∧ p.length ≤ c ∧ (Kd.int .i64).C w A p.length p) : KRows.C w (some ⟨g, 0, none⟩) ps.length ps := by
  refine ⟨rfl, hlen, fun _ => ⟨_, rfl, fun j p hj => ?_⟩⟩
  obtain ⟨A, c, hv, hc, hC⟩ := h j p hj
  refine ⟨[.slice A p.length c], rfl, ⟨A, c, rfl, hc, hC⟩, fun i u hu => ?_⟩
  obtain ⟨rfl, rfl⟩ : i = 0 ∧ u = .slice A p.length c := by cases i <;> simp at hu; exact ⟨rfl, hu.symm⟩
  show w.cell? ((⟨g, 0, none⟩ : Addr).add (j * 1 + 0)) = _
  rw [add_plain, blk_cell hb]
  simpa using hv

theorem C_lit_at (W F : World) (xs : List Int) (hl : xs.length ≤ 9223372036854775807) (n : Nat) (hn : W.heap.size = n) (hF : Below (W.alloc (.cells (xs.map (Value.int .i64)).toArray 3)).heap.size (W.alloc (.cells (xs.map (Value.int .i64)).toArray 3)) F) : (Kd.int .i64).C F (some ⟨n, 0, none⟩) xs.length xs := by
  subst hn
  exact Kd.C_below (C_lit W xs hl) hF

theorem below_chain {w a b : World} (h : Below w.heap.size w a) (k : Below a.heap.size a b) : Below w.heap.size w b := h.trans (k.mono h.size)
theorem below_one (w : World) (o : Obj) {F : World} (h : Below (w.alloc o).heap.size (w.alloc o) F) : Below w.heap.size w F := below_chain (below_alloc (Below.refl _ _) o) h

/-- The clauses that the example expects, as they are laid. -/
abbrev want1 (w : World) : World := w.alloc (.cells #[.int .i64 (-3), .int .i64 1] 3)
abbrev want2 (w : World) : World := (want1 w).alloc (.cells #[.int .i64 (-4), .int .i64 3, .int .i64 2] 3)
abbrev wantW (w : World) : World := (want2 w).alloc (.cells #[.int .i64 4] 3)
/-- .. and the row of them. -/
abbrev wantF (w : World) : World := (wantW w).alloc (.cells #[.slice (some ⟨w.heap.size, 0, none⟩) 2 2, .slice (some ⟨w.heap.size + 1, 0, none⟩) 3 3, .slice (some ⟨w.heap.size + 1 + 1, 0, none⟩) 1 1] 22)

theorem wantZ (w : World) : (want1 w).heap.size = w.heap.size + 1 ∧ (want2 w).heap.size = w.heap.size + 1 + 1 ∧ (wantW w).heap.size = w.heap.size + 1 + 1 + 1 := by simp
theorem wantB3 (w : World) : Below (wantW w).heap.size (wantW w) (wantF w) := below_alloc (Below.refl _ _) _
theorem wantB2 (w : World) : Below (want2 w).heap.size (want2 w) (wantF w) := below_one _ _ (wantB3 w)
theorem wantB1 (w : World) : Below (want1 w).heap.size (want1 w) (wantF w) := below_one _ _ (wantB2 w)
theorem below_want (w : World) : Below w.heap.size w (wantF w) := below_one _ _ (wantB1 w)

theorem C_want (w : World) : KRows.C (wantF w) (some ⟨w.heap.size + 1 + 1 + 1, 0, none⟩) 3 [[-3, 1], [-4, 3, 2], [4]] := by
  obtain ⟨z1, z2, z3⟩ := wantZ w
  have hb : (wantF w).heap[w.heap.size + 1 + 1 + 1]? = some (.cells [.slice (some ⟨w.heap.size, 0, none⟩) 2 2, .slice (some ⟨w.heap.size + 1, 0, none⟩) 3 3, .slice (some ⟨w.heap.size + 1 + 1, 0, none⟩) 1 1].toArray 22 (0, 0)) := by
    rw [← z3]
    exact blk_new (wantW w) _
  have k0 : (Kd.int .i64).C (wantF w) (some ⟨w.heap.size, 0, none⟩) 2 [-3, 1] := C_lit_at w (wantF w) [-3, 1] (by simp) _ rfl (wantB1 w)
  have k1 : (Kd.int .i64).C (wantF w) (some ⟨w.heap.size + 1, 0, none⟩) 3 [-4, 3, 2] := C_lit_at (want1 w) (wantF w) [-4, 3, 2] (by simp) _ z1 (wantB2 w)
  have k2 : (Kd.int .i64).C (wantF w) (some ⟨w.heap.size + 1 + 1, 0, none⟩) 1 [4] := C_lit_at (want2 w) (wantF w) [4] (by simp) _ z2 (wantB3 w)
  generalize wantF w = F at hb k0 k1 k2 ⊢
  refine C_rows hb (by simp) (fun j p hj => ?_)
  match j, hj with
  | 0, hj =>
    obtain rfl : [-3, 1] = p := by simpa using hj
    exact ⟨_, _, rfl, by simp, k0⟩
  | 1, hj =>
    obtain rfl : [-4, 3, 2] = p := by simpa using hj
    exact ⟨_, _, rfl, by simp, k1⟩
  | 2, hj =>
    obtain rfl : [4] = p := by simpa using hj
    exact ⟨_, _, rfl, by simp, k2⟩
  | j + 3, hj => simp at hj

set_option maxRecDepth 100000 in
set_option maxHeartbeats 1600000 in
theorem live_calls (w : World) : Calls Try.prog 12 #[] w fun e w' => e = .returned (.bool true) ∧ Below w.heap.size w w' := by
  have T1 := Aside0.mk (fun W => least_lit_at W [1, 2] 1 3 _ live1 (by decide) (by decide))
  have T2 := Aside0.mk (fun W => least_lit_at W [1, 2] 3 3 _ live2 (by decide) (by decide))
  have T3 := Aside0.mk (fun W => most_lit_at W [1, 2] 2 3 _ live3 (by decide) (by decide))
  go_enter Try.func12, Try.ntmps12
  go_upto_region 2 with ((go_at_call 13; refine (T1.out _).mono ?_; rintro e w1 ⟨B1, d1, rfl, hN1, hb1⟩; have HN1 := Aside0.mk hN1; have HB1 := Aside0.mk hb1; clear hN1 hb1))
  go_upto_region 3 with ((go_at_call 13; refine (T2.out _).mono ?_; rintro e w2 ⟨B2, d2, rfl, hN2, hb2⟩; have HN2 := Aside0.mk hN2; have HB2 := Aside0.mk hb2; clear hN2 hb2))
  go_upto_region 4 with ((go_at_call 16; refine (T3.out _).mono ?_; rintro e w3 ⟨B3, d3, rfl, hN3, hb3⟩; have HB3 := Aside0.mk hb3; clear hN3 hb3))
  have HW := Aside0.mk (C_want w3)
  have HBW := Aside0.mk (below_want w3)
  have IC := Aside0.mk (QRef.chalklineref16_Same.calls 20 B1 d1 [[-3, 1], [-4, 3, 2], [4]] (some ⟨w3.heap.size + 1 + 1 + 1, 0, none⟩) 3 [[-3, 1], [-4, 3, 2], [4]] true (wantF w3) (Kd.C_below (Kd.C_below (Kd.C_below HN1.out.2 HB2.out) HB3.out) HBW.out) HN1.out.1 HW.out (Nat.le_refl _) liveC)
  obtain ⟨adb, A4, c4, e4, hcell4, _, _⟩ := at_rows (Kd.C_below (Kd.C_below HN2.out.2 HB3.out) HBW.out) 0 (by decide)
  subst e4
  have HC4 := Aside0.mk hcell4
  clear hcell4
  go_wp2_with ((go_at_call 15; refine IC.out.mono ?_; rintro e w7 ⟨rfl, hd7⟩; have HB7 := Aside0.mk hd7.below; have hc7 := pw_cell_below hd7.below HC4.out; rw [show ([[]] : List (List Int)).getD 0 [] = [] from rfl] at hc7; simp only [List.length_nil] at hc7; rw [show adb.add 0 = adb from by unfold Addr.add; simp] at hc7; clear hd7))
  go_ret
  exact ⟨rfl, below_chain (below_chain (below_chain (below_chain HB1.out HB2.out) HB3.out) HBW.out) HB7.out⟩

def chalklinelaw16_live.f : Option Bool := some true
theorem chalklinelaw16_live.calls (r : Bool) (w : World) (h : chalklinelaw16_live.f = some r) : Calls Try.prog 12 #[] w fun e w' => e = .returned (.bool r) ∧ Below w.heap.size w w' := by
  cases h
  exact live_calls w

#print axioms chalklinelaw16_live.calls

end Go.Proofs.Ytpadmbpopjmdjaa.G
