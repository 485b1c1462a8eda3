/-
  The chapter's sanity example: the walk.
-/
import Derived.Test.YtdkfhpgbiohhoaaGRefTotal
namespace Go.Proofs.Ytdkfhpgbiohhoaa.G
set_option linter.unusedVariables false
set_option linter.unusedSimpArgs false
open Go.RowKit Go.Proofs.YtdkfhpgbiohhoaaW.PrintWords Go.Proofs.YtdkfhpgbiohhoaaW.PrintLast Go.Proofs.YtdkfhpgbiohhoaaW.PrintMore
attribute [local go_sem] max2_int min2_int max_two min_two max_three min_three max_four min_four

theorem live1 : totalOf [1, 2] 2 3 = ([3, 4], [[1, 2, -3], [-2, 3], [1, -4], [-1, 3], [2, -4], [-1, -2, 4]], 5, 0) := by decide +kernel
theorem live2 : totalOf [1, 2] 0 3 = ([], [], 3, 0) := by decide +kernel
theorem live3 : totalOf [1, -1] 2 3 = ([], [], 0, 140) := by decide +kernel
theorem live4 : totalOf [3] 2 3 = ([], [], 0, 140) := by decide +kernel
theorem live5 : totalOf [-2] 5 3 = ([-2], [], 3, 0) := by decide +kernel
theorem liveI1 : QRef.chalklineref15_Ints.f 10 [3, 4] [3, 4] = some true := by decide +kernel
theorem liveI2 : QRef.chalklineref15_Ints.f 10 [-2] [-2] = some true := by decide +kernel
theorem liveC : QRef.chalklineref15_Clauses.f 10 [[1, 2, -3], [-2, 3], [1, -4], [-1, 3], [2, -4], [-1, -2, 4]] [[1, 2, -3], [-2, 3], [1, -4], [-1, 3], [2, -4], [-1, -2, 4]] = some true := by decide +kernel

theorem C_lit (W : World) (xs : List Int) (hl : xs.length ≤ 9223372036854775807) : (Kd.int .i64).C (W.alloc (.cells (xs.map (Value.int .i64)).toArray 3)) (some ⟨W.heap.size, 0, none⟩) xs.length xs := by
  refine Kd.C_of_reads (h1 := fun _ => rfl) (d := (0 : Int)) ⟨rfl, hl, fun hn => ⟨_, rfl, fun j hj => ?_⟩⟩
  rw [add_plain, blk_cell (blk_new W _)]
  have hj' : j < xs.length := hj
  simp only [List.getElem?_toArray, List.getElem?_map, List.getD_eq_getElem?_getD, List.getElem?_eq_getElem hj', Option.map_some, Option.getD_some]

/-- total.Total of a literal that is made for it. -/
theorem total_lit_at (W : World) (xs : List Int) (most next : Int) (r : List Int × List (List Int) × Int × Int) (hr : totalOf xs most next = r) (h40 : xs.length ≤ 40) (hw : xs.all (fun x => (Lit.int .i64 x).wf) = true) :
    Calls Try.prog 11 #[.slice (some ⟨W.heap.size, 0, none⟩) xs.length xs.length, .int .i64 most, .int .i64 next] (W.alloc (.cells (xs.map (Value.int .i64)).toArray 3)) fun e w' => ∃ A1 c1 A2 c2, e = .returned (.tuple #[.slice A1 r.1.length c1, .slice A2 r.2.1.length c2, .int .i64 r.2.2.1, .int .i64 r.2.2.2]) ∧
      (r.1.length ≤ c1 ∧ (Kd.int .i64).C w' A1 r.1.length r.1) ∧ (r.2.1.length ≤ c2 ∧ KRows.C w' A2 r.2.1.length r.2.1) ∧ Below W.heap.size W w' := by
  have h := total_calls (some ⟨W.heap.size, 0, none⟩) xs.length xs most next (W.alloc (.cells (xs.map (Value.int .i64)).toArray 3)) h40 (Nat.le_refl _) (C_lit W xs (by omega)) (by simpa using hw)
  rw [hr] at h
  refine h.mono ?_
  rintro e w' ⟨v0, v1, rfl, h0, h1, hb⟩
  obtain ⟨A1, c1, rfl, l1, C1⟩ := Kd.R_reads h0
  obtain ⟨A2, c2, rfl, l2, C2⟩ := Kd.N_reads h1
  have hb0 := below_alloc (Below.refl W.heap.size W) (.cells (xs.map (Value.int .i64)).toArray 3)
  exact ⟨A1, c1, A2, c2, rfl, ⟨l1, C1⟩, ⟨l2, C2⟩, hb0.trans (hb.mono hb0.size)⟩

theorem C_rows {w : World} {g : Nat} {ps : List (List Int)} {vs : List Value} (hb : w.heap[g]? = some (.cells vs.toArray 22 (0, 0))) (hlen : ps.length ≤ 9223372036854775807) (h : ∀ (j : Nat) (p : List Int), ps[j]? = some p → ∃ A c, vs[j]? = some (Value.slice A p.length c) ∧ p.length ≤ c ∧ (Kd.int .i64).C w A p.length p) : KRows.C w (some ⟨g, 0, none⟩) ps.length ps := by
  refine ⟨rfl, hlen, fun _ => ⟨_, rfl, fun j p hj => ?_⟩⟩
  obtain ⟨A, c, hv, hc, hC⟩ := h j p hj
  refine ⟨[.slice A p.length c], rfl, ⟨A, c, rfl, hc, hC⟩, fun i u hu => ?_⟩
  obtain ⟨rfl, rfl⟩ : i = 0 ∧ u = .slice A p.length c := by cases i <;> simp at hu; exact ⟨rfl, hu.symm⟩
  show w.cell? ((⟨g, 0, none⟩ : Addr).add (j * 1 + 0)) = _
  rw [add_plain, blk_cell hb]
  simpa using hv

theorem C_lit_at (W F : World) (xs : List Int) (hl : xs.length ≤ 9223372036854775807) (n : Nat) (hn : W.heap.size = n) (hF : Below (W.alloc (.cells (xs.map (Value.int .i64)).toArray 3)).heap.size (W.alloc (.cells (xs.map (Value.int .i64)).toArray 3)) F) : (Kd.int .i64).C F (some ⟨n, 0, none⟩) xs.length xs := by
  subst hn
  exact Kd.C_below (C_lit W xs hl) hF

theorem below_chain {w a b : World} (h : Below w.heap.size w a) (k : Below a.heap.size a b) : Below w.heap.size w b := h.trans (k.mono h.size)
theorem below_one (w : World) (o : Obj) {F : World} (h : Below (w.alloc o).heap.size (w.alloc o) F) : Below w.heap.size w F := below_chain (below_alloc (Below.refl _ _) o) h

/-- The clauses that the example expects, as they are laid. -/
abbrev want1 (w : World) : World := w.alloc (.cells #[.int .i64 1, .int .i64 2, .int .i64 (-3)] 3)
abbrev want2 (w : World) : World := (want1 w).alloc (.cells #[.int .i64 (-2), .int .i64 3] 3)
abbrev want3 (w : World) : World := (want2 w).alloc (.cells #[.int .i64 1, .int .i64 (-4)] 3)
abbrev want4 (w : World) : World := (want3 w).alloc (.cells #[.int .i64 (-1), .int .i64 3] 3)
abbrev want5 (w : World) : World := (want4 w).alloc (.cells #[.int .i64 2, .int .i64 (-4)] 3)
abbrev wantW (w : World) : World := (want5 w).alloc (.cells #[.int .i64 (-1), .int .i64 (-2), .int .i64 4] 3)
/-- .. and the row of them. -/
abbrev wantF (w : World) : World := (wantW w).alloc (.cells #[.slice (some ⟨w.heap.size, 0, none⟩) 3 3, .slice (some ⟨w.heap.size + 1, 0, none⟩) 2 2, .slice (some ⟨w.heap.size + 1 + 1, 0, none⟩) 2 2, .slice (some ⟨w.heap.size + 1 + 1 + 1, 0, none⟩) 2 2, .slice (some ⟨w.heap.size + 1 + 1 + 1 + 1, 0, none⟩) 2 2, .slice (some ⟨w.heap.size + 1 + 1 + 1 + 1 + 1, 0, none⟩) 3 3] 22)

theorem wantZ (w : World) : (want1 w).heap.size = w.heap.size + 1 ∧ (want2 w).heap.size = w.heap.size + 1 + 1 ∧ (want3 w).heap.size = w.heap.size + 1 + 1 + 1 ∧ (want4 w).heap.size = w.heap.size + 1 + 1 + 1 + 1 ∧ (want5 w).heap.size = w.heap.size + 1 + 1 + 1 + 1 + 1 ∧ (wantW w).heap.size = w.heap.size + 1 + 1 + 1 + 1 + 1 + 1 := by simp
theorem wantB6 (w : World) : Below (wantW w).heap.size (wantW w) (wantF w) := below_alloc (Below.refl _ _) _
theorem wantB5 (w : World) : Below (want5 w).heap.size (want5 w) (wantF w) := below_one _ _ (wantB6 w)
theorem wantB4 (w : World) : Below (want4 w).heap.size (want4 w) (wantF w) := below_one _ _ (wantB5 w)
theorem wantB3 (w : World) : Below (want3 w).heap.size (want3 w) (wantF w) := below_one _ _ (wantB4 w)
theorem wantB2 (w : World) : Below (want2 w).heap.size (want2 w) (wantF w) := below_one _ _ (wantB3 w)
theorem wantB1 (w : World) : Below (want1 w).heap.size (want1 w) (wantF w) := below_one _ _ (wantB2 w)
theorem below_want (w : World) : Below w.heap.size w (wantF w) := below_one _ _ (wantB1 w)

theorem C_want (w : World) : KRows.C (wantF w) (some ⟨w.heap.size + 1 + 1 + 1 + 1 + 1 + 1, 0, none⟩) 6 [[1, 2, -3], [-2, 3], [1, -4], [-1, 3], [2, -4], [-1, -2, 4]] := by
  obtain ⟨z1, z2, z3, z4, z5, z6⟩ := wantZ w
  have hb : (wantF w).heap[w.heap.size + 1 + 1 + 1 + 1 + 1 + 1]? = some (.cells [.slice (some ⟨w.heap.size, 0, none⟩) 3 3, .slice (some ⟨w.heap.size + 1, 0, none⟩) 2 2, .slice (some ⟨w.heap.size + 1 + 1, 0, none⟩) 2 2, .slice (some ⟨w.heap.size + 1 + 1 + 1, 0, none⟩) 2 2, .slice (some ⟨w.heap.size + 1 + 1 + 1 + 1, 0, none⟩) 2 2, .slice (some ⟨w.heap.size + 1 + 1 + 1 + 1 + 1, 0, none⟩) 3 3].toArray 22 (0, 0)) := by
    rw [← z6]
    exact blk_new (wantW w) _
  have k0 : (Kd.int .i64).C (wantF w) (some ⟨w.heap.size, 0, none⟩) 3 [1, 2, -3] := C_lit_at w (wantF w) [1, 2, -3] (by simp) _ rfl (wantB1 w)
  have k1 : (Kd.int .i64).C (wantF w) (some ⟨w.heap.size + 1, 0, none⟩) 2 [-2, 3] := C_lit_at (want1 w) (wantF w) [-2, 3] (by simp) _ z1 (wantB2 w)
  have k2 : (Kd.int .i64).C (wantF w) (some ⟨w.heap.size + 1 + 1, 0, none⟩) 2 [1, -4] := C_lit_at (want2 w) (wantF w) [1, -4] (by simp) _ z2 (wantB3 w)
  have k3 : (Kd.int .i64).C (wantF w) (some ⟨w.heap.size + 1 + 1 + 1, 0, none⟩) 2 [-1, 3] := C_lit_at (want3 w) (wantF w) [-1, 3] (by simp) _ z3 (wantB4 w)
  have k4 : (Kd.int .i64).C (wantF w) (some ⟨w.heap.size + 1 + 1 + 1 + 1, 0, none⟩) 2 [2, -4] := C_lit_at (want4 w) (wantF w) [2, -4] (by simp) _ z4 (wantB5 w)
  have k5 : (Kd.int .i64).C (wantF w) (some ⟨w.heap.size + 1 + 1 + 1 + 1 + 1, 0, none⟩) 3 [-1, -2, 4] := C_lit_at (want5 w) (wantF w) [-1, -2, 4] (by simp) _ z5 (wantB6 w)
  generalize wantF w = F at hb k0 k1 k2 k3 k4 k5 ⊢
  refine C_rows hb (by simp) (fun j p hj => ?_)
  match j, hj with
  | 0, hj =>
    obtain rfl : [1, 2, -3] = p := by simpa using hj
    exact ⟨_, _, rfl, by simp, k0⟩
  | 1, hj =>
    obtain rfl : [-2, 3] = p := by simpa using hj
    exact ⟨_, _, rfl, by simp, k1⟩
  | 2, hj =>
    obtain rfl : [1, -4] = p := by simpa using hj
    exact ⟨_, _, rfl, by simp, k2⟩
  | 3, hj =>
    obtain rfl : [-1, 3] = p := by simpa using hj
    exact ⟨_, _, rfl, by simp, k3⟩
  | 4, hj =>
    obtain rfl : [2, -4] = p := by simpa using hj
    exact ⟨_, _, rfl, by simp, k4⟩
  | 5, hj =>
    obtain rfl : [-1, -2, 4] = p := by simpa using hj
    exact ⟨_, _, rfl, by simp, k5⟩
  | j + 6, hj => simp at hj

set_option maxRecDepth 100000 in
set_option maxHeartbeats 1600000 in
theorem live_calls (w : World) : Calls Try.prog 10 #[] w fun e w' => e = .returned (.bool true) ∧ Below w.heap.size w w' := by
  have T1 := Aside0.mk (fun W => total_lit_at W [1, 2] 2 3 _ live1 (by decide) (by decide))
  have T2 := Aside0.mk (fun W => total_lit_at W [1, 2] 0 3 _ live2 (by decide) (by decide))
  have T3 := Aside0.mk (fun W => total_lit_at W [1, -1] 2 3 _ live3 (by decide) (by decide))
  have T4 := Aside0.mk (fun W => total_lit_at W [3] 2 3 _ live4 (by decide) (by decide))
  have T5 := Aside0.mk (fun W => total_lit_at W [-2] 5 3 _ live5 (by decide) (by decide))
  go_enter Try.func10, Try.ntmps10
  go_upto_region 2 with ((go_at_call 11; refine (T1.out _).mono ?_; rintro e w1 ⟨A1, c1, B1, d1, rfl, hR1, hN1, hb1⟩; have HR1 := Aside0.mk hR1; have HN1 := Aside0.mk hN1; have HB1 := Aside0.mk hb1; clear hR1 hN1 hb1))
  go_upto_region 3 with ((go_at_call 11; refine (T2.out _).mono ?_; rintro e w2 ⟨A2, c2, B2, d2, rfl, hR2, hN2, hb2⟩; have HB2 := Aside0.mk hb2; clear hR2 hN2 hb2))
  go_upto_region 4 with ((go_at_call 11; refine (T3.out _).mono ?_; rintro e w3 ⟨A3, c3, B3, d3, rfl, hR3, hN3, hb3⟩; have HB3 := Aside0.mk hb3; clear hR3 hN3 hb3))
  go_upto_region 5 with ((go_at_call 11; refine (T4.out _).mono ?_; rintro e w4 ⟨A4, c4, B4, d4, rfl, hR4, hN4, hb4⟩; have HB4 := Aside0.mk hb4; clear hR4 hN4 hb4))
  go_upto_region 6 with ((go_at_call 11; refine (T5.out _).mono ?_; rintro e w5 ⟨A5, c5, B5, d5, rfl, hR5, hN5, hb5⟩; have HR5 := Aside0.mk hR5; have HB5 := Aside0.mk hb5; clear hR5 hN5 hb5))
  go_upto_region 7 with (fail)
  have HW := Aside0.mk (C_want w5)
  have HBW := Aside0.mk (below_want w5)
  obtain ⟨w6, hw6⟩ : ∃ w6, wantF w5 = w6 := ⟨_, rfl⟩
  rw [hw6] at HW HBW
  have HR6 := Aside0.mk (Kd.C_below (Kd.C_below (Kd.C_below (Kd.C_below (Kd.C_below HR1.out.2 HB2.out) HB3.out) HB4.out) HB5.out) HBW.out)
  have HN6 := Aside0.mk (Kd.C_below (Kd.C_below (Kd.C_below (Kd.C_below (Kd.C_below HN1.out.2 HB2.out) HB3.out) HB4.out) HB5.out) HBW.out)
  have HS6 := Aside0.mk (Kd.C_below HR5.out.2 HBW.out)
  have HB6 := Aside0.mk (below_chain (below_chain (below_chain (below_chain (below_chain HB1.out HB2.out) HB3.out) HB4.out) HB5.out) HBW.out)
  rw [show (((((((w5.alloc _).alloc _).alloc _).alloc _).alloc _).alloc _).alloc _) = w6 from hw6]
  clear hw6
  have HK7 := Aside0.mk (below_alloc (Below.refl w6.heap.size w6) (.cells #[.int .i64 3, .int .i64 4] 3))
  have I1 := Aside0.mk (QRef.chalklineref15_Ints.calls 10 A1 c1 [3, 4] (some ⟨w6.heap.size, 0, none⟩) 2 [3, 4] true (w6.alloc (.cells #[.int .i64 3, .int .i64 4] 3)) (Kd.C_below HR6.out HK7.out) HR1.out.1 (C_lit w6 [3, 4] (by simp)) (Nat.le_refl _) liveI1)
  go_upto_region 8 with (first | (go_at_call 13; refine I1.out.mono ?_; rintro e w7 ⟨rfl, hd7⟩; have HB7 := Aside0.mk (below_chain HK7.out hd7.below); have IC := Aside0.mk (QRef.chalklineref15_Clauses.calls 10 B1 d1 [[1, 2, -3], [-2, 3], [1, -4], [-1, 3], [2, -4], [-1, -2, 4]] (some ⟨w5.heap.size + 1 + 1 + 1 + 1 + 1 + 1, 0, none⟩) 6 [[1, 2, -3], [-2, 3], [1, -4], [-1, 3], [2, -4], [-1, -2, 4]] true w7 (Kd.C_below HN6.out HB7.out) HN1.out.1 (Kd.C_below HW.out HB7.out) (Nat.le_refl _) liveC); clear hd7) | (go_at_call 14; refine IC.out.mono ?_; rintro e w8 ⟨rfl, hd8⟩; have HB8 := Aside0.mk (below_chain HB7.out hd8.below); clear hd8))
  have HK9 := Aside0.mk (below_alloc (Below.refl w8.heap.size w8) (.cells #[.int .i64 (-2)] 3))
  have I2 := Aside0.mk (QRef.chalklineref15_Ints.calls 10 A5 c5 [-2] (some ⟨w8.heap.size, 0, none⟩) 1 [-2] true (w8.alloc (.cells #[.int .i64 (-2)] 3)) (Kd.C_below (Kd.C_below HS6.out HB8.out) HK9.out) HR5.out.1 (C_lit w8 [-2] (by simp)) (Nat.le_refl _) liveI2)
  go_wp2_with ((go_at_call 13; refine I2.out.mono ?_; rintro e w9 ⟨rfl, hd9⟩; have HB9 := Aside0.mk (below_chain HK9.out hd9.below); clear hd9))
  go_ret
  exact ⟨rfl, below_chain (below_chain HB6.out HB8.out) HB9.out⟩

def chalklinelaw15_live.f : Option Bool := some true
theorem chalklinelaw15_live.calls (r : Bool) (w : World) (h : chalklinelaw15_live.f = some r) : Calls Try.prog 10 #[] w fun e w' => e = .returned (.bool r) ∧ Below w.heap.size w w' := by
  cases h
  exact live_calls w

#print axioms chalklinelaw15_live.calls

end Go.Proofs.Ytdkfhpgbiohhoaa.G
