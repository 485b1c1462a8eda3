/-
  total.Total: the walk.
-/
import Derived.Test.YtdkfhpgbiohhoaaGCount
import Derived.Test.YtdkfhpgbiohhoaaGApart
import Derived.Test.YtdkfhpgbiohhoaaWN
import Derived.Laws.EntriesVeiled
import Derived.Deep.RegionHeld3
namespace Go.Proofs.Ytdkfhpgbiohhoaa.G
set_option linter.unusedVariables false
set_option linter.unusedSimpArgs false
open Go.RowKit Go.Proofs.YtdkfhpgbiohhoaaW.PrintWords Go.Proofs.YtdkfhpgbiohhoaaW.PrintLast Go.Proofs.YtdkfhpgbiohhoaaW.PrintMore
attribute [local go_sem] max2_int min2_int max_two min_two max_three min_three max_four min_four

def TotalPost (r : List Int × List (List Int) × Int × Int) (w : World) (e : Ending) (w' : World) : Prop :=
  ∃ v0_ v1_ : Value, e = .returned (.tuple #[v0_, v1_, .int .i64 r.2.2.1, .int .i64 r.2.2.2]) ∧ Kd.R (Kd.int .i64) 3 w' w.heap.size (fun k_ => (w.heap.size ≤ k_)) v0_ r.1 ∧
    Kd.N (Kd.slice 3 (Kd.int .i64)) 22 w' w.heap.size (fun k_ => (w.heap.size ≤ k_) ∧ some k_ ≠ (v0_ : Value).ownBlock) v1_ r.2.1 ∧ Below w.heap.size w w'

theorem totalPost_nil (w w' : World) (a b : Int) (h : Below w.heap.size w w') : TotalPost ([], [], a, b) w (.returned (.tuple #[.slice none 0 0, .slice none 0 0, .int .i64 a, .int .i64 b])) w' :=
  ⟨_, _, rfl, Kd.R_nil _ _ _ _ _, Kd.N_nil _ _ _ _ _, h⟩

theorem below3 (w : World) (a b c : Obj) : Below w.heap.size w (((w.alloc a).alloc b).alloc c) :=
  below_alloc (below_alloc (below_alloc (Below.refl _ _) a) b) c

set_option maxHeartbeats 800000 in
theorem total_arg (A : Option Addr) (c0 : Nat) (l : List Int) (most next : Int) (w : World) (hl : l.length ≤ 40) (h : next < 1 ∨ 65537 < next ∨ most < 0 ∨ 1099511627776 < most) :
    Calls Try.prog 11 #[.slice A l.length c0, .int .i64 most, .int .i64 next] w (TotalPost ([], [], 0, 1) w) := by
  by_cases h1 : next < 1
  · go_enter Try.func11, Try.ntmps11
    go_wp2
    refine bodyPost_ret (v := .tuple #[.slice none 0 0, .slice none 0 0, .int .i64 0, .int .i64 1]) (by simp [results, Try.results11, go_sem]) rfl (totalPost_nil _ _ _ _ (below3 w _ _ _))
  by_cases h2 : 65537 < next
  · go_enter Try.func11, Try.ntmps11
    go_wp2
    refine bodyPost_ret (v := .tuple #[.slice none 0 0, .slice none 0 0, .int .i64 0, .int .i64 1]) (by simp [results, Try.results11, go_sem]) rfl (totalPost_nil _ _ _ _ (below3 w _ _ _))
  by_cases h3 : most < 0
  · go_enter Try.func11, Try.ntmps11
    go_wp2
    refine bodyPost_ret (v := .tuple #[.slice none 0 0, .slice none 0 0, .int .i64 0, .int .i64 1]) (by simp [results, Try.results11, go_sem]) rfl (totalPost_nil _ _ _ _ (below3 w _ _ _))
  have h4 : 1099511627776 < most := by omega
  clear h
  go_enter Try.func11, Try.ntmps11
  go_wp2
  refine bodyPost_ret (v := .tuple #[.slice none 0 0, .slice none 0 0, .int .i64 0, .int .i64 1]) (by simp [results, Try.results11, go_sem]) rfl (totalPost_nil _ _ _ _ (below3 w _ _ _))

theorem blocks3 (w : World) (a b c : Obj) {w1 : World} (h : Below (((w.alloc a).alloc b).alloc c).heap.size (((w.alloc a).alloc b).alloc c) w1) :
    w1.heap[w.heap.size]? = some a ∧ w1.heap[w.heap.size + 1]? = some b ∧ w1.heap[w.heap.size + 1 + 1]? = some c := by
  have e1 : (w.alloc a).heap.size = w.heap.size + 1 := by simp
  have e2 : ((w.alloc a).alloc b).heap.size = w.heap.size + 1 + 1 := by simp
  refine ⟨blk_below (blk_alloc (blk_alloc (blk_new w a) b) c) h, ?_, ?_⟩
  · rw [← e1]; exact blk_below (blk_alloc (blk_new (w.alloc a) b) c) h
  · rw [← e2]; exact blk_below (blk_new ((w.alloc a).alloc b) c) h

set_option maxHeartbeats 800000 in
theorem total_lit (A : Option Addr) (c0 : Nat) (l : List Int) (most next : Int) (w : World) (hl : l.length ≤ 40) (hc : l.length ≤ c0) (hr : (Kd.int .i64).C w A l.length l) (hw : ∀ x ∈ l, (Lit.int .i64 x).wf = true)
    (h1 : 1 ≤ next) (h2 : next ≤ 65537) (h3 : 0 ≤ most) (h4 : most ≤ 1099511627776) (h : apartB l next = false) :
    Calls Try.prog 11 #[.slice A l.length c0, .int .i64 most, .int .i64 next] w (TotalPost ([], [], 0, 140) w) := by
  have HC := Aside0.mk (fun W (hb : Below w.heap.size w W) => apart_calls A c0 l next W (Kd.C_below hr hb) hc (by omega) hw)
  go_enter Try.func11, Try.ntmps11
  go_wp2_with (first | (go_at_call 21; refine (HC.out _ (below3 w _ _ _)).mono ?_; rintro e w1 ⟨rfl, hb1⟩; have HB1 := Aside0.mk ((below3 w _ _ _).trans (hb1.mono (below3 w _ _ _).size)); have hbl := (blocks3 w _ _ _ hb1); have hcc := blk_cell hbl.2.2 0; have hcf := blk_frozen hbl.2.2 0; have hcs := blk_cell (blk_set hbl.2.2 0 (.slice none 0 0)) 0; clear hbl; rw [h]; clear hb1))
  exact bodyPost_ret (v := .tuple #[.slice none 0 0, .slice none 0 0, .int .i64 0, .int .i64 140]) (by simp [results, Try.results11, go_sem, hcs]) rfl (totalPost_nil _ _ _ _ (HB1.out.setCell (by show w.heap.size ≤ w.heap.size + 1 + 1; omega) _))

theorem box_new (w : World) (o : Value) (t : TypeId) : (w.alloc (.cells #[o] t)).cell? ⟨w.heap.size, 0, none⟩ = some o ∧ (w.alloc (.cells #[o] t)).frozen? ⟨w.heap.size, 0, none⟩ = false :=
  ⟨blk_cell (blk_new w _) 0, blk_frozen (blk_new w _) 0⟩

/-- The variables as they are laid. -/
abbrev tb0 (w w1 : World) : TB := ⟨w.heap.size, w1.heap.size + 1 + 1 + 1 + 1, w.heap.size, w.heap.size + 1, w.heap.size + 1 + 1, w1.heap.size, w1.heap.size + 1, w1.heap.size + 1 + 1, w1.heap.size + 1 + 1 + 1⟩

theorem blocks4 (w : World) (a b c d : Obj) :
    ((((w.alloc a).alloc b).alloc c).alloc d).heap[w.heap.size]? = some a ∧ ((((w.alloc a).alloc b).alloc c).alloc d).heap[w.heap.size + 1]? = some b ∧ ((((w.alloc a).alloc b).alloc c).alloc d).heap[w.heap.size + 1 + 1]? = some c ∧ ((((w.alloc a).alloc b).alloc c).alloc d).heap[w.heap.size + 1 + 1 + 1]? = some d := by
  have e1 : (w.alloc a).heap.size = w.heap.size + 1 := by simp
  have e2 : ((w.alloc a).alloc b).heap.size = w.heap.size + 1 + 1 := by simp
  have e3 : (((w.alloc a).alloc b).alloc c).heap.size = w.heap.size + 1 + 1 + 1 := by simp
  refine ⟨blk_alloc (blk_alloc (blk_alloc (blk_new w a) b) c) d, ?_, ?_, ?_⟩
  · rw [← e1]; exact blk_alloc (blk_alloc (blk_new (w.alloc a) b) c) d
  · rw [← e2]; exact blk_alloc (blk_new ((w.alloc a).alloc b) c) d
  · rw [← e3]; exact blk_new (((w.alloc a).alloc b).alloc c) d

theorem below4 (w : World) (a b c d : Obj) : Below w.heap.size w ((((w.alloc a).alloc b).alloc c).alloc d) :=
  below_alloc (below_alloc (below_alloc (below_alloc (Below.refl _ _) a) b) c) d

/-- The world in which count is called. -/
abbrev laid (w w1 : World) : World :=
  (((w1.alloc (Obj.cells #[.func (.func 22) #[] #[.pointer (some ⟨w.heap.size + 1 + 1, 0, none⟩)]] 46)).alloc (Obj.cells #[.func (.func 23) #[] #[]] 47)).alloc (Obj.cells #[.bool false] 4)).alloc
    (Obj.cells #[.func (.func 24) #[] #[.pointer (some ⟨w1.heap.size + 1 + 1, 0, none⟩), .pointer (some ⟨w1.heap.size + 1 + 1 + 1, 0, none⟩), .pointer (some ⟨w.heap.size, 0, none⟩), .pointer (some ⟨w.heap.size + 1, 0, none⟩), .pointer (some ⟨w1.heap.size, 0, none⟩), .pointer (some ⟨w1.heap.size + 1, 0, none⟩)]] 47)

theorem st_start (w w1 : World) (most next : Int) (h : w1.heap[w.heap.size]? = some (.cells #[.int .i64 most] 3 (0, 0)) ∧ w1.heap[w.heap.size + 1]? = some (.cells #[.int .i64 next] 3 (0, 0)) ∧ w1.heap[w.heap.size + 1 + 1]? = some (.cells #[.slice none 0 0] 24 (0, 0))) :
    (tb0 w w1).St (laid w w1) most next false (.slice none 0 0) [] := by
  have hb := fun {a b c d : Obj} => below4 w1 a b c d
  have hl := blk_lt h.2.2
  obtain ⟨b1, b2, b3, b4⟩ := blocks4 w1 (Obj.cells #[.func (.func 22) #[] #[.pointer (some ⟨w.heap.size + 1 + 1, 0, none⟩)]] 46) (Obj.cells #[.func (.func 23) #[] #[]] 47) (Obj.cells #[.bool false] 4)
    (Obj.cells #[.func (.func 24) #[] #[.pointer (some ⟨w1.heap.size + 1 + 1, 0, none⟩), .pointer (some ⟨w1.heap.size + 1 + 1 + 1, 0, none⟩), .pointer (some ⟨w.heap.size, 0, none⟩), .pointer (some ⟨w.heap.size + 1, 0, none⟩), .pointer (some ⟨w1.heap.size, 0, none⟩), .pointer (some ⟨w1.heap.size + 1, 0, none⟩)]] 47)
  exact ⟨blk_below h.1 hb, blk_below h.2.1 hb, blk_below h.2.2 hb, b1, b2, b3, b4, Kd.R_nil _ _ _ _ _, by show w.heap.size ≠ w.heap.size + 1; omega,
    by show w.heap.size ≤ w.heap.size + 1 ∧ w.heap.size ≤ w.heap.size + 1 + 1 ∧ w.heap.size ≤ w1.heap.size + 1 + 1 ∧ w.heap.size ≤ w1.heap.size + 1 + 1 + 1 + 1; omega,
    by show w.heap.size < w1.heap.size + 1 + 1 + 1 + 1 ∧ w.heap.size + 1 < w1.heap.size + 1 + 1 + 1 + 1 ∧ w.heap.size + 1 + 1 < w1.heap.size + 1 + 1 + 1 + 1 ∧ w1.heap.size < w1.heap.size + 1 + 1 + 1 + 1 ∧ w1.heap.size + 1 < w1.heap.size + 1 + 1 + 1 + 1 ∧ w1.heap.size + 1 + 1 < w1.heap.size + 1 + 1 + 1 + 1 ∧ w1.heap.size + 1 + 1 + 1 < w1.heap.size + 1 + 1 + 1 + 1; omega,
    by simp [laid]⟩

theorem fr_below {w w1 w2 : World} (h : Below w.heap.size w w1) (hf : (tb0 w w1).Fr (laid w w1) w2) : Below w.heap.size w w2 :=
  (h.trans ((below4 w1 _ _ _ _).mono h.size)).trans ⟨hf.os, hf.tape, hf.output, hf.size, fun k hk => hf.block k (Nat.lt_of_lt_of_le hk (h.trans ((below4 w1 _ _ _ _).mono h.size)).size) (.inl hk)⟩

/-- What total.Total answers when its arguments are good and something is to be counted. -/
def mainS (l : List Int) (most next : Int) : List Int × List (List Int) × Int × Int :=
  let r := cnt most l.length ⟨next, false, []⟩ l
  if r.2.full = true then ([], [], 0, 2) else (r.1, r.2.cs, r.2.next, 0)

set_option maxRecDepth 100000 in
set_option maxHeartbeats 1600000 in
theorem total_main (A : Option Addr) (c0 : Nat) (l : List Int) (most next : Int) (w : World) (hl : l.length ≤ 40) (hc : l.length ≤ c0) (hr : (Kd.int .i64).C w A l.length l) (hw : ∀ x ∈ l, (Lit.int .i64 x).wf = true)
    (h1 : 1 ≤ next) (h2 : next ≤ 65537) (h3 : 1 ≤ most) (h4 : most ≤ 1099511627776) (h : apartB l next = true) (h0 : 1 ≤ l.length) :
    Calls Try.prog 11 #[.slice A l.length c0, .int .i64 most, .int .i64 next] w (TotalPost (mainS l most next) w) := by
  have HC := Aside0.mk (fun W (hb : Below w.heap.size w W) => apart_calls A c0 l next W (Kd.C_below hr hb) hc (by omega) hw)
  obtain ⟨r, hrr⟩ : ∃ r, cnt most l.length ⟨next, false, []⟩ l = r := ⟨_, rfl⟩
  have HM := Aside0.mk (show mainS l most next = if r.2.full = true then ([], [], 0, 2) else (r.1, r.2.cs, r.2.next, 0) from by rw [← hrr]; rfl)
  have HT := Aside0.mk (fun (w1 : World) (hb : Below w.heap.size w w1) (hbl : _) => count_calls (tb0 w w1) most h3 h4 l.length A c0 l ⟨next, false, []⟩ (.slice none 0 0) (laid w w1) h0 (Nat.le_refl _) hl hc h1 h2 (by simp; omega) (st_start w w1 most next hbl) (TB.SC.came hr rfl (hb.trans ((below4 w1 _ _ _ _).mono hb.size))))
  have HL := Aside0.mk (cnt_len (most := most) l.length ⟨next, false, []⟩ l)
  have h5b : ((l.length : Int) == 0) = false := by simpa using List.ne_nil_of_length_pos h0
  have h5c : (most == 0) = false := by simpa using fun e : most = 0 => by omega
  rw [hrr] at HT HL
  clear hc hr hw hrr
  obtain ⟨fu, hfu⟩ : ∃ fu, r.2.full = fu := ⟨_, rfl⟩
  cases fu with
  | true =>
    have hM := HM.out
    rw [if_pos hfu] at hM
    rw [hM]
    clear hM
    go_enter Try.func11, Try.ntmps11
    go_wp2_with (first | (go_at_call 21; refine (HC.out _ (below3 w _ _ _)).mono ?_; rintro e w1 ⟨rfl, hb1⟩; have HB1 := Aside0.mk ((below3 w _ _ _).trans (hb1.mono (below3 w _ _ _).size)); have HBL := Aside0.mk (blocks3 w _ _ _ hb1); have hcm := blk_cell HBL.out.1 0; rw [h]; clear hb1) | (go_at_call 24; refine (HT.out w1 HB1.out HBL.out).mono ?_; rintro e w2 ⟨A1, c1, v1, rfl, hc1, hsc1, hst1, hfr1⟩; rw [hfu] at hst1; have HC1 := Aside0.mk hc1; have HSC := Aside0.mk hsc1; have HS := Aside0.mk hst1; have HF := Aside0.mk hfr1; have hcf : w2.cell? ⟨w1.heap.size + 1 + 1, 0, none⟩ = some (.bool true) := blk_cell hst1.f 0; have hcc : w2.cell? ⟨w.heap.size + 1 + 1, 0, none⟩ = some v1 := blk_cell hst1.c 0; have hfc : w2.frozen? ⟨w.heap.size + 1 + 1, 0, none⟩ = false := blk_frozen hst1.c 0; have hcs : (w2.setCell ⟨w.heap.size + 1 + 1, 0, none⟩ (.slice none 0 0)).cell? ⟨w.heap.size + 1 + 1, 0, none⟩ = some (.slice none 0 0) := blk_cell (blk_set hst1.c 0 (.slice none 0 0)) 0; clear hc1 hsc1 hst1 hfr1))
    exact bodyPost_ret (v := .tuple #[.slice none 0 0, .slice none 0 0, .int .i64 0, .int .i64 2]) (by simp [results, Try.results11, go_sem, hcs]) rfl (totalPost_nil _ _ _ _ ((fr_below HB1.out HF.out).setCell (by show w.heap.size ≤ w.heap.size + 1 + 1; omega) _))
  | false =>
    have hM := HM.out
    rw [if_neg (by rw [hfu]; decide)] at hM
    rw [hM]
    clear hM
    have hr1 := HL.out
    go_enter Try.func11, Try.ntmps11
    go_wp2_with (first | (go_at_call 21; refine (HC.out _ (below3 w _ _ _)).mono ?_; rintro e w1 ⟨rfl, hb1⟩; have HB1 := Aside0.mk ((below3 w _ _ _).trans (hb1.mono (below3 w _ _ _).size)); have HBL := Aside0.mk (blocks3 w _ _ _ hb1); have hcm := blk_cell HBL.out.1 0; rw [h]; clear hb1) | (go_at_call 24; refine (HT.out w1 HB1.out HBL.out).mono ?_; rintro e w2 ⟨A1, c1, v1, rfl, hc1, hsc1, hst1, hfr1⟩; rw [hfu] at hst1; have HC1 := Aside0.mk hc1; have HSC := Aside0.mk hsc1; have HS := Aside0.mk hst1; have HF := Aside0.mk hfr1; have hcf : w2.cell? ⟨w1.heap.size + 1 + 1, 0, none⟩ = some (.bool false) := blk_cell hst1.f 0; have hcc : w2.cell? ⟨w.heap.size + 1 + 1, 0, none⟩ = some v1 := blk_cell hst1.c 0; have hcn : w2.cell? ⟨w.heap.size + 1, 0, none⟩ = some (.int .i64 r.2.next) := blk_cell hst1.n 0; have hfc : w2.frozen? ⟨w.heap.size + 1 + 1, 0, none⟩ = false := blk_frozen hst1.c 0; have hcs : (w2.setCell ⟨w.heap.size + 1 + 1, 0, none⟩ v1).cell? ⟨w.heap.size + 1 + 1, 0, none⟩ = some v1 := blk_cell (blk_set hst1.c 0 v1) 0; clear hc1 hsc1 hst1 hfr1))
    obtain ⟨Av, cv, ev⟩ := Kd.R_slice HS.out.rows
    subst ev
    have d1 : w2.drew.cell? ⟨w.heap.size + 1 + 1, 0, none⟩ = some (.slice Av r.2.cs.length cv) := hcc
    have d2 : w2.drew.cell? ⟨w.heap.size + 1, 0, none⟩ = some (.int .i64 r.2.next) := hcn
    have d3 : w2.drew.frozen? ⟨w.heap.size + 1 + 1, 0, none⟩ = false := hfc
    have HSD := Aside0.mk HS.out.drew
    have HRD := Aside0.mk (HSC.out _ (TB.Fr.refl _ w2).drew)
    have HBD := Aside0.mk (below_drew (fr_below HB1.out HF.out))
    have hszd := HSD.out.size
    clear hcc hcn hfc hcs hcf
    go_region_held3 (fun W => W.cell? ⟨w.heap.size + 1 + 1, 0, none⟩ = some (.slice Av r.2.cs.length cv) ∧ W.cell? ⟨w.heap.size + 1, 0, none⟩ = some (.int .i64 r.2.next) ∧ W.frozen? ⟨w.heap.size + 1 + 1, 0, none⟩ = false) (first | exact ⟨d1, d2, d3⟩ | exact ⟨e1, e2, e3⟩) (first | (refine Kd.R_append_rows_step (Kd.int .i64) (Rr := (Kd.int .i64).K w2.drew) (w0 := w2.drew) (w1.heap.size + 1 + 1 + 1 + 1) (by rfl) (.const (.slice none 0 0)) (.tmp 44) 22 3 (.int .i64 0) 8 rfl Try.underlying22 infoT3 rfl (by decide) (by decide) (.slice none 0 0) [] r.1 A1 r.1.length c1 (fun k => w1.heap.size + 1 + 1 + 1 + 1 ≤ k) (fun _ => False) rfl rfl (Kd.R_nil _ _ _ _ _) HRD.out (fun x cs h => h) (fun _ h => h.elim) (fun k hk => Nat.le_trans hszd hk) (Below.refl _ _) hszd (by simp; omega) ?_; intro v3 w3 ho hb hg hat; have HO3 := Aside0.mk ho; have HG3 := Aside0.mk ((Below.refl w2.drew.heap.size w2.drew).grown hg (Nat.le_refl _) (fun k hk => by cases hk)); have HA3 := Aside0.mk hat; have HS3 := Aside0.mk (HSD.out.below HG3.out); have d1 : w3.cell? ⟨w.heap.size + 1 + 1, 0, none⟩ = some (.slice Av r.2.cs.length cv) := blk_cell HS3.out.c 0; have d2 : w3.cell? ⟨w.heap.size + 1, 0, none⟩ = some (.int .i64 r.2.next) := blk_cell HS3.out.n 0; have d3 : w3.frozen? ⟨w.heap.size + 1 + 1, 0, none⟩ = false := blk_frozen HS3.out.c 0; have e1 : (w3.setCell ⟨w.heap.size + 1 + 1, 0, none⟩ (.slice Av r.2.cs.length cv)).cell? ⟨w.heap.size + 1 + 1, 0, none⟩ = some (.slice Av r.2.cs.length cv) := blk_cell (blk_set HS3.out.c 0 (.slice Av r.2.cs.length cv)) 0; have e2 : (w3.setCell ⟨w.heap.size + 1 + 1, 0, none⟩ (.slice Av r.2.cs.length cv)).cell? ⟨w.heap.size + 1, 0, none⟩ = some (.int .i64 r.2.next) := blk_cell (blk_far HS3.out.n (blk_ne HS3.out.n HS3.out.c (by decide)) (.slice Av r.2.cs.length cv)) 0; have e3 : (w3.setCell ⟨w.heap.size + 1 + 1, 0, none⟩ (.slice Av r.2.cs.length cv)).frozen? ⟨w.heap.size + 1 + 1, 0, none⟩ = false := blk_frozen (blk_set HS3.out.c 0 (.slice Av r.2.cs.length cv)) 0; clear ho hb hg hat))
    have HP := Aside0.mk (show TotalPost (r.1, r.2.cs, r.2.next, 0) w (.returned (.tuple #[v3, .slice Av r.2.cs.length cv, .int .i64 r.2.next, .int .i64 0])) (w3.setCell ⟨w.heap.size + 1 + 1, 0, none⟩ (.slice Av r.2.cs.length cv)) from by
      have hlt : w.heap.size + 1 + 1 < w1.heap.size + 1 + 1 + 1 + 1 := HS3.out.lt.2.2.1
      have hle : w.heap.size ≤ w1.heap.size + 1 + 1 + 1 + 1 := by omega
      have hfr : ∀ k, v3.ownBlock = some k → w2.drew.heap.size ≤ k := fun k hk => by
        rcases HA3.out with e | ⟨b, e, hb⟩
        · rw [hk] at e; cases e
        · rw [hk] at e; cases e; exact hb
      refine ⟨_, _, rfl, ?_, ?_, ?_⟩
      · have h := HO3.out
        rw [List.nil_append] at h
        exact Kd.R_mono (Kd.R_lower (Kd.R_far h (fun k hk => by show k ≠ w.heap.size + 1 + 1; omega) _) hle) (fun k hk => Nat.le_trans hle hk)
      · have h : KRows.R 22 w2.drew (w1.heap.size + 1 + 1 + 1 + 1) (fun k => w1.heap.size + 1 + 1 + 1 + 1 ≤ k) (.slice Av r.2.cs.length cv) r.2.cs := Kd.R_mono (Kd.R_bound HSD.out.rows) (fun k hk => hk.2.1)
        have h2 := Kd.R_N (Kd.R_elder' h hfr HG3.out)
        exact Kd.N_mono (Kd.N_lower (Kd.N_far h2 (fun k hk => by have := hk.1; show k ≠ w.heap.size + 1 + 1; omega) _) hle) (fun k hk => ⟨Nat.le_trans hle hk.1, hk.2⟩)
      · exact (HBD.out.trans (HG3.out.mono HBD.out.size)).setCell (by show w.heap.size ≤ w.heap.size + 1 + 1; omega) _)
    go_wp2
    exact bodyPost_ret (v := .tuple #[v3, .slice Av r.2.cs.length cv, .int .i64 r.2.next, .int .i64 0]) (by simp [results, Try.results11, go_sem, e1]) rfl HP.out

set_option maxHeartbeats 800000 in
theorem total_none (A : Option Addr) (c0 : Nat) (l : List Int) (most next : Int) (w : World) (hl : l.length ≤ 40) (hc : l.length ≤ c0) (hr : (Kd.int .i64).C w A l.length l) (hw : ∀ x ∈ l, (Lit.int .i64 x).wf = true)
    (h1 : 1 ≤ next) (h2 : next ≤ 65537) (h3 : 0 ≤ most) (h4 : most ≤ 1099511627776) (h : apartB l next = true) (h0 : l.length = 0 ∨ most = 0) :
    Calls Try.prog 11 #[.slice A l.length c0, .int .i64 most, .int .i64 next] w (TotalPost ([], [], next, 0) w) := by
  have HC := Aside0.mk (fun W (hb : Below w.heap.size w W) => apart_calls A c0 l next W (Kd.C_below hr hb) hc (by omega) hw)
  by_cases h5 : l.length = 0
  · have h5b : ((l.length : Int) == 0) = true := by simpa using h5
    have H5 := Aside0.mk h5
    clear h5 h0
    go_enter Try.func11, Try.ntmps11
    go_wp2_with (first | (go_at_call 21; refine (HC.out _ (below3 w _ _ _)).mono ?_; rintro e w1 ⟨rfl, hb1⟩; have HB1 := Aside0.mk ((below3 w _ _ _).trans (hb1.mono (below3 w _ _ _).size)); have HBL := Aside0.mk (blocks3 w _ _ _ hb1); have hcm := blk_cell HBL.out.1 0; rw [h]; clear hb1))
    have d1 : w1.drew.cell? ⟨w.heap.size + 1 + 1, 0, none⟩ = some (.slice none 0 0) := blk_cell HBL.out.2.2 0
    have d2 : w1.drew.cell? ⟨w.heap.size + 1, 0, none⟩ = some (.int .i64 next) := blk_cell HBL.out.2.1 0
    have d3 : w1.drew.frozen? ⟨w.heap.size + 1 + 1, 0, none⟩ = false := blk_frozen HBL.out.2.2 0
    have e0 := blk_set (show w1.drew.heap[w.heap.size + 1 + 1]? = _ from HBL.out.2.2) 0 (.slice none 0 0)
    have e1 : (w1.drew.setCell ⟨w.heap.size + 1 + 1, 0, none⟩ (.slice none 0 0)).cell? ⟨w.heap.size + 1 + 1, 0, none⟩ = some (.slice none 0 0) := blk_cell e0 0
    have e2 : (w1.drew.setCell ⟨w.heap.size + 1 + 1, 0, none⟩ (.slice none 0 0)).cell? ⟨w.heap.size + 1, 0, none⟩ = some (.int .i64 next) := blk_cell (blk_far (show w1.drew.heap[w.heap.size + 1]? = _ from HBL.out.2.1) (by show w.heap.size + 1 ≠ w.heap.size + 1 + 1; omega) (.slice none 0 0)) 0
    have e3 : (w1.drew.setCell ⟨w.heap.size + 1 + 1, 0, none⟩ (.slice none 0 0)).frozen? ⟨w.heap.size + 1 + 1, 0, none⟩ = false := blk_frozen e0 0
    have e4 : (w1.setCell ⟨w.heap.size + 1 + 1, 0, none⟩ (.slice none 0 0)).cell? ⟨w.heap.size + 1 + 1, 0, none⟩ = some (.slice none 0 0) := e1
    clear e0
    go_region_held3 (fun W => W.cell? ⟨w.heap.size + 1 + 1, 0, none⟩ = some (.slice none 0 0) ∧ W.cell? ⟨w.heap.size + 1, 0, none⟩ = some (.int .i64 next) ∧ W.frozen? ⟨w.heap.size + 1 + 1, 0, none⟩ = false) (first | exact ⟨d1, d2, d3⟩ | exact ⟨e1, e2, e3⟩) (fail)
    go_wp2
    exact bodyPost_ret (v := .tuple #[.slice none 0 0, .slice none 0 0, .int .i64 next, .int .i64 0]) (by simp [results, Try.results11, go_sem, e4]) rfl (totalPost_nil _ _ _ _ ((below_drew HB1.out).setCell (by show w.heap.size ≤ w.heap.size + 1 + 1; omega) _))
  · have h6 : (most == 0) = true := by simp; omega
    have h5b : ((l.length : Int) == 0) = false := by simpa using h5
    have H5 := Aside0.mk h0
    clear h5 h0
    go_enter Try.func11, Try.ntmps11
    go_wp2_with (first | (go_at_call 21; refine (HC.out _ (below3 w _ _ _)).mono ?_; rintro e w1 ⟨rfl, hb1⟩; have HB1 := Aside0.mk ((below3 w _ _ _).trans (hb1.mono (below3 w _ _ _).size)); have HBL := Aside0.mk (blocks3 w _ _ _ hb1); have hcm := blk_cell HBL.out.1 0; rw [h]; clear hb1))
    have d1 : w1.drew.cell? ⟨w.heap.size + 1 + 1, 0, none⟩ = some (.slice none 0 0) := blk_cell HBL.out.2.2 0
    have d2 : w1.drew.cell? ⟨w.heap.size + 1, 0, none⟩ = some (.int .i64 next) := blk_cell HBL.out.2.1 0
    have d3 : w1.drew.frozen? ⟨w.heap.size + 1 + 1, 0, none⟩ = false := blk_frozen HBL.out.2.2 0
    have e0 := blk_set (show w1.drew.heap[w.heap.size + 1 + 1]? = _ from HBL.out.2.2) 0 (.slice none 0 0)
    have e1 : (w1.drew.setCell ⟨w.heap.size + 1 + 1, 0, none⟩ (.slice none 0 0)).cell? ⟨w.heap.size + 1 + 1, 0, none⟩ = some (.slice none 0 0) := blk_cell e0 0
    have e2 : (w1.drew.setCell ⟨w.heap.size + 1 + 1, 0, none⟩ (.slice none 0 0)).cell? ⟨w.heap.size + 1, 0, none⟩ = some (.int .i64 next) := blk_cell (blk_far (show w1.drew.heap[w.heap.size + 1]? = _ from HBL.out.2.1) (by show w.heap.size + 1 ≠ w.heap.size + 1 + 1; omega) (.slice none 0 0)) 0
    have e3 : (w1.drew.setCell ⟨w.heap.size + 1 + 1, 0, none⟩ (.slice none 0 0)).frozen? ⟨w.heap.size + 1 + 1, 0, none⟩ = false := blk_frozen e0 0
    have e4 : (w1.setCell ⟨w.heap.size + 1 + 1, 0, none⟩ (.slice none 0 0)).cell? ⟨w.heap.size + 1 + 1, 0, none⟩ = some (.slice none 0 0) := e1
    clear e0
    go_region_held3 (fun W => W.cell? ⟨w.heap.size + 1 + 1, 0, none⟩ = some (.slice none 0 0) ∧ W.cell? ⟨w.heap.size + 1, 0, none⟩ = some (.int .i64 next) ∧ W.frozen? ⟨w.heap.size + 1 + 1, 0, none⟩ = false) (first | exact ⟨d1, d2, d3⟩ | exact ⟨e1, e2, e3⟩) (fail)
    go_wp2
    exact bodyPost_ret (v := .tuple #[.slice none 0 0, .slice none 0 0, .int .i64 next, .int .i64 0]) (by simp [results, Try.results11, go_sem, e4]) rfl (totalPost_nil _ _ _ _ ((below_drew HB1.out).setCell (by show w.heap.size ≤ w.heap.size + 1 + 1; omega) _))

/-- What total.Total answers to literals in Go's range, no more than 40. -/
def totalOf (l : List Int) (most next : Int) : List Int × List (List Int) × Int × Int :=
  if next < 1 ∨ 65537 < next ∨ most < 0 ∨ 1099511627776 < most then ([], [], 0, 1)
  else if apartB l next = false then ([], [], 0, 140)
  else if l.length = 0 ∨ most = 0 then ([], [], next, 0)
  else mainS l most next

theorem total_calls (A : Option Addr) (c0 : Nat) (l : List Int) (most next : Int) (w : World) (hl : l.length ≤ 40) (hc : l.length ≤ c0) (hr : (Kd.int .i64).C w A l.length l) (hw : ∀ x ∈ l, (Lit.int .i64 x).wf = true) :
    Calls Try.prog 11 #[.slice A l.length c0, .int .i64 most, .int .i64 next] w (TotalPost (totalOf l most next) w) := by
  unfold totalOf
  by_cases h1 : next < 1 ∨ 65537 < next ∨ most < 0 ∨ 1099511627776 < most
  · rw [if_pos h1]; exact total_arg A c0 l most next w hl h1
  rw [if_neg h1]
  by_cases h2 : apartB l next = false
  · rw [if_pos h2]; exact total_lit A c0 l most next w hl hc hr hw (by omega) (by omega) (by omega) (by omega) h2
  rw [if_neg h2]
  have h2' : apartB l next = true := by simpa using h2
  by_cases h3 : l.length = 0 ∨ most = 0
  · rw [if_pos h3]; exact total_none A c0 l most next w hl hc hr hw (by omega) (by omega) (by omega) (by omega) h2' h3
  rw [if_neg h3]
  exact total_main A c0 l most next w hl hc hr hw (by omega) (by omega) (by omega) (by omega) h2' (by omega)

#print axioms total_calls

end Go.Proofs.Ytdkfhpgbiohhoaa.G
