/-
  The reference's Total: the walk.
-/
import Derived.Test.YtdkfhpgbiohhoaaGRefPure
import Derived.Test.YtdkfhpgbiohhoaaGRefStep
import Derived.Test.YtdkfhpgbiohhoaaGTotal
namespace Go.Proofs.Ytdkfhpgbiohhoaa.G
set_option linter.unusedVariables false
set_option linter.unusedSimpArgs false
open Go.RowKit Go.Proofs.YtdkfhpgbiohhoaaW.PrintWords Go.Proofs.YtdkfhpgbiohhoaaW.PrintLast Go.Proofs.YtdkfhpgbiohhoaaW.PrintMore
attribute [local go_sem] max2_int min2_int max_two min_two max_three min_three max_four min_four

set_option maxHeartbeats 800000 in
theorem rtotal_arg (A : Option Addr) (c0 : Nat) (l : List Int) (most next : Int) (w : World) (hl : l.length ≤ 40) (h : next < 1 ∨ 65537 < next ∨ most < 0 ∨ 1099511627776 < most) :
    Calls Try.prog 12 #[.slice A l.length c0, .int .i64 most, .int .i64 next] w (TotalPost ([], [], 0, 1) w) := by
  by_cases h1 : next < 1
  · go_enter Try.func12, Try.ntmps12
    go_wp2
    exact bodyPost_ret (v := .tuple #[.slice none 0 0, .slice none 0 0, .int .i64 0, .int .i64 1]) (by simp [results, Try.results12, go_sem]) rfl (totalPost_nil _ _ _ _ (Below.refl _ _))
  by_cases h2 : 65537 < next
  · go_enter Try.func12, Try.ntmps12
    go_wp2
    exact bodyPost_ret (v := .tuple #[.slice none 0 0, .slice none 0 0, .int .i64 0, .int .i64 1]) (by simp [results, Try.results12, go_sem]) rfl (totalPost_nil _ _ _ _ (Below.refl _ _))
  by_cases h3 : most < 0
  · go_enter Try.func12, Try.ntmps12
    go_wp2
    exact bodyPost_ret (v := .tuple #[.slice none 0 0, .slice none 0 0, .int .i64 0, .int .i64 1]) (by simp [results, Try.results12, go_sem]) rfl (totalPost_nil _ _ _ _ (Below.refl _ _))
  have h4 : 1099511627776 < most := by omega
  clear h
  go_enter Try.func12, Try.ntmps12
  go_wp2
  exact bodyPost_ret (v := .tuple #[.slice none 0 0, .slice none 0 0, .int .i64 0, .int .i64 1]) (by simp [results, Try.results12, go_sem]) rfl (totalPost_nil _ _ _ _ (Below.refl _ _))

set_option maxHeartbeats 800000 in
theorem rtotal_lit (A : Option Addr) (c0 : Nat) (l : List Int) (most next : Int) (w : World) (hl : l.length ≤ 40) (hc : l.length ≤ c0) (hr : (Kd.int .i64).C w A l.length l) (hw : ∀ x ∈ l, (Lit.int .i64 x).wf = true)
    (h1 : 1 ≤ next) (h2 : next ≤ 65537) (h3 : 0 ≤ most) (h4 : most ≤ 1099511627776) (h : apartB l next = false) :
    Calls Try.prog 12 #[.slice A l.length c0, .int .i64 most, .int .i64 next] w (TotalPost ([], [], 0, 140) w) := by
  have hL := lits_f l next h1 h2 (by omega) hw
  rw [h] at hL
  have HC := Aside0.mk (QRef.chalklineref15_Lits.calls (l.length + 1) A c0 l next _ w hr hc hL)
  clear hL hr hw hc h
  go_enter Try.func12, Try.ntmps12
  go_wp2_with ((go_at_call 26; refine HC.out.mono ?_; rintro e w1 ⟨rfl, hb1⟩; have HB1 := Aside0.mk hb1; clear hb1))
  exact bodyPost_ret (v := .tuple #[.slice none 0 0, .slice none 0 0, .int .i64 0, .int .i64 140]) (by simp [results, Try.results12, go_sem]) rfl (totalPost_nil _ _ _ _ HB1.out)

set_option maxHeartbeats 800000 in
theorem rtotal_none (A : Option Addr) (c0 : Nat) (l : List Int) (most next : Int) (w : World) (hl : l.length ≤ 40) (hc : l.length ≤ c0) (hr : (Kd.int .i64).C w A l.length l) (hw : ∀ x ∈ l, (Lit.int .i64 x).wf = true)
    (h1 : 1 ≤ next) (h2 : next ≤ 65537) (h3 : 0 ≤ most) (h4 : most ≤ 1099511627776) (h : apartB l next = true) (h0 : l.length = 0 ∨ most = 0) :
    Calls Try.prog 12 #[.slice A l.length c0, .int .i64 most, .int .i64 next] w (TotalPost ([], [], next, 0) w) := by
  have hL := lits_f l next h1 h2 (by omega) hw
  rw [h] at hL
  have HC := Aside0.mk (QRef.chalklineref15_Lits.calls (l.length + 1) A c0 l next _ w hr hc hL)
  clear hL hr hw hc h
  by_cases h5 : l.length = 0
  · have h5b : ((l.length : Int) == 0) = true := by simpa using h5
    have H5 := Aside0.mk h5
    clear h5 h0
    go_enter Try.func12, Try.ntmps12
    go_wp2_with ((go_at_call 26; refine HC.out.mono ?_; rintro e w1 ⟨rfl, hb1⟩; have HB1 := Aside0.mk hb1; clear hb1))
    exact bodyPost_ret (v := .tuple #[.slice none 0 0, .slice none 0 0, .int .i64 next, .int .i64 0]) (by simp [results, Try.results12, go_sem]) rfl (totalPost_nil _ _ _ _ HB1.out)
  · have h6 : (most == 0) = true := by simp; omega
    have h5b : ((l.length : Int) == 0) = false := by simpa using h5
    have H5 := Aside0.mk h0
    clear h5 h0
    go_enter Try.func12, Try.ntmps12
    go_wp2_with ((go_at_call 26; refine HC.out.mono ?_; rintro e w1 ⟨rfl, hb1⟩; have HB1 := Aside0.mk hb1; clear hb1))
    exact bodyPost_ret (v := .tuple #[.slice none 0 0, .slice none 0 0, .int .i64 next, .int .i64 0]) (by simp [results, Try.results12, go_sem]) rfl (totalPost_nil _ _ _ _ HB1.out)

set_option maxRecDepth 100000 in
set_option maxHeartbeats 1600000 in
theorem rtotal_main (A : Option Addr) (c0 : Nat) (l : List Int) (most next : Int) (w : World) (hl : l.length ≤ 40) (hc : l.length ≤ c0) (hr : (Kd.int .i64).C w A l.length l) (hw : ∀ x ∈ l, (Lit.int .i64 x).wf = true)
    (h1 : 1 ≤ next) (h2 : next ≤ 65537) (h3 : 1 ≤ most) (h4 : most ≤ 1099511627776) (h : apartB l next = true) (h0 : 1 ≤ l.length) :
    Calls Try.prog 12 #[.slice A l.length c0, .int .i64 most, .int .i64 next] w (TotalPost (mainS l most next) w) := by
  have hL := lits_f l next h1 h2 (by omega) hw
  rw [h] at hL
  have HC := Aside0.mk (QRef.chalklineref15_Lits.calls (l.length + 1) A c0 l next _ w hr hc hL)
  have HV := Aside0.mk (fun (W : World) => QRef.chalklineref15_vars.calls l.length (l.length : Int) most _ W (vars_f h3 l.length l.length h0 (Nat.le_refl _) hl))
  have hcv := cnt_vars h3 l.length ⟨next, false, []⟩ l h0 (Nat.le_refl _) hl rfl h2
  have hvb := Vf_bound h3 l.length l.length h0 (Nat.le_refl _) hl
  obtain ⟨V, hV⟩ : ∃ V, Vf most l.length l.length = V := ⟨_, rfl⟩
  rw [hV] at HV hcv hvb
  have h5b : ((l.length : Int) == 0) = false := by simpa using List.ne_nil_of_length_pos h0
  have h5c : (most == 0) = false := by simpa using fun e : most = 0 => by omega
  clear hL hV h
  by_cases hfull : 65537 < next + V
  · have hM : mainS l most next = ([], [], 0, 2) := by
      unfold mainS
      dsimp only
      rw [if_pos (hcv.2 hfull)]
    rw [hM]
    clear hM hcv hr hw hc
    go_enter Try.func12, Try.ntmps12
    go_wp2_with (first | (go_at_call 26; refine HC.out.mono ?_; rintro e w1 ⟨rfl, hb1⟩; have HB1 := Aside0.mk hb1; clear hb1) | (go_at_call 27; refine (HV.out _).mono ?_; rintro e w2 ⟨rfl, hb2⟩; have HB2 := Aside0.mk (HB1.out.trans (hb2.mono HB1.out.size)); clear hb2))
    exact bodyPost_ret (v := .tuple #[.slice none 0 0, .slice none 0 0, .int .i64 0, .int .i64 2]) (by simp [results, Try.results12, go_sem]) rfl (totalPost_nil _ _ _ _ HB2.out)
  · obtain ⟨hf, hn⟩ := hcv.1 (show next + V ≤ 65537 by omega)
    have HT := Aside0.mk (fun (W : World) (hb : Below w.heap.size w W) => rcount_calls most h3 h4 l.length w.heap.size (fun k => w.heap.size ≤ k) A c0 l ⟨next, false, []⟩ (.slice none 0 0) W h0 (Nat.le_refl _) hl hc h1 h2 (by simp; omega) rfl hf (fun k hk => Nat.le_trans hb.size hk) (Kd.R_nil _ _ _ _ _) hb.size ((RSC.came hr (Nat.le_refl _)).next (RFr.of_below hb)))
    obtain ⟨r, hrr⟩ : ∃ r, cnt most l.length ⟨next, false, []⟩ l = r := ⟨_, rfl⟩
    have hM : mainS l most next = (r.1, r.2.cs, r.2.next, 0) := by
      unfold mainS
      dsimp only
      rw [if_neg (by rw [hf]; decide), hrr]
    rw [hM]
    rw [hrr] at HT
    clear hM hcv hr hw hc hf hn hrr
    go_enter Try.func12, Try.ntmps12
    go_wp2_with (first | (go_at_call 26; refine HC.out.mono ?_; rintro e w1 ⟨rfl, hb1⟩; have HB1 := Aside0.mk hb1; clear hb1) | (go_at_call 27; refine (HV.out _).mono ?_; rintro e w2 ⟨rfl, hb2⟩; have HB2 := Aside0.mk (HB1.out.trans (hb2.mono HB1.out.size)); clear hb2) | (go_at_call 28; refine (HT.out w2 HB2.out).mono ?_; rintro e w3 ⟨v1, v3, rfl, hR3, hR1, hf3⟩; obtain ⟨A3, c3, e3⟩ := Kd.R_slice hR3; subst e3; have HR3 := Aside0.mk hR3; have HR1 := Aside0.mk hR1; have HB3 := Aside0.mk (HB2.out.trans (hf3.below HB2.out.size)); clear hR3 hR1 hf3))
    have HP := Aside0.mk (show TotalPost (r.1, r.2.cs, r.2.next, 0) w (.returned (.tuple #[v1, .slice A3 r.2.cs.length c3, .int .i64 r.2.next, .int .i64 0])) ((w3.alloc (Obj.cells #[.slice A3 r.2.cs.length c3, .int .i64 r.2.next] 52)).drew) from by
      have hb := below_alloc (Below.refl w3.heap.size w3) (Obj.cells #[.slice A3 r.2.cs.length c3, .int .i64 r.2.next] 52)
      have hz := HB2.out.size
      exact ⟨v1, _, rfl, Kd.R_mono (Kd.R_drew (Kd.R_below HR1.out hb)) (fun k hk => Nat.le_trans hz hk), Kd.N_drew (Kd.R_N (Kd.R_below HR3.out hb)), below_drew (HB3.out.trans (hb.mono HB3.out.size))⟩)
    have d1 := blk_cell (show (w3.alloc (Obj.cells #[.slice A3 r.2.cs.length c3, .int .i64 r.2.next] 52)).drew.heap[w3.heap.size]? = _ from blk_new w3 _) 0
    have d2 := blk_cell (show (w3.alloc (Obj.cells #[.slice A3 r.2.cs.length c3, .int .i64 r.2.next] 52)).drew.heap[w3.heap.size]? = _ from blk_new w3 _) 1
    go_region_held3 (fun W => W.cell? ⟨w3.heap.size, 0, none⟩ = some (.slice A3 r.2.cs.length c3) ∧ W.cell? ⟨w3.heap.size, 1, none⟩ = some (.int .i64 r.2.next)) (exact ⟨d1, d2⟩) (fail)
    go_wp2
    exact bodyPost_ret (v := .tuple #[v1, .slice A3 r.2.cs.length c3, .int .i64 r.2.next, .int .i64 0]) (by simp [results, Try.results12, go_sem]) rfl HP.out

theorem rtotal_calls (A : Option Addr) (c0 : Nat) (l : List Int) (most next : Int) (w : World) (hl : l.length ≤ 40) (hc : l.length ≤ c0) (hr : (Kd.int .i64).C w A l.length l) (hw : ∀ x ∈ l, (Lit.int .i64 x).wf = true) :
    Calls Try.prog 12 #[.slice A l.length c0, .int .i64 most, .int .i64 next] w (TotalPost (totalOf l most next) w) := by
  unfold totalOf
  by_cases h1 : next < 1 ∨ 65537 < next ∨ most < 0 ∨ 1099511627776 < most
  · rw [if_pos h1]; exact rtotal_arg A c0 l most next w hl h1
  rw [if_neg h1]
  by_cases h2 : apartB l next = false
  · rw [if_pos h2]; exact rtotal_lit A c0 l most next w hl hc hr hw (by omega) (by omega) (by omega) (by omega) h2
  rw [if_neg h2]
  have h2' : apartB l next = true := by simpa using h2
  by_cases h3 : l.length = 0 ∨ most = 0
  · rw [if_pos h3]; exact rtotal_none A c0 l most next w hl hc hr hw (by omega) (by omega) (by omega) (by omega) h2' h3
  rw [if_neg h3]
  exact rtotal_main A c0 l most next w hl hc hr hw (by omega) (by omega) (by omega) (by omega) h2' (by omega)

#print axioms rtotal_calls

end Go.Proofs.Ytdkfhpgbiohhoaa.G
