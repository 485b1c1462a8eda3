/-
  prop.Prop: the walk.
-/
import Derived.Test.YtidgljajegoffaaPSim
import Derived.Deep.RegionWith
import Derived.Deep.RegionHeld3
import Derived.Deep.CutBlock
import Derived.Deep.DeepCutAuto
import Derived.WalkMore
namespace Go.Proofs.Ytidgljajegoffaa.G
set_option linter.unusedVariables false
set_option linter.unusedSimpArgs false
open Go.RowKit Go.Proofs.YtidgljajegoffaaW.PrintWords Go.Proofs.YtidgljajegoffaaW.PrintLast Go.Proofs.YtidgljajegoffaaW.PrintMore
open Go.Proofs.Ytidgljajegoffaa.QRef (S32 k32 k32_mkM rd_T32 at_T32 z32)

theorem chkT_lit {n : Int} {cs : List (List Int)} (hn : 0 ≤ n ∧ n ≤ 65536) : ∀ {t : List S32} {T : Int → Bool}, chkT n cs T t = 0 → ∀ s ∈ t, LitP s.f0
  | [], _, _, s, hs => by cases hs
  | s0 :: t, T, h, s, hs => by
    unfold chkT at h
    by_cases q1 : s0.f0 = 0
    · rw [if_pos q1] at h; cases h
    rw [if_neg q1] at h
    by_cases q2 : n < s0.f0
    · rw [if_pos q2] at h; cases h
    rw [if_neg q2] at h
    by_cases q3 : s0.f0 < -n
    · rw [if_pos q3] at h; cases h
    rw [if_neg q3] at h
    have hrest : chkT n cs (updT T s0.f0) t = 0 := by
      split at h
      · cases h
      split at h
      · cases h
      split at h
      · cases h
      split at h
      · exact h
      split at h
      · cases h
      split at h
      · cases h
      · exact h
    rcases List.mem_cons.1 hs with e | hs
    · subst e; exact ⟨q1, by omega, by omega⟩
    · exact chkT_lit hn hrest s hs

set_option maxHeartbeats 800000 in
theorem prop_bad (n : Int) (A : Option Addr) (cL : Nat) (cs : List (List Int)) (At : Option Addr) (ct : Nat) (t : List S32) (w : World) (r : Int) (h0 : r ≠ 0) (h : ∀ W, Below w.heap.size w W → Calls Try.prog 22 #[.agg #[.int .i64 n, .slice A cs.length cL], .slice At t.length ct] W fun e w' => e = .returned (.int .i64 r) ∧ Below W.heap.size W w') :
    Calls Try.prog 14 #[.agg #[.int .i64 n, .slice A cs.length cL], .slice At t.length ct] w fun e w' => e = .returned (.tuple #[.slice none 0 0, .int .i64 0, .int .i64 r]) ∧ Below w.heap.size w w' := by
  have hb0 := below_alloc (Below.refl w.heap.size w) (Obj.cells #[.int .i64 n, .slice A cs.length cL] 24)
  obtain ⟨wb, hwb⟩ : ∃ wb, w.alloc (Obj.cells #[.int .i64 n, .slice A cs.length cL] 24) = wb := ⟨_, rfl⟩
  have hcb : CB w.heap.size n (.slice A cs.length cL) wb := ⟨by rw [← hwb]; exact blk_new w _⟩
  rw [hwb] at hb0
  have HB0 := Aside0.mk hb0
  have d0 := blk_cell hcb.box 0
  have d1 := blk_cell hcb.box 1
  have HC := Aside0.mk (h wb hb0)
  clear hb0 hcb h
  go_enter Try.func14, Try.ntmps14
  go_wp2
  go_step3
  go_wp2_with ((go_at_call 22; refine HC.out.mono ?_; rintro e w1 ⟨rfl, hd⟩; have HD := Aside0.mk (below_chain' HB0.out hd); clear hd))
  (try rw [Exit.noGoto_ret])
  go_ret3
  exact ⟨rfl, HD.out⟩

set_option maxRecDepth 100000 in
set_option maxHeartbeats 6400000 in
theorem prop_good (n : Int) (A : Option Addr) (cL : Nat) (cs : List (List Int)) (At : Option Addr) (ct : Nat) (t : List S32) (w : World) (h : ∀ W, Below w.heap.size w W → Calls Try.prog 22 #[.agg #[.int .i64 n, .slice A cs.length cL], .slice At t.length ct] W fun e w' => e = .returned (.int .i64 0) ∧ Below W.heap.size W w')
    (hc : KRows.C w A cs.length cs) (hx : ∀ c ∈ cs, ∀ x ∈ c, LitP x) (hl : ∀ c ∈ cs, c.length ≤ 1000000) (hcl : cs.length ≤ 65536) (ht : k32.C w At t.length t) (htl : t.length ≤ 1000000) (htx : ∀ s ∈ t, LitP s.f0) (r1 : List S32) (r2 r3 : Int) (hr : mainP cs t = some (r1, r2, r3)) :
    Calls Try.prog 14 #[.agg #[.int .i64 n, .slice A cs.length cL], .slice At t.length ct] w fun e w' => ∃ v0_, e = .returned (.tuple #[v0_, .int .i64 r2, .int .i64 r3]) ∧ k32.R 32 w' w.heap.size (fun k => w.heap.size ≤ k) v0_ r1 ∧ Below w.heap.size w w' := by
  have hb0 := below_alloc (Below.refl w.heap.size w) (Obj.cells #[.int .i64 n, .slice A cs.length cL] 24)
  obtain ⟨wb, hwb⟩ : ∃ wb, w.alloc (Obj.cells #[.int .i64 n, .slice A cs.length cL] 24) = wb := ⟨_, rfl⟩
  have hcb : CB w.heap.size n (.slice A cs.length cL) wb := ⟨by rw [← hwb]; exact blk_new w _⟩
  rw [hwb] at hb0
  have HB0 := Aside0.mk hb0
  have HCB := Aside0.mk hcb
  have d0 := blk_cell hcb.box 0
  have d1 := blk_cell hcb.box 1
  have HC := Aside0.mk (h wb hb0)
  have HROWS := Aside0.mk (fun W (hb : Below w.heap.size w W) => Kd.C_below hc hb)
  have HTC := Aside0.mk (fun W (hb : Below w.heap.size w W) => Kd.C_below ht hb)
  have HX := Aside0.mk hx
  have HL := Aside0.mk hl
  have HTX := Aside0.mk htx
  have HRES := Aside0.mk hr
  clear hb0 hcb h hc ht hx hl htx hr
  have hmm := @run_makeMap Try.prog
  go_enter Try.func14, Try.ntmps14
  go_wp2
  go_step3
  go_wp2_with ((go_at_call 22; refine HC.out.mono ?_; rintro e w1 ⟨rfl, hd⟩; have HD := Aside0.mk (below_chain' HB0.out hd); have HCB1 := Aside0.mk (HCB.out.below hd); clear hd))
  have hc1 : w1.drew.cell? ⟨w.heap.size, 1, none⟩ = some (.slice A cs.length cL) := blk_cell HCB1.out.box 1
  have HBc := Aside0.mk (below_drew HD.out)
  have HCL := Aside0.mk (fun W (hb : Below w.heap.size w W) => clone_calls At ct t W (HTC.out W hb) htl)
  go_cut [8] from 22 (fun v8 wx => ∃ (g tb wb : Nat) (vo : Value), v8 = .pointer (some ⟨g, 0, none⟩) ∧ Aside0 (EI w.heap.size g tb wb A cs.length cL vo t.length t.length (fun _ => false) (fun _ => .slice none 0 0) (fun _ => []) t (.slice none 0 0) [] wx) ∧ Aside0 (Below w.heap.size w wx))
  case first =>
    refine start_ (n := 11) (S := fun w' => w'.cell? ⟨w.heap.size, 1, none⟩ = some (.slice A cs.length cL)) (ds := [9]) #[false, false, false, false, false, false, false, false, false, false, false] (by kernel_rfl) rfl rfl (hc1) (fun hHeld => ?_)
    generalize w1.drew = wd at HBc hHeld ⊢
    refine pure_ (i := 1) (N := some 23) (v := ?_) (a' := ?_) #[false, true, false, false, false, false, false, false, false, false, false] rfl rfl (by kernel_rfl) (fun _ _ _ h => h) (Or.inl ⟨by rfl, ?_⟩) ?_ ?_
    rotate_left
    · intro w'
      go_simp
      with_reducible rfl
    rotate_left
    · simp only [Act.put, List.setIfInBounds_toArray, List.set_cons_zero, List.set_cons_succ, i64_w, i32_w]
      rfl
    refine pure_ (i := 4) (N := some 26) (v := ?_) (a' := ?_) #[false, true, false, false, true, false, false, false, false, false, false] rfl rfl (by kernel_rfl) (fun _ _ _ h => h) (Or.inl ⟨by rfl, ?_⟩) ?_ ?_
    rotate_left
    · intro w'
      go_simp
      with_reducible rfl
    rotate_left
    · simp only [Act.put, List.setIfInBounds_toArray, List.set_cons_zero, List.set_cons_succ, i64_w, i32_w]
      rfl
    refine pure_ (i := 6) (N := some 28) (v := ?_) (a' := ?_) #[false, true, false, false, true, false, true, false, false, false, false] rfl rfl (by kernel_rfl) (fun _ _ _ h => h) (Or.inl ⟨by rfl, ?_⟩) ?_ ?_
    rotate_left
    · intro w'
      go_simp
      with_reducible rfl
    rotate_left
    · simp only [Act.put, List.setIfInBounds_toArray, List.set_cons_zero, List.set_cons_succ, i64_w, i32_w]
      rfl
    refine pure_ (i := 7) (N := some 29) (v := ?_) (a' := ?_) #[false, true, false, false, true, false, true, true, false, false, false] rfl rfl (by kernel_rfl) (fun _ _ _ h => h) (Or.inl ⟨by rfl, ?_⟩) ?_ ?_
    rotate_left
    · intro w'
      go_simp
      with_reducible rfl
    rotate_left
    · simp only [Act.put, List.setIfInBounds_toArray, List.set_cons_zero, List.set_cons_succ, i64_w, i32_w]
      rfl
    refine take_ (i := 2) (N := some 24) (v := ?_) (a' := ?_) #[false, true, true, false, true, false, true, true, false, false, false] rfl rfl (by kernel_rfl) (fun _ _ _ h => h) (Or.inl ⟨by rfl, ?_⟩) hHeld ?_ ?_
    rotate_left
    · intro w' s0
      go_simp
      with_reducible rfl
    rotate_left
    · simp only [Act.put, List.setIfInBounds_toArray, List.set_cons_zero, List.set_cons_succ, i64_w, i32_w]
      rfl
    refine join_ (σ := Nat × Nat × Value) 3 #[true, true, true, true, true, true, true, true, false, false, false] (fun s_ => [(22, .map (some s_.1)), (25, .map (some s_.2.1)), (27, s_.2.2)]) (fun s_ w' => w'.cell? ⟨w.heap.size, 1, none⟩ = some (.slice A cs.length cL) ∧ TM w' s_.1 0 (fun _ => false) ∧ VM w' s_.2.1 0 (fun _ => .slice none 0 0) ∧ s_.1 ≠ s_.2.1 ∧ k32.R 32 w' w.heap.size (fun k => w.heap.size ≤ k) s_.2.2 t ∧ Below w.heap.size w w' ∧ w.heap.size ≤ s_.1 ∧ w.heap.size ≤ s_.2.1) ?_ ?_
    rotate_left
    · intro hCont
      refine three_ (i := 0) (j := 3) (k := 5) (Ni := some 22) (Nj := some 25) (Nk := some 27) #[true, true, true, false, true, false, true, true, false, false, false] #[false, true, true, true, true, false, true, true, false, false, false] #[false, true, true, false, true, true, true, true, false, false, false] rfl rfl rfl rfl rfl rfl (by kernel_rfl) (by decide) (by decide) (by decide) (fun K hK => ?_) (fun K hK => ?_) (fun K hK => ?_)
      · skip
        refine value_ (w1 := ?_) (v := ?_) (by rfl) rfl ?_ ?_
        rotate_left 2
        · go_simp
          constructor
          · rfl
          · rfl
        have hcc := pw_cell_below (below_alloc (Below.refl wd.heap.size wd) (Obj.map #[] 0)) hHeld
        have HL0 := Aside0.mk (show w.heap.size ≤ wd.heap.size from HBc.out.size)
        have HBc := Aside0.mk (below_alloc HBc.out (Obj.map #[] 0))
        have HTc := Aside0.mk (show TM (wd.alloc (Obj.map #[] 0)) (wd.heap.size) 0 (fun _ => false) from BMap.made Try.prog 3 4 wd)
        refine hK.out _ _ (hcc) (fun hHeld => ?_)
        clear hK K
        refine norm_ (a' := ?_) ?_ ?_
        rotate_left
        · show Act.put _ (some 22) _ = _
          simp only [Act.put, List.setIfInBounds_toArray, List.set_cons_zero, List.set_cons_succ, i64_w, i32_w]
          rfl
        refine two_ (i := 3) (j := 5) (Ni := some 25) (Nj := some 27) #[true, true, true, true, true, false, true, true, false, false, false] #[true, true, true, false, true, true, true, true, false, false, false] rfl rfl rfl rfl (by kernel_rfl) (by decide) (by decide) (fun K hK => ?_) (fun K hK => ?_)
        · skip
          refine value_ (w1 := ?_) (v := ?_) (by rfl) rfl ?_ ?_
          rotate_left 2
          · go_simp
            constructor
            · rfl
            · rfl
          have hcc := pw_cell_below (below_alloc (Below.refl (wd.alloc (Obj.map #[] 0)).heap.size (wd.alloc (Obj.map #[] 0))) (Obj.map #[] 0)) hHeld
          have HL3 := Aside0.mk (show w.heap.size ≤ wd.heap.size + 1 from (by have h_ := HBc.out.size; rw [show (wd.alloc (Obj.map #[] 0)).heap.size = wd.heap.size + 1 from by simp] at h_; exact h_))
          have HNE := Aside0.mk (show wd.heap.size ≠ wd.heap.size + 1 from by have h_ := BMap.lt HTc.out; first | omega | (simp at h_; omega))
          have HTc := Aside0.mk (TM.below HTc.out (below_alloc (Below.refl (wd.alloc (Obj.map #[] 0)).heap.size (wd.alloc (Obj.map #[] 0))) (Obj.map #[] 0)))
          have HBc := Aside0.mk (below_alloc HBc.out (Obj.map #[] 0))
          have HVc := Aside0.mk (show VM ((wd.alloc (Obj.map #[] 0)).alloc (Obj.map #[] 0)) (wd.heap.size + 1) 0 (fun _ => .slice none 0 0) from (by have h_ := VMap.made Try.prog 3 (wd.alloc (Obj.map #[] 0)); rw [show (wd.alloc (Obj.map #[] 0)).heap.size = wd.heap.size + 1 from by simp] at h_; exact h_))
          refine hK.out _ _ (hcc) (fun hHeld => ?_)
          clear hK K
          refine norm_ (a' := ?_) ?_ ?_
          rotate_left
          · show Act.put _ (some 25) _ = _
            simp only [Act.put, List.setIfInBounds_toArray, List.set_cons_zero, List.set_cons_succ, i64_w, i32_w]
            rfl
          refine one_ (i := 5) (N := some 27) #[true, true, true, true, true, true, true, true, false, false, false] rfl rfl (by kernel_rfl) (by decide) (fun K hK => ?_)
          refine goes_ Try.func36 (by kernel_rfl) rfl #[.slice At t.length ct] (by rfl) rfl rfl (by simp only [List.map_toArray, List.map_cons, List.map_nil]; rfl) ?_
          with_reducible refine (HCL.out ((wd.alloc (Obj.map #[] 0)).alloc (Obj.map #[] 0)) HBc.out).mono ?_
          rintro e w3 ⟨vq, rfl, hR, hd⟩
          refine ⟨_, rfl, ?_⟩
          have hcc := pw_cell_below hd hHeld
          have HTc := Aside0.mk (TM.below HTc.out (hd))
          have HVc := Aside0.mk (VMap.below HVc.out (hd))
          have HRc := Aside0.mk (Kd.R_mono (Kd.R_lower hR HBc.out.size) (fun k hk => Nat.le_trans HBc.out.size hk))
          have HBc := Aside0.mk (below_chain' HBc.out hd)
          clear hR hd
          refine hK.out _ _ (hcc) (fun hHeld => ?_)
          clear hK K
          refine norm_ (a' := ?_) ?_ ?_
          rotate_left
          · show Act.put _ (some 27) _ = _
            simp only [Act.put, List.setIfInBounds_toArray, List.set_cons_zero, List.set_cons_succ, i64_w, i32_w]
            rfl
          exact norm_ (by simp only [putAll, Act.put, List.setIfInBounds_toArray, List.set_cons_zero, List.set_cons_succ]) (hCont (wd.heap.size, wd.heap.size + 1, vq) _ ⟨hHeld, HTc.out, HVc.out, HNE.out, HRc.out, HBc.out, HL0.out, HL3.out⟩)
        · skip
          refine goes_ Try.func36 (by kernel_rfl) rfl #[.slice At t.length ct] (by rfl) rfl rfl (by simp only [List.map_toArray, List.map_cons, List.map_nil]; rfl) ?_
          with_reducible refine (HCL.out (wd.alloc (Obj.map #[] 0)) HBc.out).mono ?_
          rintro e w3 ⟨vq, rfl, hR, hd⟩
          refine ⟨_, rfl, ?_⟩
          have hcc := pw_cell_below hd hHeld
          have HTc := Aside0.mk (TM.below HTc.out (hd))
          have HRc := Aside0.mk (Kd.R_mono (Kd.R_lower hR HBc.out.size) (fun k hk => Nat.le_trans HBc.out.size hk))
          have HBc := Aside0.mk (below_chain' HBc.out hd)
          clear hR hd
          refine hK.out _ _ (hcc) (fun hHeld => ?_)
          clear hK K
          refine norm_ (a' := ?_) ?_ ?_
          rotate_left
          · show Act.put _ (some 27) _ = _
            simp only [Act.put, List.setIfInBounds_toArray, List.set_cons_zero, List.set_cons_succ, i64_w, i32_w]
            rfl
          refine one_ (i := 3) (N := some 25) #[true, true, true, true, true, true, true, true, false, false, false] rfl rfl (by kernel_rfl) (by decide) (fun K hK => ?_)
          refine value_ (w1 := ?_) (v := ?_) (by rfl) rfl ?_ ?_
          rotate_left 2
          · go_simp
            constructor
            · rfl
            · rfl
          have hcc := pw_cell_below (below_alloc (Below.refl w3.heap.size w3) (Obj.map #[] 0)) hHeld
          have HL3 := Aside0.mk (show w.heap.size ≤ w3.heap.size from HBc.out.size)
          have HNE := Aside0.mk (show wd.heap.size ≠ w3.heap.size from by have h_ := BMap.lt HTc.out; first | omega | (simp at h_; omega))
          have HTc := Aside0.mk (TM.below HTc.out (below_alloc (Below.refl w3.heap.size w3) (Obj.map #[] 0)))
          have HRc := Aside0.mk (Kd.R_below HRc.out (below_alloc (Below.refl w3.heap.size w3) (Obj.map #[] 0)))
          have HBc := Aside0.mk (below_alloc HBc.out (Obj.map #[] 0))
          have HVc := Aside0.mk (show VM (w3.alloc (Obj.map #[] 0)) (w3.heap.size) 0 (fun _ => .slice none 0 0) from VMap.made Try.prog 3 w3)
          refine hK.out _ _ (hcc) (fun hHeld => ?_)
          clear hK K
          refine norm_ (a' := ?_) ?_ ?_
          rotate_left
          · show Act.put _ (some 25) _ = _
            simp only [Act.put, List.setIfInBounds_toArray, List.set_cons_zero, List.set_cons_succ, i64_w, i32_w]
            rfl
          exact norm_ (by simp only [putAll, Act.put, List.setIfInBounds_toArray, List.set_cons_zero, List.set_cons_succ]) (hCont (wd.heap.size, w3.heap.size, vq) _ ⟨hHeld, HTc.out, HVc.out, HNE.out, HRc.out, HBc.out, HL0.out, HL3.out⟩)
      · skip
        refine value_ (w1 := ?_) (v := ?_) (by rfl) rfl ?_ ?_
        rotate_left 2
        · go_simp
          constructor
          · rfl
          · rfl
        have hcc := pw_cell_below (below_alloc (Below.refl wd.heap.size wd) (Obj.map #[] 0)) hHeld
        have HL3 := Aside0.mk (show w.heap.size ≤ wd.heap.size from HBc.out.size)
        have HBc := Aside0.mk (below_alloc HBc.out (Obj.map #[] 0))
        have HVc := Aside0.mk (show VM (wd.alloc (Obj.map #[] 0)) (wd.heap.size) 0 (fun _ => .slice none 0 0) from VMap.made Try.prog 3 wd)
        refine hK.out _ _ (hcc) (fun hHeld => ?_)
        clear hK K
        refine norm_ (a' := ?_) ?_ ?_
        rotate_left
        · show Act.put _ (some 25) _ = _
          simp only [Act.put, List.setIfInBounds_toArray, List.set_cons_zero, List.set_cons_succ, i64_w, i32_w]
          rfl
        refine two_ (i := 0) (j := 5) (Ni := some 22) (Nj := some 27) #[true, true, true, true, true, false, true, true, false, false, false] #[false, true, true, true, true, true, true, true, false, false, false] rfl rfl rfl rfl (by kernel_rfl) (by decide) (by decide) (fun K hK => ?_) (fun K hK => ?_)
        · skip
          refine value_ (w1 := ?_) (v := ?_) (by rfl) rfl ?_ ?_
          rotate_left 2
          · go_simp
            constructor
            · rfl
            · rfl
          have hcc := pw_cell_below (below_alloc (Below.refl (wd.alloc (Obj.map #[] 0)).heap.size (wd.alloc (Obj.map #[] 0))) (Obj.map #[] 0)) hHeld
          have HL0 := Aside0.mk (show w.heap.size ≤ wd.heap.size + 1 from (by have h_ := HBc.out.size; rw [show (wd.alloc (Obj.map #[] 0)).heap.size = wd.heap.size + 1 from by simp] at h_; exact h_))
          have HNE := Aside0.mk (show wd.heap.size + 1 ≠ wd.heap.size from by have h_ := VMap.lt HVc.out; first | omega | (simp at h_; omega))
          have HVc := Aside0.mk (VMap.below HVc.out (below_alloc (Below.refl (wd.alloc (Obj.map #[] 0)).heap.size (wd.alloc (Obj.map #[] 0))) (Obj.map #[] 0)))
          have HBc := Aside0.mk (below_alloc HBc.out (Obj.map #[] 0))
          have HTc := Aside0.mk (show TM ((wd.alloc (Obj.map #[] 0)).alloc (Obj.map #[] 0)) (wd.heap.size + 1) 0 (fun _ => false) from (by have h_ := BMap.made Try.prog 3 4 (wd.alloc (Obj.map #[] 0)); rw [show (wd.alloc (Obj.map #[] 0)).heap.size = wd.heap.size + 1 from by simp] at h_; exact h_))
          refine hK.out _ _ (hcc) (fun hHeld => ?_)
          clear hK K
          refine norm_ (a' := ?_) ?_ ?_
          rotate_left
          · show Act.put _ (some 22) _ = _
            simp only [Act.put, List.setIfInBounds_toArray, List.set_cons_zero, List.set_cons_succ, i64_w, i32_w]
            rfl
          refine one_ (i := 5) (N := some 27) #[true, true, true, true, true, true, true, true, false, false, false] rfl rfl (by kernel_rfl) (by decide) (fun K hK => ?_)
          refine goes_ Try.func36 (by kernel_rfl) rfl #[.slice At t.length ct] (by rfl) rfl rfl (by simp only [List.map_toArray, List.map_cons, List.map_nil]; rfl) ?_
          with_reducible refine (HCL.out ((wd.alloc (Obj.map #[] 0)).alloc (Obj.map #[] 0)) HBc.out).mono ?_
          rintro e w3 ⟨vq, rfl, hR, hd⟩
          refine ⟨_, rfl, ?_⟩
          have hcc := pw_cell_below hd hHeld
          have HTc := Aside0.mk (TM.below HTc.out (hd))
          have HVc := Aside0.mk (VMap.below HVc.out (hd))
          have HRc := Aside0.mk (Kd.R_mono (Kd.R_lower hR HBc.out.size) (fun k hk => Nat.le_trans HBc.out.size hk))
          have HBc := Aside0.mk (below_chain' HBc.out hd)
          clear hR hd
          refine hK.out _ _ (hcc) (fun hHeld => ?_)
          clear hK K
          refine norm_ (a' := ?_) ?_ ?_
          rotate_left
          · show Act.put _ (some 27) _ = _
            simp only [Act.put, List.setIfInBounds_toArray, List.set_cons_zero, List.set_cons_succ, i64_w, i32_w]
            rfl
          exact norm_ (by simp only [putAll, Act.put, List.setIfInBounds_toArray, List.set_cons_zero, List.set_cons_succ]) (hCont (wd.heap.size + 1, wd.heap.size, vq) _ ⟨hHeld, HTc.out, HVc.out, HNE.out, HRc.out, HBc.out, HL0.out, HL3.out⟩)
        · skip
          refine goes_ Try.func36 (by kernel_rfl) rfl #[.slice At t.length ct] (by rfl) rfl rfl (by simp only [List.map_toArray, List.map_cons, List.map_nil]; rfl) ?_
          with_reducible refine (HCL.out (wd.alloc (Obj.map #[] 0)) HBc.out).mono ?_
          rintro e w3 ⟨vq, rfl, hR, hd⟩
          refine ⟨_, rfl, ?_⟩
          have hcc := pw_cell_below hd hHeld
          have HVc := Aside0.mk (VMap.below HVc.out (hd))
          have HRc := Aside0.mk (Kd.R_mono (Kd.R_lower hR HBc.out.size) (fun k hk => Nat.le_trans HBc.out.size hk))
          have HBc := Aside0.mk (below_chain' HBc.out hd)
          clear hR hd
          refine hK.out _ _ (hcc) (fun hHeld => ?_)
          clear hK K
          refine norm_ (a' := ?_) ?_ ?_
          rotate_left
          · show Act.put _ (some 27) _ = _
            simp only [Act.put, List.setIfInBounds_toArray, List.set_cons_zero, List.set_cons_succ, i64_w, i32_w]
            rfl
          refine one_ (i := 0) (N := some 22) #[true, true, true, true, true, true, true, true, false, false, false] rfl rfl (by kernel_rfl) (by decide) (fun K hK => ?_)
          refine value_ (w1 := ?_) (v := ?_) (by rfl) rfl ?_ ?_
          rotate_left 2
          · go_simp
            constructor
            · rfl
            · rfl
          have hcc := pw_cell_below (below_alloc (Below.refl w3.heap.size w3) (Obj.map #[] 0)) hHeld
          have HL0 := Aside0.mk (show w.heap.size ≤ w3.heap.size from HBc.out.size)
          have HNE := Aside0.mk (show w3.heap.size ≠ wd.heap.size from by have h_ := VMap.lt HVc.out; first | omega | (simp at h_; omega))
          have HVc := Aside0.mk (VMap.below HVc.out (below_alloc (Below.refl w3.heap.size w3) (Obj.map #[] 0)))
          have HRc := Aside0.mk (Kd.R_below HRc.out (below_alloc (Below.refl w3.heap.size w3) (Obj.map #[] 0)))
          have HBc := Aside0.mk (below_alloc HBc.out (Obj.map #[] 0))
          have HTc := Aside0.mk (show TM (w3.alloc (Obj.map #[] 0)) (w3.heap.size) 0 (fun _ => false) from BMap.made Try.prog 3 4 w3)
          refine hK.out _ _ (hcc) (fun hHeld => ?_)
          clear hK K
          refine norm_ (a' := ?_) ?_ ?_
          rotate_left
          · show Act.put _ (some 22) _ = _
            simp only [Act.put, List.setIfInBounds_toArray, List.set_cons_zero, List.set_cons_succ, i64_w, i32_w]
            rfl
          exact norm_ (by simp only [putAll, Act.put, List.setIfInBounds_toArray, List.set_cons_zero, List.set_cons_succ]) (hCont (w3.heap.size, wd.heap.size, vq) _ ⟨hHeld, HTc.out, HVc.out, HNE.out, HRc.out, HBc.out, HL0.out, HL3.out⟩)
      · skip
        refine goes_ Try.func36 (by kernel_rfl) rfl #[.slice At t.length ct] (by rfl) rfl rfl (by simp only [List.map_toArray, List.map_cons, List.map_nil]; rfl) ?_
        with_reducible refine (HCL.out wd HBc.out).mono ?_
        rintro e w3 ⟨vq, rfl, hR, hd⟩
        refine ⟨_, rfl, ?_⟩
        have hcc := pw_cell_below hd hHeld
        have HRc := Aside0.mk (Kd.R_mono (Kd.R_lower hR HBc.out.size) (fun k hk => Nat.le_trans HBc.out.size hk))
        have HBc := Aside0.mk (below_chain' HBc.out hd)
        clear hR hd
        refine hK.out _ _ (hcc) (fun hHeld => ?_)
        clear hK K
        refine norm_ (a' := ?_) ?_ ?_
        rotate_left
        · show Act.put _ (some 27) _ = _
          simp only [Act.put, List.setIfInBounds_toArray, List.set_cons_zero, List.set_cons_succ, i64_w, i32_w]
          rfl
        refine two_ (i := 0) (j := 3) (Ni := some 22) (Nj := some 25) #[true, true, true, false, true, true, true, true, false, false, false] #[false, true, true, true, true, true, true, true, false, false, false] rfl rfl rfl rfl (by kernel_rfl) (by decide) (by decide) (fun K hK => ?_) (fun K hK => ?_)
        · skip
          refine value_ (w1 := ?_) (v := ?_) (by rfl) rfl ?_ ?_
          rotate_left 2
          · go_simp
            constructor
            · rfl
            · rfl
          have hcc := pw_cell_below (below_alloc (Below.refl w3.heap.size w3) (Obj.map #[] 0)) hHeld
          have HL0 := Aside0.mk (show w.heap.size ≤ w3.heap.size from HBc.out.size)
          have HRc := Aside0.mk (Kd.R_below HRc.out (below_alloc (Below.refl w3.heap.size w3) (Obj.map #[] 0)))
          have HBc := Aside0.mk (below_alloc HBc.out (Obj.map #[] 0))
          have HTc := Aside0.mk (show TM (w3.alloc (Obj.map #[] 0)) (w3.heap.size) 0 (fun _ => false) from BMap.made Try.prog 3 4 w3)
          refine hK.out _ _ (hcc) (fun hHeld => ?_)
          clear hK K
          refine norm_ (a' := ?_) ?_ ?_
          rotate_left
          · show Act.put _ (some 22) _ = _
            simp only [Act.put, List.setIfInBounds_toArray, List.set_cons_zero, List.set_cons_succ, i64_w, i32_w]
            rfl
          refine one_ (i := 3) (N := some 25) #[true, true, true, true, true, true, true, true, false, false, false] rfl rfl (by kernel_rfl) (by decide) (fun K hK => ?_)
          refine value_ (w1 := ?_) (v := ?_) (by rfl) rfl ?_ ?_
          rotate_left 2
          · go_simp
            constructor
            · rfl
            · rfl
          have hcc := pw_cell_below (below_alloc (Below.refl (w3.alloc (Obj.map #[] 0)).heap.size (w3.alloc (Obj.map #[] 0))) (Obj.map #[] 0)) hHeld
          have HL3 := Aside0.mk (show w.heap.size ≤ w3.heap.size + 1 from (by have h_ := HBc.out.size; rw [show (w3.alloc (Obj.map #[] 0)).heap.size = w3.heap.size + 1 from by simp] at h_; exact h_))
          have HNE := Aside0.mk (show w3.heap.size ≠ w3.heap.size + 1 from by have h_ := BMap.lt HTc.out; first | omega | (simp at h_; omega))
          have HTc := Aside0.mk (TM.below HTc.out (below_alloc (Below.refl (w3.alloc (Obj.map #[] 0)).heap.size (w3.alloc (Obj.map #[] 0))) (Obj.map #[] 0)))
          have HRc := Aside0.mk (Kd.R_below HRc.out (below_alloc (Below.refl (w3.alloc (Obj.map #[] 0)).heap.size (w3.alloc (Obj.map #[] 0))) (Obj.map #[] 0)))
          have HBc := Aside0.mk (below_alloc HBc.out (Obj.map #[] 0))
          have HVc := Aside0.mk (show VM ((w3.alloc (Obj.map #[] 0)).alloc (Obj.map #[] 0)) (w3.heap.size + 1) 0 (fun _ => .slice none 0 0) from (by have h_ := VMap.made Try.prog 3 (w3.alloc (Obj.map #[] 0)); rw [show (w3.alloc (Obj.map #[] 0)).heap.size = w3.heap.size + 1 from by simp] at h_; exact h_))
          refine hK.out _ _ (hcc) (fun hHeld => ?_)
          clear hK K
          refine norm_ (a' := ?_) ?_ ?_
          rotate_left
          · show Act.put _ (some 25) _ = _
            simp only [Act.put, List.setIfInBounds_toArray, List.set_cons_zero, List.set_cons_succ, i64_w, i32_w]
            rfl
          exact norm_ (by simp only [putAll, Act.put, List.setIfInBounds_toArray, List.set_cons_zero, List.set_cons_succ]) (hCont (w3.heap.size, w3.heap.size + 1, vq) _ ⟨hHeld, HTc.out, HVc.out, HNE.out, HRc.out, HBc.out, HL0.out, HL3.out⟩)
        · skip
          refine value_ (w1 := ?_) (v := ?_) (by rfl) rfl ?_ ?_
          rotate_left 2
          · go_simp
            constructor
            · rfl
            · rfl
          have hcc := pw_cell_below (below_alloc (Below.refl w3.heap.size w3) (Obj.map #[] 0)) hHeld
          have HL3 := Aside0.mk (show w.heap.size ≤ w3.heap.size from HBc.out.size)
          have HRc := Aside0.mk (Kd.R_below HRc.out (below_alloc (Below.refl w3.heap.size w3) (Obj.map #[] 0)))
          have HBc := Aside0.mk (below_alloc HBc.out (Obj.map #[] 0))
          have HVc := Aside0.mk (show VM (w3.alloc (Obj.map #[] 0)) (w3.heap.size) 0 (fun _ => .slice none 0 0) from VMap.made Try.prog 3 w3)
          refine hK.out _ _ (hcc) (fun hHeld => ?_)
          clear hK K
          refine norm_ (a' := ?_) ?_ ?_
          rotate_left
          · show Act.put _ (some 25) _ = _
            simp only [Act.put, List.setIfInBounds_toArray, List.set_cons_zero, List.set_cons_succ, i64_w, i32_w]
            rfl
          refine one_ (i := 0) (N := some 22) #[true, true, true, true, true, true, true, true, false, false, false] rfl rfl (by kernel_rfl) (by decide) (fun K hK => ?_)
          refine value_ (w1 := ?_) (v := ?_) (by rfl) rfl ?_ ?_
          rotate_left 2
          · go_simp
            constructor
            · rfl
            · rfl
          have hcc := pw_cell_below (below_alloc (Below.refl (w3.alloc (Obj.map #[] 0)).heap.size (w3.alloc (Obj.map #[] 0))) (Obj.map #[] 0)) hHeld
          have HL0 := Aside0.mk (show w.heap.size ≤ w3.heap.size + 1 from (by have h_ := HBc.out.size; rw [show (w3.alloc (Obj.map #[] 0)).heap.size = w3.heap.size + 1 from by simp] at h_; exact h_))
          have HNE := Aside0.mk (show w3.heap.size + 1 ≠ w3.heap.size from by have h_ := VMap.lt HVc.out; first | omega | (simp at h_; omega))
          have HVc := Aside0.mk (VMap.below HVc.out (below_alloc (Below.refl (w3.alloc (Obj.map #[] 0)).heap.size (w3.alloc (Obj.map #[] 0))) (Obj.map #[] 0)))
          have HRc := Aside0.mk (Kd.R_below HRc.out (below_alloc (Below.refl (w3.alloc (Obj.map #[] 0)).heap.size (w3.alloc (Obj.map #[] 0))) (Obj.map #[] 0)))
          have HBc := Aside0.mk (below_alloc HBc.out (Obj.map #[] 0))
          have HTc := Aside0.mk (show TM ((w3.alloc (Obj.map #[] 0)).alloc (Obj.map #[] 0)) (w3.heap.size + 1) 0 (fun _ => false) from (by have h_ := BMap.made Try.prog 3 4 (w3.alloc (Obj.map #[] 0)); rw [show (w3.alloc (Obj.map #[] 0)).heap.size = w3.heap.size + 1 from by simp] at h_; exact h_))
          refine hK.out _ _ (hcc) (fun hHeld => ?_)
          clear hK K
          refine norm_ (a' := ?_) ?_ ?_
          rotate_left
          · show Act.put _ (some 22) _ = _
            simp only [Act.put, List.setIfInBounds_toArray, List.set_cons_zero, List.set_cons_succ, i64_w, i32_w]
            rfl
          exact norm_ (by simp only [putAll, Act.put, List.setIfInBounds_toArray, List.set_cons_zero, List.set_cons_succ]) (hCont (w3.heap.size + 1, w3.heap.size, vq) _ ⟨hHeld, HTc.out, HVc.out, HNE.out, HRc.out, HBc.out, HL0.out, HL3.out⟩)
    rintro ⟨tb, wb, vq⟩ w3 ⟨hHeld, hT, hV, hN, hR, hB, hl1, hl2⟩
    simp only at hT hV hN hR hl1 hl2 ⊢
    obtain ⟨Aq, cq, eq_⟩ := Kd.R_slice hR
    subst eq_
    have HTQ := Aside0.mk hT
    have HVQ := Aside0.mk hV
    have HNQ := Aside0.mk hN
    have HRQ := Aside0.mk hR
    have HBQ := Aside0.mk hB
    have HLQ := Aside0.mk (show _ ∧ _ from ⟨hl1, hl2⟩)
    clear hT hV hN hR hB hl1 hl2
    refine norm_ (a' := ?_) ?_ ?_
    rotate_left
    · simp only [putAll, Act.put, List.setIfInBounds_toArray, List.set_cons_zero, List.set_cons_succ]
      rfl
    refine pure_ (i := 8) (N := some 30) (v := ?_) (a' := ?_) #[true, true, true, true, true, true, true, true, true, false, false] rfl rfl (by kernel_rfl) (fun _ _ _ h => h) (Or.inl ⟨by rfl, ?_⟩) ?_ ?_
    rotate_left
    · intro w'
      go_simp
      with_reducible rfl
    rotate_left
    · simp only [Act.put, List.setIfInBounds_toArray, List.set_cons_zero, List.set_cons_succ, i64_w, i32_w]
      rfl
    refine last_ (i := 9) (N := some 31) #[true, true, true, true, true, true, true, true, true, true, false] rfl rfl (by kernel_rfl) (by decide) (fun K hK => ?_)
    refine value_ (w1 := ?_) (v := ?_) (by rfl) rfl ?_ ?_
    rotate_left 2
    · go_simp
      constructor
      · rfl
      · rfl
    refine hK.out _ _ ?_
    clear hK K
    refine norm_ (a' := ?_) ?_ ?_
    rotate_left
    · show Act.put _ (some 31) _ = _
      simp only [Act.put, List.setIfInBounds_toArray, List.set_cons_zero, List.set_cons_succ, i64_w, i32_w]
      rfl
    refine pure_ (i := 10) (N := some 8) (v := ?_) (a' := ?_) #[true, true, true, true, true, true, true, true, true, true, true] rfl rfl (by kernel_rfl) (fun _ _ _ h => h) (Or.inl ⟨by rfl, ?_⟩) ?_ ?_
    rotate_left
    · intro w'
      go_simp
      with_reducible rfl
    rotate_left
    · simp only [Act.put, List.setIfInBounds_toArray, List.set_cons_zero, List.set_cons_succ, i64_w, i32_w]
      rfl
    refine done_ (by kernel_rfl) ?_

    go_wp2
    go_meet
    case rel =>
      exact ⟨_, tb, wb, _, rfl, ⟨EI.start (blk_new _ _) (TM.below HTQ.out (below_alloc (Below.refl _ _) _)) (VMap.below HVQ.out (below_alloc (Below.refl _ _) _)) HNQ.out (Kd.R_below HRQ.out (below_alloc (Below.refl _ _) _)) HTX.out ⟨HBQ.out.size, HLQ.out.1, HLQ.out.2, (below_alloc HBQ.out _).size⟩⟩, ⟨below_alloc HBQ.out _⟩⟩
  case rest =>
    obtain ⟨g, tb, wb, vo, rfl, HE0, HW0⟩ := hcut
    have HNL := Aside0.mk htl
    go_wp2
    go_loopg [34] t.length (fun kq v34 wr => ∃ i : Nat, i ≤ t.length ∧ v34 = .int .i64 i ∧ Aside0 (kq + i = t.length) ∧ Aside0 (EI w.heap.size g tb wb A cs.length cL vo t.length (t.length + i) (stepsT (fun _ => false) (t.take i)) (fun _ => .slice none 0 0) (fun _ => []) t (.slice none 0 0) [] wr) ∧ Aside0 (Below w.heap.size w wr))
    case atStart => exact ⟨0, by omega, rfl, ⟨by omega⟩, HE0, HW0⟩
    case round =>
      obtain ⟨i, hi, rfl, HN, HE, HW⟩ := hrel
      by_cases hlt : i < t.length
      · obtain ⟨ad, e0, hc0, hc1⟩ := at_T32 (HTC.out _ HW.out) (i : Int) (by omega) (by omega)
        cases e0
        obtain ⟨s, hs⟩ : ∃ s, t.getD i z32 = s := ⟨_, rfl⟩
        rw [show rd_T32 t (i : Int) = s from by simpa [rd_T32] using hs, Int.toNat_natCast] at hc0 hc1
        have hsi : t[i] = s := by rw [← hs]; simp [List.getD_eq_getElem?_getD, hlt]
        have hxl : LitP s.f0 := HTX.out s (by rw [← hsi]; exact List.getElem_mem hlt)
        have htk : stepsT (fun _ => false) (t.take (i + 1)) = updT (stepsT (fun _ => false) (t.take i)) s.f0 := by rw [List.take_succ_eq_append_getElem hlt, hsi, stepsT_snoc]
        obtain ⟨Ti, hTi⟩ : ∃ Ti, stepsT (fun _ => false) (t.take i) = Ti := ⟨_, rfl⟩
        rw [hTi] at htk HE
        obtain ⟨x, hx0⟩ : ∃ x, s.f0 = x := ⟨_, rfl⟩
        obtain ⟨y, hy0⟩ : ∃ y, s.f1 = y := ⟨_, rfl⟩
        rw [hx0] at hc0 hxl htk
        rw [hy0] at hc1
        have HTK := Aside0.mk htk
        have hba := below_alloc (Below.refl wr.heap.size wr) (Obj.cells #[Value.int .i64 x, .int .i64 y] 32)
        obtain ⟨wa, hwa⟩ : ∃ wa, wr.alloc (Obj.cells #[Value.int .i64 x, .int .i64 y] 32) = wa := ⟨_, rfl⟩
        have hsa : wa.heap[wr.heap.size]? = some (.cells #[Value.int .i64 x, .int .i64 y] 32 (0, 0)) := by rw [← hwa]; exact blk_new wr _
        rw [hwa] at hba
        have HEA := Aside0.mk (HE.out.below (below_drew hba))
        have HWA := Aside0.mk (below_drew (below_chain' HW.out hba))
        have hcA : wa.drew.cell? ⟨g, 0, none⟩ = some (.map (some tb)) := blk_cell HEA.out.eb.box 0
        have hcS : wa.drew.cell? ⟨wr.heap.size, 0, none⟩ = some (.int .i64 x) := blk_cell hsa 0
        obtain ⟨n1, hn1, ht1⟩ := HEA.out.tm
        have HSTEP := Aside0.mk (step_calls tb n1 Ti x wa.drew ht1 (by have := HNL.out; unfold maxLen; omega) hxl.wf)
        clear hs hsi hxl htk hTi hx0 hy0 hba hsa ht1
        go_wp2
        refine start_ (n := 7) (S := fun w' => w'.cell? ⟨g, 0, none⟩ = some (.map (some tb)) ∧ w'.cell? ⟨wr.heap.size, 0, none⟩ = some (.int .i64 x)) (ds := [6]) #[false, false, false, false, false, false, false] (by kernel_rfl) rfl rfl ⟨hcA, hcS⟩ (fun hHeld => ?_)
        refine pure_ (i := 0) (N := some 38) (v := ?_) (a' := ?_) #[true, false, false, false, false, false, false] rfl rfl (by kernel_rfl) (fun _ _ _ h => h) (Or.inl ⟨by rfl, ?_⟩) ?_ ?_
        rotate_left
        · intro w'
          go_simp
          with_reducible rfl
        rotate_left
        · simp only [Act.put, List.setIfInBounds_toArray, List.set_cons_zero, List.set_cons_succ, i64_w, i32_w]
          rfl
        refine pure_ (i := 1) (N := some 39) (v := ?_) (a' := ?_) #[true, true, false, false, false, false, false] rfl rfl (by kernel_rfl) (fun _ _ _ h => h) (Or.inl ⟨by rfl, ?_⟩) ?_ ?_
        rotate_left
        · intro w'
          go_simp
          with_reducible rfl
        rotate_left
        · simp only [Act.put, List.setIfInBounds_toArray, List.set_cons_zero, List.set_cons_succ, i64_w, i32_w]
          rfl
        refine pure_ (i := 2) (N := some 40) (v := ?_) (a' := ?_) #[true, true, true, false, false, false, false] rfl rfl (by kernel_rfl) (fun _ _ _ h => h) (Or.inl ⟨by rfl, ?_⟩) ?_ ?_
        rotate_left
        · intro w'
          go_simp
          with_reducible rfl
        rotate_left
        · simp only [Act.put, List.setIfInBounds_toArray, List.set_cons_zero, List.set_cons_succ, i64_w, i32_w]
          rfl
        refine pure_ (i := 4) (N := some 42) (v := ?_) (a' := ?_) #[true, true, true, false, true, false, false] rfl rfl (by kernel_rfl) (fun _ _ _ h => h) (Or.inl ⟨by rfl, ?_⟩) ?_ ?_
        rotate_left
        · intro w'
          go_simp
          with_reducible rfl
        rotate_left
        · simp only [Act.put, List.setIfInBounds_toArray, List.set_cons_zero, List.set_cons_succ, i64_w, i32_w]
          rfl
        refine take_ (i := 3) (N := some 41) (v := ?_) (a' := ?_) #[true, true, true, true, true, false, false] rfl rfl (by kernel_rfl) (fun _ _ _ h => h) (Or.inl ⟨by rfl, ?_⟩) hHeld ?_ ?_
        rotate_left
        · rintro w' ⟨s0, s1⟩
          go_simp
          with_reducible rfl
        rotate_left
        · simp only [Act.put, List.setIfInBounds_toArray, List.set_cons_zero, List.set_cons_succ, i64_w, i32_w]
          rfl
        refine take_ (i := 5) (N := some 43) (v := ?_) (a' := ?_) #[true, true, true, true, true, true, false] rfl rfl (by kernel_rfl) (fun _ _ _ h => h) (Or.inl ⟨by rfl, ?_⟩) hHeld ?_ ?_
        rotate_left
        · rintro w' ⟨s0, s1⟩
          go_simp
          with_reducible rfl
        rotate_left
        · simp only [Act.put, List.setIfInBounds_toArray, List.set_cons_zero, List.set_cons_succ, i64_w, i32_w]
          rfl
        refine last_ (i := 6) (N := some 44) #[true, true, true, true, true, true, true] rfl rfl (by kernel_rfl) (by decide) (fun K hK => ?_)
        refine goes_ Try.func37 (by kernel_rfl) rfl #[.map (some tb), .int .i64 x] (by rfl) rfl rfl (by simp only [List.map_toArray, List.map_cons, List.map_nil]; rfl) ?_
        with_reducible refine (HSTEP.out).mono ?_
        rintro e w2 ⟨rfl, hT2, hG2⟩
        refine ⟨_, rfl, ?_⟩
        have HS1 := Aside0.mk (HEA.out.stepT hT2 (by omega) hG2)
        clear hT2 hG2
        refine hK.out _ _ ?_
        clear hK K
        refine norm_ (a' := ?_) ?_ ?_
        rotate_left
        · show Act.put _ (some 44) _ = _
          simp only [Act.put, List.setIfInBounds_toArray, List.set_cons_zero, List.set_cons_succ, i64_w, i32_w]
          rfl
        refine done_ (by kernel_rfl) ?_

        go_wp2
        go_roundg (gk - 1)
        case measure => have := HN.out; omega
        case rel => exact ⟨i + 1, by omega, by go_num, ⟨by have := HN.out; omega⟩, ⟨by rw [HTK.out]; exact HS1.out.1⟩, ⟨HWA.out.trans HS1.out.2⟩⟩
      · obtain rfl : i = t.length := by omega
        have hE := HE.out
        rw [List.take_length] at hE
        have HE1 := Aside0.mk hE
        obtain ⟨R, hR⟩ : ∃ R, visL cs (idxL 0 cs.length) (startS t) = R := ⟨_, rfl⟩
        have hres := HRES.out
        unfold mainP at hres
        rw [hR] at hres
        have HR := Aside0.mk hR
        have HRS := Aside0.mk hres
        have hcC := blk_cell hE.eb.box 1
        clear hE hR hres
        go_wp2
        clear hcC
        go_loopg [51] cs.length (fun kq v51 wr => ∃ (i : Nat) (s : PS) (V : Int → Value) (vo' : Value), i ≤ cs.length ∧ v51 = .int .i64 i ∧ Aside0 (kq + i = cs.length) ∧ Aside0 (EI w.heap.size g tb wb A cs.length cL vo' t.length (2 * t.length + 2 * i) s.T V s.W s.out (.slice none 0 0) [] wr) ∧ Aside0 (Below w.heap.size w wr) ∧ Aside0 (visL cs (idxL i (cs.length - i)) s = R))
        case atStart => exact ⟨0, startS t, _, vo, by omega, rfl, ⟨by omega⟩, ⟨HE1.out.mono (by omega)⟩, HW, HR⟩
        case round =>
          obtain ⟨i, s, V, vo', hi, rfl, HN, HE, HW, HA⟩ := hrel
          by_cases hlt : i < cs.length
          · have hA := HA.out
            rw [show cs.length - i = (cs.length - (i + 1)) + 1 by omega, idxL_succ] at hA
            unfold visL at hA
            have HV := Aside0.mk (visit_calls cs i _ HE.out (HROWS.out _ HW.out) hlt HX.out HL.out (by have := HNL.out; omega))
            obtain ⟨q, hq⟩ : ∃ q, vis cs ⟨s.T, s.W, s.out⟩ (i : Int) = q := ⟨_, rfl⟩
            rw [hq] at HV
            rw [show vis cs s (i : Int) = q from hq] at hA
            obtain ⟨b, s'⟩ := q
            clear hq
            cases b with
            | true =>
              rw [if_pos (show (true, s').1 = true from rfl)] at hA
              have HA2 := Aside0.mk hA
              clear hA
              go_wp2_with ((go_at_call 38; refine HV.out.mono ?_; rintro e w3 ⟨rfl, ⟨vo3, V3, hE3⟩, hB3⟩; have HE3 := Aside0.mk hE3; have HW3 := Aside0.mk (HW.out.trans hB3); have hc3 := blk_cell hE3.eb.box 3; clear hE3 hB3))
              go_roundg (gk - 1)
              case measure => have := HN.out; omega
              case rel => exact ⟨i + 1, s', V3, vo3, by omega, by go_num, ⟨by have := HN.out; omega⟩, HE3, HW3, HA2⟩
            | false =>
              rw [if_neg (by simp)] at hA
              have hr := HRS.out
              rw [← hA] at hr
              have HRR := Aside0.mk (Option.some.inj hr)
              clear hA hr
              go_wp2_with ((go_at_call 38; refine HV.out.mono ?_; rintro e w3 ⟨rfl, ⟨vo3, V3, hE3⟩, hB3⟩; have HE3 := Aside0.mk hE3; have HW3 := Aside0.mk (HW.out.trans hB3); have hc3 := blk_cell hE3.eb.box 3; clear hE3 hB3))
              (try rw [Exit.noGoto_ret])
              go_ret3
              have hrr := HRR.out
              injection hrr with q1 q2
              injection q2 with q2 q3
              exact ⟨_, (by rw [← q2, ← q3]; rfl), by rw [← q1]; exact HE3.out.own, HW3.out⟩
          · obtain rfl : i = cs.length := by omega
            have hA := HA.out
            rw [Nat.sub_self] at hA
            have hA2 : (s, none) = R := hA
            have hr := HRS.out
            rw [← hA2] at hr
            obtain ⟨⟨sf, cf⟩, htd, heq⟩ := Option.map_eq_some_iff.1 (show (todoF cs 30 (2 * t.length + 2 * cs.length) t.length s).map _ = _ from hr)
            have HTD := Aside0.mk htd
            have HEQ := Aside0.mk heq
            clear hA hA2 hr htd heq
            go_wp2
            (try go_step3)
            (try go_wp2)
            go_loopg [12] 30 (fun kq v12 wr => ∃ (B h : Nat) (s : PS) (V : Int → Value) (vo' : Value), Aside0 (EI w.heap.size g tb wb A cs.length cL vo' h B s.T V s.W s.out (.slice none 0 0) [] wr) ∧ Aside0 (Below w.heap.size w wr) ∧ Aside0 (todoF cs kq B h s = some (sf, cf)) ∧ Aside0 (B ≤ 1099511627776))
            case atStart => exact ⟨_, _, s, V, vo', HE, HW, HTD, ⟨by have := HNL.out; omega⟩⟩
            case round =>
              obtain ⟨B, h, s, V, vo', HE, HW, HA, HB⟩ := hrel
              have hA := HA.out
              cases gk with
              | zero => cases hA
              | succ f =>
                unfold todoF at hA
                obtain ⟨Ao, co, eo⟩ := Kd.R_slice HE.out.own
                subst eo
                have HE1 := Aside0.mk (HE.out.below (below_drew (Below.refl _ _)))
                have HW1 := Aside0.mk (below_drew HW.out)
                have hq3 : wr.drew.cell? ⟨g, 3, none⟩ = some (.slice Ao s.out.length co) := blk_cell HE1.out.eb.box 3
                have hq4 : wr.drew.cell? ⟨g, 4, none⟩ = some (.int .i64 h) := blk_cell HE1.out.eb.box 4
                by_cases hlt : h < s.out.length
                · rw [if_pos hlt] at hA
                  have hli : (h : Int) < (s.out.length : Int) := by omega
                  go_wp2
                  refine start_ (n := 10) (S := fun w' => w'.cell? ⟨g, 3, none⟩ = some (.slice Ao s.out.length co) ∧ w'.cell? ⟨g, 4, none⟩ = some (.int .i64 h)) (ds := []) #[false, false, false, false, false, false, false, false, false, false] (by kernel_rfl) rfl rfl ⟨hq3, hq4⟩ (fun hHeld => ?_)
                  refine pure_ (i := 0) (N := some 64) (v := ?_) (a' := ?_) #[true, false, false, false, false, false, false, false, false, false] rfl rfl (by kernel_rfl) (fun _ _ _ h => h) (Or.inl ⟨by rfl, ?_⟩) ?_ ?_
                  rotate_left
                  · intro w'
                    go_simp
                    with_reducible rfl
                  rotate_left
                  · simp only [Act.put, List.setIfInBounds_toArray, List.set_cons_zero, List.set_cons_succ, i64_w, i32_w]
                    rfl
                  refine pure_ (i := 1) (N := some 65) (v := ?_) (a' := ?_) #[true, true, false, false, false, false, false, false, false, false] rfl rfl (by kernel_rfl) (fun _ _ _ h => h) (Or.inl ⟨by rfl, ?_⟩) ?_ ?_
                  rotate_left
                  · intro w'
                    go_simp
                    with_reducible rfl
                  rotate_left
                  · simp only [Act.put, List.setIfInBounds_toArray, List.set_cons_zero, List.set_cons_succ, i64_w, i32_w]
                    rfl
                  refine pure_ (i := 2) (N := some 66) (v := ?_) (a' := ?_) #[true, true, true, false, false, false, false, false, false, false] rfl rfl (by kernel_rfl) (fun _ _ _ h => h) (Or.inl ⟨by rfl, ?_⟩) ?_ ?_
                  rotate_left
                  · intro w'
                    go_simp
                    with_reducible rfl
                  rotate_left
                  · simp only [Act.put, List.setIfInBounds_toArray, List.set_cons_zero, List.set_cons_succ, i64_w, i32_w]
                    rfl
                  refine pure_ (i := 4) (N := some 68) (v := ?_) (a' := ?_) #[true, true, true, false, true, false, false, false, false, false] rfl rfl (by kernel_rfl) (fun _ _ _ h => h) (Or.inl ⟨by rfl, ?_⟩) ?_ ?_
                  rotate_left
                  · intro w'
                    go_simp
                    with_reducible rfl
                  rotate_left
                  · simp only [Act.put, List.setIfInBounds_toArray, List.set_cons_zero, List.set_cons_succ, i64_w, i32_w]
                    rfl
                  refine pure_ (i := 5) (N := some 69) (v := ?_) (a' := ?_) #[true, true, true, false, true, true, false, false, false, false] rfl rfl (by kernel_rfl) (fun _ _ _ h => h) (Or.inl ⟨by rfl, ?_⟩) ?_ ?_
                  rotate_left
                  · intro w'
                    go_simp
                    with_reducible rfl
                  rotate_left
                  · simp only [Act.put, List.setIfInBounds_toArray, List.set_cons_zero, List.set_cons_succ, i64_w, i32_w]
                    rfl
                  refine pure_ (i := 6) (N := some 70) (v := ?_) (a' := ?_) #[true, true, true, false, true, true, true, false, false, false] rfl rfl (by kernel_rfl) (fun _ _ _ h => h) (Or.inl ⟨by rfl, ?_⟩) ?_ ?_
                  rotate_left
                  · intro w'
                    go_simp
                    with_reducible rfl
                  rotate_left
                  · simp only [Act.put, List.setIfInBounds_toArray, List.set_cons_zero, List.set_cons_succ, i64_w, i32_w]
                    rfl
                  refine take_ (i := 3) (N := some 67) (v := ?_) (a' := ?_) #[true, true, true, true, true, true, true, false, false, false] rfl rfl (by kernel_rfl) (fun _ _ _ h => h) (Or.inl ⟨by rfl, ?_⟩) hHeld ?_ ?_
                  rotate_left
                  · rintro w' ⟨s0, s1⟩
                    go_simp
                    with_reducible rfl
                  rotate_left
                  · simp only [Act.put, List.setIfInBounds_toArray, List.set_cons_zero, List.set_cons_succ, i64_w, i32_w]
                    rfl
                  refine take_ (i := 7) (N := some 71) (v := ?_) (a' := ?_) #[true, true, true, true, true, true, true, true, false, false] rfl rfl (by kernel_rfl) (fun _ _ _ h => h) (Or.inl ⟨by rfl, ?_⟩) hHeld ?_ ?_
                  rotate_left
                  · rintro w' ⟨s0, s1⟩
                    go_simp
                    with_reducible rfl
                  rotate_left
                  · simp only [Act.put, List.setIfInBounds_toArray, List.set_cons_zero, List.set_cons_succ, i64_w, i32_w]
                    rfl
                  refine pure_ (i := 8) (N := some 72) (v := ?_) (a' := ?_) #[true, true, true, true, true, true, true, true, true, false] rfl rfl (by kernel_rfl) (fun _ _ _ h => h) (Or.inl ⟨by rfl, ?_⟩) ?_ ?_
                  rotate_left
                  · intro w'
                    go_simp
                    with_reducible rfl
                  rotate_left
                  · simp only [Act.put, List.setIfInBounds_toArray, List.set_cons_zero, List.set_cons_succ, i64_w, i32_w]
                    rfl
                  refine pure_ (i := 9) (N := some 73) (v := ?_) (a' := ?_) #[true, true, true, true, true, true, true, true, true, true] rfl rfl (by kernel_rfl) (fun _ _ _ h => h) (Or.inl ⟨by rfl, ?_⟩) ?_ ?_
                  rotate_left
                  · intro w'
                    go_simp
                    with_reducible rfl
                  rotate_left
                  · simp only [Act.put, List.setIfInBounds_toArray, List.set_cons_zero, List.set_cons_succ, i64_w, i32_w]
                    rfl
                  refine done_ (by kernel_rfl) ?_

                  go_wp2
                  obtain ⟨wd, hwd⟩ : ∃ wd, wr.drew = wd := ⟨_, rfl⟩
                  rw [hwd] at HE1 HW1 ⊢
                  clear hwd hq3 hq4 HE HW
                  obtain ⟨ad, ea, hx0, _⟩ := at_T32 (Kd.R_reads' HE1.out.own).2.2 (h : Int) (by omega) (by omega)
                  cases ea
                  rw [show rd_T32 s.out (h : Int) = s.out.getD h z32 from by simp [rd_T32], Int.toNat_natCast] at hx0
                  have hxl : LitP (s.out.getD h z32).f0 := HE1.out.olit _ (by simp [List.getD_eq_getElem?_getD, hlt])
                  obtain ⟨x, hx⟩ : ∃ x, (s.out.getD h z32).f0 = x := ⟨_, rfl⟩
                  rw [hx] at hA hx0 hxl
                  have hbd : (s.out.length : Int) ≤ 1099511627776 := by have := HE1.out.olen; have := HB.out; omega
                  have HE2 := Aside0.mk (HE1.out.below (below_drew (Below.refl _ _)))
                  have HW2 := Aside0.mk (below_drew HW1.out)
                  have hq3 : wd.drew.cell? ⟨g, 3, none⟩ = some (.slice (some ad) s.out.length co) := blk_cell HE2.out.eb.box 3
                  have hq4 : wd.drew.cell? ⟨g, 4, none⟩ = some (.int .i64 h) := blk_cell HE2.out.eb.box 4
                  have hq5 : wd.drew.cell? (ad.add (h * 2)) = some (.int .i64 x) := hx0
                  clear hx0 hx
                  refine start_ (n := 12) (S := fun w' => w'.cell? ⟨g, 3, none⟩ = some (.slice (some ad) s.out.length co) ∧ w'.cell? ⟨g, 4, none⟩ = some (.int .i64 h) ∧ w'.cell? (ad.add (h * 2)) = some (.int .i64 x)) (ds := []) #[false, false, false, false, false, false, false, false, false, false, false, false] (by kernel_rfl) rfl rfl ⟨hq3, hq4, hq5⟩ (fun hHeld => ?_)
                  refine pure_ (i := 0) (N := some 74) (v := ?_) (a' := ?_) #[true, false, false, false, false, false, false, false, false, false, false, false] rfl rfl (by kernel_rfl) (fun _ _ _ h => h) (Or.inl ⟨by rfl, ?_⟩) ?_ ?_
                  rotate_left
                  · intro w'
                    go_simp
                    with_reducible rfl
                  rotate_left
                  · simp only [Act.put, List.setIfInBounds_toArray, List.set_cons_zero, List.set_cons_succ, i64_w, i32_w]
                    rfl
                  refine pure_ (i := 1) (N := some 75) (v := ?_) (a' := ?_) #[true, true, false, false, false, false, false, false, false, false, false, false] rfl rfl (by kernel_rfl) (fun _ _ _ h => h) (Or.inl ⟨by rfl, ?_⟩) ?_ ?_
                  rotate_left
                  · intro w'
                    go_simp
                    with_reducible rfl
                  rotate_left
                  · simp only [Act.put, List.setIfInBounds_toArray, List.set_cons_zero, List.set_cons_succ, i64_w, i32_w]
                    rfl
                  refine pure_ (i := 2) (N := some 76) (v := ?_) (a' := ?_) #[true, true, true, false, false, false, false, false, false, false, false, false] rfl rfl (by kernel_rfl) (fun _ _ _ h => h) (Or.inl ⟨by rfl, ?_⟩) ?_ ?_
                  rotate_left
                  · intro w'
                    go_simp
                    with_reducible rfl
                  rotate_left
                  · simp only [Act.put, List.setIfInBounds_toArray, List.set_cons_zero, List.set_cons_succ, i64_w, i32_w]
                    rfl
                  refine pure_ (i := 4) (N := some 78) (v := ?_) (a' := ?_) #[true, true, true, false, true, false, false, false, false, false, false, false] rfl rfl (by kernel_rfl) (fun _ _ _ h => h) (Or.inl ⟨by rfl, ?_⟩) ?_ ?_
                  rotate_left
                  · intro w'
                    go_simp
                    with_reducible rfl
                  rotate_left
                  · simp only [Act.put, List.setIfInBounds_toArray, List.set_cons_zero, List.set_cons_succ, i64_w, i32_w]
                    rfl
                  refine pure_ (i := 5) (N := some 79) (v := ?_) (a' := ?_) #[true, true, true, false, true, true, false, false, false, false, false, false] rfl rfl (by kernel_rfl) (fun _ _ _ h => h) (Or.inl ⟨by rfl, ?_⟩) ?_ ?_
                  rotate_left
                  · intro w'
                    go_simp
                    with_reducible rfl
                  rotate_left
                  · simp only [Act.put, List.setIfInBounds_toArray, List.set_cons_zero, List.set_cons_succ, i64_w, i32_w]
                    rfl
                  refine pure_ (i := 6) (N := some 80) (v := ?_) (a' := ?_) #[true, true, true, false, true, true, true, false, false, false, false, false] rfl rfl (by kernel_rfl) (fun _ _ _ h => h) (Or.inl ⟨by rfl, ?_⟩) ?_ ?_
                  rotate_left
                  · intro w'
                    go_simp
                    with_reducible rfl
                  rotate_left
                  · simp only [Act.put, List.setIfInBounds_toArray, List.set_cons_zero, List.set_cons_succ, i64_w, i32_w]
                    rfl
                  refine take_ (i := 3) (N := some 77) (v := ?_) (a' := ?_) #[true, true, true, true, true, true, true, false, false, false, false, false] rfl rfl (by kernel_rfl) (fun _ _ _ h => h) (Or.inl ⟨by rfl, ?_⟩) hHeld ?_ ?_
                  rotate_left
                  · rintro w' ⟨s0, s1, s2⟩
                    go_simp
                    with_reducible rfl
                  rotate_left
                  · simp only [Act.put, List.setIfInBounds_toArray, List.set_cons_zero, List.set_cons_succ, i64_w, i32_w]
                    rfl
                  refine take_ (i := 7) (N := some 81) (v := ?_) (a' := ?_) #[true, true, true, true, true, true, true, true, false, false, false, false] rfl rfl (by kernel_rfl) (fun _ _ _ h => h) (Or.inl ⟨by rfl, ?_⟩) hHeld ?_ ?_
                  rotate_left
                  · rintro w' ⟨s0, s1, s2⟩
                    go_simp
                    with_reducible rfl
                  rotate_left
                  · simp only [Act.put, List.setIfInBounds_toArray, List.set_cons_zero, List.set_cons_succ, i64_w, i32_w]
                    rfl
                  refine pure_ (i := 8) (N := some 82) (v := ?_) (a' := ?_) #[true, true, true, true, true, true, true, true, true, false, false, false] rfl rfl (by kernel_rfl) (fun _ _ _ h => h) (Or.inl ⟨by rfl, ?_⟩) ?_ ?_
                  rotate_left
                  · intro w'
                    go_simp
                    with_reducible rfl
                  rotate_left
                  · simp only [Act.put, List.setIfInBounds_toArray, List.set_cons_zero, List.set_cons_succ, i64_w, i32_w]
                    rfl
                  refine pure_ (i := 9) (N := some 83) (v := ?_) (a' := ?_) #[true, true, true, true, true, true, true, true, true, true, false, false] rfl rfl (by kernel_rfl) (fun _ _ _ h => h) (Or.inl ⟨by rfl, ?_⟩) ?_ ?_
                  rotate_left
                  · intro w'
                    go_simp
                    with_reducible rfl
                  rotate_left
                  · simp only [Act.put, List.setIfInBounds_toArray, List.set_cons_zero, List.set_cons_succ, i64_w, i32_w]
                    rfl
                  refine take_ (i := 10) (N := some 84) (v := ?_) (a' := ?_) #[true, true, true, true, true, true, true, true, true, true, true, false] rfl rfl (by kernel_rfl) (fun _ _ _ h => h) (Or.inl ⟨by rfl, ?_⟩) hHeld ?_ ?_
                  rotate_left
                  · rintro w' ⟨s0, s1, s2⟩
                    go_simp
                    with_reducible rfl
                  rotate_left
                  · simp only [Act.put, List.setIfInBounds_toArray, List.set_cons_zero, List.set_cons_succ, i64_w, i32_w]
                    rfl
                  refine pure_ (i := 11) (N := some 12) (v := ?_) (a' := ?_) #[true, true, true, true, true, true, true, true, true, true, true, true] rfl rfl (by kernel_rfl) (fun _ _ _ h => h) (Or.inl ⟨by rfl, ?_⟩) ?_ ?_
                  rotate_left
                  · intro w'
                    go_simp
                    with_reducible rfl
                  rotate_left
                  · simp only [Act.put, List.setIfInBounds_toArray, List.set_cons_zero, List.set_cons_succ, i64_w, i32_w]
                    rfl
                  refine done_ (by kernel_rfl) ?_

                  obtain ⟨we, hwe⟩ : ∃ we, wd.drew = we := ⟨_, rfl⟩
                  rw [hwe] at HE2 HW2 ⊢
                  clear hwe hq3 hq4 hq5 HE1 HW1
                  have hhd := HE2.out.head ((h : Int) + 1)
                  have hcf := blk_frozen HE2.out.eb.box 4
                  have hcg := blk_cell HE2.out.eb.box 4
                  obtain ⟨wh, hwh⟩ : ∃ wh, we.setCell ⟨g, 4, none⟩ (.int .i64 ((h : Int) + 1)) = wh := ⟨_, rfl⟩
                  rw [hwh] at hhd
                  have HE3 := Aside0.mk hhd.1
                  have HW3 := Aside0.mk (HW2.out.trans hhd.2)
                  have hc2 := blk_cell hhd.1.eb.box 2
                  obtain ⟨nV, hnV, hv⟩ := hhd.1.vm
                  have hlk := hv.look (t := 58) Try.underlying3 Try.underlying58 (zeroS _) x hxl.wf
                  have HV0 := Aside0.mk hv
                  obtain ⟨Ax, cx, eV⟩ := Kd.R_slice (hhd.1.rows x hxl)
                  have hxw := hxl.wf
                  have HXL := Aside0.mk hxl
                  have HIDX := Aside0.mk (hhd.1.idx x hxl)
                  have HLEN := Aside0.mk (hhd.1.len x hxl)
                  obtain ⟨l, hl0⟩ : ∃ l, s.W x = l := ⟨_, rfl⟩
                  rw [hl0] at hA eV HIDX HLEN
                  rw [eV] at hlk
                  have HLX := Aside0.mk hl0
                  have HVX := Aside0.mk eV
                  clear hhd hv hxl hl0 eV
                  by_cases hbig : 1099511627776 < B + 2 * l.length + 1
                  · rw [if_pos hbig] at hA; cases hA
                  rw [if_neg hbig] at hA
                  cases l with
                  | nil =>
                    have HA2 := Aside0.mk (show todoF cs f (B + 2 * 0 + 1) (h + 1) ⟨s.T, updW s.W x [], s.out⟩ = some (sf, cf) from hA)
                    clear hA
                    go_wp2
                    go_roundg f
                    case measure => omega
                    case rel => exact ⟨_, h + 1, _, V, _, ⟨(HE3.out.emptyW HLX.out).mono (by omega)⟩, HW3, HA2, ⟨by simp only [List.length_nil] at hbig; omega⟩⟩
                  | cons i0 l' =>
                    obtain ⟨R2, hR2⟩ : ∃ R2, visL cs (i0 :: l') ⟨s.T, updW s.W x [], s.out⟩ = R2 := ⟨_, rfl⟩
                    rw [hR2] at hA
                    have HA2 := Aside0.mk hA
                    have HR2 := Aside0.mk hR2
                    clear hA hR2
                    obtain ⟨l, hl⟩ : ∃ l, i0 :: l' = l := ⟨_, rfl⟩
                    have hl1 : 1 ≤ l.length := by rw [← hl]; simp
                    rw [hl] at hlk hbig HIDX HLEN HLX HVX HR2
                    have HLL := Aside0.mk (show todoF cs f (B + 2 * l.length + 1) (h + 1) R2.1 = todoF cs f (B + 2 * (i0 :: l').length + 1) (h + 1) R2.1 by rw [hl])
                    have hlb : ((l.length : Int) == 0) = false := beq_eq_false_iff_ne.2 (by omega)
                    have HL4 := Aside0.mk (show l.length ≤ 1099511627776 by omega)
                    clear hl
                    go_wp2_with (first | (at_mapUpdate; refine wpList_put_v _ rfl _ _ _ 58 rfl 3 37 Try.underlying3 Try.underlying58 wb nV V rfl HV0.out (by have := HB.out; unfold maxLen; omega) x rfl hxw (.slice none 0 0) rfl ?_; intro w4 hvm4 hg4; have HT4 := Aside0.mk (HE3.out.take HXL.out (by omega) hvm4 hg4); clear hvm4 hg4))
                    have HE4 := Aside0.mk HT4.out.1
                    have HW4 := Aside0.mk (HW3.out.trans HT4.out.2)
                    rw [HVX.out, HLX.out] at HE4
                    clear hc2 hlk hcf hcg hwh HT4
                    obtain ⟨wo, rfl⟩ : ∃ wo : World, wo = wr := ⟨_, rfl⟩
                    go_loopg [108] l.length (fun kq2 v108 wi => ∃ (j : Nat) (s2 : PS) (V2 : Int → Value) (vo2 : Value), j ≤ l.length ∧ v108 = .int .i64 j ∧ Aside0 (kq2 + j = l.length) ∧ Aside0 (EI w.heap.size g tb wb A cs.length cL vo2 ((h : Int) + 1) (B + 1 + 2 * j) s2.T V2 s2.W s2.out (.slice Ax l.length cx) l wi) ∧ Aside0 (Below w.heap.size w wi) ∧ Aside0 (visL cs (l.drop j) s2 = R2))
                    case atStart => exact ⟨0, ⟨s.T, updW s.W x [], s.out⟩, _, _, by omega, rfl, ⟨by omega⟩, HE4, HW4, ⟨by rw [List.drop_zero]; exact HR2.out⟩⟩
                    case round =>
                      obtain ⟨j, s2, V2, vo2, hj, rfl, HN2, HEI, HWI, HAI⟩ := hrel
                      by_cases hlt2 : j < l.length
                      · obtain ⟨ad2, ea2, hcell⟩ := Kd.at_int (Kd.R_reads' HEI.out.xr).2.2 (j : Int) (by omega) (by omega)
                        obtain ⟨i, hi0⟩ : ∃ i, l.getD j 0 = i := ⟨_, rfl⟩
                        rw [show rd l (j : Int) = i from by simpa [rd] using hi0, Int.toNat_natCast] at hcell
                        have hir := HIDX.out i (by rw [← hi0]; simp [List.getD_eq_getElem?_getD, hlt2])
                        have hA := HAI.out
                        rw [drop_rd hlt2, hi0] at hA
                        unfold visL at hA
                        obtain ⟨k, hk⟩ : ∃ k : Nat, i = k := ⟨i.toNat, by omega⟩
                        subst hk
                        cases ea2
                        have HV := Aside0.mk (visit_calls cs k _ HEI.out (HROWS.out _ HWI.out) (by omega) HX.out HL.out (by have := HLEN.out; omega))
                        obtain ⟨q, hq⟩ : ∃ q, vis cs ⟨s2.T, s2.W, s2.out⟩ (k : Int) = q := ⟨_, rfl⟩
                        rw [hq] at HV
                        rw [show vis cs s2 (k : Int) = q from hq] at hA
                        obtain ⟨b, s'⟩ := q
                        clear hq hi0
                        cases b with
                        | true =>
                          rw [if_pos (show (true, s').1 = true from rfl)] at hA
                          have HA3 := Aside0.mk hA
                          clear hA
                          go_wp2_with ((go_at_call 38; refine HV.out.mono ?_; rintro e w5 ⟨rfl, ⟨vo3, V3, hE5⟩, hB5⟩; have HE5 := Aside0.mk hE5; have HW5 := Aside0.mk (HWI.out.trans hB5); have hc3 := blk_cell hE5.eb.box 3; clear hE5 hB5))
                          go_roundg (gk - 1)
                          case measure => have := HN2.out; omega
                          case rel => exact ⟨j + 1, s', V3, vo3, by omega, by go_num, ⟨by have := HN2.out; omega⟩, HE5, HW5, HA3⟩
                        | false =>
                          rw [if_neg (by simp)] at hA
                          have ha2 := HA2.out
                          rw [← hA] at ha2
                          have HA3 := Aside0.mk (Option.some.inj ha2)
                          clear hA ha2
                          go_wp2_with ((go_at_call 38; refine HV.out.mono ?_; rintro e w5 ⟨rfl, ⟨vo3, V3, hE5⟩, hB5⟩; have HE5 := Aside0.mk hE5; have HW5 := Aside0.mk (HWI.out.trans hB5); have hc3 := blk_cell hE5.eb.box 3; clear hE5 hB5))
                          (try rw [Exit.noGoto_ret])
                          go_ret3
                          have hrr := HEQ.out
                          have h2 := HA3.out
                          injection h2 with h3 h4
                          subst h3
                          subst h4
                          injection hrr with q1 q2
                          injection q2 with q2 q3
                          exact ⟨_, (by rw [← q2, ← q3]; rfl), by rw [← q1]; exact HE5.out.own, HW5.out⟩
                      · obtain rfl : j = l.length := by omega
                        have hA := HAI.out
                        rw [List.drop_length] at hA
                        have hR : (s2, none) = R2 := hA
                        have ha2 := HA2.out
                        rw [← hR] at ha2
                        have hll := HLL.out
                        rw [← hR] at hll
                        have HA3 := Aside0.mk (show todoF cs f (B + 2 * l.length + 1) (h + 1) s2 = some (sf, cf) from hll.trans ha2)
                        clear hA hR ha2 hll
                        go_wp2
                        go_roundg f
                        case measure => omega
                        case rel => exact ⟨_, h + 1, s2, V2, vo2, ⟨HEI.out.drop.mono (by omega)⟩, HWI, HA3, ⟨by omega⟩⟩
                · rw [if_neg hlt] at hA
                  have hA2 := Option.some.inj hA
                  have HA2 := Aside0.mk hA2
                  have hli : ¬ (h : Int) < (s.out.length : Int) := by omega
                  clear hA hA2
                  go_wp2
                  refine start_ (n := 10) (S := fun w' => w'.cell? ⟨g, 3, none⟩ = some (.slice Ao s.out.length co) ∧ w'.cell? ⟨g, 4, none⟩ = some (.int .i64 h)) (ds := []) #[false, false, false, false, false, false, false, false, false, false] (by kernel_rfl) rfl rfl ⟨hq3, hq4⟩ (fun hHeld => ?_)
                  refine pure_ (i := 0) (N := some 64) (v := ?_) (a' := ?_) #[true, false, false, false, false, false, false, false, false, false] rfl rfl (by kernel_rfl) (fun _ _ _ h => h) (Or.inl ⟨by rfl, ?_⟩) ?_ ?_
                  rotate_left
                  · intro w'
                    go_simp
                    with_reducible rfl
                  rotate_left
                  · simp only [Act.put, List.setIfInBounds_toArray, List.set_cons_zero, List.set_cons_succ, i64_w, i32_w]
                    rfl
                  refine pure_ (i := 1) (N := some 65) (v := ?_) (a' := ?_) #[true, true, false, false, false, false, false, false, false, false] rfl rfl (by kernel_rfl) (fun _ _ _ h => h) (Or.inl ⟨by rfl, ?_⟩) ?_ ?_
                  rotate_left
                  · intro w'
                    go_simp
                    with_reducible rfl
                  rotate_left
                  · simp only [Act.put, List.setIfInBounds_toArray, List.set_cons_zero, List.set_cons_succ, i64_w, i32_w]
                    rfl
                  refine pure_ (i := 2) (N := some 66) (v := ?_) (a' := ?_) #[true, true, true, false, false, false, false, false, false, false] rfl rfl (by kernel_rfl) (fun _ _ _ h => h) (Or.inl ⟨by rfl, ?_⟩) ?_ ?_
                  rotate_left
                  · intro w'
                    go_simp
                    with_reducible rfl
                  rotate_left
                  · simp only [Act.put, List.setIfInBounds_toArray, List.set_cons_zero, List.set_cons_succ, i64_w, i32_w]
                    rfl
                  refine pure_ (i := 4) (N := some 68) (v := ?_) (a' := ?_) #[true, true, true, false, true, false, false, false, false, false] rfl rfl (by kernel_rfl) (fun _ _ _ h => h) (Or.inl ⟨by rfl, ?_⟩) ?_ ?_
                  rotate_left
                  · intro w'
                    go_simp
                    with_reducible rfl
                  rotate_left
                  · simp only [Act.put, List.setIfInBounds_toArray, List.set_cons_zero, List.set_cons_succ, i64_w, i32_w]
                    rfl
                  refine pure_ (i := 5) (N := some 69) (v := ?_) (a' := ?_) #[true, true, true, false, true, true, false, false, false, false] rfl rfl (by kernel_rfl) (fun _ _ _ h => h) (Or.inl ⟨by rfl, ?_⟩) ?_ ?_
                  rotate_left
                  · intro w'
                    go_simp
                    with_reducible rfl
                  rotate_left
                  · simp only [Act.put, List.setIfInBounds_toArray, List.set_cons_zero, List.set_cons_succ, i64_w, i32_w]
                    rfl
                  refine pure_ (i := 6) (N := some 70) (v := ?_) (a' := ?_) #[true, true, true, false, true, true, true, false, false, false] rfl rfl (by kernel_rfl) (fun _ _ _ h => h) (Or.inl ⟨by rfl, ?_⟩) ?_ ?_
                  rotate_left
                  · intro w'
                    go_simp
                    with_reducible rfl
                  rotate_left
                  · simp only [Act.put, List.setIfInBounds_toArray, List.set_cons_zero, List.set_cons_succ, i64_w, i32_w]
                    rfl
                  refine take_ (i := 3) (N := some 67) (v := ?_) (a' := ?_) #[true, true, true, true, true, true, true, false, false, false] rfl rfl (by kernel_rfl) (fun _ _ _ h => h) (Or.inl ⟨by rfl, ?_⟩) hHeld ?_ ?_
                  rotate_left
                  · rintro w' ⟨s0, s1⟩
                    go_simp
                    with_reducible rfl
                  rotate_left
                  · simp only [Act.put, List.setIfInBounds_toArray, List.set_cons_zero, List.set_cons_succ, i64_w, i32_w]
                    rfl
                  refine take_ (i := 7) (N := some 71) (v := ?_) (a' := ?_) #[true, true, true, true, true, true, true, true, false, false] rfl rfl (by kernel_rfl) (fun _ _ _ h => h) (Or.inl ⟨by rfl, ?_⟩) hHeld ?_ ?_
                  rotate_left
                  · rintro w' ⟨s0, s1⟩
                    go_simp
                    with_reducible rfl
                  rotate_left
                  · simp only [Act.put, List.setIfInBounds_toArray, List.set_cons_zero, List.set_cons_succ, i64_w, i32_w]
                    rfl
                  refine pure_ (i := 8) (N := some 72) (v := ?_) (a' := ?_) #[true, true, true, true, true, true, true, true, true, false] rfl rfl (by kernel_rfl) (fun _ _ _ h => h) (Or.inl ⟨by rfl, ?_⟩) ?_ ?_
                  rotate_left
                  · intro w'
                    go_simp
                    with_reducible rfl
                  rotate_left
                  · simp only [Act.put, List.setIfInBounds_toArray, List.set_cons_zero, List.set_cons_succ, i64_w, i32_w]
                    rfl
                  refine pure_ (i := 9) (N := some 73) (v := ?_) (a' := ?_) #[true, true, true, true, true, true, true, true, true, true] rfl rfl (by kernel_rfl) (fun _ _ _ h => h) (Or.inl ⟨by rfl, ?_⟩) ?_ ?_
                  rotate_left
                  · intro w'
                    go_simp
                    with_reducible rfl
                  rotate_left
                  · simp only [Act.put, List.setIfInBounds_toArray, List.set_cons_zero, List.set_cons_succ, i64_w, i32_w]
                    rfl
                  refine done_ (by kernel_rfl) ?_

                  go_wp2
                  (try rw [Exit.noGoto_ret])
                  go_ret3
                  have hrr := HEQ.out
                  have h2 := HA2.out
                  injection h2 with h3 h4
                  subst h3
                  subst h4
                  injection hrr with q1 q2
                  injection q2 with q2 q3
                  exact ⟨_, (by rw [← q2, ← q3]; rfl), by rw [← q1]; exact HE1.out.own, HW1.out⟩

#print axioms prop_good
end Go.Proofs.Ytidgljajegoffaa.G
