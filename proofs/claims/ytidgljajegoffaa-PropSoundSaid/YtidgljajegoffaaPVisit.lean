/-
  engine.visit: the walk.
-/
import Derived.Test.YtidgljajegoffaaPEng
import Derived.Test.YtidgljajegoffaaWLast
import Derived.Deep.RegionHeld3
namespace Go.Proofs.Ytidgljajegoffaa.G
set_option linter.unusedVariables false
set_option linter.unusedSimpArgs false
open Go.RowKit Go.Proofs.YtidgljajegoffaaW.PrintWords Go.Proofs.YtidgljajegoffaaW.PrintLast Go.Proofs.YtidgljajegoffaaW.PrintMore
open Go.Proofs.Ytidgljajegoffaa.QRef (S32 k32 k32_mkM)

structure PS where
  T : Int → Bool
  W : Int → List Int
  out : List S32
def addW (W : Int → List Int) : List Int → Int → (Int → List Int)
  | [], _ => W
  | x :: o, i => addW (updW W (-x) (W (-x) ++ [i])) o i
/-- What a visit of clause i does. -/
def vis (cs : List (List Int)) (s : PS) (i : Int) : Bool × PS :=
  if (lookF s.T (cs.getD i.toNat []) []).2 = true then (true, s)
  else match (lookF s.T (cs.getD i.toNat []) []).1 with
    | [] => (false, s)
    | [x] => (true, ⟨updT s.T x, s.W, s.out ++ [⟨x, i⟩]⟩)
    | x :: y :: o => (true, ⟨s.T, addW s.W (x :: y :: o) i, s.out⟩)

theorem lookF_mem {T : Int → Bool} {P : Int → Prop} : ∀ {c o : List Int}, (∀ x ∈ c, P x) → (∀ x ∈ o, P x) → ∀ x ∈ (lookF T c o).1, P x
  | [], o, _, ho => ho
  | y :: c, o, hc, ho => by
    have h1 := hc y (by simp)
    have h2 : ∀ x ∈ c, P x := fun x hx => hc x (by simp [hx])
    unfold lookF
    split
    · intro x hx; rw [List.mem_singleton] at hx; subst hx; exact h1
    split
    · exact lookF_mem h2 ho
    split
    · exact lookF_mem h2 ho
    split
    · exact lookF_mem h2 ho
    · refine lookF_mem h2 (fun x hx => ?_)
      rcases List.mem_append.1 hx with hx | hx
      · exact ho x hx
      · rw [List.mem_singleton] at hx; subst hx; exact h1
theorem lookF_len {T : Int → Bool} : ∀ {c o : List Int}, o.length ≤ 2 → (lookF T c o).1.length ≤ 2
  | [], o, h => h
  | y :: c, o, h => by
    unfold lookF
    split
    · simp
    split
    · exact lookF_len h
    split
    · exact lookF_len h
    split
    · exact lookF_len h
    · exact lookF_len (by rw [List.length_append, List.length_singleton]; omega)

theorem addW_snoc (W : Int → List Int) (o : List Int) (z i : Int) : addW W (o ++ [z]) i = updW (addW W o i) (-z) (addW W o i (-z) ++ [i]) := by
  induction o generalizing W with
  | nil => rfl
  | cons x o ih => exact ih _

theorem pw_cell_below' {w w' : World} {a : Addr} {v : Value} (h : w.cell? a = some v) (hb : Below w.heap.size w w') : w'.cell? a = some v := pw_cell_below hb h

set_option maxHeartbeats 3200000 in
theorem visit_calls {bs g tb wb : Nat} {Ac : Option Addr} {cc : Nat} {vo : Value} {hd : Int} {B : Nat} {T : Int → Bool} {V : Int → Value} {W : Int → List Int} {out : List S32} {vX : Value} {xs : List Int} (cs : List (List Int)) (i : Nat) (w : World)
    (h : EI bs g tb wb Ac cs.length cc vo hd B T V W out vX xs w) (hc : KRows.C w Ac cs.length cs) (hi : i < cs.length) (hx : ∀ c ∈ cs, ∀ x ∈ c, LitP x) (hl : ∀ c ∈ cs, c.length ≤ 1000000) (hB : B ≤ 1099511627776) :
    Calls Try.prog 38 #[.pointer (some ⟨g, 0, none⟩), .int .i64 i] w fun e w' => e = .returned (.bool (vis cs ⟨T, W, out⟩ i).1) ∧
      (∃ vo' V', EI bs g tb wb Ac cs.length cc vo' hd (B + 2) (vis cs ⟨T, W, out⟩ i).2.T V' (vis cs ⟨T, W, out⟩ i).2.W (vis cs ⟨T, W, out⟩ i).2.out vX xs w') ∧ Below bs w w' := by
  have hmem : cs.getD i [] ∈ cs := by simp [List.getD_eq_getElem?_getD, hi]
  obtain ⟨nT, hnT, htm⟩ := h.tm
  have hlk := look_calls g tb wb Ac cc vo hd cs nT T i w h.eb htm hc hi (hx _ hmem) (hl _ hmem)
  have hm1 : ∀ x ∈ (lookF T (cs.getD i []) []).1, LitP x := lookF_mem (hx _ hmem) (fun x hx => by cases hx)
  have hm2 : (lookF T (cs.getD i []) []).1.length ≤ 2 := lookF_len (by simp)
  have hvis : vis cs ⟨T, W, out⟩ i = if (lookF T (cs.getD i []) []).2 = true then (true, ⟨T, W, out⟩) else match (lookF T (cs.getD i []) []).1 with
    | [] => (false, ⟨T, W, out⟩)
    | [x] => (true, ⟨updT T x, W, out ++ [⟨x, i⟩]⟩)
    | x :: y :: o => (true, ⟨T, addW W (x :: y :: o) i, out⟩) := rfl
  rw [hvis]
  obtain ⟨r, hr⟩ : ∃ r, lookF T (cs.getD i []) [] = r := ⟨_, rfl⟩
  rw [hr] at hlk hm1 hm2 ⊢
  obtain ⟨o, b⟩ := r
  have HE := Aside0.mk h
  have HLK := Aside0.mk hlk
  have hii : 0 ≤ (i : Int) ∧ (i : Int) < (cs.length : Int) := by omega
  have hsz := h.lo.2.2.2
  clear h hc hl hx htm hlk hr hvis hmem
  cases b with
  | true =>
    rw [if_pos (show true = true from rfl)]
    go_enter Try.func38, Try.ntmps38
    go_wp2_with ((go_at_call 50; refine HLK.out.mono ?_; rintro e w1 ⟨v, rfl, hR, hb⟩; obtain ⟨Ao, co, eo⟩ := Kd.R_slice hR; subst eo; have HRo := Aside0.mk hR; have HB1 := Aside0.mk hb; have HE1 := Aside0.mk (HE.out.below hb); clear hR hb))
    go_ret
    exact ⟨rfl, ⟨vo, V, HE1.out.mono (by omega)⟩, HB1.out.mono hsz⟩
  | false =>
    rw [if_neg (show ¬ (false = true) by decide)]
    match o, hm1, hm2, HLK with
    | [], _, _, HLK =>
      go_enter Try.func38, Try.ntmps38
      go_wp2_with ((go_at_call 50; refine HLK.out.mono ?_; rintro e w1 ⟨v, rfl, hR, hb⟩; obtain ⟨Ao, co, eo⟩ := Kd.R_slice hR; subst eo; have HRo := Aside0.mk hR; have HB1 := Aside0.mk hb; have HE1 := Aside0.mk (HE.out.below hb); clear hR hb))
      go_ret
      exact ⟨rfl, ⟨vo, V, HE1.out.mono (by omega)⟩, HB1.out.mono hsz⟩
    | [x], hm1, _, HLK =>
      have hxl : LitP x := hm1 x (by simp)
      have hxw := hxl.wf
      clear hm1
      go_enter Try.func38, Try.ntmps38
      go_wp2_with ((go_at_call 50; refine HLK.out.mono ?_; rintro e w1 ⟨v, rfl, hR, hb⟩; obtain ⟨go, co, eo, hgo1, hgo2, cells, hgc⟩ := Kd.R_form hR (by simp); rw [show ([x] : List Int).length = 1 from rfl] at eo; subst eo; obtain ⟨ad, ea, hco⟩ := Kd.at_int (Kd.R_reads' hR).2.2 0 (by omega) (by simp); cases ea; have HGC := Aside0.mk hgc; have HCO := Aside0.mk (show w1.cell? ⟨go, 0, none⟩ = some (.int .i64 x) by simpa [Addr.add, rd] using hco); have HRo := Aside0.mk hR; have HB1 := Aside0.mk hb; have HE1 := Aside0.mk (HE.out.below hb); clear hR hb hco hgc))
      have hcA := blk_cell HE1.out.eb.box 0
      obtain ⟨n1, hn1, ht1⟩ := HE1.out.tm
      obtain ⟨esT, clT, hbT⟩ := ht1.block
      have hgt : go ≠ tb := fun e => row_not_map HRo.out hbT (by rw [← e]; rfl)
      have HGT := Aside0.mk (show some go ≠ some tb from fun e => hgt (Option.some.inj e))
      have HSTEP := Aside0.mk (step_calls tb n1 T x w1.drew (show TM w1.drew tb n1 T from ht1) (by unfold maxLen; omega) hxw)
      have HED := Aside0.mk (HE1.out.below (below_drew (Below.refl _ _)))
      clear ht1 hgt hbT
      refine start_ (n := 8) (S := fun w' => w'.cell? ⟨g, 0, none⟩ = some (.map (some tb)) ∧ w'.cell? ⟨go, 0, none⟩ = some (.int .i64 x)) (ds := [7]) #[false, false, false, false, false, false, false, false] (by kernel_rfl) rfl rfl ⟨hcA, HCO.out⟩ (fun hHeld => ?_)
      refine pure_ (i := 0) (N := some 48) (v := ?_) (a' := ?_) #[true, false, false, false, false, false, false, false] rfl rfl (by kernel_rfl) (fun _ _ _ h => h) (Or.inl ⟨by rfl, ?_⟩) ?_ ?_
      rotate_left
      · intro w'
        go_simp
        with_reducible rfl
      rotate_left
      · simp only [Act.put, List.setIfInBounds_toArray, List.set_cons_zero, List.set_cons_succ, i64_w, i32_w]
        rfl
      refine pure_ (i := 1) (N := some 49) (v := ?_) (a' := ?_) #[true, true, false, false, false, false, false, false] rfl rfl (by kernel_rfl) (fun _ _ _ h => h) (Or.inl ⟨by rfl, ?_⟩) ?_ ?_
      rotate_left
      · intro w'
        go_simp
        with_reducible rfl
      rotate_left
      · simp only [Act.put, List.setIfInBounds_toArray, List.set_cons_zero, List.set_cons_succ, i64_w, i32_w]
        rfl
      refine pure_ (i := 2) (N := some 50) (v := ?_) (a' := ?_) #[true, true, true, false, false, false, false, false] rfl rfl (by kernel_rfl) (fun _ _ _ h => h) (Or.inl ⟨by rfl, ?_⟩) ?_ ?_
      rotate_left
      · intro w'
        go_simp
        with_reducible rfl
      rotate_left
      · simp only [Act.put, List.setIfInBounds_toArray, List.set_cons_zero, List.set_cons_succ, i64_w, i32_w]
        rfl
      refine pure_ (i := 4) (N := some 52) (v := ?_) (a' := ?_) #[true, true, true, false, true, false, false, false] rfl rfl (by kernel_rfl) (fun _ _ _ h => h) (Or.inl ⟨by rfl, ?_⟩) ?_ ?_
      rotate_left
      · intro w'
        go_simp
        with_reducible rfl
      rotate_left
      · simp only [Act.put, List.setIfInBounds_toArray, List.set_cons_zero, List.set_cons_succ, i64_w, i32_w]
        rfl
      refine pure_ (i := 5) (N := some 53) (v := ?_) (a' := ?_) #[true, true, true, false, true, true, false, false] rfl rfl (by kernel_rfl) (fun _ _ _ h => h) (Or.inl ⟨by rfl, ?_⟩) ?_ ?_
      rotate_left
      · intro w'
        go_simp
        with_reducible rfl
      rotate_left
      · simp only [Act.put, List.setIfInBounds_toArray, List.set_cons_zero, List.set_cons_succ, i64_w, i32_w]
        rfl
      refine take_ (i := 3) (N := some 51) (v := ?_) (a' := ?_) #[true, true, true, true, true, true, false, false] rfl rfl (by kernel_rfl) (fun _ _ _ h => h) (Or.inl ⟨by rfl, ?_⟩) hHeld ?_ ?_
      rotate_left
      · rintro w' ⟨s0, s1⟩
        go_simp
        with_reducible rfl
      rotate_left
      · simp only [Act.put, List.setIfInBounds_toArray, List.set_cons_zero, List.set_cons_succ, i64_w, i32_w]
        rfl
      refine take_ (i := 6) (N := some 54) (v := ?_) (a' := ?_) #[true, true, true, true, true, true, true, false] rfl rfl (by kernel_rfl) (fun _ _ _ h => h) (Or.inl ⟨by rfl, ?_⟩) hHeld ?_ ?_
      rotate_left
      · rintro w' ⟨s0, s1⟩
        go_simp
        with_reducible rfl
      rotate_left
      · simp only [Act.put, List.setIfInBounds_toArray, List.set_cons_zero, List.set_cons_succ, i64_w, i32_w]
        rfl
      refine last_ (i := 7) (N := some 55) #[true, true, true, true, true, true, true, true] rfl rfl (by kernel_rfl) (by decide) (fun K hK => ?_)
      refine goes_ Try.func37 (by kernel_rfl) rfl #[.map (some tb), .int .i64 x] (by rfl) rfl rfl (by simp only [List.map_toArray, List.map_cons, List.map_nil]; rfl) ?_
      with_reducible refine (HSTEP.out).mono ?_
      rintro e w2 ⟨rfl, hT2, hG2⟩
      refine ⟨_, rfl, ?_⟩
      have HS1 := Aside0.mk (HED.out.stepT hT2 (by omega) hG2)
      have HC2 := Aside0.mk (cell_grown hG2 (show w1.drew.cell? ⟨go, 0, none⟩ = _ from HCO.out) HGT.out)
      have HGC2 := Aside0.mk (blk_grown (show w1.drew.heap[go]? = _ from HGC.out) hG2 HGT.out)
      clear hT2 hG2
      refine hK.out _ _ ?_
      clear hK K
      refine norm_ (a' := ?_) ?_ ?_
      rotate_left
      · show Act.put _ (some 55) _ = _
        simp only [Act.put, List.setIfInBounds_toArray, List.set_cons_zero, List.set_cons_succ, i64_w, i32_w]
        rfl
      refine done_ (by kernel_rfl) ?_

      go_wp2
      have HSD := Aside0.mk (HS1.out.1.below (below_drew (Below.refl _ _)))
      have hcB := blk_cell HSD.out.eb.box 3
      have hcC : w2.drew.cell? ⟨go, 0, none⟩ = some (.int .i64 x) := HC2.out
      have HGV := Aside0.mk (Kd.R_ne HSD.out.own (show w2.drew.heap[go]? = _ from HGC2.out) (by decide))
      have HSZ := Aside0.mk HSD.out.lo.2.2.2
      have HOL := Aside0.mk HSD.out.olen
      refine start_ (n := 15) (S := fun w' => w'.cell? ⟨g, 3, none⟩ = some vo ∧ w'.cell? ⟨go, 0, none⟩ = some (.int .i64 x)) (ds := [14]) #[false, false, false, false, false, false, false, false, false, false, false, false, false, false, false] (by kernel_rfl) rfl rfl ⟨hcB, hcC⟩ (fun hHeld => ?_)
      refine pure_ (i := 0) (N := some 56) (v := ?_) (a' := ?_) #[true, false, false, false, false, false, false, false, false, false, false, false, false, false, false] rfl rfl (by kernel_rfl) (fun _ _ _ h => h) (Or.inl ⟨by rfl, ?_⟩) ?_ ?_
      rotate_left
      · intro w'
        go_simp
        with_reducible rfl
      rotate_left
      · simp only [Act.put, List.setIfInBounds_toArray, List.set_cons_zero, List.set_cons_succ, i64_w, i32_w]
        rfl
      refine pure_ (i := 1) (N := some 57) (v := ?_) (a' := ?_) #[true, true, false, false, false, false, false, false, false, false, false, false, false, false, false] rfl rfl (by kernel_rfl) (fun _ _ _ h => h) (Or.inl ⟨by rfl, ?_⟩) ?_ ?_
      rotate_left
      · intro w'
        go_simp
        with_reducible rfl
      rotate_left
      · simp only [Act.put, List.setIfInBounds_toArray, List.set_cons_zero, List.set_cons_succ, i64_w, i32_w]
        rfl
      refine pure_ (i := 2) (N := some 58) (v := ?_) (a' := ?_) #[true, true, true, false, false, false, false, false, false, false, false, false, false, false, false] rfl rfl (by kernel_rfl) (fun _ _ _ h => h) (Or.inl ⟨by rfl, ?_⟩) ?_ ?_
      rotate_left
      · intro w'
        go_simp
        with_reducible rfl
      rotate_left
      · simp only [Act.put, List.setIfInBounds_toArray, List.set_cons_zero, List.set_cons_succ, i64_w, i32_w]
        rfl
      refine pure_ (i := 3) (N := some 59) (v := ?_) (a' := ?_) #[true, true, true, true, false, false, false, false, false, false, false, false, false, false, false] rfl rfl (by kernel_rfl) (fun _ _ _ h => h) (Or.inl ⟨by rfl, ?_⟩) ?_ ?_
      rotate_left
      · intro w'
        go_simp
        with_reducible rfl
      rotate_left
      · simp only [Act.put, List.setIfInBounds_toArray, List.set_cons_zero, List.set_cons_succ, i64_w, i32_w]
        rfl
      refine pure_ (i := 5) (N := some 61) (v := ?_) (a' := ?_) #[true, true, true, true, false, true, false, false, false, false, false, false, false, false, false] rfl rfl (by kernel_rfl) (fun _ _ _ h => h) (Or.inl ⟨by rfl, ?_⟩) ?_ ?_
      rotate_left
      · intro w'
        go_simp
        with_reducible rfl
      rotate_left
      · simp only [Act.put, List.setIfInBounds_toArray, List.set_cons_zero, List.set_cons_succ, i64_w, i32_w]
        rfl
      refine pure_ (i := 6) (N := some 62) (v := ?_) (a' := ?_) #[true, true, true, true, false, true, true, false, false, false, false, false, false, false, false] rfl rfl (by kernel_rfl) (fun _ _ _ h => h) (Or.inl ⟨by rfl, ?_⟩) ?_ ?_
      rotate_left
      · intro w'
        go_simp
        with_reducible rfl
      rotate_left
      · simp only [Act.put, List.setIfInBounds_toArray, List.set_cons_zero, List.set_cons_succ, i64_w, i32_w]
        rfl
      refine pure_ (i := 8) (N := some 64) (v := ?_) (a' := ?_) #[true, true, true, true, false, true, true, false, true, false, false, false, false, false, false] rfl rfl (by kernel_rfl) (fun _ _ _ h => h) (Or.inl ⟨by rfl, ?_⟩) ?_ ?_
      rotate_left
      · intro w'
        go_simp
        with_reducible rfl
      rotate_left
      · simp only [Act.put, List.setIfInBounds_toArray, List.set_cons_zero, List.set_cons_succ, i64_w, i32_w]
        rfl
      refine take_ (i := 4) (N := some 60) (v := ?_) (a' := ?_) #[true, true, true, true, true, true, true, false, true, false, false, false, false, false, false] rfl rfl (by kernel_rfl) (fun _ _ _ h => h) (Or.inl ⟨by rfl, ?_⟩) hHeld ?_ ?_
      rotate_left
      · rintro w' ⟨s0, s1⟩
        go_simp
        with_reducible rfl
      rotate_left
      · simp only [Act.put, List.setIfInBounds_toArray, List.set_cons_zero, List.set_cons_succ, i64_w, i32_w]
        rfl
      refine take_ (i := 7) (N := some 63) (v := ?_) (a' := ?_) #[true, true, true, true, true, true, true, true, true, false, false, false, false, false, false] rfl rfl (by kernel_rfl) (fun _ _ _ h => h) (Or.inl ⟨by rfl, ?_⟩) hHeld ?_ ?_
      rotate_left
      · rintro w' ⟨s0, s1⟩
        go_simp
        with_reducible rfl
      rotate_left
      · simp only [Act.put, List.setIfInBounds_toArray, List.set_cons_zero, List.set_cons_succ, i64_w, i32_w]
        rfl
      refine pure_ (i := 9) (N := some 65) (v := ?_) (a' := ?_) #[true, true, true, true, true, true, true, true, true, true, false, false, false, false, false] rfl rfl (by kernel_rfl) (fun _ _ _ h => h) (Or.inl ⟨by rfl, ?_⟩) ?_ ?_
      rotate_left
      · intro w'
        go_simp
        with_reducible rfl
      rotate_left
      · simp only [Act.put, List.setIfInBounds_toArray, List.set_cons_zero, List.set_cons_succ, i64_w, i32_w]
        rfl
      refine one_ (i := 10) (N := some 66) #[true, true, true, true, true, true, true, true, true, true, true, false, false, false, false] rfl rfl (by kernel_rfl) (by decide) (fun K hK => ?_)
      refine value_ (w1 := ?_) (v := ?_) (by rfl) rfl ?_ ?_
      rotate_left 2
      · go_simp
        constructor
        · rfl
        · rfl
      have hcA1 := pw_cell_below (below_alloc (Below.refl w2.drew.heap.size w2.drew) (.cells #[.int .i64 x, .int .i64 i] 32)) hcB
      have hcA2 := pw_cell_below (below_alloc (Below.refl w2.drew.heap.size w2.drew) (.cells #[.int .i64 x, .int .i64 i] 32)) hcC
      refine hK.out _ _ ⟨hcA1, hcA2⟩ (fun hHeld => ?_)
      clear hK K
      refine norm_ (a' := ?_) ?_ ?_
      rotate_left
      · show Act.put _ (some 66) _ = _
        simp only [Act.put, List.setIfInBounds_toArray, List.set_cons_zero, List.set_cons_succ, i64_w, i32_w]
        rfl
      refine one_ (i := 11) (N := some 67) #[true, true, true, true, true, true, true, true, true, true, true, true, false, false, false] rfl rfl (by kernel_rfl) (by decide) (fun K hK => ?_)
      refine Kd.R_append_step k32 (w0 := w2.drew) bs (by rfl) _ _ 30 32 (.agg #[(.int .i64 0), (.int .i64 0)]) 16 rfl Try.underlying30 Go.Proofs.Ytidgljajegoffaa.QRef.info32 rfl (by decide) (by decide) vo out (⟨x, i⟩ : S32) [.int .i64 x, .int .i64 i] (fun k => bs ≤ k) (fun _ => False) rfl rfl (k32_mkM _ _ _ ⟨x, i⟩) (fun _ h => h.elim) (fun k hk => Nat.le_trans HSZ.out hk) HSD.out.own (Below.refl _ _) HSZ.out (by have := HOL.out; omega) ?_
      intro v1 w3 ho hb hg hat
      have hc3 := cell_grown hg hcC HGV.out
      obtain ⟨A5, c5, e5⟩ := Kd.R_slice ho
      rw [List.length_append, List.length_singleton] at e5
      subst e5
      have hos := HSD.out.outS hg ho hxl
      have hce := blk_cell hos.2.2 3
      have hfr := blk_frozen hos.2.2 3
      have HS2 := Aside0.mk (show _ ∧ _ from ⟨hos.1, hos.2.1⟩)
      clear ho hb hg hat hos
      refine hK.out _ _ ⟨hce, hc3⟩ (fun hHeld => ?_)
      clear hK K
      refine norm_ (a' := ?_) ?_ ?_
      rotate_left
      · show Act.put _ (some 67) _ = _
        simp only [Act.put, List.setIfInBounds_toArray, List.set_cons_zero, List.set_cons_succ, i64_w, i32_w]
        rfl
      refine pure_ (i := 12) (N := some 68) (v := ?_) (a' := ?_) #[true, true, true, true, true, true, true, true, true, true, true, true, true, false, false] rfl rfl (by kernel_rfl) (fun _ _ _ h => h) (Or.inl ⟨by rfl, ?_⟩) ?_ ?_
      rotate_left
      · intro w'
        go_simp
        with_reducible rfl
      rotate_left
      · simp only [Act.put, List.setIfInBounds_toArray, List.set_cons_zero, List.set_cons_succ, i64_w, i32_w]
        rfl
      refine pure_ (i := 13) (N := some 69) (v := ?_) (a' := ?_) #[true, true, true, true, true, true, true, true, true, true, true, true, true, true, false] rfl rfl (by kernel_rfl) (fun _ _ _ h => h) (Or.inl ⟨by rfl, ?_⟩) ?_ ?_
      rotate_left
      · intro w'
        go_simp
        with_reducible rfl
      rotate_left
      · simp only [Act.put, List.setIfInBounds_toArray, List.set_cons_zero, List.set_cons_succ, i64_w, i32_w]
        rfl
      refine last_ (i := 14) (N := none) #[true, true, true, true, true, true, true, true, true, true, true, true, true, true, true] rfl rfl (by kernel_rfl) (by decide) (fun K hK => ?_)
      refine skip_ (w1 := ?_) (by rfl) rfl ?_ ?_
      rotate_left
      · go_simp
        rfl
      refine hK.out _ _ ?_
      clear hK K
      refine done_ (by kernel_rfl) ?_

      go_wp2
      go_ret
      exact ⟨rfl, ⟨_, V, HS2.out.1⟩, (below_drew ((below_drew (HB1.out.mono hsz)).trans HS1.out.2)).trans HS2.out.2⟩
    | x :: y :: z :: o', _, hm2, _ => exact absurd hm2 (by simp only [List.length_cons]; omega)
    | [x, y], hm1, _, HLK =>
      have HXL := Aside0.mk hm1
      clear hm1
      go_enter Try.func38, Try.ntmps38
      go_wp2_with ((go_at_call 50; refine HLK.out.mono ?_; rintro e w1 ⟨v, rfl, hR, hb⟩; obtain ⟨Ao, co, eo⟩ := Kd.R_slice hR; subst eo; have HRo := Aside0.mk hR; have HB1 := Aside0.mk hb; have HE1 := Aside0.mk (HE.out.below hb); clear hR hb))
      have hxa : ∀ q, LitP q → (Value.slice Ao 2 co).ownBlock = none ∨ (Value.slice Ao 2 co).ownBlock ≠ (V q).ownBlock := by
        intro q hq
        cases hob : (Value.slice Ao 2 co).ownBlock with
        | none => exact .inl rfl
        | some k => exact .inr (fun e => by have h1 := Kd.R_base HRo.out k hob; have := Kd.R_lt (HE.out.rows q hq) k e.symm; omega)
      have HX1 := Aside0.mk (show EI bs g tb wb Ac cs.length cc vo hd B T V W out (.slice Ao 2 co) [x, y] w1 from { HE1.out with xr := Kd.R_mono (Kd.R_lower HRo.out hsz) (fun _ _ => trivial), xa := hxa })
      go_loopg [17] 2 (fun kq v17 wr => ∃ (j : Nat) (V' : Int → Value), j ≤ 2 ∧ v17 = .int .i64 j ∧ Aside0 (kq + j = 2) ∧ Aside0 (EI bs g tb wb Ac cs.length cc vo hd (B + j) T V' (addW W ([x, y].take j) i) out vX xs wr) ∧ Aside0 (Below bs w wr) ∧ Aside0 (EI bs g tb wb Ac cs.length cc vo hd (B + j) T V' (addW W ([x, y].take j) i) out (.slice Ao 2 co) [x, y] wr))
      case atStart => exact ⟨0, V, by omega, rfl, ⟨by omega⟩, HE1, ⟨HB1.out.mono hsz⟩, ⟨HX1.out⟩⟩
      case round =>
        obtain ⟨j, V', hj, rfl, HN, HEJ, HBJ, HEX⟩ := hrel
        by_cases hlt : j < 2
        · obtain ⟨ad2, e2, hcell⟩ := Kd.at_int (Kd.R_reads' HEX.out.xr).2.2 (j : Int) (by omega) (by simp only [List.length_cons, List.length_nil]; omega)
          cases e2
          obtain ⟨z, hz⟩ : ∃ z, ([x, y] : List Int).getD j 0 = z := ⟨_, rfl⟩
          rw [show rd [x, y] (j : Int) = z from by simpa [rd] using hz, Int.toNat_natCast] at hcell
          have hzl : LitP z := HXL.out z (by rw [← hz]; simp only [List.getD_eq_getElem?_getD]; rw [List.getElem?_eq_getElem (by simpa using hlt)]; exact List.getElem_mem _)
          have hnl := hzl.neg
          have hnw := hnl.wf
          have htk : ([x, y] : List Int).take (j + 1) = ([x, y] : List Int).take j ++ [z] := by
            rw [List.take_succ_eq_append_getElem (by simpa using hlt), ← hz]; simp only [List.getD_eq_getElem?_getD]; rw [List.getElem?_eq_getElem (by simpa using hlt)]; rfl
          obtain ⟨Wj, hWj⟩ : ∃ Wj, addW W (([x, y] : List Int).take j) i = Wj := ⟨_, rfl⟩
          have hWn : addW W (([x, y] : List Int).take (j + 1)) i = updW Wj (-z) (Wj (-z) ++ [(i : Int)]) := by rw [htk, addW_snoc, hWj]
          rw [hWj] at HEJ HEX
          have HWN := Aside0.mk hWn
          obtain ⟨z0, z1, z2⟩ := hzl
          have hneg : wrap64 (-z) = -z := by unfold wrap64; omega
          have HED := Aside0.mk (HEJ.out.below (below_drew (Below.refl _ _)))
          have HBD := Aside0.mk (below_drew HBJ.out)
          have hcB := blk_cell HED.out.eb.box 2
          obtain ⟨nV, hnV, hv⟩ := HED.out.vm
          have HV := Aside0.mk hv
          have hlk := hv.look (t := 58) Try.underlying3 Try.underlying58 (zeroS _) (-z) hnw
          replace hlk : (Instr.lookup 58 (.map (some wb)) (.int .i64 (-z)) false).run Try.prog wr.drew = .ok (V' (-z)) wr.drew := hlk
          have hsz2 := HED.out.lo.2.2.2
          have HLN := Aside0.mk (HED.out.len (-z) hnl)
          have HROW := Aside0.mk (HED.out.rows (-z) hnl)
          clear hz htk hWj hWn hv
          go_wp2
          refine start_ (n := 17) (S := fun w' => w'.cell? ⟨g, 2, none⟩ = some (.map (some wb)) ∧ (Instr.lookup 58 (.map (some wb)) (.int .i64 (-z)) false).run Try.prog w' = .ok (V' (-z)) w') (ds := [16]) #[false, false, false, false, false, false, false, false, false, false, false, false, false, false, false, false, false] (by kernel_rfl) rfl rfl ⟨hcB, hlk⟩ (fun hHeld => ?_)
          refine pure_ (i := 0) (N := some 21) (v := ?_) (a' := ?_) #[true, false, false, false, false, false, false, false, false, false, false, false, false, false, false, false, false] rfl rfl (by kernel_rfl) (fun _ _ _ h => h) (Or.inl ⟨by rfl, ?_⟩) ?_ ?_
          rotate_left
          · intro w'
            go_simp
            with_reducible rfl
          rotate_left
          · simp only [Act.put, List.setIfInBounds_toArray, List.set_cons_zero, List.set_cons_succ, i64_w, i32_w]
            rfl
          refine pure_ (i := 1) (N := some 22) (v := ?_) (a' := ?_) #[true, true, false, false, false, false, false, false, false, false, false, false, false, false, false, false, false] rfl rfl (by kernel_rfl) (fun _ _ _ h => h) (Or.inl ⟨by rfl, ?_⟩) ?_ ?_
          rotate_left
          · intro w'
            go_simp
            with_reducible rfl
          rotate_left
          · simp only [Act.put, List.setIfInBounds_toArray, List.set_cons_zero, List.set_cons_succ, i64_w, i32_w]
            rfl
          refine pure_ (i := 2) (N := some 23) (v := ?_) (a' := ?_) #[true, true, true, false, false, false, false, false, false, false, false, false, false, false, false, false, false] rfl rfl (by kernel_rfl) (fun _ _ _ h => h) (Or.inl ⟨by rfl, ?_⟩) ?_ ?_
          rotate_left
          · intro w'
            go_simp
            with_reducible rfl
          rotate_left
          · simp only [Act.put, List.setIfInBounds_toArray, List.set_cons_zero, List.set_cons_succ, i64_w, i32_w]
            rfl
          refine pure_ (i := 4) (N := some 25) (v := ?_) (a' := ?_) #[true, true, true, false, true, false, false, false, false, false, false, false, false, false, false, false, false] rfl rfl (by kernel_rfl) (fun _ _ _ h => h) (Or.inl ⟨by rfl, ?_⟩) ?_ ?_
          rotate_left
          · intro w'
            go_simp
            with_reducible rfl
          rotate_left
          · simp only [Act.put, List.setIfInBounds_toArray, List.set_cons_zero, List.set_cons_succ, i64_w, i32_w]
            rfl
          refine pure_ (i := 5) (N := some 26) (v := ?_) (a' := ?_) #[true, true, true, false, true, true, false, false, false, false, false, false, false, false, false, false, false] rfl rfl (by kernel_rfl) (fun _ _ _ h => h) (Or.inl ⟨by rfl, ?_⟩) ?_ ?_
          rotate_left
          · intro w'
            go_simp
            with_reducible rfl
          rotate_left
          · simp only [Act.put, List.setIfInBounds_toArray, List.set_cons_zero, List.set_cons_succ, i64_w, i32_w]
            rfl
          refine pure_ (i := 6) (N := some 27) (v := ?_) (a' := ?_) #[true, true, true, false, true, true, true, false, false, false, false, false, false, false, false, false, false] rfl rfl (by kernel_rfl) (fun _ _ _ h => h) (Or.inl ⟨by rfl, ?_⟩) ?_ ?_
          rotate_left
          · intro w'
            go_simp
            with_reducible rfl
          rotate_left
          · simp only [Act.put, List.setIfInBounds_toArray, List.set_cons_zero, List.set_cons_succ, i64_w, i32_w]
            rfl
          refine pure_ (i := 7) (N := some 28) (v := ?_) (a' := ?_) #[true, true, true, false, true, true, true, true, false, false, false, false, false, false, false, false, false] rfl rfl (by kernel_rfl) (fun _ _ _ h => h) (Or.inl ⟨by rfl, ?_⟩) ?_ ?_
          rotate_left
          · intro w'
            go_simp
            with_reducible rfl
          rotate_left
          · simp only [Act.put, List.setIfInBounds_toArray, List.set_cons_zero, List.set_cons_succ, i64_w, i32_w]
            rfl
          refine pure_ (i := 8) (N := some 29) (v := ?_) (a' := ?_) #[true, true, true, false, true, true, true, true, true, false, false, false, false, false, false, false, false] rfl rfl (by kernel_rfl) (fun _ _ _ h => h) (Or.inl ⟨by rfl, ?_⟩) ?_ ?_
          rotate_left
          · intro w'
            go_simp
            with_reducible rfl
          rotate_left
          · simp only [Act.put, List.setIfInBounds_toArray, List.set_cons_zero, List.set_cons_succ, i64_w, i32_w]
            rfl
          refine pure_ (i := 10) (N := some 31) (v := ?_) (a' := ?_) #[true, true, true, false, true, true, true, true, true, false, true, false, false, false, false, false, false] rfl rfl (by kernel_rfl) (fun _ _ _ h => h) (Or.inl ⟨by rfl, ?_⟩) ?_ ?_
          rotate_left
          · intro w'
            go_simp
            with_reducible rfl
          rotate_left
          · simp only [Act.put, List.setIfInBounds_toArray, List.set_cons_zero, List.set_cons_succ, i64_w, i32_w]
            rfl
          refine pure_ (i := 11) (N := some 32) (v := ?_) (a' := ?_) #[true, true, true, false, true, true, true, true, true, false, true, true, false, false, false, false, false] rfl rfl (by kernel_rfl) (fun _ _ _ h => h) (Or.inl ⟨by rfl, ?_⟩) ?_ ?_
          rotate_left
          · intro w'
            go_simp
            with_reducible rfl
          rotate_left
          · simp only [Act.put, List.setIfInBounds_toArray, List.set_cons_zero, List.set_cons_succ, i64_w, i32_w]
            rfl
          refine pure_ (i := 13) (N := some 34) (v := ?_) (a' := ?_) #[true, true, true, false, true, true, true, true, true, false, true, true, false, true, false, false, false] rfl rfl (by kernel_rfl) (fun _ _ _ h => h) (Or.inl ⟨by rfl, ?_⟩) ?_ ?_
          rotate_left
          · intro w'
            go_simp
            with_reducible rfl
          rotate_left
          · simp only [Act.put, List.setIfInBounds_toArray, List.set_cons_zero, List.set_cons_succ, i64_w, i32_w]
            rfl
          refine take_ (i := 3) (N := some 24) (v := ?_) (a' := ?_) #[true, true, true, true, true, true, true, true, true, false, true, true, false, true, false, false, false] rfl rfl (by kernel_rfl) (fun _ _ _ h => h) (Or.inl ⟨by rfl, ?_⟩) hHeld ?_ ?_
          rotate_left
          · rintro w' ⟨s0, s1⟩
            go_simp
            with_reducible rfl
          rotate_left
          · simp only [Act.put, List.setIfInBounds_toArray, List.set_cons_zero, List.set_cons_succ, i64_w, i32_w]
            rfl
          refine take_ (i := 9) (N := some 30) (v := ?_) (a' := ?_) #[true, true, true, true, true, true, true, true, true, true, true, true, false, true, false, false, false] rfl rfl (by kernel_rfl) (fun _ _ _ h => h) (Or.inl ⟨by rfl, ?_⟩) hHeld ?_ ?_
          rotate_left
          · rintro w' ⟨s0, s1⟩
            go_simp
            with_reducible rfl
          rotate_left
          · simp only [Act.put, List.setIfInBounds_toArray, List.set_cons_zero, List.set_cons_succ, i64_w, i32_w]
            rfl
          refine take_ (i := 12) (N := some 33) (v := ?_) (a' := ?_) #[true, true, true, true, true, true, true, true, true, true, true, true, true, true, false, false, false] rfl rfl (by kernel_rfl) (fun _ _ _ h => h) (Or.inl ⟨by rfl, ?_⟩) hHeld ?_ ?_
          rotate_left
          · rintro w' ⟨s0, s1⟩
            go_simp
            with_reducible rfl
          rotate_left
          · simp only [Act.put, List.setIfInBounds_toArray, List.set_cons_zero, List.set_cons_succ, i64_w, i32_w]
            rfl
          refine one_ (i := 14) (N := some 35) #[true, true, true, true, true, true, true, true, true, true, true, true, true, true, true, false, false] rfl rfl (by kernel_rfl) (by decide) (fun K hK => ?_)
          refine value_ (w1 := ?_) (v := ?_) (by rfl) rfl ?_ ?_
          rotate_left 2
          · go_simp
            constructor
            · rfl
            · rfl
          have hcA1 := pw_cell_below (below_alloc (Below.refl wr.drew.heap.size wr.drew) (.cells #[.int .i64 i] 3)) hcB
          have hlA := (VMap.below HV.out (below_alloc (Below.refl wr.drew.heap.size wr.drew) (.cells #[.int .i64 i] 3))).look (t := 58) Try.underlying3 Try.underlying58 (zeroS _) (-z) hnw
          replace hlA := (hlA : (Instr.lookup 58 (.map (some wb)) (.int .i64 (-z)) false).run Try.prog (wr.drew.alloc (.cells #[.int .i64 i] 3)) = .ok (V' (-z)) (wr.drew.alloc (.cells #[.int .i64 i] 3)))
          refine hK.out _ _ ⟨hcA1, hlA⟩ (fun hHeld => ?_)
          clear hK K
          refine norm_ (a' := ?_) ?_ ?_
          rotate_left
          · show Act.put _ (some 35) _ = _
            simp only [Act.put, List.setIfInBounds_toArray, List.set_cons_zero, List.set_cons_succ, i64_w, i32_w]
            rfl
          refine one_ (i := 15) (N := some 36) #[true, true, true, true, true, true, true, true, true, true, true, true, true, true, true, true, false] rfl rfl (by kernel_rfl) (by decide) (fun K hK => ?_)
          refine Kd.R_append_step (Kd.int .i64) (w0 := wr.drew) bs (by rfl) _ _ 37 3 (.int .i64 0) 8 rfl Try.underlying37 infoT3 rfl (by decide) (by decide) (V' (-z)) (Wj (-z)) (i : Int) [.int .i64 i] (fun _ => True) (fun _ => False) rfl rfl rfl (fun _ h => h.elim) (fun _ _ => trivial) HROW.out (Below.refl _ _) hsz2 (by have := HLN.out; omega) ?_
          intro v1 w3 ho hb hg hat
          have hbox3 := blk_grown HED.out.eb.box hg (fun e => Kd.R_ne HROW.out HED.out.eb.box (by decide) e)
          have hce := blk_cell hbox3 2
          obtain ⟨esV, clV, hbV⟩ := VMap.block HV.out
          have hv3 : VM w3 wb nV V' := VMap.kept HV.out hg (row_not_map HROW.out hbV)
          have hl3 : (Instr.lookup 58 (.map (some wb)) (.int .i64 (-z)) false).run Try.prog w3 = .ok (V' (-z)) w3 := hv3.look (t := 58) Try.underlying3 Try.underlying58 (zeroS _) (-z) hnw
          have HV3 := Aside0.mk hv3
          obtain ⟨A5, c5, e5⟩ := Kd.R_slice ho
          rw [List.length_append, List.length_singleton] at e5
          subst e5
          have HO3 := Aside0.mk ho
          have HG3 := Aside0.mk hg
          have HAT := Aside0.mk hat
          clear ho hb hg hat hv3 hbox3 hbV
          refine hK.out _ _ ⟨hce, hl3⟩ (fun hHeld => ?_)
          clear hK K
          refine norm_ (a' := ?_) ?_ ?_
          rotate_left
          · show Act.put _ (some 36) _ = _
            simp only [Act.put, List.setIfInBounds_toArray, List.set_cons_zero, List.set_cons_succ, i64_w, i32_w]
            rfl
          refine last_ (i := 16) (N := none) #[true, true, true, true, true, true, true, true, true, true, true, true, true, true, true, true, true] rfl rfl (by kernel_rfl) (by decide) (fun K hK => ?_)
          obtain ⟨w4, hrun, hvm4, hg4⟩ := HV3.out.put (t := 58) Try.underlying3 Try.underlying58 (by unfold maxLen; omega) (-z) hnw (.slice A5 ((Wj (-z)).length + 1) c5)
          replace hrun : (Instr.mapUpdate 58 (.map (some wb)) (.int .i64 (-z)) (.slice A5 ((Wj (-z)).length + 1) c5)).run Try.prog w3 = .ok () w4 := hrun
          refine skip_ (w1 := w4) (by rfl) rfl ?_ ?_
          · first | (go_simp; done) | (go_simp; rfl) | (simp [execOp, Act.eval, hrun, Result.andThen])
          have HS4 := Aside0.mk (HED.out.addV hnl hii HG3.out HO3.out HAT.out (by omega) hvm4 hg4)
          have HX4 := Aside0.mk ((HEX.out.below (below_drew (Below.refl _ _))).addV hnl hii HG3.out HO3.out HAT.out (by omega) hvm4 hg4)
          clear hrun hvm4 hg4
          refine hK.out _ _ ?_
          clear hK K
          refine done_ (by kernel_rfl) ?_

          go_wp2
          go_roundg (gk - 1)
          case measure => have := HN.out; omega
          case rel => exact ⟨j + 1, _, by omega, by go_num, ⟨by have := HN.out; omega⟩, ⟨by rw [HWN.out]; exact HS4.out.1⟩, ⟨HBD.out.trans HS4.out.2⟩, ⟨by rw [HWN.out]; exact HX4.out.1⟩⟩
        · obtain rfl : j = 2 := by omega
          have HEF := Aside0.mk HEJ.out
          go_wp2
          go_ret
          exact ⟨rfl, ⟨vo, V', HEF.out⟩, HBJ.out⟩

#print axioms visit_calls
end Go.Proofs.Ytidgljajegoffaa.G
