/-
  prop.Check: the walk.
-/
import Derived.Test.YtidgljajegoffaaPEng
import Derived.Test.YtidgljajegoffaaPCnf
namespace Go.Proofs.Ytidgljajegoffaa.G
set_option linter.unusedVariables false
set_option linter.unusedSimpArgs false
open Go.RowKit Go.Proofs.YtidgljajegoffaaW.PrintWords Go.Proofs.YtidgljajegoffaaW.PrintLast Go.Proofs.YtidgljajegoffaaW.PrintMore
open Go.Proofs.Ytidgljajegoffaa.QRef (S32 k32 k32_mkM rd_T32 at_T32 z32)

/-- The variables that the closure has caught: a step, and the truths. -/
structure SB (gs : Nat) (s : S32) (w : World) : Prop where
  box : w.heap[gs]? = some (.cells #[.int .i64 s.f0, .int .i64 s.f1] 32 (0, 0))
structure DB (gd mb : Nat) (w : World) : Prop where
  box : w.heap[gd]? = some (.cells #[.map (some mb)] 57 (0, 0))
theorem SB.below {gs : Nat} {s : S32} {w w' : World} (h : SB gs s w) (hb : Below w.heap.size w w') : SB gs s w' := ⟨blk_below h.box hb⟩
theorem DB.below {gd mb : Nat} {w w' : World} (h : DB gd mb w) (hb : Below w.heap.size w w') : DB gd mb w' := ⟨blk_below h.box hb⟩

/-- Is the literal another one, and not false? -/
def openB (s : S32) (T : Int → Bool) (x : Int) : Bool := decide (x ≠ s.f0) && !(T (-x))

theorem open1_calls (gs gd mb n : Nat) (s : S32) (T : Int → Bool) (x : Int) (w : World) (hs : SB gs s w) (hd : DB gd mb w) (hT : TM w mb n T) (hx : LitP x) :
    Calls Try.prog 42 #[.int .i64 x, .pointer (some ⟨gs, 0, none⟩), .pointer (some ⟨gd, 0, none⟩)] w fun e w' => e = .returned (.bool (openB s T x)) ∧ w' = w := by
  have e1 := hT.look (t := 57) Try.underlying3 Try.underlying57 Try.underlying4 (zeroB _) (-x) hx.neg.wf
  have c1 := blk_cell hs.box 0
  have c2 := blk_cell hd.box 0
  obtain ⟨b, hb⟩ : ∃ b, T (-x) = b := ⟨_, rfl⟩
  unfold openB
  rw [hb] at e1 ⊢
  obtain ⟨h0, h1, h2⟩ := hx
  clear hs hd hT hb
  obtain ⟨y, hy⟩ : ∃ y, s.f0 = y := ⟨_, rfl⟩
  rw [hy] at c1 ⊢
  by_cases hxy : x = y
  · rw [decide_eq_false (by simpa using hxy)]
    go_enter Try.func42, Try.ntmps42
    go_wp2
    go_ret
    exact ⟨rfl, rfl⟩
  · rw [decide_eq_true hxy]
    go_enter Try.func42, Try.ntmps42
    go_wp2
    go_ret
    exact ⟨by simp [hxy], rfl⟩

set_option maxHeartbeats 800000 in
theorem index_open (gs gd mb n : Nat) (s : S32) (T : Int → Bool) (B : Option Addr) (cb : Nat) (l : List Int) (w : World) (hs : SB gs s w) (hd : DB gd mb w) (hT : TM w mb n T) (hr : (Kd.int .i64).C w B l.length l) (hl : l.length ≤ 140737488355328) (hw : ∀ x ∈ l, LitP x) :
    Calls Try.prog 49 #[.slice B l.length cb, .func (.func 42) #[] #[.pointer (some ⟨gs, 0, none⟩), .pointer (some ⟨gd, 0, none⟩)]] w fun e w' => ∃ r : Int, e = .returned (.int .i64 r) ∧ (decide (0 ≤ r) = l.any (openB s T)) ∧ w' = w := by
  have HS := Aside0.mk hs
  have HD := Aside0.mk hd
  have HT := Aside0.mk hT
  have HR := Aside0.mk hr
  have HW := Aside0.mk hw
  clear hs hd hT hr hw
  go_enter Try.func49, Try.ntmps49
  go_wp2
  go_loopg [8] l.length (fun kq v8 wr => ∃ i : Nat, i ≤ l.length ∧ v8 = .int .i64 i ∧ Aside0 (kq + i = l.length) ∧ Aside0 (w = wr) ∧ Aside0 ((l.take i).any (openB s T) = false))
  case atStart => exact ⟨0, by omega, rfl, ⟨by omega⟩, ⟨rfl⟩, ⟨by simp⟩⟩
  case round =>
    obtain ⟨i, hi, rfl, HN, HB, HA⟩ := hrel
    obtain rfl := HB.out
    by_cases hlt : i < l.length
    · obtain ⟨ad, e0, hcell⟩ := Kd.at_int HR.out (i : Int) (by omega) (by omega)
      cases e0
      obtain ⟨x, hx⟩ : ∃ x, l.getD i 0 = x := ⟨_, rfl⟩
      rw [show rd l (i : Int) = x from by simpa [rd] using hx, Int.toNat_natCast] at hcell
      have hxw : LitP x := HW.out x (by rw [← hx]; simp [List.getD_eq_getElem?_getD, hlt])
      have HC := Aside0.mk (open1_calls gs gd mb n s T x w HS.out HD.out HT.out hxw)
      have HX := Aside0.mk hx
      clear hxw hx
      obtain ⟨b, hb⟩ : ∃ b, openB s T x = b := ⟨_, rfl⟩
      rw [hb] at HC
      have HBB := Aside0.mk hb
      clear hb
      cases b with
      | true =>
        go_wp2_with ((go_at_call 42; refine HC.out.mono ?_; rintro e w1 ⟨rfl, rfl⟩))
        go_ret
        exact ⟨_, rfl, by rw [any_of_getD hlt (by rw [HX.out]; exact HBB.out)]; simp, rfl⟩
      | false =>
        go_wp2_with ((go_at_call 42; refine HC.out.mono ?_; rintro e w1 ⟨rfl, rfl⟩))
        go_roundg (gk - 1)
        case measure => have := HN.out; omega
        case rel => exact ⟨i + 1, by omega, by go_num, ⟨by have := HN.out; omega⟩, ⟨rfl⟩, ⟨take_all hlt HA.out (by rw [HX.out]; exact HBB.out)⟩⟩
    · have hii : i = l.length := by omega
      have h1 := HA.out
      rw [hii, List.take_length] at h1
      have H1 := Aside0.mk h1
      clear h1
      go_wp2
      go_ret
      exact ⟨_, rfl, by rw [H1.out]; simp, rfl⟩

theorem contains_open (gs gd mb n : Nat) (s : S32) (T : Int → Bool) (B : Option Addr) (cb : Nat) (l : List Int) (w : World) (hs : SB gs s w) (hd : DB gd mb w) (hT : TM w mb n T) (hr : (Kd.int .i64).C w B l.length l) (hl : l.length ≤ 140737488355328) (hw : ∀ x ∈ l, LitP x) :
    Calls Try.prog 33 #[.slice B l.length cb, .func (.func 42) #[] #[.pointer (some ⟨gs, 0, none⟩), .pointer (some ⟨gd, 0, none⟩)]] w fun e w' => e = .returned (.bool (l.any (openB s T))) ∧ w' = w := by
  have HC := Aside0.mk (index_open gs gd mb n s T B cb l w hs hd hT hr hl hw)
  clear hs hd hT hr hw
  go_enter Try.func33, Try.ntmps33
  go_wp2_with ((go_at_call 49; refine HC.out.mono ?_; rintro e w1 ⟨r, rfl, hr, rfl⟩; have HV := Aside0.mk hr; clear hr))
  go_ret
  exact ⟨by rw [← HV.out]; rfl, rfl⟩

/-- A number of variables that is out of bounds. -/
theorem check_out (n : Int) (A : Option Addr) (m cL : Nat) (w : World) (h : n < 0 ∨ 65536 < n) :
    Calls Try.prog 13 #[.agg #[.int .i64 n, .slice A m cL]] w fun e w' => e = .returned (.int .i64 1) ∧ Below w.heap.size w w' := by
  have hb0 := below_alloc (Below.refl w.heap.size w) (Obj.cells #[.int .i64 n, .slice A m cL] 24)
  obtain ⟨wb, hwb⟩ : ∃ wb, w.alloc (Obj.cells #[.int .i64 n, .slice A m cL] 24) = wb := ⟨_, rfl⟩
  have hcb : CB w.heap.size n (.slice A m cL) wb := ⟨by rw [← hwb]; exact blk_new w _⟩
  rw [hwb] at hb0
  have HB0 := Aside0.mk hb0
  have d0 := blk_cell hcb.box 0
  clear hb0 hcb
  by_cases h1 : n < 0
  · clear h
    go_enter Try.func13, Try.ntmps13
    go_wp2
    go_ret
    exact ⟨rfl, HB0.out⟩
  · have h2 : 65536 < n := by omega
    clear h
    go_enter Try.func13, Try.ntmps13
    go_wp2
    go_ret
    exact ⟨rfl, HB0.out⟩

/-- What is said of the steps, the truths so far told. -/
def chkT (n : Int) (cs : List (List Int)) : (Int → Bool) → List S32 → Int
  | _, [] => 0
  | T, s :: t => if s.f0 = 0 then 1 else if n < s.f0 then 1 else if s.f0 < -n then 1 else if (T s.f0 || T (-s.f0)) = true then 1 else if s.f1 < -1 then 1 else if (cs.length : Int) ≤ s.f1 then 1
    else if s.f1 < 0 then chkT n cs (updT T s.f0) t else if (cs.getD s.f1.toNat []).contains s.f0 = false then 1 else if (cs.getD s.f1.toNat []).any (openB s T) = true then 1 else chkT n cs (updT T s.f0) t
def checkP (n : Int) (cs : List (List Int)) (t : List S32) : Int := if checkB n cs ≠ 0 then checkB n cs else chkT n cs (fun _ => false) t

theorem pcheck_bad (n : Int) (A : Option Addr) (cL : Nat) (cs : List (List Int)) (At : Option Addr) (ct : Nat) (t : List S32) (w : World) (r : Int) (h0 : r ≠ 0) (h : ∀ W, Below w.heap.size w W → Calls Try.prog 13 #[.agg #[.int .i64 n, .slice A cs.length cL]] W fun e w' => e = .returned (.int .i64 r) ∧ Below W.heap.size W w') :
    Calls Try.prog 22 #[.agg #[.int .i64 n, .slice A cs.length cL], .slice At t.length ct] w fun e w' => e = .returned (.int .i64 r) ∧ Below w.heap.size w w' := by
  have hb0 := below_alloc (Below.refl w.heap.size w) (Obj.cells #[.int .i64 n, .slice A cs.length cL] 24)
  obtain ⟨wb, hwb⟩ : ∃ wb, w.alloc (Obj.cells #[.int .i64 n, .slice A cs.length cL] 24) = wb := ⟨_, rfl⟩
  have hcb : CB w.heap.size n (.slice A cs.length cL) wb := ⟨by rw [← hwb]; exact blk_new w _⟩
  rw [hwb] at hb0
  have HB0 := Aside0.mk hb0
  have d0 := blk_cell hcb.box 0
  have d1 := blk_cell hcb.box 1
  have HC := Aside0.mk (h wb hb0)
  clear hb0 hcb h
  go_enter Try.func22, Try.ntmps22
  go_wp2_with ((go_at_call 13; refine HC.out.mono ?_; rintro e w1 ⟨rfl, hd⟩; have HD := Aside0.mk (below_chain' HB0.out hd); clear hd))
  go_ret
  exact ⟨rfl, HD.out⟩

set_option maxHeartbeats 3200000 in
theorem pcheck_good (n : Int) (A : Option Addr) (cL : Nat) (cs : List (List Int)) (At : Option Addr) (ct : Nat) (t : List S32) (w : World) (h : ∀ W, Below w.heap.size w W → Calls Try.prog 13 #[.agg #[.int .i64 n, .slice A cs.length cL]] W fun e w' => e = .returned (.int .i64 0) ∧ Below W.heap.size W w')
    (hn : 0 ≤ n ∧ n ≤ 65536) (hc : KRows.C w A cs.length cs) (hx : ∀ c ∈ cs, ∀ x ∈ c, LitP x) (hl : ∀ c ∈ cs, c.length ≤ 1000000) (hcl : cs.length ≤ 65536) (ht : k32.C w At t.length t) (htl : t.length ≤ 1000000) :
    Calls Try.prog 22 #[.agg #[.int .i64 n, .slice A cs.length cL], .slice At t.length ct] w fun e w' => e = .returned (.int .i64 (chkT n cs (fun _ => false) t)) ∧ Below w.heap.size w w' := by
  have hb0 := below_alloc (Below.refl w.heap.size w) (Obj.cells #[.int .i64 n, .slice A cs.length cL] 24)
  obtain ⟨wb, hwb⟩ : ∃ wb, w.alloc (Obj.cells #[.int .i64 n, .slice A cs.length cL] 24) = wb := ⟨_, rfl⟩
  have hcb : CB w.heap.size n (.slice A cs.length cL) wb := ⟨by rw [← hwb]; exact blk_new w _⟩
  rw [hwb] at hb0
  have HB0 := Aside0.mk hb0
  have HCB := Aside0.mk hcb
  have d0 := blk_cell hcb.box 0
  have d1 := blk_cell hcb.box 1
  have HC := Aside0.mk (h wb hb0)
  have HR := Aside0.mk (Kd.C_below hc hb0)
  have HTR := Aside0.mk (Kd.C_below ht hb0)
  have HX := Aside0.mk hx
  have HL := Aside0.mk hl
  clear hb0 hcb h hc ht hx hl
  obtain ⟨r, hr⟩ : ∃ r, chkT n cs (fun _ => false) t = r := ⟨_, rfl⟩
  rw [hr]
  have HRES := Aside0.mk hr
  clear hr
  have hmm := @run_makeMap Try.prog
  go_enter Try.func22, Try.ntmps22
  go_wp2_with ((go_at_call 13; refine HC.out.mono ?_; rintro e w1 ⟨rfl, hd⟩; have HD := Aside0.mk (below_chain' HB0.out hd); have HCB1 := Aside0.mk (HCB.out.below hd); have HR1 := Aside0.mk (Kd.C_below HR.out hd); have HTR1 := Aside0.mk (Kd.C_below HTR.out hd); clear hd))
  -- LOOP
  obtain ⟨w2, hw2⟩ : ∃ w2, ((w1.alloc (Obj.map #[] 0)).alloc (Obj.cells #[Value.map (some w1.heap.size)] 57)) = w2 := ⟨_, rfl⟩
  rw [hw2]
  have hb1 := below_alloc (Below.refl w1.heap.size w1) (Obj.map #[] 0)
  have hb2 := below_alloc hb1 (Obj.cells #[Value.map (some w1.heap.size)] 57)
  have hT2 : TM w2 w1.heap.size 0 (fun _ => false) := by
    rw [← hw2]
    exact TM.below (BMap.made _ _ _ w1) (below_alloc (Below.refl _ _) _)
  have hD2 : DB (w1.heap.size + 1) w1.heap.size w2 := ⟨by
    rw [← hw2]
    have := blk_new (w1.alloc (Obj.map #[] 0)) (Obj.cells #[Value.map (some w1.heap.size)] 57)
    simpa using this⟩
  rw [hw2] at hb2
  have HB2 := Aside0.mk hb2
  have HT2 := Aside0.mk hT2
  have HD2 := Aside0.mk hD2
  clear hb1 hb2 hT2 hD2 hw2 hmm hwb d0 d1
  obtain ⟨mb, hmb⟩ : ∃ mb, w1.heap.size = mb := ⟨_, rfl⟩
  rw [hmb] at HT2 HD2 ⊢
  have HMB := Aside0.mk hmb
  have HMG := Aside0.mk (show mb + 1 ≠ mb by omega)
  clear hmb
  obtain ⟨gd, hgd⟩ : ∃ gd, mb + 1 = gd := ⟨_, rfl⟩
  rw [hgd] at HD2 HMG ⊢
  clear hgd
  obtain ⟨g0, hg0⟩ : ∃ g0, w.heap.size = g0 := ⟨_, rfl⟩
  rw [hg0] at HCB1
  have HG0 := Aside0.mk hg0
  rw [hg0]
  clear hg0
  go_loopg [19] t.length (fun kq v19 wr => ∃ (i m : Nat) (T : Int → Bool), i ≤ t.length ∧ v19 = .int .i64 i ∧ Aside0 (m ≤ i ∧ kq + i = t.length) ∧ Aside0 (Below w1.heap.size w1 wr) ∧ Aside0 (DB gd mb wr) ∧ Aside0 (TM wr mb m T) ∧ Aside0 (chkT n cs T (t.drop i) = r))
  case atStart => exact ⟨0, 0, _, by omega, rfl, ⟨by omega, by omega⟩, HB2, HD2, HT2, ⟨by rw [List.drop_zero]; exact HRES.out⟩⟩
  case round =>
    obtain ⟨i, m, T, hi, rfl, HN, HBW, HDW, HTW, HA⟩ := hrel
    by_cases hlt : i < t.length
    · obtain ⟨ad, e0, hc0, hc1⟩ := at_T32 (Kd.C_below HTR1.out HBW.out) (i : Int) (by omega) (by omega)
      cases e0
      obtain ⟨s, hs⟩ : ∃ s, t.getD i z32 = s := ⟨_, rfl⟩
      rw [show rd_T32 t (i : Int) = s from by simpa [rd_T32] using hs, Int.toNat_natCast] at hc0 hc1
      have h := HA.out
      rw [show t.drop i = s :: t.drop (i + 1) from by rw [List.drop_eq_getElem_cons hlt, ← hs]; simp [List.getD_eq_getElem?_getD, hlt]] at h
      unfold chkT at h
      obtain ⟨x, hx0⟩ : ∃ x, s.f0 = x := ⟨_, rfl⟩
      obtain ⟨y, hy0⟩ : ∃ y, s.f1 = y := ⟨_, rfl⟩
      rw [hx0] at hc0 h
      rw [hy0] at hc1 h
      have hba := below_alloc (Below.refl wr.heap.size wr) (Obj.cells #[Value.int .i64 x, .int .i64 y] 32)
      obtain ⟨wa, hwa⟩ : ∃ wa, wr.alloc (Obj.cells #[Value.int .i64 x, .int .i64 y] 32) = wa := ⟨_, rfl⟩
      have hsa : SB wr.heap.size s wa := ⟨by rw [← hwa, hx0, hy0]; exact blk_new wr _⟩
      rw [hwa] at hba
      have HBA := Aside0.mk (below_chain' HBW.out hba)
      have HDA := Aside0.mk (HDW.out.below hba)
      have HTA := Aside0.mk (TM.below HTW.out hba)
      have HSA := Aside0.mk hsa
      have c0 := blk_cell (HCB1.out.below HBA.out).box 0
      have c1 := blk_cell (HCB1.out.below HBA.out).box 1
      have c2 := blk_cell HDA.out.box 0
      have c3 := blk_cell hsa.box 0
      have c4 := blk_cell hsa.box 1
      rw [hx0] at c3 c4
      rw [hy0] at c3 c4
      clear hx0 hy0
      clear hs hba hsa
      by_cases q1 : x = 0
      · rw [if_pos q1] at h
        subst q1
        have HR0 := Aside0.mk h
        clear h
        go_wp2
        go_ret
        exact ⟨by first | (rw [← HR0.out]; done) | (rw [← HR0.out]; rfl), below_chain' HD.out HBA.out⟩
      rw [if_neg q1] at h
      have q1b : (x == 0) = false := beq_eq_false_iff_ne.2 q1
      by_cases q2 : n < x
      · rw [if_pos q2] at h
        have HR0 := Aside0.mk h
        clear h
        go_wp2
        go_ret
        exact ⟨by first | (rw [← HR0.out]; done) | (rw [← HR0.out]; rfl), below_chain' HD.out HBA.out⟩
      rw [if_neg q2] at h
      by_cases q3 : x < -n
      · rw [if_pos q3] at h
        have HR0 := Aside0.mk h
        clear h
        go_wp2
        go_ret
        exact ⟨by first | (rw [← HR0.out]; done) | (rw [← HR0.out]; rfl), below_chain' HD.out HBA.out⟩
      rw [if_neg q3] at h
      have hlit : LitP x := ⟨q1, by omega, by omega⟩
      have HKN := Aside0.mk (known_calls mb m T x wa HTA.out hlit)
      have HST := Aside0.mk (step_calls mb m T x wa HTA.out (by have := HN.out; unfold maxLen; omega) hlit.wf)
      obtain ⟨kb, hkb⟩ : ∃ kb, (T x || T (-x)) = kb := ⟨_, rfl⟩
      rw [hkb] at h HKN
      clear hlit hkb
      cases kb with
      | true =>
        rw [if_pos rfl] at h
        have HR0 := Aside0.mk h
        clear h
        go_wp2_with (first | (go_at_call 41; refine HKN.out.mono ?_; rintro e w3 ⟨rfl, rfl⟩))
        go_ret
        exact ⟨by first | (rw [← HR0.out]; done) | (rw [← HR0.out]; rfl), below_chain' HD.out HBA.out⟩
      | false =>
        rw [if_neg (show ¬ (false = true) by decide)] at h
        by_cases q4 : y < -1
        · rw [if_pos q4] at h
          have HR0 := Aside0.mk h
          clear h
          go_wp2_with (first | (go_at_call 41; refine HKN.out.mono ?_; rintro e w3 ⟨rfl, rfl⟩))
          go_ret
          exact ⟨by first | (rw [← HR0.out]; done) | (rw [← HR0.out]; rfl), below_chain' HD.out HBA.out⟩
        rw [if_neg q4] at h
        by_cases q5 : (cs.length : Int) ≤ y
        · rw [if_pos q5] at h
          have HR0 := Aside0.mk h
          clear h
          go_wp2_with (first | (go_at_call 41; refine HKN.out.mono ?_; rintro e w3 ⟨rfl, rfl⟩))
          go_ret
          exact ⟨by first | (rw [← HR0.out]; done) | (rw [← HR0.out]; rfl), below_chain' HD.out HBA.out⟩
        rw [if_neg q5] at h
        by_cases q6 : y < 0
        · rw [if_pos q6] at h
          have HR0 := Aside0.mk h
          clear h
          go_wp2_with (first | (go_at_call 41; refine HKN.out.mono ?_; rintro e w3 ⟨rfl, rfl⟩) | (go_at_call 37; refine HST.out.mono ?_; rintro e w3 ⟨rfl, hT3, hG3⟩; have HT3 := Aside0.mk hT3; have HG3 := Aside0.mk hG3; clear hT3 hG3))
          go_roundg (gk - 1)
          case measure => have := HN.out; omega
          case rel => exact ⟨i + 1, m + 1, _, by omega, by go_num, ⟨by have := HN.out; omega, by have := HN.out; omega⟩, ⟨HBA.out.grown HG3.out HBA.out.size (fun k hk => by cases hk; exact Nat.le_of_eq HMB.out)⟩, ⟨⟨blk_grown HDA.out.box HG3.out (fun e => HMG.out (Option.some.inj e))⟩⟩, HT3, HR0⟩
        rw [if_neg q6] at h
        obtain ⟨k, hk⟩ : ∃ k : Nat, y = k := ⟨y.toNat, by omega⟩
        subst hk
        have hkl : k < cs.length := by omega
        obtain ⟨ad2, A0, c0_, e2, hcell, hl0, hrow⟩ := at_rows (Kd.C_below HR1.out HBA.out) k hkl
        cases e2
        have hmem : cs.getD k [] ∈ cs := by simp [List.getD_eq_getElem?_getD, hkl]
        have hlx := HX.out _ hmem
        have hll := HL.out _ hmem
        obtain ⟨l, hl⟩ : ∃ l, cs.getD k [] = l := ⟨_, rfl⟩
        rw [Int.toNat_natCast] at h
        rw [hl] at h hcell hl0 hrow hlx hll
        have HCT := Aside0.mk (scontains_calls A0 c0_ l x wa hrow (by omega))
        have HCF := Aside0.mk (contains_open wr.heap.size gd mb m s T A0 c0_ l wa HSA.out HDA.out HTA.out hrow (by omega) hlx)
        obtain ⟨b1, hb1⟩ : ∃ b, l.contains x = b := ⟨_, rfl⟩
        obtain ⟨b2, hb2⟩ : ∃ b, l.any (openB s T) = b := ⟨_, rfl⟩
        rw [hb1] at h HCT
        rw [hb2] at h HCF
        clear hb1 hb2 hl hlx hll hmem hrow hl0
        cases b1 with
        | false =>
          rw [if_pos rfl] at h
          have HR0 := Aside0.mk h
          clear h
          go_wp2_with (first | (go_at_call 41; refine HKN.out.mono ?_; rintro e w3 ⟨rfl, rfl⟩) | (go_at_call 43; refine HCT.out.mono ?_; rintro e w3 ⟨rfl, rfl⟩))
          go_ret
          exact ⟨by first | (rw [← HR0.out]; done) | (rw [← HR0.out]; rfl), below_chain' HD.out HBA.out⟩
        | true =>
          rw [if_neg (show ¬ (true = false) by decide)] at h
          cases b2 with
          | true =>
            rw [if_pos rfl] at h
            have HR0 := Aside0.mk h
            clear h
            go_wp2_with (first | (go_at_call 41; refine HKN.out.mono ?_; rintro e w3 ⟨rfl, rfl⟩) | (go_at_call 43; refine HCT.out.mono ?_; rintro e w3 ⟨rfl, rfl⟩) | (go_at_call 33; refine HCF.out.mono ?_; rintro e w3 ⟨rfl, rfl⟩))
            go_ret
            exact ⟨by first | (rw [← HR0.out]; done) | (rw [← HR0.out]; rfl), below_chain' HD.out HBA.out⟩
          | false =>
            rw [if_neg (show ¬ (false = true) by decide)] at h
            have HR0 := Aside0.mk h
            clear h
            go_wp2_with (first | (go_at_call 41; refine HKN.out.mono ?_; rintro e w3 ⟨rfl, rfl⟩) | (go_at_call 43; refine HCT.out.mono ?_; rintro e w3 ⟨rfl, rfl⟩) | (go_at_call 33; refine HCF.out.mono ?_; rintro e w3 ⟨rfl, rfl⟩) | (go_at_call 37; refine HST.out.mono ?_; rintro e w3 ⟨rfl, hT3, hG3⟩; have HT3 := Aside0.mk hT3; have HG3 := Aside0.mk hG3; clear hT3 hG3))
            go_roundg (gk - 1)
            case measure => have := HN.out; omega
            case rel => exact ⟨i + 1, m + 1, _, by omega, by go_num, ⟨by have := HN.out; omega, by have := HN.out; omega⟩, ⟨HBA.out.grown HG3.out HBA.out.size (fun k hk => by cases hk; exact Nat.le_of_eq HMB.out)⟩, ⟨⟨blk_grown HDA.out.box HG3.out (fun e => HMG.out (Option.some.inj e))⟩⟩, HT3, HR0⟩
    · obtain rfl : i = t.length := by omega
      have h := HA.out
      rw [List.drop_length] at h
      have HR0 := Aside0.mk (show (0 : Int) = r from h)
      clear h
      go_wp2
      go_ret
      exact ⟨by first | (rw [← HR0.out]; done) | (rw [← HR0.out]; rfl), below_chain' HD.out HBW.out⟩

#print axioms pcheck_good
end Go.Proofs.Ytidgljajegoffaa.G
