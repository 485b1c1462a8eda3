/-
  total.apart: what it computes, and the walk.
-/
import Derived.Test.YtdkfhpgbiohhoaaGMap
import Derived.Test.YtdkfhpgbiohhoaaGTotalS
import Derived.Test.YtdkfhpgbiohhoaaWWords
import Derived.Test.YtdkfhpgbiohhoaaWMore
import Derived.Test.YtdkfhpgbiohhoaaWGuard
import Derived.Outline
import Derived.Deep.LoopGhost
import Derived.Carry
namespace Go.Proofs.Ytdkfhpgbiohhoaa.G
open Go.RowKit Go.Maps Go.Proofs.YtdkfhpgbiohhoaaW.PrintWords Go.Proofs.YtdkfhpgbiohhoaaW.PrintLast Go.Proofs.YtdkfhpgbiohhoaaW.PrintMore
attribute [local go_sem] max2_int min2_int max_two min_two max_three min_three max_four min_four

theorem zero4 (w : World) : (zeroValue 4).run Try.prog w = .ok (.bool false) w := by kernel_rfl

/-- A literal's entry, laid at the operation. -/
theorem wpList_ins_bool {P : Program} (w : World) {ops : Array Oper} {rest : List Oper} {o : Oper} {a : Act} {Q : Exit → Act → World → Prop}
    (hg : o.guard = none) (m x v : Operand) (t : TypeId) (hop : o.op = Op.insert t m x v) (k e : TypeId) (hk : P.underlying k = some (.int .i64)) (ht : P.underlying t = some (.map k e)) (he : P.underlying e = some .bool)
    (b n : Nat) (S : Int → Bool) (hm : a.eval m = .map (some b)) (h : BMap P k e w b n S) (hn : n < maxLen) (y : Int) (hx : a.eval x = .int .i64 y) (hy : (Lit.int .i64 y).wf = true) (u : Bool) (hv : a.eval v = .bool u)
    (hK : ∀ w', BMap P k e w' b (n + 1) (fun z => if z = y then u else S z) → w.grownBy w' (some b) → wpList P ops Q rest (a.put o.dst undef) w') : wpList P ops Q (o :: rest) a w := by
  refine wpList_plain hg fun K' hK' => ?_
  obtain ⟨w', hrun, r1, r2⟩ := h.put hk ht he hn y hy u
  unfold Oper.wp
  simp [execOp, hop, hm, hx, hv, hrun, Result.andThen]
  exact hK' _ _ (hK w' r1 r2)

set_option maxHeartbeats 400000 in
theorem apart_calls (A0 : Option Addr) (c0 : Nat) (l : List Int) (next : Int) (w : World) (hr : Kd.C (Kd.int .i64) w A0 l.length l) (hc : l.length ≤ c0) (hm : l.length < 140737488355328) (hl : ∀ x ∈ l, (Lit.int .i64 x).wf = true) :
    Calls Try.prog 21 #[.slice A0 l.length c0, .int .i64 next] w fun e w' => e = .returned (.bool (apartB l next)) ∧ Below w.heap.size w w' := by
  have HR0 := Aside0.mk hr
  have HC0 := Aside0.mk hc
  have HM := Aside0.mk hm
  have HL := Aside0.mk hl
  clear hr hc hl hm
  obtain ⟨r, hres⟩ : ∃ r, apartB l next = r := ⟨_, rfl⟩
  rw [hres]
  have HRES := Aside0.mk hres
  clear hres
  have hmm := @run_makeMap Try.prog
  go_enter Try.func21, Try.ntmps21
  go_wp2_with (first | ((with_reducible refine gate_ (Op.insert 59 (.tmp 9) (.const (.int .i64 0)) (.const (.bool true))) rfl ?_); refine wpList_ins_bool _ rfl _ _ _ 59 rfl 3 4 Try.underlying3 Try.underlying59 Try.underlying4 w.heap.size 0 _ rfl (BMap.made _ _ _ w) (by decide) 0 rfl (by decide) true rfl ?_; intro w1 hb1 hg1; have HB1 := Aside0.mk hb1; have HG1 := Aside0.mk (((Below.refl w.heap.size w).alloc (Nat.le_refl _) _).grown hg1 (by simp) (fun k hk => by cases hk; exact Nat.le_refl _)); clear hb1 hg1))
  go_loopg [13] l.length (fun kq v13 wr => ∃ (i n : Nat) (S : Int → Bool), i ≤ l.length ∧ v13 = .int .i64 i ∧ Aside0 (n ≤ i + 1 ∧ kq + i = l.length) ∧ Aside0 (BMap Try.prog 3 4 wr w.heap.size n S) ∧ Aside0 (Below w.heap.size w wr) ∧ Aside0 (apartFrom next S (l.drop i) = r))
  case atStart => exact ⟨0, 1, _, by omega, rfl, ⟨by omega, by omega⟩, HB1, HG1, HRES⟩
  case round =>
    obtain ⟨i, n, S, hi, rfl, HN, HB, HW, HA⟩ := hrel
    by_cases hlt : i < l.length
    · have hd := drop_rd hlt
      have h := HA.out
      rw [hd] at h
      obtain ⟨x, hx⟩ : ∃ x, l.getD i 0 = x := ⟨_, rfl⟩
      rw [hx] at h
      have hxw : (Lit.int .i64 x).wf = true := HL.out x (by rw [← hx]; simp [List.getD_eq_getElem?_getD, hlt])
      have hvw := vabs_wf hxw
      obtain ⟨ad, e0, hcell⟩ := Kd.at_int HR0.out (i : Int) (by omega) (by omega)
      cases e0
      rw [show rd l (i : Int) = x from by simpa [rd] using hx] at hcell
      rw [Int.toNat_natCast] at hcell
      replace hcell := (HW.out.cell (World.block_lt_of_cell? w _ hcell)).trans hcell
      simp only [apartFrom] at h
      clear hd
      obtain ⟨v, hv⟩ : ∃ v, vabs x = v := ⟨_, rfl⟩
      rw [hv] at h hvw
      obtain ⟨nx, hnx⟩ : ∃ nx, wrap64 (-x) = nx := ⟨_, rfl⟩
      have hmx : (if x < nx then nx else x) = v := by rw [← hv, ← hnx]; rfl
      clear hx
      by_cases c1 : v < 0
      · rw [if_pos c1] at h
        have HR := Aside0.mk h
        clear h
        go_wp2
        go_ret
        exact ⟨by rw [← HR.out]; rfl, HW.out⟩
      · rw [if_neg c1] at h
        by_cases c2 : next ≤ v
        · rw [if_pos c2] at h
          have HR := Aside0.mk h
          clear h
          go_wp2
          go_ret
          exact ⟨by rw [← HR.out]; rfl, HW.out⟩
        · rw [if_neg c2] at h
          obtain ⟨s, hs⟩ : ∃ s, S v = s := ⟨_, rfl⟩
          rw [hs] at h
          cases s with
          | true =>
            rw [if_pos rfl] at h
            have HR := Aside0.mk h
            clear h
            go_wp2_with (first | ((with_reducible refine gate_dst (N := 31) rfl ?_); (try (refine gate_guard (by rfl) ?_; dsimp only)); refine wpList_look_bool _ rfl _ _ 59 rfl 3 4 Try.underlying3 Try.underlying59 Try.underlying4 (zero4 _) w.heap.size n S rfl HB.out v rfl hvw ?_; rw [hs]))
            go_ret
            exact ⟨by rw [← HR.out]; rfl, HW.out⟩
          | false =>
            rw [if_neg (by simp)] at h
            have HR := Aside0.mk h
            have HS := Aside0.mk hs
            clear h hs
            have hn : n < maxLen := by have := HN.out; have := HM.out; unfold maxLen; omega
            have hm := HM.out
            go_wp2_with (first | ((with_reducible refine gate_dst (N := 31) rfl ?_); (try (refine gate_guard (by rfl) ?_; dsimp only)); refine wpList_look_bool _ rfl _ _ 59 rfl 3 4 Try.underlying3 Try.underlying59 Try.underlying4 (zero4 _) w.heap.size n S rfl HB.out v rfl hvw ?_; rw [HS.out]) | (at_mapUpdate; refine wpList_put_bool _ rfl _ _ _ 59 rfl 3 4 Try.underlying3 Try.underlying59 Try.underlying4 w.heap.size n S rfl HB.out hn v rfl hvw true rfl ?_; intro w2 hb2 hg2; have HB2 := Aside0.mk hb2; have HW2 := Aside0.mk (HW.out.grown hg2 HW.out.size (fun k hk => by cases hk; exact Nat.le_refl _)); clear hb2 hg2))
            go_roundg (gk - 1)
            case measure => have := HN.out; omega
            case rel => exact ⟨i + 1, n + 1, _, by omega, by go_num, ⟨by have := HN.out; omega, by have := HN.out; omega⟩, HB2, HW2, HR⟩
    · have h := HA.out
      have hi2 : i = l.length := by omega
      rw [hi2, List.drop_length] at h
      have HR := Aside0.mk (show true = r from h)
      clear h hi2
      go_wp2
      go_ret
      exact ⟨by rw [← HR.out]; rfl, HW.out⟩

#print axioms apart_calls

end Go.Proofs.Ytdkfhpgbiohhoaa.G
