/-
  total.Total: the walks, what it computes in plain Lean, and the contract as the print wants it.
-/
import Derived.Test.YtpadmbpopjmdjaaGMap
import Derived.Test.YtpadmbpopjmdjaaGTotalS
import Derived.Test.YtpadmbpopjmdjaaWWords
import Derived.Test.YtpadmbpopjmdjaaWMore
import Derived.Test.YtpadmbpopjmdjaaWGuard
import Derived.Outline
import Derived.Deep.LoopGhost
import Derived.Carry
import Derived.Test.YtpadmbpopjmdjaaGTotalM
import Derived.Deep.DeepMust
import Derived.WalkKit
import Derived.Test.YtpadmbpopjmdjaaGAt
import Derived.Test.YtpadmbpopjmdjaaGCountS
import Derived.Deep.RegionHeld3
import Derived.StillTailTactics
import Derived.IntWalk
import Derived.Test.YtpadmbpopjmdjaaWN
import Derived.Laws.EntriesVeiled
import Derived.Test.YtpadmbpopjmdjaaGHolds
import Derived.Test.YtpadmbpopjmdjaaGCGive

namespace Go.Proofs.Ytpadmbpopjmdjaa.G
open Go.RowKit Go.Maps Go.Proofs.YtpadmbpopjmdjaaW.PrintWords Go.Proofs.YtpadmbpopjmdjaaW.PrintLast Go.Proofs.YtpadmbpopjmdjaaW.PrintMore
attribute [local go_sem] max2_int min2_int max_two min_two max_three min_three max_four min_four

theorem zero4 (w : World) : (zeroValue 4).run Try.prog w = .ok (.bool false) w := by kernel_rfl

/-- A literal's entry, laid at the operation. -/
theorem wpList_ins_bool {P : Program} (w : World) {ops : Array Oper} {rest : List Oper} {o : Oper} {a : Act} {Q : Exit → Act → World → Prop}
    (hg : o.guard = none) (m x v : Operand) (t : TypeId) (hop : o.op = Op.insert t m x v) (k e : TypeId) (hk : P.underlying k = some (.int .i64)) (ht : P.underlying t = some (.map k e)) (he : P.underlying e = some .bool)
    (b n : Nat) (S : Int → Bool) (hm : a.eval m = .map (some b)) (h : BMap P k e w b n S) (hn : n < maxLen) (y : Int) (hx : a.eval x = .int .i64 y) (hy : (Lit.int .i64 y).wf = true) (u : Bool) (hv : a.eval v = .bool u)
    (hK : ∀ w', BMap P k e w' b (n + 1) (fun z => if z = y then u else S z) → w.grownBy w' (some b) → wpList P ops Q rest (a.put o.dst undef) w') : wpList P ops Q (o :: rest) a w := by
  refine wpList_plain hg fun K' hK' => ?_
  obtain ⟨w', hrun, r1, r2⟩ := h.put hk ht he hn y hy u
  unfold Oper.wp
  simp [execOp, hop, hm, hx, hv, hrun, Result.andThen]
  exact hK' _ _ (hK w' r1 r2)

set_option maxHeartbeats 400000 in
theorem apart_calls (A0 : Option Addr) (c0 : Nat) (l : List Int) (next : Int) (w : World) (hr : Kd.C (Kd.int .i64) w A0 l.length l) (hc : l.length ≤ c0) (hm : l.length < 140737488355328) (hl : ∀ x ∈ l, (Lit.int .i64 x).wf = true) :
    Calls Try.prog 32 #[.slice A0 l.length c0, .int .i64 next] w fun e w' => e = .returned (.bool (apartB l next)) ∧ Below w.heap.size w w' := by
  have HR0 := Aside0.mk hr
  have HC0 := Aside0.mk hc
  have HM := Aside0.mk hm
  have HL := Aside0.mk hl
  clear hr hc hl hm
  obtain ⟨r, hres⟩ : ∃ r, apartB l next = r := ⟨_, rfl⟩
  rw [hres]
  have HRES := Aside0.mk hres
  clear hres
  have hmm := @run_makeMap Try.prog
  go_enter Try.func32, Try.ntmps32
  go_wp2_with (first | ((with_reducible refine gate_ (Op.insert 65 (.tmp 9) (.const (.int .i64 0)) (.const (.bool true))) rfl ?_); refine wpList_ins_bool _ rfl _ _ _ 65 rfl 3 4 Try.underlying3 Try.underlying65 Try.underlying4 w.heap.size 0 _ rfl (BMap.made _ _ _ w) (by decide) 0 rfl (by decide) true rfl ?_; intro w1 hb1 hg1; have HB1 := Aside0.mk hb1; have HG1 := Aside0.mk (((Below.refl w.heap.size w).alloc (Nat.le_refl _) _).grown hg1 (by simp) (fun k hk => by cases hk; exact Nat.le_refl _)); clear hb1 hg1))
  go_loopg [13] l.length (fun kq v13 wr => ∃ (i n : Nat) (S : Int → Bool), i ≤ l.length ∧ v13 = .int .i64 i ∧ Aside0 (n ≤ i + 1 ∧ kq + i = l.length) ∧ Aside0 (BMap Try.prog 3 4 wr w.heap.size n S) ∧ Aside0 (Below w.heap.size w wr) ∧ Aside0 (apartFrom next S (l.drop i) = r))
  case atStart => exact ⟨0, 1, _, by omega, rfl, ⟨by omega, by omega⟩, HB1, HG1, HRES⟩
  case round =>
    obtain ⟨i, n, S, hi, rfl, HN, HB, HW, HA⟩ := hrel
    by_cases hlt : i < l.length
    · have hd := drop_rd hlt
      have h := HA.out
      rw [hd] at h
      obtain ⟨x, hx⟩ : ∃ x, l.getD i 0 = x := ⟨_, rfl⟩
      rw [hx] at h
      have hxw : (Lit.int .i64 x).wf = true := HL.out x (by rw [← hx]; simp [List.getD_eq_getElem?_getD, hlt])
      have hvw := vabs_wf hxw
      obtain ⟨ad, e0, hcell⟩ := Kd.at_int HR0.out (i : Int) (by omega) (by omega)
      cases e0
      rw [show rd l (i : Int) = x from by simpa [rd] using hx] at hcell
      rw [Int.toNat_natCast] at hcell
      replace hcell := (HW.out.cell (World.block_lt_of_cell? w _ hcell)).trans hcell
      simp only [apartFrom] at h
      clear hd
      obtain ⟨v, hv⟩ : ∃ v, vabs x = v := ⟨_, rfl⟩
      rw [hv] at h hvw
      obtain ⟨nx, hnx⟩ : ∃ nx, wrap64 (-x) = nx := ⟨_, rfl⟩
      have hmx : (if x < nx then nx else x) = v := by rw [← hv, ← hnx]; rfl
      clear hx
      by_cases c1 : v < 0
      · rw [if_pos c1] at h
        have HR := Aside0.mk h
        clear h
        go_wp2
        go_ret
        exact ⟨by rw [← HR.out]; rfl, HW.out⟩
      · rw [if_neg c1] at h
        by_cases c2 : next ≤ v
        · rw [if_pos c2] at h
          have HR := Aside0.mk h
          clear h
          go_wp2
          go_ret
          exact ⟨by rw [← HR.out]; rfl, HW.out⟩
        · rw [if_neg c2] at h
          obtain ⟨s, hs⟩ : ∃ s, S v = s := ⟨_, rfl⟩
          rw [hs] at h
          cases s with
          | true =>
            rw [if_pos rfl] at h
            have HR := Aside0.mk h
            clear h
            go_wp2_with (first | ((with_reducible refine gate_dst (N := 31) rfl ?_); (try (refine gate_guard (by rfl) ?_; dsimp only)); refine wpList_look_bool _ rfl _ _ 65 rfl 3 4 Try.underlying3 Try.underlying65 Try.underlying4 (zero4 _) w.heap.size n S rfl HB.out v rfl hvw ?_; rw [hs]))
            go_ret
            exact ⟨by rw [← HR.out]; rfl, HW.out⟩
          | false =>
            rw [if_neg (by simp)] at h
            have HR := Aside0.mk h
            have HS := Aside0.mk hs
            clear h hs
            have hn : n < maxLen := by have := HN.out; have := HM.out; unfold maxLen; omega
            have hm := HM.out
            go_wp2_with (first | ((with_reducible refine gate_dst (N := 31) rfl ?_); (try (refine gate_guard (by rfl) ?_; dsimp only)); refine wpList_look_bool _ rfl _ _ 65 rfl 3 4 Try.underlying3 Try.underlying65 Try.underlying4 (zero4 _) w.heap.size n S rfl HB.out v rfl hvw ?_; rw [HS.out]) | (at_mapUpdate; refine wpList_put_bool _ rfl _ _ _ 65 rfl 3 4 Try.underlying3 Try.underlying65 Try.underlying4 w.heap.size n S rfl HB.out hn v rfl hvw true rfl ?_; intro w2 hb2 hg2; have HB2 := Aside0.mk hb2; have HW2 := Aside0.mk (HW.out.grown hg2 HW.out.size (fun k hk => by cases hk; exact Nat.le_refl _)); clear hb2 hg2))
            go_roundg (gk - 1)
            case measure => have := HN.out; omega
            case rel => exact ⟨i + 1, n + 1, _, by omega, by go_num, ⟨by have := HN.out; omega, by have := HN.out; omega⟩, HB2, HW2, HR⟩
    · have h := HA.out
      have hi2 : i = l.length := by omega
      rw [hi2, List.drop_length] at h
      have HR := Aside0.mk (show true = r from h)
      clear h hi2
      go_wp2
      go_ret
      exact ⟨by rw [← HR.out]; rfl, HW.out⟩

#print axioms apart_calls

end Go.Proofs.Ytpadmbpopjmdjaa.G

namespace Go.Proofs.Ytpadmbpopjmdjaa.G
open Go.RowKit Go.Proofs.YtpadmbpopjmdjaaW.PrintWords Go.Proofs.YtpadmbpopjmdjaaW.PrintLast Go.Proofs.YtpadmbpopjmdjaaW.PrintMore
attribute [local go_sem] max2_int min2_int max_two min_two max_three min_three max_four min_four

theorem take_flatten {ps : List (List Int)} {i : Nat} (h : i < ps.length) : (ps.take (i + 1)).flatten = (ps.take i).flatten ++ ps.getD i [] := by
  rw [List.take_succ_eq_append_getElem h]
  simp only [List.flatten_append, List.flatten_cons, List.flatten_nil, List.append_nil, List.getD_eq_getElem?_getD, List.getElem?_eq_getElem h, Option.getD_some]

theorem flatten_take_le (ps : List (List Int)) (i : Nat) : (ps.take i).flatten.length ≤ ps.flatten.length := by
  conv => rhs; rw [← List.take_append_drop i ps]
  simp only [List.flatten_append, List.length_append]
  omega

set_option maxHeartbeats 800000 in
theorem clause_calls (t : TB) (A : Option Addr) (c0 : Nat) (ps : List (List Int)) (most next : Int) (full : Bool) (v : Value) (cs : List (List Int)) (w : World) (hst : t.St w most next full v cs)
    (hr : KRows.C w A ps.length ps) (hc : ps.length ≤ c0) (hp : ps.flatten.length ≤ 1000) (hps : ps.length ≤ 1000) (hcs : cs.length < 4000000000000) :
    Calls Try.prog 33 #[.slice A ps.length c0, .pointer (some ⟨t.bc, 0, none⟩)] w fun e w' => e = .returned (.tuple #[]) ∧ ∃ v', t.St w' most next full v' (cs ++ [ps.flatten]) ∧ t.Fr w w' := by
  have HS := Aside0.mk hst
  have HR := Aside0.mk hr
  have HC := Aside0.mk hc
  have HP := Aside0.mk hp
  have HCS := Aside0.mk hcs
  clear hst hr hc hcs
  go_enter Try.func33, Try.ntmps33
  go_wp2
  go_loopg [3, 8] ps.length (fun kq v3 v8 wr => ∃ (i : Nat), i ≤ ps.length ∧ v8 = .int .i64 i ∧ Aside0 (kq + i = ps.length) ∧ Aside0 ((Kd.int .i64).R 3 wr w.heap.size (fun _ => True) v3 (ps.take i).flatten) ∧ Aside0 (Below w.heap.size w wr))
  case atStart => exact ⟨0, by omega, rfl, ⟨by omega⟩, ⟨Kd.R_nil _ _ _ _ _⟩, ⟨Below.refl _ _⟩⟩
  case round =>
    obtain ⟨i, hi, rfl, HN, HL, HB⟩ := hrel
    by_cases hlt : i < ps.length
    · obtain ⟨ad, A1, c1, e0, hcell, hl1, hrow⟩ := at_rows HR.out i hlt
      cases e0
      replace hcell := (HB.out.cell (World.block_lt_of_cell? w _ hcell)).trans hcell
      obtain ⟨p, hpx⟩ : ∃ p, ps.getD i [] = p := ⟨_, rfl⟩
      rw [hpx] at hcell hl1 hrow
      have hf := take_flatten hlt
      rw [hpx] at hf
      have HF := Aside0.mk hf
      have HROW := Aside0.mk (Kd.C_below hrow HB.out)
      clear hpx hrow hf
      have hle := flatten_take_le ps (i + 1)
      rw [HF.out, List.length_append] at hle
      obtain ⟨A3, c3, e3⟩ := Kd.R_slice HL.out
      subst e3
      go_wp2_with (first | ((with_reducible refine gate_dst (N := 14) rfl ?_); refine Kd.R_append_row (Value.int .i64) (0 : Int) (h1 := fun _ => rfl) (w0 := w) w.heap.size rfl _ _ 22 3 (.int .i64 0) 8 rfl Try.underlying22 infoT3 rfl (by decide) _ _ p A1 p.length c1 (fun _ => True) rfl rfl (fun _ _ => trivial) HL.out HROW.out HB.out HB.out.size (by omega) ?_; intro v1 w1 ho hb hg hat; rw [← HF.out] at ho; have HO1 := Aside0.mk ho; have HB1 := Aside0.mk hb; clear ho hb hg hat))
      go_roundg (gk - 1)
      case measure => have := HN.out; omega
      case rel => exact ⟨i + 1, by omega, by go_num, ⟨by have := HN.out; omega⟩, HO1, HB1⟩
    · have hi2 : i = ps.length := by omega
      have h3 := HL.out
      rw [hi2, List.take_length] at h3
      have H3 := Aside0.mk h3
      clear h3 hi2
      obtain ⟨fl, hfl⟩ : ∃ fl, ps.flatten = fl := ⟨_, rfl⟩
      have h3 := H3.out
      rw [hfl] at h3
      have HFL := Aside0.mk hfl
      clear H3 hfl
      obtain ⟨A3, c3, e3⟩ := Kd.R_slice h3
      subst e3
      have hw := HS.out.size
      obtain ⟨inn, hown⟩ := Kd.R_own HS.out.rows
      have HM := Aside0.mk (Kd.R_lower (Kd.R_mono (Kd.R_new h3 hown) (fun k hk => hk.2)) hw)
      have HS1 := Aside0.mk (HS.out.below HB.out)
      clear h3 hown
      obtain ⟨Av, cv, ev⟩ := Kd.R_slice HS.out.rows
      subst ev
      have hcell := blk_cell HS1.out.c 0
      have hfz := blk_frozen HS1.out.c 0
      have hcs := HCS.out
      have hB2 := Aside0.mk (HB.out.mono hw)
      have hB3 := Aside0.mk (Nat.le_trans hw HB.out.size)
      have hlt2 := HS.out.lt.2.2.1
      go_wp2_with (first | ((with_reducible refine gate_dst (N := 19) rfl ?_); go_must (refine Kd.R_append KRows (w0 := w) t.S rfl _ _ 24 22 (.slice none 0 0) 24 rfl Try.underlying24 infoT22 rfl (by decide) (by decide) (Value.slice Av cs.length cv) cs fl [.slice A3 fl.length c3] (fun _ => True) (fun k => some k ≠ (Value.slice Av cs.length cv).ownBlock) rfl rfl ⟨_, rfl, HM.out⟩ (fun k hk => ⟨trivial, hk⟩) (fun _ _ => trivial) HS1.out.rows hB2.out hB3.out (by omega) ?_); intro v1 w1 ho hb hg hat; obtain ⟨A5, c5, e5⟩ := Kd.R_slice ho; rw [List.length_append, List.length_singleton] at e5; rw [e5]; rw [e5] at ho; have hc1 := HS1.out.cAfter hg; have hce := blk_cell hc1 0; have hfr := blk_frozen hc1 0; have HST := Aside0.mk (HS1.out.setC hg ho); have HFR := Aside0.mk ((TB.Fr.of_below HB.out).trans (HS1.out.frC hg (.slice A5 (cs.length + 1) c5))); clear ho hb hg hat hc1 e5))
      go_end0
      exact ⟨rfl, _, by rw [HFL.out]; exact HST.out, HFR.out⟩

theorem C_three {w : World} {g : Nat} {p1 p2 p3 : List Int} {A1 A2 A3 : Option Addr} {c1 c2 c3 : Nat} (hb : w.heap[g]? = some (.cells #[.slice A1 p1.length c1, .slice A2 p2.length c2, .slice A3 p3.length c3] 22 (0, 0)))
    (l1 : p1.length ≤ c1) (l2 : p2.length ≤ c2) (l3 : p3.length ≤ c3) (h1 : (Kd.int .i64).C w A1 p1.length p1) (h2 : (Kd.int .i64).C w A2 p2.length p2) (h3 : (Kd.int .i64).C w A3 p3.length p3) :
    KRows.C w (some ⟨g, 0, none⟩) [p1, p2, p3].length [p1, p2, p3] := by
  refine ⟨rfl, by simp, fun _ => ⟨_, rfl, fun j p hj => ?_⟩⟩
  have hc := fun i => blk_cell hb i
  match j, hj with
  | 0, hj =>
    obtain rfl : p1 = p := by simpa using hj
    refine ⟨[.slice A1 p1.length c1], rfl, ⟨_, _, rfl, l1, h1⟩, fun i u hu => ?_⟩
    obtain ⟨rfl, rfl⟩ : i = 0 ∧ u = .slice A1 p1.length c1 := by cases i <;> simp at hu; exact ⟨rfl, hu.symm⟩
    rw [add_plain]; exact hc 0
  | 1, hj =>
    obtain rfl : p2 = p := by simpa using hj
    refine ⟨[.slice A2 p2.length c2], rfl, ⟨_, _, rfl, l2, h2⟩, fun i u hu => ?_⟩
    obtain ⟨rfl, rfl⟩ : i = 0 ∧ u = .slice A2 p2.length c2 := by cases i <;> simp at hu; exact ⟨rfl, hu.symm⟩
    rw [add_plain]; exact hc 1
  | 2, hj =>
    obtain rfl : p3 = p := by simpa using hj
    refine ⟨[.slice A3 p3.length c3], rfl, ⟨_, _, rfl, l3, h3⟩, fun i u hu => ?_⟩
    obtain ⟨rfl, rfl⟩ : i = 0 ∧ u = .slice A3 p3.length c3 := by cases i <;> simp at hu; exact ⟨rfl, hu.symm⟩
    rw [add_plain]; exact hc 2
  | j + 3, hj => simp at hj

/-- 'clause' of three parts, in the world in which they were laid. -/
theorem clause3_calls (t : TB) (p1 p2 p3 : List Int) (A1 A2 A3 : Option Addr) (c1 c2 c3 : Nat) (most next : Int) (full : Bool) (v : Value) (cs : List (List Int)) (w : World) (hst : t.St w most next full v cs)
    (l1 : p1.length ≤ c1) (l2 : p2.length ≤ c2) (l3 : p3.length ≤ c3) (h1 : t.SC w A1 p1) (h2 : t.SC w A2 p2) (h3 : t.SC w A3 p3) (s1 : p1.length ≤ 1) (s2 : p2.length ≤ 1) (s3 : p3.length ≤ 1) (hcs : cs.length < 4000000000000) :
    Calls Try.prog 33 #[.slice (some ⟨w.heap.size, 0, none⟩) 3 3, .pointer (some ⟨t.bc, 0, none⟩)] (w.alloc (.cells #[.slice A1 p1.length c1, .slice A2 p2.length c2, .slice A3 p3.length c3] 22 (0, 0)))
      fun e w' => e = .returned (.tuple #[]) ∧ ∃ v', t.St w' most next full v' (cs ++ [p1 ++ p2 ++ p3]) ∧ t.Fr w w' := by
  have hb := Below.refl w.heap.size w
  have hba := below_alloc hb (.cells #[.slice A1 p1.length c1, .slice A2 p2.length c2, .slice A3 p3.length c3] 22 (0, 0))
  have hC := C_three (blk_new w (.cells #[.slice A1 p1.length c1, .slice A2 p2.length c2, .slice A3 p3.length c3] 22 (0, 0))) l1 l2 l3 (h1 _ (.of_below hba)) (h2 _ (.of_below hba)) (h3 _ (.of_below hba))
  have h := clause_calls t (some ⟨w.heap.size, 0, none⟩) 3 [p1, p2, p3] most next full v cs _ (hst.below hba) hC (by simp) (by simp; omega) (by simp) hcs
  refine h.mono ?_
  rintro e w' ⟨rfl, v', h1, h2⟩
  exact ⟨rfl, v', by simpa using h1, (TB.Fr.of_below hba).trans h2⟩

#print axioms clause3_calls

end Go.Proofs.Ytpadmbpopjmdjaa.G

namespace Go.Proofs.Ytpadmbpopjmdjaa.G
set_option linter.unusedVariables false
set_option linter.unusedSimpArgs false
open Go.RowKit Go.Proofs.YtpadmbpopjmdjaaW.PrintWords Go.Proofs.YtpadmbpopjmdjaaW.PrintLast Go.Proofs.YtpadmbpopjmdjaaW.PrintMore
attribute [local go_sem] max2_int min2_int max_two min_two max_three min_three max_four min_four

def CountPost (t : TB) (most : Int) (r : List Int × TS) (w : World) (e : Ending) (w' : World) : Prop :=
  ∃ A1 c1 v', e = .returned (.slice A1 r.1.length c1) ∧ r.1.length ≤ c1 ∧ t.SC w' A1 r.1 ∧ t.St w' most r.2.next r.2.full v' r.2.cs ∧ t.Fr w w'

def CountSaid (t : TB) (most : Int) (f : Nat) : Prop := ∀ (A : Option Addr) (c0 : Nat) (l : List Int) (s : TS) (v : Value) (w : World), 1 ≤ l.length → l.length ≤ f → l.length ≤ 40 → l.length ≤ c0 → 1 ≤ s.next → s.next ≤ 65537 → s.cs.length + 4000 * l.length ≤ 1000000 →
    t.St w most s.next s.full v s.cs → t.SC w A l →
    Calls Try.prog 35 #[.slice A l.length c0, .pointer (some ⟨t.bf, 0, none⟩), .pointer (some ⟨t.bcnt, 0, none⟩), .pointer (some ⟨t.bm, 0, none⟩), .pointer (some ⟨t.bn, 0, none⟩), .pointer (some ⟨t.bcl, 0, none⟩), .pointer (some ⟨t.bnot, 0, none⟩)] w (CountPost t most (cnt most f s l) w)

set_option maxHeartbeats 400000 in
theorem count_stop (t : TB) (most : Int) (f : Nat) (A : Option Addr) (c0 : Nat) (l : List Int) (s : TS) (v : Value) (w : World) (hc : l.length ≤ c0) (hst : t.St w most s.next s.full v s.cs) (hl : t.SC w A l) (h : l.length = 1 ∨ s.full = true) :
    Calls Try.prog 35 #[.slice A l.length c0, .pointer (some ⟨t.bf, 0, none⟩), .pointer (some ⟨t.bcnt, 0, none⟩), .pointer (some ⟨t.bm, 0, none⟩), .pointer (some ⟨t.bn, 0, none⟩), .pointer (some ⟨t.bcl, 0, none⟩), .pointer (some ⟨t.bnot, 0, none⟩)] w (CountPost t most (cnt most (f + 1) s l) w) := by
  rw [cnt_stop h]
  have HS := Aside0.mk hst
  have HL := Aside0.mk hl
  have hcf := blk_cell hst.f 0
  clear hst hl
  by_cases h1 : l.length = 1
  · have h2 : ((l.length : Int) == 1) = true := by rw [h1]; rfl
    have H1 := Aside0.mk h1
    clear h1 h
    go_enter Try.func35, Try.ntmps35
    go_wp2
    go_ret
    exact ⟨A, c0, v, rfl, hc, HL.out, HS.out, .refl _ _⟩
  · have h3 := h.resolve_left h1
    have h2 : ((l.length : Int) == 1) = false := by simpa using fun e : (l.length : Int) = 1 => h1 (by omega)
    simp only [h3] at hcf
    have HF := Aside0.mk h3
    clear h1 h h3
    go_enter Try.func35, Try.ntmps35
    go_wp2
    go_ret
    exact ⟨A, c0, v, rfl, hc, HL.out, HS.out, .refl _ _⟩

set_option maxRecDepth 100000 in
set_option maxHeartbeats 4000000 in
theorem count_step (t : TB) (most : Int) (hm1 : 1 ≤ most) (hm2 : most ≤ 1099511627776) (f : Nat) (ih : CountSaid t most f) (A : Option Addr) (c0 : Nat) (l : List Int) (s : TS) (v : Value) (w : World) (h2 : 2 ≤ l.length) (hf : l.length ≤ f + 1) (h40 : l.length ≤ 40) (hc : l.length ≤ c0)
    (hn1 : 1 ≤ s.next) (hn2 : s.next ≤ 65537) (hcs : s.cs.length + 4000 * l.length ≤ 1000000) (hfull : s.full = false) (hst : t.St w most s.next s.full v s.cs) (hl : t.SC w A l) :
    Calls Try.prog 35 #[.slice A l.length c0, .pointer (some ⟨t.bf, 0, none⟩), .pointer (some ⟨t.bcnt, 0, none⟩), .pointer (some ⟨t.bm, 0, none⟩), .pointer (some ⟨t.bn, 0, none⟩), .pointer (some ⟨t.bcl, 0, none⟩), .pointer (some ⟨t.bnot, 0, none⟩)] w (CountPost t most (cnt most (f + 1) s l) w) := by
  have HS := Aside0.mk hst
  have HL := Aside0.mk hl
  have hcf := blk_cell hst.f 0
  rw [hfull] at hcf
  have HFU := Aside0.mk hfull
  clear hst hl hfull
  have hne1 : ((l.length : Int) == 1) = false := by simpa using fun e : (l.length : Int) = 1 => by omega
  obtain ⟨h, hh⟩ : ∃ h, l.length / 2 = h := ⟨_, rfl⟩
  have hq : (l.length : Int) / 2 = (h : Int) := by omega
  have hb1 : 1 ≤ h := by omega
  have hb2 : h + h ≤ l.length := by omega
  have hb3 : l.length ≤ h + h + 1 := by omega
  have HH := Aside0.mk hh
  clear hh
  obtain ⟨i0, hi, hz0, hz1, hz2⟩ := info_parts infoT3
  have hrun1 := cut_to (P := Try.prog) 22 3 .i64 Try.underlying22 hi A l.length c0 (h : Int) (by omega) (by omega) hc
  have hrun2 := cut_from (P := Try.prog) 22 3 .i64 Try.underlying22 hi 1 hz1 A l.length c0 (h : Int) (by omega) (by omega)
  rw [Int.toNat_natCast] at hrun1 hrun2
  obtain ⟨A2, hA2⟩ : ∃ A2, (if c0 = h then A else A.map (·.add (h * 1))) = A2 := ⟨_, rfl⟩
  rw [hA2] at hrun2
  have hcnt : ∀ W v' nx fu cs', t.St W most nx fu v' cs' → W.cell? ⟨t.bcnt, 0, none⟩ = _ := fun W v' nx fu cs' hS => blk_cell hS.cnt 0
  have HL1 := Aside0.mk (show t.SC w A (l.take h) from fun W hW => Kd.C_take (HL.out W hW) (by omega))
  have HL2 := Aside0.mk (show t.SC w A2 (l.drop h) from fun W hW => by rw [← hA2]; exact Kd.C_drop (HL.out W hW) (by omega) hc)
  have l1 : (l.take h).length = h := by rw [List.length_take]; omega
  have l2 : (l.drop h).length = l.length - h := List.length_drop
  have HI1 := Aside0.mk (fun (W : World) (hf1 : t.Fr w W) (hS : t.St W most s.next s.full v s.cs) => ih A c0 (l.take h) s v W (by omega) (by omega) (by omega) (by omega) hn1 hn2 (by omega) hS (HL1.out.next hf1))
  rw [l1] at HI1
  obtain ⟨r1, hr1⟩ : ∃ r1, cnt most f s (l.take h) = r1 := ⟨_, rfl⟩
  have bn1 := cnt_next hm1 f s (l.take h) hn1 hn2 (by omega) (by omega)
  have bc1 := cnt_cs (most := most) f s (l.take h) (by omega) (by omega) (by omega)
  have bl1 := cnt_len (most := most) f s (l.take h)
  rw [hr1] at HI1 bn1 bc1 bl1
  rw [l1] at bc1 bl1
  have HI2 := Aside0.mk (fun (v1 : Value) (W : World) (hf1 : t.Fr w W) (hS : t.St W most r1.2.next r1.2.full v1 r1.2.cs) => ih A2 (c0 - h) (l.drop h) r1.2 v1 W (by omega) (by omega) (by omega) (by omega) (by omega) (by omega) (by omega) hS (HL2.out.next hf1))
  rw [l2] at HI2
  obtain ⟨r2, hr2⟩ : ∃ r2, cnt most f r1.2 (l.drop h) = r2 := ⟨_, rfl⟩
  have bn2 := cnt_next hm1 f r1.2 (l.drop h) (by omega) (by omega) (by omega) (by omega)
  have bc2 := cnt_cs (most := most) f r1.2 (l.drop h) (by omega) (by omega) (by omega)
  have bl2 := cnt_len (most := most) f r1.2 (l.drop h)
  rw [hr2] at HI2 bn2 bc2 bl2
  rw [l2] at bc2 bl2
  obtain ⟨R, hR⟩ : ∃ R, cnt most (f + 1) s l = R := ⟨_, rfl⟩
  rw [hR]
  have hno : ¬ (l.length = 1 ∨ s.full = true) := by
    rintro (e | e)
    · omega
    · rw [HFU.out] at e
      cases e
  have hstep := cnt_next_step (r1 := r1) (r2 := r2) hno (by rw [HH.out]; exact hr1) (by rw [HH.out]; exact hr2)
  rw [hR] at hstep
  have HR := Aside0.mk hstep
  clear hR hr1 hr2 hA2 l1 l2 hi hz0 hz1 hz2 hstep hno
  have hce := blk_cell HS.out.cnt 0
  have hmge := manyOf_ge hm1 (show 1 ≤ l.length by omega)
  have hmle := manyOf_le l.length most
  obtain ⟨M, hM⟩ : ∃ M : Nat, manyOf l.length most = M := ⟨(manyOf l.length most).toNat, by omega⟩
  rw [hM] at hmge hmle HR
  have hmin : (if most < (l.length : Int) then most else (l.length : Int)) = (M : Int) := hM
  clear hM
  obtain ⟨fu, hfu⟩ : ∃ fu, r2.2.full = fu := ⟨_, rfl⟩
  have HFU2 := Aside0.mk hfu
  rw [hfu] at HR
  clear hfu
  go_enter Try.func35, Try.ntmps35
  go_wp2
  go_still_tail 4, (by kernel_rfl)
  go_wp2_with ((go_at_call 35; refine (HI1.out _ (TB.Fr.refl t w).drew HS.out.drew).mono ?_; rintro e w1 ⟨A3, c3, v3, rfl, hc3, hsc3, hst3, hfr3⟩; have HC3 := Aside0.mk hc3; have HSC3 := Aside0.mk hsc3; have HS3 := Aside0.mk hst3; have HF3 := Aside0.mk ((TB.Fr.refl t w).drew.trans hfr3); have hce3 := blk_cell HS3.out.cnt 0; clear hc3 hsc3 hst3 hfr3))
  cases fu with
  | true =>
    rw [if_pos (.inl rfl)] at HR
    have HRR := Aside0.mk HR.out
    go_still_tail 4, (by kernel_rfl)
    go_wp2_with ((go_at_call 35; refine (HI2.out _ _ HF3.out.drew HS3.out.drew).mono ?_; rintro e w2 ⟨A4, c4, v4, rfl, hc4, hsc4, hst4, hfr4⟩; have HC4 := Aside0.mk hc4; have HSC4 := Aside0.mk hsc4; have HS4 := Aside0.mk hst4; have HF4 := Aside0.mk (HF3.out.drew.trans hfr4); have HSD4 := Aside0.mk ((HSC3.out.next (TB.Fr.refl t w1).drew).next hfr4); have hcm4 := blk_cell HS4.out.m 0; have hcn4 := blk_cell HS4.out.n 0; have hcf4 := blk_cell HS4.out.f 0; have hff4 := blk_frozen HS4.out.f 0; rw [HFU2.out] at hcf4; clear hc4 hsc4 hst4 hfr4))
    go_ret
    rw [HRR.out]
    exact ⟨none, 0, v4, rfl, Nat.le_refl _, fun W _ => Kd.C_nil _ _, HS4.out.setF true, HF4.out.trans (HS4.out.frF _)⟩
  | false =>
    by_cases hgt : 65537 < r2.2.next + M
    · rw [if_pos (.inr hgt)] at HR
      have HRR := Aside0.mk HR.out
      go_still_tail 4, (by kernel_rfl)
      go_wp2_with ((go_at_call 35; refine (HI2.out _ _ HF3.out.drew HS3.out.drew).mono ?_; rintro e w2 ⟨A4, c4, v4, rfl, hc4, hsc4, hst4, hfr4⟩; have HC4 := Aside0.mk hc4; have HSC4 := Aside0.mk hsc4; have HS4 := Aside0.mk hst4; have HF4 := Aside0.mk (HF3.out.drew.trans hfr4); have HSD4 := Aside0.mk ((HSC3.out.next (TB.Fr.refl t w1).drew).next hfr4); have hcm4 := blk_cell HS4.out.m 0; have hcn4 := blk_cell HS4.out.n 0; have hcf4 := blk_cell HS4.out.f 0; have hff4 := blk_frozen HS4.out.f 0; rw [HFU2.out] at hcf4; clear hc4 hsc4 hst4 hfr4))
      go_ret
      rw [HRR.out]
      exact ⟨none, 0, v4, rfl, Nat.le_refl _, fun W _ => Kd.C_nil _ _, HS4.out.setF true, HF4.out.trans (HS4.out.frF _)⟩
    · rw [if_neg (by simp [hgt])] at HR
      have hgtd : decide (65537 < r2.2.next + (M : Int)) = false := decide_eq_false hgt
      have HRR := Aside0.mk HR.out
      clear HR
      go_still_tail 4, (by kernel_rfl)
      go_wp2_with (first | (go_at_call 35; refine (HI2.out _ _ HF3.out.drew HS3.out.drew).mono ?_; rintro e w2 ⟨A4, c4, v4, rfl, hc4, hsc4, hst4, hfr4⟩; have HC4 := Aside0.mk hc4; have HSC4 := Aside0.mk hsc4; have HS4 := Aside0.mk hst4; have HF4 := Aside0.mk (HF3.out.drew.trans hfr4); have HSD4 := Aside0.mk ((HSC3.out.next (TB.Fr.refl t w1).drew).next hfr4); have hcm4 := blk_cell HS4.out.m 0; have hcn4 := blk_cell HS4.out.n 0; have hcf4 := blk_cell HS4.out.f 0; have hff4 := blk_frozen HS4.out.f 0; rw [HFU2.out] at hcf4; clear hc4 hsc4 hst4 hfr4) | ((with_reducible refine gate_store (t := 4) (p := 1) rfl ?_); go_must (refine store_event (t := 4) (p := 1) (v := ?vo1) (w1 := (w2.setCell ⟨t.bf, 0, none⟩ (.bool false))) ?hg ?ho ?hn ?hr ?_); (case ho => rfl); (case hg => rfl); (case hn => rfl); go_must (case hr => first | (go_simp; done) | (go_simp; rfl)); intro w3 hw; have HS5 := Aside0.mk (show t.St w3 most r2.2.next false v4 r2.2.cs from by rw [hw]; exact HS4.out.setF false); have HF5 := Aside0.mk (show t.Fr w w3 from by rw [hw]; exact HF4.out.trans (HS4.out.frF _)); have HSC5 := Aside0.mk (show t.SC w3 A4 r2.1 from by rw [hw]; exact HSC4.out.next (HS4.out.frF _)); have HSD5 := Aside0.mk (show t.SC w3 A3 r1.1 from by rw [hw]; exact HSD4.out.next (HS4.out.frF _)); have hcf5 := blk_cell HS5.out.f 0; clear hw hcf4 hff4 hcm4 hcn4) | ((with_reducible refine gate_dst (N := 52) rfl ?_); refine Kd.R_make (Kd.int .i64) (w0 := w3) t.S 3 rfl (N := 52) rfl 22 _ _ rfl (M : Int) rfl rfl Try.underlying22 (.int .i64 0) 8 infoT3 rfl (by decide) (by decide) 0 (ok := fun _ => True) (okp := fun _ => True) rfl (fun _ hk => hk) trivial (by omega) (by rw [Int.toNat_natCast]; omega) (Below.refl _ _) HS5.out.size ?_; intro v5 w5 ho hb hg hnew; rw [Int.toNat_natCast, ← fillTo_zero r2.2.next] at ho; have HB5 := Aside0.mk ((Below.refl w3.heap.size w3).grown hg (Nat.le_refl _) (fun k hk => by cases hk)); obtain ⟨gq, eg, hge⟩ := hnew; obtain ⟨g, cap, e5, _, _, _⟩ := Kd.R_form ho (by rw [fillTo_len]; omega); rw [fillTo_len] at e5; rw [e5] at eg ho; rw [e5]; have HG := Aside0.mk (show w3.heap.size ≤ g from by simp [Value.ownBlock] at eg; omega); have HO5 := Aside0.mk ho; clear e5 eg hge ho hb hg))
      have hnx := bn2.2
      have hnx0 : 1 ≤ r2.2.next := by omega
      obtain ⟨nx, hnxe⟩ : ∃ nx, r2.2.next = nx := ⟨_, rfl⟩
      rw [hnxe] at HRR HS5 HO5 hnx hnx0 hgt
      clear hgtd hcf5 hce hce3 hcf hrun1 hrun2 hcnt hmin hnxe bn1 bn2
      have HM := Aside0.mk hgt
      clear hgt
      go_loopg [55] M (fun kq v55 wr => ∃ i : Nat, i ≤ M ∧ v55 = .int .i64 i ∧ Aside0 (kq + i = M) ∧ Aside0 ((Kd.int .i64).R 3 wr t.S (fun _ => True) (.slice (some ⟨g, 0, none⟩) M cap) (fillTo nx M i)) ∧ Aside0 (Below w3.heap.size (w3.setCell ⟨t.bn, 0, none⟩ (.int .i64 (nx + i))) wr))
      case atStart => exact ⟨0, by omega, rfl, ⟨by omega⟩, HO5, ⟨by rw [show nx + ((0 : Nat) : Int) = nx from by omega]; exact (below_same HS5.out.n _).trans HB5.out⟩⟩
      case round =>
        obtain ⟨i, hi, rfl, HN, HO, HB⟩ := hrel
        have hnS := HS5.out.lt.2.1
        have hsz := HS5.out.size
        have HS := Aside0.mk ((HS5.out.setN (nx + i)).below (HB.out.mono (by simp [World.setCell])))
        by_cases hlt : i < M
        · have hcn := blk_cell HS.out.n 0
          have HP := Aside0.mk (Kd.R_putg HO.out (i : Int) (nx + i))
          obtain ⟨hx1, hx2⟩ := Kd.R_celln (0 : Int) HO.out (i : Int) (by omega) (by omega)
          rw [Int.toNat_natCast] at hx1 hx2
          go_wp2_with (first | ((with_reducible refine gate_store (t := 3) (p := 61) rfl ?_); refine store_event (t := 3) (p := 61) (v := ?vo2) (w1 := (wr.setCell ⟨g, i, none⟩ (.int .i64 (nx + i)))) ?hg ?ho ?hn ?hr ?_; (case ho => rfl); (case hg => rfl); (case hn => rfl); go_must (case hr => first | (go_simp; done) | (go_simp; rfl)); intro w6 hw; have HO6 := Aside0.mk (show (Kd.int .i64).R 3 w6 t.S (fun _ => True) (.slice (some ⟨g, 0, none⟩) M cap) (fillTo nx M (i + 1)) from by rw [hw, ← fillTo_set]; exact HP.out.1); have HB6 := Aside0.mk (show Below w3.heap.size (w3.setCell ⟨t.bn, 0, none⟩ (.int .i64 (nx + i))) w6 from by rw [hw]; exact HB.out.setCell HG.out _); have HS6 := Aside0.mk ((HS5.out.setN (nx + i)).below (HB6.out.mono (by simp [World.setCell]))); have hcn6 := blk_cell HS6.out.n 0; have hfn6 := blk_frozen HS6.out.n 0; clear hw) | ((with_reducible refine gate_store (t := 3) (p := 4) rfl ?_); refine store_event (t := 3) (p := 4) (v := ?vo3) (w1 := (w6.setCell ⟨t.bn, 0, none⟩ (.int .i64 (nx + i + 1)))) ?hg ?ho ?hn ?hr ?_; (case ho => rfl); (case hg => rfl); (case hn => rfl); go_must (case hr => first | (go_simp; done) | (go_simp; rfl)); intro w7 hw; have HO7 := Aside0.mk (show (Kd.int .i64).R 3 w7 t.S (fun _ => True) (.slice (some ⟨g, 0, none⟩) M cap) (fillTo nx M (i + 1)) from by rw [hw]; exact Kd.R_mono (Kd.R_far (Kd.R_bound HO6.out) (fun k hk => by have := hk.2.1; show k ≠ t.bn; omega) _) (fun _ _ => trivial)); have HB7 := Aside0.mk (show Below w3.heap.size (w3.setCell ⟨t.bn, 0, none⟩ (.int .i64 (nx + ((i + 1 : Nat) : Int)))) w7 from by rw [hw, show nx + ((i + 1 : Nat) : Int) = nx + i + 1 from by omega]; exact below_both HS5.out.n HB6.out (by omega)); clear hw))
          go_roundg (gk - 1)
          case measure => have := HN.out; omega
          case rel => exact ⟨i + 1, by omega, by go_num, ⟨by have := HN.out; omega⟩, HO7, HB7⟩
        · have hi2 : i = M := by omega
          have hO := HO.out
          have hS := HS.out
          rw [hi2] at hS hO
          rw [fillTo_all] at hO
          go_wp2
          obtain ⟨wo, rfl⟩ : ∃ wo : World, wo = wr := ⟨_, rfl⟩
          have hB := HB.out
          rw [hi2] at hB
          have hszM : (w3.setCell ⟨t.bn, 0, none⟩ (.int .i64 (nx + M))).heap.size ≤ w3.heap.size := by simp [World.setCell]
          have hfw := (HS5.out.frN (.int .i64 (nx + M))).trans (.of_below (hB.mono hszM))
          have HFo := Aside0.mk (HF5.out.trans hfw)
          have HSCa := Aside0.mk (HSD5.out.next hfw)
          have HSCb := Aside0.mk (HSC5.out.next hfw)
          obtain ⟨o, ho⟩ : ∃ o, outsOf nx M = o := ⟨_, rfl⟩
          have hol : o.length = M := by rw [← ho, outsOf_length]
          rw [ho] at hO
          rw [Int.toNat_natCast, ho] at HRR
          obtain ⟨Ao, co, eo, hco, hSCo⟩ := TB.SC.made hO ⟨hS.lt.2.1, hS.lt.2.2.1, hS.lt.2.2.2.2.2.1⟩
          rw [hol] at eo hco
          have HOL := Aside0.mk hol
          have HCO := Aside0.mk hco
          have HSCo := Aside0.mk hSCo
          have HSo := Aside0.mk hS
          injection eo with eo1 _ eo3
          subst eo1; subst eo3
          clear hB hszM hO hS hfw ho hol HO HB HS HS5 HB5 HO5 HSC5 HSD5 hSCo hco hi2 HN HG
          obtain ⟨ca, hca⟩ : ∃ ca, r1.1 = ca := ⟨_, rfl⟩
          obtain ⟨cb, hcb⟩ : ∃ cb, r2.1 = cb := ⟨_, rfl⟩
          obtain ⟨cs0, hcs0⟩ : ∃ cs0, r2.2.cs = cs0 := ⟨_, rfl⟩
          rw [hca] at HRR HC3 HSCa bl1
          rw [hcb] at HRR HC4 HSCb bl2
          rw [hcs0] at HRR HSo bc2
          rw [hca, hcb]
          clear hca hcb hcs0
          have hcsb : cs0.length + 2 * (41 * 41) ≤ 1100000 := by omega
          have hla : ca.length ≤ 40 := by omega
          have hlb : cb.length ≤ 40 := by omega
          have hMl : M ≤ 40 := by omega
          have hM1 : 1 ≤ M := by omega
          clear bl1 bl2 bc1 bc2 hcs HI1 HI2 HL1 HL2 HS HL HS3 HF3 HSC3 HS4 HF4 HSC4 HSD4 HF5 hb1 hb2 hb3 hmge hmle
          go_loopg [68] (ca.length + 1) (fun kq v68 wx => ∃ (i : Nat) (v : Value), i ≤ ca.length + 1 ∧ v68 = .int .i64 i ∧ Aside0 (kq + i = ca.length + 1) ∧ Aside0 (t.St wx most (nx + M) false v (cs0 ++ mergeTo ca cb o M i)) ∧ Aside0 (t.Fr wo wx))
          case atStart => exact ⟨0, v4, by omega, rfl, ⟨by omega⟩, ⟨by rw [mergeTo_zero, List.append_nil]; exact HSo.out⟩, ⟨.refl _ _⟩⟩
          case round =>
            obtain ⟨i, v6, hi6, rfl, HN6, HS6, HF6⟩ := hrel
            obtain ⟨g6, rfl⟩ : ∃ g6 : Nat, g6 = gk := ⟨_, rfl⟩
            by_cases hlt6 : i < ca.length + 1
            · go_wp2
              obtain ⟨wi, rfl⟩ : ∃ wi : World, wi = wr := ⟨_, rfl⟩
              go_loopg [74] (cb.length + 1) (fun kq v74 wx => ∃ (k : Nat) (v : Value), k ≤ cb.length + 1 ∧ v74 = .int .i64 k ∧ Aside0 (kq + k = cb.length + 1) ∧ Aside0 (t.St wx most (nx + M) false v (cs0 ++ mergeTo ca cb o M i ++ rowTo ca cb o M i k)) ∧ Aside0 (t.Fr wo wx))
              case atStart => exact ⟨0, v6, by omega, rfl, ⟨by omega⟩, ⟨by rw [rowTo_zero, List.append_nil]; exact HS6.out⟩, HF6⟩
              case round =>
                obtain ⟨k, v7, hk7, rfl, HN7, HS7, HF7⟩ := hrel
                obtain ⟨wk, rfl⟩ : ∃ wk : World, wk = wr := ⟨_, rfl⟩
                by_cases hlt7 : k < cb.length + 1
                · have hcl := blk_cell HS7.out.cl 0
                  have hnt := blk_cell HS7.out.nt 0
                  have HA7 := Aside0.mk (HSCa.out.next HF7.out)
                  have HB7 := Aside0.mk (HSCb.out.next HF7.out)
                  have HO7 := Aside0.mk (HSCo.out.next HF7.out)
                  by_cases t0 : 0 < i + k
                  · by_cases t1 : i + k < M
                    · have t2 : i + k ≤ M := by omega
                      obtain ⟨p1, hp1⟩ : ∃ p1, atL ca ((i : Int) - 1) = p1 := ⟨_, rfl⟩
                      obtain ⟨p2, hp2⟩ : ∃ p2, atL cb ((k : Int) - 1) = p2 := ⟨_, rfl⟩
                      obtain ⟨p3, hp3⟩ : ∃ p3, atL o ((i : Int) + k - 1) = p3 := ⟨_, rfl⟩
                      obtain ⟨q1, hq1⟩ : ∃ q1, notL p1 = q1 := ⟨_, rfl⟩
                      obtain ⟨q2, hq2⟩ : ∃ q2, notL p2 = q2 := ⟨_, rfl⟩
                      have HT1 := Aside0.mk (fun W => at_calls A3 c3 ca ((i : Int) - 1) W HC3.out (by omega))
                      have HT2 := Aside0.mk (fun W => at_calls A4 c4 cb ((k : Int) - 1) W HC4.out (by omega))
                      have HT3 := Aside0.mk (fun W => at_calls (some ⟨g, 0, none⟩) cap o ((i : Int) + k - 1) W (by rw [HOL.out]; exact HCO.out) (by omega))
                      have HU1 := Aside0.mk (fun A c W => not_calls A c p1 W)
                      have HU2 := Aside0.mk (fun A c W => not_calls A c p2 W)
                      have HL1 := Aside0.mk (show q1.length ≤ 1 ∧ q2.length ≤ 1 ∧ p3.length ≤ 1 from ⟨by rw [← hq1]; exact notL_len _, by rw [← hq2]; exact notL_len _, by rw [← hp3]; exact atL_len _ _⟩)
                      have HUP := Aside0.mk (show q1 ++ q2 ++ p3 = upC ca cb o i k from by rw [← hq1, ← hq2, ← hp1, ← hp2, ← hp3]; rfl)
                      rw [hp1] at HT1
                      rw [hp2] at HT2
                      rw [hp3, HOL.out] at HT3
                      rw [hq1] at HU1
                      rw [hq2] at HU2
                      clear hp1 hp2 hp3 hq1 hq2
                      obtain ⟨p4, hp4⟩ : ∃ p4, atL ca (i : Int) = p4 := ⟨_, rfl⟩
                      obtain ⟨p5, hp5⟩ : ∃ p5, atL cb (k : Int) = p5 := ⟨_, rfl⟩
                      obtain ⟨p6, hp6⟩ : ∃ p6, atL o ((i : Int) + k) = p6 := ⟨_, rfl⟩
                      obtain ⟨q6, hq6⟩ : ∃ q6, notL p6 = q6 := ⟨_, rfl⟩
                      have HT4 := Aside0.mk (fun W => at_calls A3 c3 ca (i : Int) W HC3.out (by omega))
                      have HT5 := Aside0.mk (fun W => at_calls A4 c4 cb (k : Int) W HC4.out (by omega))
                      have HT6 := Aside0.mk (fun W => at_calls (some ⟨g, 0, none⟩) cap o ((i : Int) + k) W (by rw [HOL.out]; exact HCO.out) (by omega))
                      have HU6 := Aside0.mk (fun A c W => not_calls A c p6 W)
                      have HL4 := Aside0.mk (show p4.length ≤ 1 ∧ p5.length ≤ 1 ∧ q6.length ≤ 1 from ⟨by rw [← hp4]; exact atL_len _ _, by rw [← hp5]; exact atL_len _ _, by rw [← hq6]; exact notL_len _⟩)
                      have HDN := Aside0.mk (show p4 ++ p5 ++ q6 = downC ca cb o i k from by rw [← hq6, ← hp4, ← hp5, ← hp6]; rfl)
                      rw [hp4] at HT4
                      rw [hp5] at HT5
                      rw [hp6, HOL.out] at HT6
                      rw [hq6] at HU6
                      clear hp4 hp5 hp6 hq6
                      have hlen7_ : (cs0 ++ mergeTo ca cb o M i ++ rowTo ca cb o M i k).length < 4000000000000 := by
                        have e1 := mergeTo_len ca cb o M i
                        have e2 := rowTo_len ca cb o M i k
                        have e3 : 2 * (cb.length + 1) * i ≤ 2 * 41 * 41 := Nat.mul_le_mul (by omega) (by omega)
                        simp only [List.length_append, List.length_cons, List.length_nil]
                        omega
                      have hlen7 := Aside0.mk hlen7_
                      clear hlen7_
                      have hlen8_ : (cs0 ++ mergeTo ca cb o M i ++ rowTo ca cb o M i k ++ [upC ca cb o i k]).length < 4000000000000 := by
                        have e1 := mergeTo_len ca cb o M i
                        have e2 := rowTo_len ca cb o M i k
                        have e3 : 2 * (cb.length + 1) * i ≤ 2 * 41 * 41 := Nat.mul_le_mul (by omega) (by omega)
                        simp only [List.length_append, List.length_cons, List.length_nil]
                        omega
                      have hlen8 := Aside0.mk hlen8_
                      clear hlen8_
                      go_wp2
                      have hS7 : t.S ≤ wk.drew.heap.size := HS7.out.size
                      have HW1 := Aside0.mk (TB.Fr.refl t wk).drew
                      have HS8 := Aside0.mk HS7.out.drew
                      have hw1 : IntKind.i64.wrap ((i : Int) - 1) = (i : Int) - 1 := IntWalk.i64_in _ (by omega)
                      have hw2 : IntKind.i64.wrap ((k : Int) - 1) = (k : Int) - 1 := IntWalk.i64_in _ (by omega)
                      have hw3 : IntKind.i64.wrap ((i : Int) + (k : Int) - 1) = (i : Int) + (k : Int) - 1 := IntWalk.i64_in _ (by omega)
                      have d1 : wk.drew.cell? ⟨t.bcl, 0, none⟩ = some (.func (.func 33) #[] #[.pointer (some ⟨t.bc, 0, none⟩)]) := hcl
                      have d2 : wk.drew.cell? ⟨t.bnot, 0, none⟩ = some (.func (.func 34) #[] #[]) := hnt
                      go_region_held3 (fun W => W.cell? ⟨t.bcl, 0, none⟩ = some (.func (.func 33) #[] #[.pointer (some ⟨t.bc, 0, none⟩)]) ∧ W.cell? ⟨t.bnot, 0, none⟩ = some (.func (.func 34) #[] #[])) (first | exact ⟨d1, d2⟩ | exact ⟨pw_cell_below (below_alloc (Below.refl _ _) _) (by assumption), pw_cell_below (below_alloc (Below.refl _ _) _) (by assumption)⟩ | exact ⟨(by assumption), (by assumption)⟩) (first | (go_at_call_of 36 (Value.slice A3 ca.length c3); refine (HT1.out _).mono ?_; rintro e w' ⟨A5, c5, rfl, rfl, hc5, hC5⟩; have HP1 := Aside0.mk (show t.SC wk A5 p1 from fun W hW => hC5 W (HA7.out W hW)); clear hc5 hC5) | (go_at_call_of 36 (Value.slice A4 cb.length c4); refine (HT2.out _).mono ?_; rintro e w' ⟨A6, c6, rfl, rfl, hc6, hC6⟩; have HP2 := Aside0.mk (show t.SC wk A6 p2 from fun W hW => hC6 W (HB7.out W hW)); clear hc6 hC6) | (go_at_call_of 36 (Value.slice (some ⟨g, 0, none⟩) M cap); refine (HT3.out _).mono ?_; rintro e w' ⟨A11, c11, rfl, rfl, hc11, hC11⟩; have HP3 := Aside0.mk (show t.SC w10 A11 p3 from fun W hW => hC11 W (by have h_ := (HO7.out.next HW10.out) W hW; rw [HOL.out] at h_; exact h_)); have HQ3 := Aside0.mk hc11; clear hc11 hC11) | (go_at_call_of 34 (Value.slice A5 p1.length c5); refine (HU1.out _ _ _ (HP1.out _ HW1.out)).mono ?_; rintro e w8 ⟨v8, rfl, hR8, hB8⟩; have HS9 := Aside0.mk (HS8.out.below hB8); have HW8 := Aside0.mk (HW1.out.trans (.of_below hB8)); obtain ⟨A8, c8, e8, hc8, hs8⟩ := TB.SC.made (Kd.R_lower hR8 hS7) ⟨HS9.out.lt.2.1, HS9.out.lt.2.2.1, HS9.out.lt.2.2.2.2.2.1⟩; rw [e8]; have HQ1 := Aside0.mk hc8; have HR1 := Aside0.mk hs8; have d3 := blk_cell HS9.out.cl 0; have d4 := blk_cell HS9.out.nt 0; have hS8 := HS9.out.size; clear e8 hc8 hs8 hR8 hB8) | (go_at_call_of 34 (Value.slice A6 p2.length c6); refine (HU2.out _ _ _ (HP2.out _ HW8.out)).mono ?_; rintro e w10 ⟨v10, rfl, hR10, hB10⟩; have HS10 := Aside0.mk (HS9.out.below hB10); have HW10 := Aside0.mk (HW8.out.trans (.of_below hB10)); obtain ⟨A10, c10, e10, hc10, hs10⟩ := TB.SC.made (Kd.R_lower hR10 hS8) ⟨HS9.out.lt.2.1, HS9.out.lt.2.2.1, HS9.out.lt.2.2.2.2.2.1⟩; rw [e10]; have HQ2 := Aside0.mk hc10; have HR2 := Aside0.mk hs10; have HR1b := Aside0.mk (HR1.out.next (.of_below hB10)); have d5 := blk_cell HS10.out.cl 0; have d6 := blk_cell HS10.out.nt 0; clear e10 hc10 hs10 hR10 hB10) | (go_at_call 33; refine (clause3_calls t q1 q2 p3 A8 A10 A11 c8 c10 c11 most (nx + M) false v7 _ w10 HS10.out HQ1.out HQ2.out HQ3.out HR1b.out HR2.out HP3.out HL1.out.1 HL1.out.2.1 HL1.out.2.2 hlen7.out).mono ?_; rintro e w12 ⟨rfl, v12, hst12, hfr12⟩; rw [HUP.out] at hst12; have HS12 := Aside0.mk hst12; have HW12 := Aside0.mk (HW10.out.trans hfr12); have d7 := blk_cell HS12.out.cl 0; have d8 := blk_cell HS12.out.nt 0; clear hst12 hfr12))
                      clear hw1 hw2 hw3 d1 d2 d3 d4 d5 d6 hcl hnt
                      go_wp2
                      have hS13 : t.S ≤ w12.drew.heap.size := HS12.out.size
                      have HW13 := Aside0.mk HW12.out.drew
                      have HS13 := Aside0.mk HS12.out.drew
                      have d1 : w12.drew.cell? ⟨t.bcl, 0, none⟩ = some (.func (.func 33) #[] #[.pointer (some ⟨t.bc, 0, none⟩)]) := d7
                      have d2 : w12.drew.cell? ⟨t.bnot, 0, none⟩ = some (.func (.func 34) #[] #[]) := d8
                      go_region_held3 (fun W => W.cell? ⟨t.bcl, 0, none⟩ = some (.func (.func 33) #[] #[.pointer (some ⟨t.bc, 0, none⟩)]) ∧ W.cell? ⟨t.bnot, 0, none⟩ = some (.func (.func 34) #[] #[])) (first | exact ⟨d1, d2⟩ | exact ⟨pw_cell_below (below_alloc (Below.refl _ _) _) (by assumption), pw_cell_below (below_alloc (Below.refl _ _) _) (by assumption)⟩ | exact ⟨(by assumption), (by assumption)⟩) (first | (go_at_call_of 36 (Value.slice A3 ca.length c3); refine (HT4.out _).mono ?_; rintro e w' ⟨A14, c14, rfl, rfl, hc14, hC14⟩; have HP4 := Aside0.mk (show t.SC w12.drew A14 p4 from fun W hW => hC14 W ((HA7.out.next HW13.out) W hW)); have HQ4 := Aside0.mk hc14; clear hc14 hC14) | (go_at_call_of 36 (Value.slice A4 cb.length c4); refine (HT5.out _).mono ?_; rintro e w' ⟨A15, c15, rfl, rfl, hc15, hC15⟩; have HP5 := Aside0.mk (show t.SC w12.drew A15 p5 from fun W hW => hC15 W ((HB7.out.next HW13.out) W hW)); have HQ5 := Aside0.mk hc15; clear hc15 hC15) | (go_at_call_of 36 (Value.slice (some ⟨g, 0, none⟩) M cap); refine (HT6.out _).mono ?_; rintro e w' ⟨A16, c16, rfl, rfl, hc16, hC16⟩; have HP6 := Aside0.mk (show t.SC w12.drew A16 p6 from fun W hW => hC16 W (by have h_ := (HO7.out.next HW13.out) W hW; rw [HOL.out] at h_; exact h_)); clear hc16 hC16) | (go_at_call_of 34 (Value.slice A16 p6.length c16); refine (HU6.out _ _ _ HP6.out.now).mono ?_; rintro e w17 ⟨v17, rfl, hR17, hB17⟩; have HS17 := Aside0.mk (HS13.out.below hB17); have HW17 := Aside0.mk (HW13.out.trans (.of_below hB17)); obtain ⟨A17, c17, e17, hc17, hs17⟩ := TB.SC.made (Kd.R_lower hR17 hS13) ⟨HS17.out.lt.2.1, HS17.out.lt.2.2.1, HS17.out.lt.2.2.2.2.2.1⟩; rw [e17]; have HQ6 := Aside0.mk hc17; have HR6 := Aside0.mk hs17; have HP4b := Aside0.mk (HP4.out.next (.of_below hB17)); have HP5b := Aside0.mk (HP5.out.next (.of_below hB17)); have d3 := blk_cell HS17.out.cl 0; have d4 := blk_cell HS17.out.nt 0; clear e17 hc17 hs17 hR17 hB17) | (go_at_call 33; refine (clause3_calls t p4 p5 q6 A14 A15 A17 c14 c15 c17 most (nx + M) false v12 _ w17 HS17.out HQ4.out HQ5.out HQ6.out HP4b.out HP5b.out HR6.out HL4.out.1 HL4.out.2.1 HL4.out.2.2 hlen8.out).mono ?_; rintro e w18 ⟨rfl, v18, hst18, hfr18⟩; rw [HDN.out] at hst18; have HS18 := Aside0.mk hst18; have HW18 := Aside0.mk (HW17.out.trans hfr18); have d9 := blk_cell HS18.out.cl 0; have d10 := blk_cell HS18.out.nt 0; clear hst18 hfr18))
                      go_wp2
                      go_roundg (gk - 1)
                      case measure => have := HN7.out; omega
                      case rel =>
                        have h_ := HS18.out
                        have e_ : rowTo ca cb o M i (k + 1) = rowTo ca cb o M i k ++ ([upC ca cb o i k] ++ [downC ca cb o i k]) := by
                          rw [rowTo_succ]
                          unfold pairC
                          rw [if_pos ⟨t0, t2⟩, if_pos t1]
                        exact ⟨k + 1, v18, by omega, by go_num, ⟨by have := HN7.out; omega⟩, ⟨by rw [e_]; simpa only [List.append_assoc, List.append_nil, List.cons_append, List.nil_append] using h_⟩, ⟨HF7.out.trans HW18.out⟩⟩
                    · by_cases t2 : i + k ≤ M
                      · skip
                        obtain ⟨p1, hp1⟩ : ∃ p1, atL ca ((i : Int) - 1) = p1 := ⟨_, rfl⟩
                        obtain ⟨p2, hp2⟩ : ∃ p2, atL cb ((k : Int) - 1) = p2 := ⟨_, rfl⟩
                        obtain ⟨p3, hp3⟩ : ∃ p3, atL o ((i : Int) + k - 1) = p3 := ⟨_, rfl⟩
                        obtain ⟨q1, hq1⟩ : ∃ q1, notL p1 = q1 := ⟨_, rfl⟩
                        obtain ⟨q2, hq2⟩ : ∃ q2, notL p2 = q2 := ⟨_, rfl⟩
                        have HT1 := Aside0.mk (fun W => at_calls A3 c3 ca ((i : Int) - 1) W HC3.out (by omega))
                        have HT2 := Aside0.mk (fun W => at_calls A4 c4 cb ((k : Int) - 1) W HC4.out (by omega))
                        have HT3 := Aside0.mk (fun W => at_calls (some ⟨g, 0, none⟩) cap o ((i : Int) + k - 1) W (by rw [HOL.out]; exact HCO.out) (by omega))
                        have HU1 := Aside0.mk (fun A c W => not_calls A c p1 W)
                        have HU2 := Aside0.mk (fun A c W => not_calls A c p2 W)
                        have HL1 := Aside0.mk (show q1.length ≤ 1 ∧ q2.length ≤ 1 ∧ p3.length ≤ 1 from ⟨by rw [← hq1]; exact notL_len _, by rw [← hq2]; exact notL_len _, by rw [← hp3]; exact atL_len _ _⟩)
                        have HUP := Aside0.mk (show q1 ++ q2 ++ p3 = upC ca cb o i k from by rw [← hq1, ← hq2, ← hp1, ← hp2, ← hp3]; rfl)
                        rw [hp1] at HT1
                        rw [hp2] at HT2
                        rw [hp3, HOL.out] at HT3
                        rw [hq1] at HU1
                        rw [hq2] at HU2
                        clear hp1 hp2 hp3 hq1 hq2
                        have hlen7_ : (cs0 ++ mergeTo ca cb o M i ++ rowTo ca cb o M i k).length < 4000000000000 := by
                          have e1 := mergeTo_len ca cb o M i
                          have e2 := rowTo_len ca cb o M i k
                          have e3 : 2 * (cb.length + 1) * i ≤ 2 * 41 * 41 := Nat.mul_le_mul (by omega) (by omega)
                          simp only [List.length_append, List.length_cons, List.length_nil]
                          omega
                        have hlen7 := Aside0.mk hlen7_
                        clear hlen7_
                        go_wp2
                        have hS7 : t.S ≤ wk.drew.heap.size := HS7.out.size
                        have HW1 := Aside0.mk (TB.Fr.refl t wk).drew
                        have HS8 := Aside0.mk HS7.out.drew
                        have hw1 : IntKind.i64.wrap ((i : Int) - 1) = (i : Int) - 1 := IntWalk.i64_in _ (by omega)
                        have hw2 : IntKind.i64.wrap ((k : Int) - 1) = (k : Int) - 1 := IntWalk.i64_in _ (by omega)
                        have hw3 : IntKind.i64.wrap ((i : Int) + (k : Int) - 1) = (i : Int) + (k : Int) - 1 := IntWalk.i64_in _ (by omega)
                        have d1 : wk.drew.cell? ⟨t.bcl, 0, none⟩ = some (.func (.func 33) #[] #[.pointer (some ⟨t.bc, 0, none⟩)]) := hcl
                        have d2 : wk.drew.cell? ⟨t.bnot, 0, none⟩ = some (.func (.func 34) #[] #[]) := hnt
                        go_region_held3 (fun W => W.cell? ⟨t.bcl, 0, none⟩ = some (.func (.func 33) #[] #[.pointer (some ⟨t.bc, 0, none⟩)]) ∧ W.cell? ⟨t.bnot, 0, none⟩ = some (.func (.func 34) #[] #[])) (first | exact ⟨d1, d2⟩ | exact ⟨pw_cell_below (below_alloc (Below.refl _ _) _) (by assumption), pw_cell_below (below_alloc (Below.refl _ _) _) (by assumption)⟩ | exact ⟨(by assumption), (by assumption)⟩) (first | (go_at_call_of 36 (Value.slice A3 ca.length c3); refine (HT1.out _).mono ?_; rintro e w' ⟨A5, c5, rfl, rfl, hc5, hC5⟩; have HP1 := Aside0.mk (show t.SC wk A5 p1 from fun W hW => hC5 W (HA7.out W hW)); clear hc5 hC5) | (go_at_call_of 36 (Value.slice A4 cb.length c4); refine (HT2.out _).mono ?_; rintro e w' ⟨A6, c6, rfl, rfl, hc6, hC6⟩; have HP2 := Aside0.mk (show t.SC wk A6 p2 from fun W hW => hC6 W (HB7.out W hW)); clear hc6 hC6) | (go_at_call_of 36 (Value.slice (some ⟨g, 0, none⟩) M cap); refine (HT3.out _).mono ?_; rintro e w' ⟨A11, c11, rfl, rfl, hc11, hC11⟩; have HP3 := Aside0.mk (show t.SC w10 A11 p3 from fun W hW => hC11 W (by have h_ := (HO7.out.next HW10.out) W hW; rw [HOL.out] at h_; exact h_)); have HQ3 := Aside0.mk hc11; clear hc11 hC11) | (go_at_call_of 34 (Value.slice A5 p1.length c5); refine (HU1.out _ _ _ (HP1.out _ HW1.out)).mono ?_; rintro e w8 ⟨v8, rfl, hR8, hB8⟩; have HS9 := Aside0.mk (HS8.out.below hB8); have HW8 := Aside0.mk (HW1.out.trans (.of_below hB8)); obtain ⟨A8, c8, e8, hc8, hs8⟩ := TB.SC.made (Kd.R_lower hR8 hS7) ⟨HS9.out.lt.2.1, HS9.out.lt.2.2.1, HS9.out.lt.2.2.2.2.2.1⟩; rw [e8]; have HQ1 := Aside0.mk hc8; have HR1 := Aside0.mk hs8; have d3 := blk_cell HS9.out.cl 0; have d4 := blk_cell HS9.out.nt 0; have hS8 := HS9.out.size; clear e8 hc8 hs8 hR8 hB8) | (go_at_call_of 34 (Value.slice A6 p2.length c6); refine (HU2.out _ _ _ (HP2.out _ HW8.out)).mono ?_; rintro e w10 ⟨v10, rfl, hR10, hB10⟩; have HS10 := Aside0.mk (HS9.out.below hB10); have HW10 := Aside0.mk (HW8.out.trans (.of_below hB10)); obtain ⟨A10, c10, e10, hc10, hs10⟩ := TB.SC.made (Kd.R_lower hR10 hS8) ⟨HS9.out.lt.2.1, HS9.out.lt.2.2.1, HS9.out.lt.2.2.2.2.2.1⟩; rw [e10]; have HQ2 := Aside0.mk hc10; have HR2 := Aside0.mk hs10; have HR1b := Aside0.mk (HR1.out.next (.of_below hB10)); have d5 := blk_cell HS10.out.cl 0; have d6 := blk_cell HS10.out.nt 0; clear e10 hc10 hs10 hR10 hB10) | (go_at_call 33; refine (clause3_calls t q1 q2 p3 A8 A10 A11 c8 c10 c11 most (nx + M) false v7 _ w10 HS10.out HQ1.out HQ2.out HQ3.out HR1b.out HR2.out HP3.out HL1.out.1 HL1.out.2.1 HL1.out.2.2 hlen7.out).mono ?_; rintro e w12 ⟨rfl, v12, hst12, hfr12⟩; rw [HUP.out] at hst12; have HS12 := Aside0.mk hst12; have HW12 := Aside0.mk (HW10.out.trans hfr12); have d7 := blk_cell HS12.out.cl 0; have d8 := blk_cell HS12.out.nt 0; clear hst12 hfr12))
                        clear hw1 hw2 hw3 d1 d2 d3 d4 d5 d6 hcl hnt
                        go_wp2
                        go_roundg (gk - 1)
                        case measure => have := HN7.out; omega
                        case rel =>
                          have h_ := HS12.out
                          have e_ : rowTo ca cb o M i (k + 1) = rowTo ca cb o M i k ++ ([upC ca cb o i k]) := by
                            rw [rowTo_succ]
                            unfold pairC
                            rw [if_pos ⟨t0, t2⟩, if_neg t1, List.append_nil]
                          exact ⟨k + 1, v12, by omega, by go_num, ⟨by have := HN7.out; omega⟩, ⟨by rw [e_]; simpa only [List.append_assoc, List.append_nil, List.cons_append, List.nil_append] using h_⟩, ⟨HF7.out.trans HW12.out⟩⟩
                      · have HW7 := Aside0.mk (TB.Fr.refl t wk)
                        go_wp2
                        go_roundg (gk - 1)
                        case measure => have := HN7.out; omega
                        case rel =>
                          have h_ := HS7.out
                          have e_ : rowTo ca cb o M i (k + 1) = rowTo ca cb o M i k ++ ([]) := by
                            rw [rowTo_succ]
                            unfold pairC
                            rw [if_neg (fun h => t2 h.2), if_neg t1, List.append_nil]
                          exact ⟨k + 1, v7, by omega, by go_num, ⟨by have := HN7.out; omega⟩, ⟨by rw [e_]; simpa only [List.append_assoc, List.append_nil, List.cons_append, List.nil_append] using h_⟩, ⟨HF7.out.trans HW7.out⟩⟩
                  · have t1 : i + k < M := by omega
                    obtain ⟨p4, hp4⟩ : ∃ p4, atL ca (i : Int) = p4 := ⟨_, rfl⟩
                    obtain ⟨p5, hp5⟩ : ∃ p5, atL cb (k : Int) = p5 := ⟨_, rfl⟩
                    obtain ⟨p6, hp6⟩ : ∃ p6, atL o ((i : Int) + k) = p6 := ⟨_, rfl⟩
                    obtain ⟨q6, hq6⟩ : ∃ q6, notL p6 = q6 := ⟨_, rfl⟩
                    have HT4 := Aside0.mk (fun W => at_calls A3 c3 ca (i : Int) W HC3.out (by omega))
                    have HT5 := Aside0.mk (fun W => at_calls A4 c4 cb (k : Int) W HC4.out (by omega))
                    have HT6 := Aside0.mk (fun W => at_calls (some ⟨g, 0, none⟩) cap o ((i : Int) + k) W (by rw [HOL.out]; exact HCO.out) (by omega))
                    have HU6 := Aside0.mk (fun A c W => not_calls A c p6 W)
                    have HL4 := Aside0.mk (show p4.length ≤ 1 ∧ p5.length ≤ 1 ∧ q6.length ≤ 1 from ⟨by rw [← hp4]; exact atL_len _ _, by rw [← hp5]; exact atL_len _ _, by rw [← hq6]; exact notL_len _⟩)
                    have HDN := Aside0.mk (show p4 ++ p5 ++ q6 = downC ca cb o i k from by rw [← hq6, ← hp4, ← hp5, ← hp6]; rfl)
                    rw [hp4] at HT4
                    rw [hp5] at HT5
                    rw [hp6, HOL.out] at HT6
                    rw [hq6] at HU6
                    clear hp4 hp5 hp6 hq6
                    have hlen7_ : (cs0 ++ mergeTo ca cb o M i ++ rowTo ca cb o M i k).length < 4000000000000 := by
                      have e1 := mergeTo_len ca cb o M i
                      have e2 := rowTo_len ca cb o M i k
                      have e3 : 2 * (cb.length + 1) * i ≤ 2 * 41 * 41 := Nat.mul_le_mul (by omega) (by omega)
                      simp only [List.length_append, List.length_cons, List.length_nil]
                      omega
                    have hlen7 := Aside0.mk hlen7_
                    clear hlen7_
                    have HW7 := Aside0.mk (TB.Fr.refl t wk)
                    go_wp2
                    have hS13 : t.S ≤ wk.drew.heap.size := HS7.out.size
                    have HW13 := Aside0.mk HW7.out.drew
                    have HS13 := Aside0.mk HS7.out.drew
                    have d1 : wk.drew.cell? ⟨t.bcl, 0, none⟩ = some (.func (.func 33) #[] #[.pointer (some ⟨t.bc, 0, none⟩)]) := hcl
                    have d2 : wk.drew.cell? ⟨t.bnot, 0, none⟩ = some (.func (.func 34) #[] #[]) := hnt
                    go_region_held3 (fun W => W.cell? ⟨t.bcl, 0, none⟩ = some (.func (.func 33) #[] #[.pointer (some ⟨t.bc, 0, none⟩)]) ∧ W.cell? ⟨t.bnot, 0, none⟩ = some (.func (.func 34) #[] #[])) (first | exact ⟨d1, d2⟩ | exact ⟨pw_cell_below (below_alloc (Below.refl _ _) _) (by assumption), pw_cell_below (below_alloc (Below.refl _ _) _) (by assumption)⟩ | exact ⟨(by assumption), (by assumption)⟩) (first | (go_at_call_of 36 (Value.slice A3 ca.length c3); refine (HT4.out _).mono ?_; rintro e w' ⟨A14, c14, rfl, rfl, hc14, hC14⟩; have HP4 := Aside0.mk (show t.SC wk.drew A14 p4 from fun W hW => hC14 W ((HA7.out.next HW13.out) W hW)); have HQ4 := Aside0.mk hc14; clear hc14 hC14) | (go_at_call_of 36 (Value.slice A4 cb.length c4); refine (HT5.out _).mono ?_; rintro e w' ⟨A15, c15, rfl, rfl, hc15, hC15⟩; have HP5 := Aside0.mk (show t.SC wk.drew A15 p5 from fun W hW => hC15 W ((HB7.out.next HW13.out) W hW)); have HQ5 := Aside0.mk hc15; clear hc15 hC15) | (go_at_call_of 36 (Value.slice (some ⟨g, 0, none⟩) M cap); refine (HT6.out _).mono ?_; rintro e w' ⟨A16, c16, rfl, rfl, hc16, hC16⟩; have HP6 := Aside0.mk (show t.SC wk.drew A16 p6 from fun W hW => hC16 W (by have h_ := (HO7.out.next HW13.out) W hW; rw [HOL.out] at h_; exact h_)); clear hc16 hC16) | (go_at_call_of 34 (Value.slice A16 p6.length c16); refine (HU6.out _ _ _ HP6.out.now).mono ?_; rintro e w17 ⟨v17, rfl, hR17, hB17⟩; have HS17 := Aside0.mk (HS13.out.below hB17); have HW17 := Aside0.mk (HW13.out.trans (.of_below hB17)); obtain ⟨A17, c17, e17, hc17, hs17⟩ := TB.SC.made (Kd.R_lower hR17 hS13) ⟨HS17.out.lt.2.1, HS17.out.lt.2.2.1, HS17.out.lt.2.2.2.2.2.1⟩; rw [e17]; have HQ6 := Aside0.mk hc17; have HR6 := Aside0.mk hs17; have HP4b := Aside0.mk (HP4.out.next (.of_below hB17)); have HP5b := Aside0.mk (HP5.out.next (.of_below hB17)); have d3 := blk_cell HS17.out.cl 0; have d4 := blk_cell HS17.out.nt 0; clear e17 hc17 hs17 hR17 hB17) | (go_at_call 33; refine (clause3_calls t p4 p5 q6 A14 A15 A17 c14 c15 c17 most (nx + M) false v7 _ w17 HS17.out HQ4.out HQ5.out HQ6.out HP4b.out HP5b.out HR6.out HL4.out.1 HL4.out.2.1 HL4.out.2.2 hlen7.out).mono ?_; rintro e w18 ⟨rfl, v18, hst18, hfr18⟩; rw [HDN.out] at hst18; have HS18 := Aside0.mk hst18; have HW18 := Aside0.mk (HW17.out.trans hfr18); have d9 := blk_cell HS18.out.cl 0; have d10 := blk_cell HS18.out.nt 0; clear hst18 hfr18))
                    go_wp2
                    go_roundg (gk - 1)
                    case measure => have := HN7.out; omega
                    case rel =>
                      have h_ := HS18.out
                      have e_ : rowTo ca cb o M i (k + 1) = rowTo ca cb o M i k ++ ([downC ca cb o i k]) := by
                        rw [rowTo_succ]
                        unfold pairC
                        rw [if_neg (fun h => t0 h.1), if_pos t1, List.nil_append]
                      exact ⟨k + 1, v18, by omega, by go_num, ⟨by have := HN7.out; omega⟩, ⟨by rw [e_]; simpa only [List.append_assoc, List.append_nil, List.cons_append, List.nil_append] using h_⟩, ⟨HF7.out.trans HW18.out⟩⟩
                · go_wp2
                  go_roundg (g6 - 1)
                  case measure => have := HN6.out; omega
                  case rel =>
                    have hkk : k = cb.length + 1 := by omega
                    have h7 := HS7.out
                    rw [hkk, List.append_assoc, ← mergeTo_succ] at h7
                    exact ⟨i + 1, v7, by omega, by go_num, ⟨by have := HN6.out; omega⟩, ⟨h7⟩, HF7⟩
            · go_wp2
              have hii : i = ca.length + 1 := by omega
              have h6 := HS6.out
              rw [hii] at h6
              go_ret
              rw [HRR.out]
              exact ⟨some ⟨g, 0, none⟩, cap, v6, by rw [HOL.out]; rfl, by rw [HOL.out]; exact HCO.out, HSCo.out.next HF6.out, h6, HFo.out.trans HF6.out⟩

theorem count_calls (t : TB) (most : Int) (hm1 : 1 ≤ most) (hm2 : most ≤ 1099511627776) : ∀ f, CountSaid t most f := by
  intro f
  induction f with
  | zero => intro A c0 l s v w h1 h2; omega
  | succ f ih =>
    intro A c0 l s v w h1 h2 h3 h4 h5 h6 h7 h8 h9
    by_cases hs : l.length = 1 ∨ s.full = true
    · exact count_stop t most f A c0 l s v w h4 h8 h9 hs
    · have e1 : l.length ≠ 1 := fun e => hs (.inl e)
      have e2 : s.full = false := by
        cases hf : s.full
        · rfl
        · exact absurd (.inr hf) hs
      exact count_step t most hm1 hm2 f ih A c0 l s v w (by omega) h2 h3 h4 h5 h6 h7 e2 h8 h9

#print axioms count_calls

end Go.Proofs.Ytpadmbpopjmdjaa.G

namespace Go.Proofs.Ytpadmbpopjmdjaa.G
set_option linter.unusedVariables false
set_option linter.unusedSimpArgs false
open Go.RowKit Go.Proofs.YtpadmbpopjmdjaaW.PrintWords Go.Proofs.YtpadmbpopjmdjaaW.PrintLast Go.Proofs.YtpadmbpopjmdjaaW.PrintMore
attribute [local go_sem] max2_int min2_int max_two min_two max_three min_three max_four min_four

def TotalPost (r : List Int × List (List Int) × Int × Int) (w : World) (e : Ending) (w' : World) : Prop :=
  ∃ v0_ v1_ : Value, e = .returned (.tuple #[v0_, v1_, .int .i64 r.2.2.1, .int .i64 r.2.2.2]) ∧ Kd.R (Kd.int .i64) 3 w' w.heap.size (fun k_ => (w.heap.size ≤ k_)) v0_ r.1 ∧
    Kd.N (Kd.slice 3 (Kd.int .i64)) 22 w' w.heap.size (fun k_ => (w.heap.size ≤ k_) ∧ some k_ ≠ (v0_ : Value).ownBlock) v1_ r.2.1 ∧ Below w.heap.size w w'

theorem totalPost_nil (w w' : World) (a b : Int) (h : Below w.heap.size w w') : TotalPost ([], [], a, b) w (.returned (.tuple #[.slice none 0 0, .slice none 0 0, .int .i64 a, .int .i64 b])) w' :=
  ⟨_, _, rfl, Kd.R_nil _ _ _ _ _, Kd.N_nil _ _ _ _ _, h⟩

theorem below3 (w : World) (a b c : Obj) : Below w.heap.size w (((w.alloc a).alloc b).alloc c) :=
  below_alloc (below_alloc (below_alloc (Below.refl _ _) a) b) c

set_option maxHeartbeats 800000 in
theorem total_arg (A : Option Addr) (c0 : Nat) (l : List Int) (most next : Int) (w : World) (hl : l.length ≤ 40) (h : next < 1 ∨ 65537 < next ∨ most < 0 ∨ 1099511627776 < most) :
    Calls Try.prog 18 #[.slice A l.length c0, .int .i64 most, .int .i64 next] w (TotalPost ([], [], 0, 1) w) := by
  by_cases h1 : next < 1
  · go_enter Try.func18, Try.ntmps18
    go_wp2
    refine bodyPost_ret (v := .tuple #[.slice none 0 0, .slice none 0 0, .int .i64 0, .int .i64 1]) (by simp [results, Try.results18, go_sem]) rfl (totalPost_nil _ _ _ _ (below3 w _ _ _))
  by_cases h2 : 65537 < next
  · go_enter Try.func18, Try.ntmps18
    go_wp2
    refine bodyPost_ret (v := .tuple #[.slice none 0 0, .slice none 0 0, .int .i64 0, .int .i64 1]) (by simp [results, Try.results18, go_sem]) rfl (totalPost_nil _ _ _ _ (below3 w _ _ _))
  by_cases h3 : most < 0
  · go_enter Try.func18, Try.ntmps18
    go_wp2
    refine bodyPost_ret (v := .tuple #[.slice none 0 0, .slice none 0 0, .int .i64 0, .int .i64 1]) (by simp [results, Try.results18, go_sem]) rfl (totalPost_nil _ _ _ _ (below3 w _ _ _))
  have h4 : 1099511627776 < most := by omega
  clear h
  go_enter Try.func18, Try.ntmps18
  go_wp2
  refine bodyPost_ret (v := .tuple #[.slice none 0 0, .slice none 0 0, .int .i64 0, .int .i64 1]) (by simp [results, Try.results18, go_sem]) rfl (totalPost_nil _ _ _ _ (below3 w _ _ _))

theorem blocks3 (w : World) (a b c : Obj) {w1 : World} (h : Below (((w.alloc a).alloc b).alloc c).heap.size (((w.alloc a).alloc b).alloc c) w1) :
    w1.heap[w.heap.size]? = some a ∧ w1.heap[w.heap.size + 1]? = some b ∧ w1.heap[w.heap.size + 1 + 1]? = some c := by
  have e1 : (w.alloc a).heap.size = w.heap.size + 1 := by simp
  have e2 : ((w.alloc a).alloc b).heap.size = w.heap.size + 1 + 1 := by simp
  refine ⟨blk_below (blk_alloc (blk_alloc (blk_new w a) b) c) h, ?_, ?_⟩
  · rw [← e1]; exact blk_below (blk_alloc (blk_new (w.alloc a) b) c) h
  · rw [← e2]; exact blk_below (blk_new ((w.alloc a).alloc b) c) h

set_option maxHeartbeats 800000 in
theorem total_lit (A : Option Addr) (c0 : Nat) (l : List Int) (most next : Int) (w : World) (hl : l.length ≤ 40) (hc : l.length ≤ c0) (hr : (Kd.int .i64).C w A l.length l) (hw : ∀ x ∈ l, (Lit.int .i64 x).wf = true)
    (h1 : 1 ≤ next) (h2 : next ≤ 65537) (h3 : 0 ≤ most) (h4 : most ≤ 1099511627776) (h : apartB l next = false) :
    Calls Try.prog 18 #[.slice A l.length c0, .int .i64 most, .int .i64 next] w (TotalPost ([], [], 0, 140) w) := by
  have HC := Aside0.mk (fun W (hb : Below w.heap.size w W) => apart_calls A c0 l next W (Kd.C_below hr hb) hc (by omega) hw)
  go_enter Try.func18, Try.ntmps18
  go_wp2_with (first | (go_at_call 32; refine (HC.out _ (below3 w _ _ _)).mono ?_; rintro e w1 ⟨rfl, hb1⟩; have HB1 := Aside0.mk ((below3 w _ _ _).trans (hb1.mono (below3 w _ _ _).size)); have hbl := (blocks3 w _ _ _ hb1); have hcc := blk_cell hbl.2.2 0; have hcf := blk_frozen hbl.2.2 0; have hcs := blk_cell (blk_set hbl.2.2 0 (.slice none 0 0)) 0; clear hbl; rw [h]; clear hb1))
  exact bodyPost_ret (v := .tuple #[.slice none 0 0, .slice none 0 0, .int .i64 0, .int .i64 140]) (by simp [results, Try.results18, go_sem, hcs]) rfl (totalPost_nil _ _ _ _ (HB1.out.setCell (by show w.heap.size ≤ w.heap.size + 1 + 1; omega) _))

theorem box_new (w : World) (o : Value) (t : TypeId) : (w.alloc (.cells #[o] t)).cell? ⟨w.heap.size, 0, none⟩ = some o ∧ (w.alloc (.cells #[o] t)).frozen? ⟨w.heap.size, 0, none⟩ = false :=
  ⟨blk_cell (blk_new w _) 0, blk_frozen (blk_new w _) 0⟩

/-- The variables as they are laid. -/
abbrev tb0 (w w1 : World) : TB := ⟨w.heap.size, w1.heap.size + 1 + 1 + 1 + 1, w.heap.size, w.heap.size + 1, w.heap.size + 1 + 1, w1.heap.size, w1.heap.size + 1, w1.heap.size + 1 + 1, w1.heap.size + 1 + 1 + 1⟩

theorem blocks4 (w : World) (a b c d : Obj) :
    ((((w.alloc a).alloc b).alloc c).alloc d).heap[w.heap.size]? = some a ∧ ((((w.alloc a).alloc b).alloc c).alloc d).heap[w.heap.size + 1]? = some b ∧ ((((w.alloc a).alloc b).alloc c).alloc d).heap[w.heap.size + 1 + 1]? = some c ∧ ((((w.alloc a).alloc b).alloc c).alloc d).heap[w.heap.size + 1 + 1 + 1]? = some d := by
  have e1 : (w.alloc a).heap.size = w.heap.size + 1 := by simp
  have e2 : ((w.alloc a).alloc b).heap.size = w.heap.size + 1 + 1 := by simp
  have e3 : (((w.alloc a).alloc b).alloc c).heap.size = w.heap.size + 1 + 1 + 1 := by simp
  refine ⟨blk_alloc (blk_alloc (blk_alloc (blk_new w a) b) c) d, ?_, ?_, ?_⟩
  · rw [← e1]; exact blk_alloc (blk_alloc (blk_new (w.alloc a) b) c) d
  · rw [← e2]; exact blk_alloc (blk_new ((w.alloc a).alloc b) c) d
  · rw [← e3]; exact blk_new (((w.alloc a).alloc b).alloc c) d

theorem below4 (w : World) (a b c d : Obj) : Below w.heap.size w ((((w.alloc a).alloc b).alloc c).alloc d) :=
  below_alloc (below_alloc (below_alloc (below_alloc (Below.refl _ _) a) b) c) d

/-- The world in which count is called. -/
abbrev laid (w w1 : World) : World :=
  (((w1.alloc (Obj.cells #[.func (.func 33) #[] #[.pointer (some ⟨w.heap.size + 1 + 1, 0, none⟩)]] 55)).alloc (Obj.cells #[.func (.func 34) #[] #[]] 53)).alloc (Obj.cells #[.bool false] 4)).alloc
    (Obj.cells #[.func (.func 35) #[] #[.pointer (some ⟨w1.heap.size + 1 + 1, 0, none⟩), .pointer (some ⟨w1.heap.size + 1 + 1 + 1, 0, none⟩), .pointer (some ⟨w.heap.size, 0, none⟩), .pointer (some ⟨w.heap.size + 1, 0, none⟩), .pointer (some ⟨w1.heap.size, 0, none⟩), .pointer (some ⟨w1.heap.size + 1, 0, none⟩)]] 53)

theorem st_start (w w1 : World) (most next : Int) (h : w1.heap[w.heap.size]? = some (.cells #[.int .i64 most] 3 (0, 0)) ∧ w1.heap[w.heap.size + 1]? = some (.cells #[.int .i64 next] 3 (0, 0)) ∧ w1.heap[w.heap.size + 1 + 1]? = some (.cells #[.slice none 0 0] 24 (0, 0))) :
    (tb0 w w1).St (laid w w1) most next false (.slice none 0 0) [] := by
  have hb := fun {a b c d : Obj} => below4 w1 a b c d
  have hl := blk_lt h.2.2
  obtain ⟨b1, b2, b3, b4⟩ := blocks4 w1 (Obj.cells #[.func (.func 33) #[] #[.pointer (some ⟨w.heap.size + 1 + 1, 0, none⟩)]] 55) (Obj.cells #[.func (.func 34) #[] #[]] 53) (Obj.cells #[.bool false] 4)
    (Obj.cells #[.func (.func 35) #[] #[.pointer (some ⟨w1.heap.size + 1 + 1, 0, none⟩), .pointer (some ⟨w1.heap.size + 1 + 1 + 1, 0, none⟩), .pointer (some ⟨w.heap.size, 0, none⟩), .pointer (some ⟨w.heap.size + 1, 0, none⟩), .pointer (some ⟨w1.heap.size, 0, none⟩), .pointer (some ⟨w1.heap.size + 1, 0, none⟩)]] 53)
  exact ⟨blk_below h.1 hb, blk_below h.2.1 hb, blk_below h.2.2 hb, b1, b2, b3, b4, Kd.R_nil _ _ _ _ _, by show w.heap.size ≠ w.heap.size + 1; omega,
    by show w.heap.size ≤ w.heap.size + 1 ∧ w.heap.size ≤ w.heap.size + 1 + 1 ∧ w.heap.size ≤ w1.heap.size + 1 + 1 ∧ w.heap.size ≤ w1.heap.size + 1 + 1 + 1 + 1; omega,
    by show w.heap.size < w1.heap.size + 1 + 1 + 1 + 1 ∧ w.heap.size + 1 < w1.heap.size + 1 + 1 + 1 + 1 ∧ w.heap.size + 1 + 1 < w1.heap.size + 1 + 1 + 1 + 1 ∧ w1.heap.size < w1.heap.size + 1 + 1 + 1 + 1 ∧ w1.heap.size + 1 < w1.heap.size + 1 + 1 + 1 + 1 ∧ w1.heap.size + 1 + 1 < w1.heap.size + 1 + 1 + 1 + 1 ∧ w1.heap.size + 1 + 1 + 1 < w1.heap.size + 1 + 1 + 1 + 1; omega,
    by simp [laid]⟩

theorem fr_below {w w1 w2 : World} (h : Below w.heap.size w w1) (hf : (tb0 w w1).Fr (laid w w1) w2) : Below w.heap.size w w2 :=
  (h.trans ((below4 w1 _ _ _ _).mono h.size)).trans ⟨hf.os, hf.tape, hf.output, hf.size, fun k hk => hf.block k (Nat.lt_of_lt_of_le hk (h.trans ((below4 w1 _ _ _ _).mono h.size)).size) (.inl hk)⟩

/-- What total.Total answers when its arguments are good and something is to be counted. -/
def mainS (l : List Int) (most next : Int) : List Int × List (List Int) × Int × Int :=
  let r := cnt most l.length ⟨next, false, []⟩ l
  if r.2.full = true then ([], [], 0, 2) else (r.1, r.2.cs, r.2.next, 0)

set_option maxRecDepth 100000 in
set_option maxHeartbeats 1600000 in
theorem total_main (A : Option Addr) (c0 : Nat) (l : List Int) (most next : Int) (w : World) (hl : l.length ≤ 40) (hc : l.length ≤ c0) (hr : (Kd.int .i64).C w A l.length l) (hw : ∀ x ∈ l, (Lit.int .i64 x).wf = true)
    (h1 : 1 ≤ next) (h2 : next ≤ 65537) (h3 : 1 ≤ most) (h4 : most ≤ 1099511627776) (h : apartB l next = true) (h0 : 1 ≤ l.length) :
    Calls Try.prog 18 #[.slice A l.length c0, .int .i64 most, .int .i64 next] w (TotalPost (mainS l most next) w) := by
  have HC := Aside0.mk (fun W (hb : Below w.heap.size w W) => apart_calls A c0 l next W (Kd.C_below hr hb) hc (by omega) hw)
  obtain ⟨r, hrr⟩ : ∃ r, cnt most l.length ⟨next, false, []⟩ l = r := ⟨_, rfl⟩
  have HM := Aside0.mk (show mainS l most next = if r.2.full = true then ([], [], 0, 2) else (r.1, r.2.cs, r.2.next, 0) from by rw [← hrr]; rfl)
  have HT := Aside0.mk (fun (w1 : World) (hb : Below w.heap.size w w1) (hbl : _) => count_calls (tb0 w w1) most h3 h4 l.length A c0 l ⟨next, false, []⟩ (.slice none 0 0) (laid w w1) h0 (Nat.le_refl _) hl hc h1 h2 (by simp; omega) (st_start w w1 most next hbl) (TB.SC.came hr rfl (hb.trans ((below4 w1 _ _ _ _).mono hb.size))))
  have HL := Aside0.mk (cnt_len (most := most) l.length ⟨next, false, []⟩ l)
  have h5b : ((l.length : Int) == 0) = false := by simpa using List.ne_nil_of_length_pos h0
  have h5c : (most == 0) = false := by simpa using fun e : most = 0 => by omega
  rw [hrr] at HT HL
  clear hc hr hw hrr
  obtain ⟨fu, hfu⟩ : ∃ fu, r.2.full = fu := ⟨_, rfl⟩
  cases fu with
  | true =>
    have hM := HM.out
    rw [if_pos hfu] at hM
    rw [hM]
    clear hM
    go_enter Try.func18, Try.ntmps18
    go_wp2_with (first | (go_at_call 32; refine (HC.out _ (below3 w _ _ _)).mono ?_; rintro e w1 ⟨rfl, hb1⟩; have HB1 := Aside0.mk ((below3 w _ _ _).trans (hb1.mono (below3 w _ _ _).size)); have HBL := Aside0.mk (blocks3 w _ _ _ hb1); have hcm := blk_cell HBL.out.1 0; rw [h]; clear hb1) | (go_at_call 35; refine (HT.out w1 HB1.out HBL.out).mono ?_; rintro e w2 ⟨A1, c1, v1, rfl, hc1, hsc1, hst1, hfr1⟩; rw [hfu] at hst1; have HC1 := Aside0.mk hc1; have HSC := Aside0.mk hsc1; have HS := Aside0.mk hst1; have HF := Aside0.mk hfr1; have hcf : w2.cell? ⟨w1.heap.size + 1 + 1, 0, none⟩ = some (.bool true) := blk_cell hst1.f 0; have hcc : w2.cell? ⟨w.heap.size + 1 + 1, 0, none⟩ = some v1 := blk_cell hst1.c 0; have hfc : w2.frozen? ⟨w.heap.size + 1 + 1, 0, none⟩ = false := blk_frozen hst1.c 0; have hcs : (w2.setCell ⟨w.heap.size + 1 + 1, 0, none⟩ (.slice none 0 0)).cell? ⟨w.heap.size + 1 + 1, 0, none⟩ = some (.slice none 0 0) := blk_cell (blk_set hst1.c 0 (.slice none 0 0)) 0; clear hc1 hsc1 hst1 hfr1))
    exact bodyPost_ret (v := .tuple #[.slice none 0 0, .slice none 0 0, .int .i64 0, .int .i64 2]) (by simp [results, Try.results18, go_sem, hcs]) rfl (totalPost_nil _ _ _ _ ((fr_below HB1.out HF.out).setCell (by show w.heap.size ≤ w.heap.size + 1 + 1; omega) _))
  | false =>
    have hM := HM.out
    rw [if_neg (by rw [hfu]; decide)] at hM
    rw [hM]
    clear hM
    have hr1 := HL.out
    go_enter Try.func18, Try.ntmps18
    go_wp2_with (first | (go_at_call 32; refine (HC.out _ (below3 w _ _ _)).mono ?_; rintro e w1 ⟨rfl, hb1⟩; have HB1 := Aside0.mk ((below3 w _ _ _).trans (hb1.mono (below3 w _ _ _).size)); have HBL := Aside0.mk (blocks3 w _ _ _ hb1); have hcm := blk_cell HBL.out.1 0; rw [h]; clear hb1) | (go_at_call 35; refine (HT.out w1 HB1.out HBL.out).mono ?_; rintro e w2 ⟨A1, c1, v1, rfl, hc1, hsc1, hst1, hfr1⟩; rw [hfu] at hst1; have HC1 := Aside0.mk hc1; have HSC := Aside0.mk hsc1; have HS := Aside0.mk hst1; have HF := Aside0.mk hfr1; have hcf : w2.cell? ⟨w1.heap.size + 1 + 1, 0, none⟩ = some (.bool false) := blk_cell hst1.f 0; have hcc : w2.cell? ⟨w.heap.size + 1 + 1, 0, none⟩ = some v1 := blk_cell hst1.c 0; have hcn : w2.cell? ⟨w.heap.size + 1, 0, none⟩ = some (.int .i64 r.2.next) := blk_cell hst1.n 0; have hfc : w2.frozen? ⟨w.heap.size + 1 + 1, 0, none⟩ = false := blk_frozen hst1.c 0; have hcs : (w2.setCell ⟨w.heap.size + 1 + 1, 0, none⟩ v1).cell? ⟨w.heap.size + 1 + 1, 0, none⟩ = some v1 := blk_cell (blk_set hst1.c 0 v1) 0; clear hc1 hsc1 hst1 hfr1))
    obtain ⟨Av, cv, ev⟩ := Kd.R_slice HS.out.rows
    subst ev
    have d1 : w2.drew.cell? ⟨w.heap.size + 1 + 1, 0, none⟩ = some (.slice Av r.2.cs.length cv) := hcc
    have d2 : w2.drew.cell? ⟨w.heap.size + 1, 0, none⟩ = some (.int .i64 r.2.next) := hcn
    have d3 : w2.drew.frozen? ⟨w.heap.size + 1 + 1, 0, none⟩ = false := hfc
    have HSD := Aside0.mk HS.out.drew
    have HRD := Aside0.mk (HSC.out _ (TB.Fr.refl _ w2).drew)
    have HBD := Aside0.mk (below_drew (fr_below HB1.out HF.out))
    have hszd := HSD.out.size
    clear hcc hcn hfc hcs hcf
    go_region_held3 (fun W => W.cell? ⟨w.heap.size + 1 + 1, 0, none⟩ = some (.slice Av r.2.cs.length cv) ∧ W.cell? ⟨w.heap.size + 1, 0, none⟩ = some (.int .i64 r.2.next) ∧ W.frozen? ⟨w.heap.size + 1 + 1, 0, none⟩ = false) (first | exact ⟨d1, d2, d3⟩ | exact ⟨e1, e2, e3⟩) (first | (refine Kd.R_append_rows_step (Kd.int .i64) (Rr := (Kd.int .i64).K w2.drew) (w0 := w2.drew) (w1.heap.size + 1 + 1 + 1 + 1) (by rfl) (.const (.slice none 0 0)) (.tmp 44) 22 3 (.int .i64 0) 8 rfl Try.underlying22 infoT3 rfl (by decide) (by decide) (.slice none 0 0) [] r.1 A1 r.1.length c1 (fun k => w1.heap.size + 1 + 1 + 1 + 1 ≤ k) (fun _ => False) rfl rfl (Kd.R_nil _ _ _ _ _) HRD.out (fun x cs h => h) (fun _ h => h.elim) (fun k hk => Nat.le_trans hszd hk) (Below.refl _ _) hszd (by simp; omega) ?_; intro v3 w3 ho hb hg hat; have HO3 := Aside0.mk ho; have HG3 := Aside0.mk ((Below.refl w2.drew.heap.size w2.drew).grown hg (Nat.le_refl _) (fun k hk => by cases hk)); have HA3 := Aside0.mk hat; have HS3 := Aside0.mk (HSD.out.below HG3.out); have d1 : w3.cell? ⟨w.heap.size + 1 + 1, 0, none⟩ = some (.slice Av r.2.cs.length cv) := blk_cell HS3.out.c 0; have d2 : w3.cell? ⟨w.heap.size + 1, 0, none⟩ = some (.int .i64 r.2.next) := blk_cell HS3.out.n 0; have d3 : w3.frozen? ⟨w.heap.size + 1 + 1, 0, none⟩ = false := blk_frozen HS3.out.c 0; have e1 : (w3.setCell ⟨w.heap.size + 1 + 1, 0, none⟩ (.slice Av r.2.cs.length cv)).cell? ⟨w.heap.size + 1 + 1, 0, none⟩ = some (.slice Av r.2.cs.length cv) := blk_cell (blk_set HS3.out.c 0 (.slice Av r.2.cs.length cv)) 0; have e2 : (w3.setCell ⟨w.heap.size + 1 + 1, 0, none⟩ (.slice Av r.2.cs.length cv)).cell? ⟨w.heap.size + 1, 0, none⟩ = some (.int .i64 r.2.next) := blk_cell (blk_far HS3.out.n (blk_ne HS3.out.n HS3.out.c (by decide)) (.slice Av r.2.cs.length cv)) 0; have e3 : (w3.setCell ⟨w.heap.size + 1 + 1, 0, none⟩ (.slice Av r.2.cs.length cv)).frozen? ⟨w.heap.size + 1 + 1, 0, none⟩ = false := blk_frozen (blk_set HS3.out.c 0 (.slice Av r.2.cs.length cv)) 0; clear ho hb hg hat))
    have HP := Aside0.mk (show TotalPost (r.1, r.2.cs, r.2.next, 0) w (.returned (.tuple #[v3, .slice Av r.2.cs.length cv, .int .i64 r.2.next, .int .i64 0])) (w3.setCell ⟨w.heap.size + 1 + 1, 0, none⟩ (.slice Av r.2.cs.length cv)) from by
      have hlt : w.heap.size + 1 + 1 < w1.heap.size + 1 + 1 + 1 + 1 := HS3.out.lt.2.2.1
      have hle : w.heap.size ≤ w1.heap.size + 1 + 1 + 1 + 1 := by omega
      have hfr : ∀ k, v3.ownBlock = some k → w2.drew.heap.size ≤ k := fun k hk => by
        rcases HA3.out with e | ⟨b, e, hb⟩
        · rw [hk] at e; cases e
        · rw [hk] at e; cases e; exact hb
      refine ⟨_, _, rfl, ?_, ?_, ?_⟩
      · have h := HO3.out
        rw [List.nil_append] at h
        exact Kd.R_mono (Kd.R_lower (Kd.R_far h (fun k hk => by show k ≠ w.heap.size + 1 + 1; omega) _) hle) (fun k hk => Nat.le_trans hle hk)
      · have h : KRows.R 22 w2.drew (w1.heap.size + 1 + 1 + 1 + 1) (fun k => w1.heap.size + 1 + 1 + 1 + 1 ≤ k) (.slice Av r.2.cs.length cv) r.2.cs := Kd.R_mono (Kd.R_bound HSD.out.rows) (fun k hk => hk.2.1)
        have h2 := Kd.R_N (Kd.R_elder' h hfr HG3.out)
        exact Kd.N_mono (Kd.N_lower (Kd.N_far h2 (fun k hk => by have := hk.1; show k ≠ w.heap.size + 1 + 1; omega) _) hle) (fun k hk => ⟨Nat.le_trans hle hk.1, hk.2⟩)
      · exact (HBD.out.trans (HG3.out.mono HBD.out.size)).setCell (by show w.heap.size ≤ w.heap.size + 1 + 1; omega) _)
    go_wp2
    exact bodyPost_ret (v := .tuple #[v3, .slice Av r.2.cs.length cv, .int .i64 r.2.next, .int .i64 0]) (by simp [results, Try.results18, go_sem, e1]) rfl HP.out

set_option maxHeartbeats 800000 in
theorem total_none (A : Option Addr) (c0 : Nat) (l : List Int) (most next : Int) (w : World) (hl : l.length ≤ 40) (hc : l.length ≤ c0) (hr : (Kd.int .i64).C w A l.length l) (hw : ∀ x ∈ l, (Lit.int .i64 x).wf = true)
    (h1 : 1 ≤ next) (h2 : next ≤ 65537) (h3 : 0 ≤ most) (h4 : most ≤ 1099511627776) (h : apartB l next = true) (h0 : l.length = 0 ∨ most = 0) :
    Calls Try.prog 18 #[.slice A l.length c0, .int .i64 most, .int .i64 next] w (TotalPost ([], [], next, 0) w) := by
  have HC := Aside0.mk (fun W (hb : Below w.heap.size w W) => apart_calls A c0 l next W (Kd.C_below hr hb) hc (by omega) hw)
  by_cases h5 : l.length = 0
  · have h5b : ((l.length : Int) == 0) = true := by simpa using h5
    have H5 := Aside0.mk h5
    clear h5 h0
    go_enter Try.func18, Try.ntmps18
    go_wp2_with (first | (go_at_call 32; refine (HC.out _ (below3 w _ _ _)).mono ?_; rintro e w1 ⟨rfl, hb1⟩; have HB1 := Aside0.mk ((below3 w _ _ _).trans (hb1.mono (below3 w _ _ _).size)); have HBL := Aside0.mk (blocks3 w _ _ _ hb1); have hcm := blk_cell HBL.out.1 0; rw [h]; clear hb1))
    have d1 : w1.drew.cell? ⟨w.heap.size + 1 + 1, 0, none⟩ = some (.slice none 0 0) := blk_cell HBL.out.2.2 0
    have d2 : w1.drew.cell? ⟨w.heap.size + 1, 0, none⟩ = some (.int .i64 next) := blk_cell HBL.out.2.1 0
    have d3 : w1.drew.frozen? ⟨w.heap.size + 1 + 1, 0, none⟩ = false := blk_frozen HBL.out.2.2 0
    have e0 := blk_set (show w1.drew.heap[w.heap.size + 1 + 1]? = _ from HBL.out.2.2) 0 (.slice none 0 0)
    have e1 : (w1.drew.setCell ⟨w.heap.size + 1 + 1, 0, none⟩ (.slice none 0 0)).cell? ⟨w.heap.size + 1 + 1, 0, none⟩ = some (.slice none 0 0) := blk_cell e0 0
    have e2 : (w1.drew.setCell ⟨w.heap.size + 1 + 1, 0, none⟩ (.slice none 0 0)).cell? ⟨w.heap.size + 1, 0, none⟩ = some (.int .i64 next) := blk_cell (blk_far (show w1.drew.heap[w.heap.size + 1]? = _ from HBL.out.2.1) (by show w.heap.size + 1 ≠ w.heap.size + 1 + 1; omega) (.slice none 0 0)) 0
    have e3 : (w1.drew.setCell ⟨w.heap.size + 1 + 1, 0, none⟩ (.slice none 0 0)).frozen? ⟨w.heap.size + 1 + 1, 0, none⟩ = false := blk_frozen e0 0
    have e4 : (w1.setCell ⟨w.heap.size + 1 + 1, 0, none⟩ (.slice none 0 0)).cell? ⟨w.heap.size + 1 + 1, 0, none⟩ = some (.slice none 0 0) := e1
    clear e0
    go_region_held3 (fun W => W.cell? ⟨w.heap.size + 1 + 1, 0, none⟩ = some (.slice none 0 0) ∧ W.cell? ⟨w.heap.size + 1, 0, none⟩ = some (.int .i64 next) ∧ W.frozen? ⟨w.heap.size + 1 + 1, 0, none⟩ = false) (first | exact ⟨d1, d2, d3⟩ | exact ⟨e1, e2, e3⟩) (fail)
    go_wp2
    exact bodyPost_ret (v := .tuple #[.slice none 0 0, .slice none 0 0, .int .i64 next, .int .i64 0]) (by simp [results, Try.results18, go_sem, e4]) rfl (totalPost_nil _ _ _ _ ((below_drew HB1.out).setCell (by show w.heap.size ≤ w.heap.size + 1 + 1; omega) _))
  · have h6 : (most == 0) = true := by simp; omega
    have h5b : ((l.length : Int) == 0) = false := by simpa using h5
    have H5 := Aside0.mk h0
    clear h5 h0
    go_enter Try.func18, Try.ntmps18
    go_wp2_with (first | (go_at_call 32; refine (HC.out _ (below3 w _ _ _)).mono ?_; rintro e w1 ⟨rfl, hb1⟩; have HB1 := Aside0.mk ((below3 w _ _ _).trans (hb1.mono (below3 w _ _ _).size)); have HBL := Aside0.mk (blocks3 w _ _ _ hb1); have hcm := blk_cell HBL.out.1 0; rw [h]; clear hb1))
    have d1 : w1.drew.cell? ⟨w.heap.size + 1 + 1, 0, none⟩ = some (.slice none 0 0) := blk_cell HBL.out.2.2 0
    have d2 : w1.drew.cell? ⟨w.heap.size + 1, 0, none⟩ = some (.int .i64 next) := blk_cell HBL.out.2.1 0
    have d3 : w1.drew.frozen? ⟨w.heap.size + 1 + 1, 0, none⟩ = false := blk_frozen HBL.out.2.2 0
    have e0 := blk_set (show w1.drew.heap[w.heap.size + 1 + 1]? = _ from HBL.out.2.2) 0 (.slice none 0 0)
    have e1 : (w1.drew.setCell ⟨w.heap.size + 1 + 1, 0, none⟩ (.slice none 0 0)).cell? ⟨w.heap.size + 1 + 1, 0, none⟩ = some (.slice none 0 0) := blk_cell e0 0
    have e2 : (w1.drew.setCell ⟨w.heap.size + 1 + 1, 0, none⟩ (.slice none 0 0)).cell? ⟨w.heap.size + 1, 0, none⟩ = some (.int .i64 next) := blk_cell (blk_far (show w1.drew.heap[w.heap.size + 1]? = _ from HBL.out.2.1) (by show w.heap.size + 1 ≠ w.heap.size + 1 + 1; omega) (.slice none 0 0)) 0
    have e3 : (w1.drew.setCell ⟨w.heap.size + 1 + 1, 0, none⟩ (.slice none 0 0)).frozen? ⟨w.heap.size + 1 + 1, 0, none⟩ = false := blk_frozen e0 0
    have e4 : (w1.setCell ⟨w.heap.size + 1 + 1, 0, none⟩ (.slice none 0 0)).cell? ⟨w.heap.size + 1 + 1, 0, none⟩ = some (.slice none 0 0) := e1
    clear e0
    go_region_held3 (fun W => W.cell? ⟨w.heap.size + 1 + 1, 0, none⟩ = some (.slice none 0 0) ∧ W.cell? ⟨w.heap.size + 1, 0, none⟩ = some (.int .i64 next) ∧ W.frozen? ⟨w.heap.size + 1 + 1, 0, none⟩ = false) (first | exact ⟨d1, d2, d3⟩ | exact ⟨e1, e2, e3⟩) (fail)
    go_wp2
    exact bodyPost_ret (v := .tuple #[.slice none 0 0, .slice none 0 0, .int .i64 next, .int .i64 0]) (by simp [results, Try.results18, go_sem, e4]) rfl (totalPost_nil _ _ _ _ ((below_drew HB1.out).setCell (by show w.heap.size ≤ w.heap.size + 1 + 1; omega) _))

/-- What total.Total answers to literals in Go's range, no more than 40. -/
def totalOf (l : List Int) (most next : Int) : List Int × List (List Int) × Int × Int :=
  if next < 1 ∨ 65537 < next ∨ most < 0 ∨ 1099511627776 < most then ([], [], 0, 1)
  else if apartB l next = false then ([], [], 0, 140)
  else if l.length = 0 ∨ most = 0 then ([], [], next, 0)
  else mainS l most next

theorem total_calls (A : Option Addr) (c0 : Nat) (l : List Int) (most next : Int) (w : World) (hl : l.length ≤ 40) (hc : l.length ≤ c0) (hr : (Kd.int .i64).C w A l.length l) (hw : ∀ x ∈ l, (Lit.int .i64 x).wf = true) :
    Calls Try.prog 18 #[.slice A l.length c0, .int .i64 most, .int .i64 next] w (TotalPost (totalOf l most next) w) := by
  unfold totalOf
  by_cases h1 : next < 1 ∨ 65537 < next ∨ most < 0 ∨ 1099511627776 < most
  · rw [if_pos h1]; exact total_arg A c0 l most next w hl h1
  rw [if_neg h1]
  by_cases h2 : apartB l next = false
  · rw [if_pos h2]; exact total_lit A c0 l most next w hl hc hr hw (by omega) (by omega) (by omega) (by omega) h2
  rw [if_neg h2]
  have h2' : apartB l next = true := by simpa using h2
  by_cases h3 : l.length = 0 ∨ most = 0
  · rw [if_pos h3]; exact total_none A c0 l most next w hl hc hr hw (by omega) (by omega) (by omega) (by omega) h2' h3
  rw [if_neg h3]
  exact total_main A c0 l most next w hl hc hr hw (by omega) (by omega) (by omega) (by omega) h2' (by omega)

#print axioms total_calls

end Go.Proofs.Ytpadmbpopjmdjaa.G

namespace Go.Proofs.Ytpadmbpopjmdjaa.G
open Go.RowKit Go.Proofs.YtpadmbpopjmdjaaW.PrintWords Go.Proofs.YtpadmbpopjmdjaaW.PrintLast Go.Proofs.YtpadmbpopjmdjaaW.PrintMore

theorem rd_nat (l : List Int) (i : Nat) : rd l (i : Int) = l.getD i 0 := by simp [rd]
theorem rdOf_set {xs : List Bool} {v z : Int} (hv : 0 ≤ v) (hl : v.toNat < xs.length) (hz : 0 ≤ z) : rdOf false (xs.set v.toNat true) z = if z = v then true else rdOf false xs z := by
  simp only [rdOf, List.getD_eq_getElem?_getD, List.getElem?_set]
  by_cases h : z = v
  · subst h
    simp [hl]
  · rw [if_neg (show v.toNat ≠ z.toNat from by omega), if_neg h]

/-- The new variables of n literals. -/
def Vf (most : Int) : Nat → Nat → Int
  | 0, _ => 0
  | f + 1, n => if n = 1 then 0 else Vf most f (n / 2) + Vf most f (n - n / 2) + manyOf n most

theorem Vf_bound {most : Int} (hm : 1 ≤ most) : ∀ f n, 1 ≤ n → n ≤ f → n ≤ 40 → 0 ≤ Vf most f n ∧ Vf most f n ≤ 40 * (n - 1) := by
  intro f
  induction f with
  | zero => intro n h1 h2; omega
  | succ f ih =>
    intro n h1 h2 h3
    rw [Vf]
    split
    · omega
    · have i1 := ih (n / 2) (by omega) (by omega) (by omega)
      have i2 := ih (n - n / 2) (by omega) (by omega) (by omega)
      have := manyOf_le n most
      have := manyOf_ge (most := most) hm h1
      omega

theorem cnt_full' {most : Int} {f : Nat} {s : TS} {l : List Int} (h : s.full = true) : (cnt most f s l).2.full = true := by
  cases f with
  | zero => exact h
  | succ f => rw [cnt_stop (.inr h)]; exact h

/-- Is count full in the end? -/
theorem cnt_vars {most : Int} (hm : 1 ≤ most) : ∀ f (s : TS) (l : List Int), 1 ≤ l.length → l.length ≤ f → l.length ≤ 40 → s.full = false → s.next ≤ 65537 →
    (s.next + Vf most f l.length ≤ 65537 → (cnt most f s l).2.full = false ∧ (cnt most f s l).2.next = s.next + Vf most f l.length) ∧ (65537 < s.next + Vf most f l.length → (cnt most f s l).2.full = true) := by
  intro f
  induction f with
  | zero => intro s l h1 h2; omega
  | succ f ih =>
    intro s l h1 h2 h3 hs hn
    by_cases h : l.length = 1
    · rw [cnt_stop (.inl h), Vf, if_pos h]
      exact ⟨fun _ => ⟨hs, by simp⟩, fun h => by omega⟩
    have hno : ¬ (l.length = 1 ∨ s.full = true) := by
      rintro (e | e)
      · exact h e
      · rw [hs] at e
        cases e
    rw [cnt_next_step hno rfl rfl, Vf, if_neg h]
    have t1 : (l.take (l.length / 2)).length = l.length / 2 := by rw [List.length_take]; omega
    have t2 : (l.drop (l.length / 2)).length = l.length - l.length / 2 := List.length_drop
    have i1 := ih s (l.take (l.length / 2)) (by omega) (by omega) (by omega) hs hn
    rw [t1] at i1
    have b1 := Vf_bound hm f (l.length / 2) (by omega) (by omega) (by omega)
    have b2 := Vf_bound hm f (l.length - l.length / 2) (by omega) (by omega) (by omega)
    have b4 := manyOf_ge (most := most) hm h1
    obtain ⟨r1, hr1⟩ : ∃ r1, cnt most f s (l.take (l.length / 2)) = r1 := ⟨_, rfl⟩
    rw [hr1] at i1 ⊢
    by_cases c1 : s.next + Vf most f (l.length / 2) ≤ 65537
    · obtain ⟨f1, n1⟩ := i1.1 c1
      have i2 := ih r1.2 (l.drop (l.length / 2)) (by omega) (by omega) (by omega) f1 (by omega)
      rw [t2] at i2
      obtain ⟨r2, hr2⟩ : ∃ r2, cnt most f r1.2 (l.drop (l.length / 2)) = r2 := ⟨_, rfl⟩
      rw [hr2] at i2 ⊢
      by_cases c2 : r1.2.next + Vf most f (l.length - l.length / 2) ≤ 65537
      · obtain ⟨f2, n2⟩ := i2.1 c2
        constructor
        · intro hle
          rw [if_neg (by rw [f2]; rintro (e | e); cases e; omega)]
          exact ⟨rfl, by show r2.2.next + _ = _; omega⟩
        · intro hlt
          rw [if_pos (.inr (by omega))]
      · have f2 := i2.2 (by omega)
        rw [if_pos (.inl f2)]
        exact ⟨fun hle => by omega, fun _ => rfl⟩
    · have f1 := i1.2 (by omega)
      rw [if_pos (.inl (cnt_full' f1))]
      exact ⟨fun hle => by omega, fun _ => rfl⟩

#print axioms cnt_vars

end Go.Proofs.Ytpadmbpopjmdjaa.G

namespace Go.Proofs.Ytpadmbpopjmdjaa.G
open Go.RowKit Go.Proofs.YtpadmbpopjmdjaaW.PrintWords Go.Proofs.YtpadmbpopjmdjaaW.PrintLast Go.Proofs.YtpadmbpopjmdjaaW.PrintMore

/-- A literal, its variable shifted by d if it is n or more. -/
def mu (n d x : Int) : Int := if n ≤ x then x + d else if n ≤ -x then x - d else x
/-- Small enough that no negation wraps. -/
def Bd (x : Int) : Prop := -70000 ≤ x ∧ x ≤ 70000

theorem mu_neg {n d x : Int} (hn : 1 ≤ n) : mu n d (-x) = -(mu n d x) := by unfold mu; split <;> split <;> (try split) <;> omega
theorem mu_small {n d x : Int} (h1 : -n < x) (h2 : x < n) : mu n d x = x := by unfold mu; rw [if_neg (by omega), if_neg (by omega)]
theorem mu_id {n d : Int} {l : List Int} (h : ∀ x ∈ l, -n < x ∧ x < n) : l.map (mu n d) = l := by
  have e : l.map (mu n d) = l.map id := List.map_congr_left (fun x hx => mu_small (h x hx).1 (h x hx).2)
  rw [e, List.map_id]

theorem notL_map {n d : Int} (hn : 1 ≤ n) (hd : 0 ≤ d ∧ d ≤ 255) {l : List Int} (h : ∀ x ∈ l, Bd x) : notL (l.map (mu n d)) = (notL l).map (mu n d) := by
  cases l with
  | nil => rfl
  | cons x l =>
    have hx := h x (by simp)
    unfold Bd at hx
    have e1 : wrap64 (-x) = -x := by unfold wrap64; omega
    have e2 : wrap64 (-(mu n d x)) = -(mu n d x) := by
      have : -80000 ≤ mu n d x ∧ mu n d x ≤ 80000 := by unfold mu; split <;> (try split) <;> omega
      unfold wrap64; omega
    simp only [List.map_cons, notL, List.map_nil, e1, e2, mu_neg hn]
theorem atL_map (f : Int → Int) (l : List Int) (j : Int) : atL (l.map f) j = (atL l j).map f := by
  unfold atL
  rw [List.length_map]
  by_cases h : 0 ≤ j ∧ j < (l.length : Int)
  · rw [if_pos h, if_pos h]
    have hl : j.toNat < l.length := by omega
    simp [List.getD_eq_getElem?_getD, hl]
  · rw [if_neg h, if_neg h]
    rfl
theorem atL_bd {l : List Int} (h : ∀ x ∈ l, Bd x) (j : Int) : ∀ x ∈ atL l j, Bd x := by
  intro x hx
  unfold atL at hx
  split at hx
  · rename_i hj
    rw [List.mem_singleton] at hx
    have hl : j.toNat < l.length := by omega
    subst hx
    exact h _ (by simp [List.getD_eq_getElem?_getD, hl])
  · cases hx
theorem notL_bd {l : List Int} (h : ∀ x ∈ l, Bd x) : ∀ x ∈ notL l, Bd x := by
  intro x hx
  cases l with
  | nil => cases hx
  | cons y l =>
    have hy := h y (by simp)
    unfold notL at hx
    rw [List.mem_singleton] at hx
    subst hx
    unfold Bd wrap64 at *
    omega

section
variable {n d : Int} {a b o : List Int}
theorem upC_map (hn : 1 ≤ n) (hd : 0 ≤ d ∧ d ≤ 255) (ha : ∀ x ∈ a, Bd x) (hb : ∀ x ∈ b, Bd x) (i k : Nat) : upC (a.map (mu n d)) (b.map (mu n d)) (o.map (mu n d)) i k = (upC a b o i k).map (mu n d) := by
  unfold upC
  simp only [atL_map, List.map_append]
  rw [notL_map hn hd (atL_bd ha _), notL_map hn hd (atL_bd hb _)]
theorem downC_map (hn : 1 ≤ n) (hd : 0 ≤ d ∧ d ≤ 255) (ho : ∀ x ∈ o, Bd x) (i k : Nat) : downC (a.map (mu n d)) (b.map (mu n d)) (o.map (mu n d)) i k = (downC a b o i k).map (mu n d) := by
  unfold downC
  simp only [atL_map, List.map_append]
  rw [notL_map hn hd (atL_bd ho _)]
theorem pairC_map (hn : 1 ≤ n) (hd : 0 ≤ d ∧ d ≤ 255) (ha : ∀ x ∈ a, Bd x) (hb : ∀ x ∈ b, Bd x) (ho : ∀ x ∈ o, Bd x) (many i k : Nat) : pairC (a.map (mu n d)) (b.map (mu n d)) (o.map (mu n d)) many i k = (pairC a b o many i k).map (List.map (mu n d)) := by
  unfold pairC
  rw [upC_map hn hd ha hb, downC_map hn hd ho, List.map_append]
  congr 1
  · split <;> rfl
  · split <;> rfl
theorem mergeTo_map (hn : 1 ≤ n) (hd : 0 ≤ d ∧ d ≤ 255) (ha : ∀ x ∈ a, Bd x) (hb : ∀ x ∈ b, Bd x) (ho : ∀ x ∈ o, Bd x) (many i : Nat) : mergeTo (a.map (mu n d)) (b.map (mu n d)) (o.map (mu n d)) many i = (mergeTo a b o many i).map (List.map (mu n d)) := by
  unfold mergeTo rowTo
  have e : ∀ j, pairC (a.map (mu n d)) (b.map (mu n d)) (o.map (mu n d)) many j = fun k => (pairC a b o many j k).map (List.map (mu n d)) := fun j => funext fun k => pairC_map hn hd ha hb ho many j k
  simp only [List.length_map, List.map_flatMap, e]
theorem pairC_bd (ha : ∀ x ∈ a, Bd x) (hb : ∀ x ∈ b, Bd x) (ho : ∀ x ∈ o, Bd x) (many i k : Nat) : ∀ c ∈ pairC a b o many i k, ∀ x ∈ c, Bd x := by
  intro c hc x hx
  unfold pairC at hc
  rcases List.mem_append.1 hc with hc | hc
  · split at hc
    · rw [List.mem_singleton] at hc
      subst hc
      unfold upC at hx
      simp only [List.mem_append] at hx
      rcases hx with (hx | hx) | hx
      · exact notL_bd (atL_bd ha _) x hx
      · exact notL_bd (atL_bd hb _) x hx
      · exact atL_bd ho _ x hx
    · cases hc
  · split at hc
    · rw [List.mem_singleton] at hc
      subst hc
      unfold downC at hx
      simp only [List.mem_append] at hx
      rcases hx with (hx | hx) | hx
      · exact atL_bd ha _ x hx
      · exact atL_bd hb _ x hx
      · exact notL_bd (atL_bd ho _) x hx
    · cases hc
theorem mergeTo_bd (ha : ∀ x ∈ a, Bd x) (hb : ∀ x ∈ b, Bd x) (ho : ∀ x ∈ o, Bd x) (many i : Nat) : ∀ c ∈ mergeTo a b o many i, ∀ x ∈ c, Bd x := by
  intro c hc
  unfold mergeTo rowTo at hc
  obtain ⟨j, _, hc⟩ := List.mem_flatMap.1 hc
  obtain ⟨k, _, hc⟩ := List.mem_flatMap.1 hc
  exact pairC_bd ha hb ho many j k c hc
end

theorem outsOf_map {n d next : Int} (hn : n ≤ next) (many : Nat) : outsOf (next + d) many = (outsOf next many).map (mu n d) := by
  unfold outsOf
  rw [List.map_map]
  apply List.map_congr_left
  intro j _
  show next + d + (j : Int) = mu n d (next + (j : Int))
  unfold mu
  rw [if_pos (by omega)]
  omega
theorem outsOf_bd {next : Int} {many : Nat} (h1 : 1 ≤ next) (h2 : next ≤ 65537) (h3 : many ≤ 40) : ∀ x ∈ outsOf next many, Bd x := by
  intro x hx
  unfold outsOf at hx
  obtain ⟨j, hj, rfl⟩ := List.mem_map.1 hx
  have := List.mem_range.1 hj
  unfold Bd
  omega

/-- The state, shifted. -/
def TS.sh (n d : Int) (s : TS) : TS := ⟨s.next + d, s.full, s.cs.map (List.map (mu n d))⟩

theorem cnt_shift {most n d : Int} (hm : 1 ≤ most) (hn : 1 ≤ n) (hn2 : n ≤ 65537) (hd : 0 ≤ d ∧ d ≤ 255) : ∀ f (s : TS) (l : List Int), 1 ≤ l.length → l.length ≤ f → l.length ≤ 40 → s.full = false → n ≤ s.next → s.next + d + Vf most f l.length ≤ 65537 → (∀ x ∈ l, -n < x ∧ x < n) → (∀ c ∈ s.cs, ∀ x ∈ c, Bd x) →
    cnt most f (s.sh n d) l = ((cnt most f s l).1.map (mu n d), (cnt most f s l).2.sh n d) ∧ (∀ x ∈ (cnt most f s l).1, Bd x) ∧ (∀ c ∈ (cnt most f s l).2.cs, ∀ x ∈ c, Bd x) := by
  intro f
  induction f with
  | zero => intro s l h1 h2; omega
  | succ f ih =>
    intro s l h1 h2 h3 hs hns hb hl hcs
    have hlb : ∀ x ∈ l, Bd x := fun x hx => by have := hl x hx; unfold Bd; omega
    by_cases h : l.length = 1
    · rw [cnt_stop (.inl h), cnt_stop (.inl h)]
      exact ⟨by rw [mu_id hl], hlb, hcs⟩
    have hno : ¬ (l.length = 1 ∨ s.full = true) := by
      rintro (e | e)
      · exact h e
      · rw [hs] at e
        cases e
    rw [Vf, if_neg h] at hb
    have t1 : (l.take (l.length / 2)).length = l.length / 2 := by rw [List.length_take]; omega
    have t2 : (l.drop (l.length / 2)).length = l.length - l.length / 2 := List.length_drop
    have b1 := Vf_bound hm f (l.length / 2) (by omega) (by omega) (by omega)
    have b2 := Vf_bound hm f (l.length - l.length / 2) (by omega) (by omega) (by omega)
    have b4 := manyOf_ge (most := most) hm h1
    have b5 := manyOf_le l.length most
    obtain ⟨r1, hr1⟩ : ∃ r1, cnt most f s (l.take (l.length / 2)) = r1 := ⟨_, rfl⟩
    obtain ⟨r2, hr2⟩ : ∃ r2, cnt most f r1.2 (l.drop (l.length / 2)) = r2 := ⟨_, rfl⟩
    have v1 := (cnt_vars hm f s (l.take (l.length / 2)) (by omega) (by omega) (by omega) hs (by omega)).1
    rw [t1, hr1] at v1
    obtain ⟨f1, n1⟩ := v1 (by omega)
    have v2 := (cnt_vars hm f r1.2 (l.drop (l.length / 2)) (by omega) (by omega) (by omega) f1 (by omega)).1
    rw [t2, hr2] at v2
    obtain ⟨f2, n2⟩ := v2 (by omega)
    obtain ⟨e1, x1, c1⟩ := ih s (l.take (l.length / 2)) (by omega) (by omega) (by omega) hs hns (by rw [t1]; omega) (fun x hx => hl x (List.mem_of_mem_take hx)) hcs
    rw [hr1] at e1 x1 c1
    obtain ⟨e2, x2, c2⟩ := ih r1.2 (l.drop (l.length / 2)) (by omega) (by omega) (by omega) f1 (by omega) (by rw [t2]; omega) (fun x hx => hl x (List.mem_of_mem_drop hx)) c1
    rw [hr2] at e2 x2 c2
    obtain ⟨M, hM⟩ : ∃ M : Nat, manyOf l.length most = M := ⟨(manyOf l.length most).toNat, by omega⟩
    have hx := outsOf_bd (next := r2.2.next) (many := M) (by omega) (by omega) (by omega)
    have g1 : ¬ (r2.2.full = true ∨ 65537 < r2.2.next + (M : Int)) := by
      rintro (e | e)
      · rw [f2] at e; cases e
      · omega
    have g2 : ¬ ((r2.2.sh n d).full = true ∨ 65537 < (r2.2.sh n d).next + (M : Int)) := by
      rintro (e | e)
      · rw [show (r2.2.sh n d).full = r2.2.full from rfl, f2] at e; cases e
      · rw [show (r2.2.sh n d).next = r2.2.next + d from rfl] at e; omega
    rw [cnt_next_step hno hr1 hr2, cnt_next_step (r1 := (r1.1.map (mu n d), r1.2.sh n d)) (r2 := (r2.1.map (mu n d), r2.2.sh n d)) (s := s.sh n d) hno e1 e2]
    rw [hM, Int.toNat_natCast, if_neg g1, if_neg g2]
    refine ⟨?_, hx, ?_⟩
    · have eo := outsOf_map (n := n) (d := d) (next := r2.2.next) (by omega) M
      have em := mergeTo_map hn hd x1 x2 hx M (r1.1.length + 1)
      simp only [TS.sh, List.length_map, List.map_append]
      rw [eo, em]
      congr 2
      omega
    · intro c hc
      rcases List.mem_append.1 hc with hc | hc
      · exact c2 c hc
      · exact mergeTo_bd x1 x2 hx _ _ c hc

theorem apartFrom_mono {n m : Int} (h : n ≤ m) : ∀ (l : List Int) (S : Int → Bool), apartFrom n S l = true → apartFrom m S l = true := by
  intro l
  induction l with
  | nil => intro S _; rfl
  | cons x l ih =>
    intro S hx
    simp only [apartFrom] at hx ⊢
    split at hx
    · cases hx
    split at hx
    · cases hx
    split at hx
    · cases hx
    rename_i h1 h2 h3
    rw [if_neg h1, if_neg (by omega), if_neg h3]
    exact ih _ hx
theorem apartFrom_small {n : Int} : ∀ (l : List Int) (S : Int → Bool), (∀ x ∈ l, (Lit.int .i64 x).wf = true) → apartFrom n S l = true → ∀ x ∈ l, -n < x ∧ x < n := by
  intro l
  induction l with
  | nil => intro S _ _ x hx; cases hx
  | cons y l ih =>
    intro S hw hx x hm
    simp only [apartFrom] at hx
    split at hx
    · cases hx
    split at hx
    · cases hx
    split at hx
    · cases hx
    rename_i h1 h2 h3
    rcases List.mem_cons.1 hm with rfl | hm
    · have hmin : IntKind.i64.min = -9223372036854775808 := rfl
      have hmax : IntKind.i64.max = 9223372036854775807 := rfl
      have hxw := hw x (by simp)
      simp only [Lit.wf, Bool.and_eq_true, decide_eq_true_eq] at hxw
      unfold vabs wrap64 at h1 h2
      split at h1 <;> omega
    · exact ih _ (fun z hz => hw z (by simp [hz])) hx x hm

theorem totalOf_shift {l : List Int} {most next d : Int} (hl : l.length ≤ 20) (hw : ∀ x ∈ l, (Lit.int .i64 x).wf = true) (h1 : 1 ≤ next) (h2 : next ≤ 2000) (hd : 0 ≤ d ∧ d ≤ 255) (h0 : (totalOf l most next).2.2.2 = 0) :
    totalOf l most (next + d) = ((totalOf l most next).1.map (mu next d), (totalOf l most next).2.1.map (List.map (mu next d)), (totalOf l most next).2.2.1 + d, 0) ∧ (∀ x ∈ (totalOf l most next).1, Bd x) ∧ (∀ c ∈ (totalOf l most next).2.1, ∀ x ∈ c, Bd x) := by
  unfold totalOf at h0 ⊢
  by_cases c1 : next < 1 ∨ 65537 < next ∨ most < 0 ∨ 1099511627776 < most
  · rw [if_pos c1] at h0; cases h0
  rw [if_neg c1] at h0 ⊢
  rw [if_neg (show ¬ (next + d < 1 ∨ 65537 < next + d ∨ most < 0 ∨ 1099511627776 < most) by omega)]
  by_cases c2 : apartB l next = false
  · rw [if_pos c2] at h0; cases h0
  rw [if_neg c2] at h0 ⊢
  have c2' : apartB l next = true := by simpa using c2
  have c3 : apartB l (next + d) = true := apartFrom_mono (by omega) l _ c2'
  rw [if_neg (by rw [c3]; decide)]
  by_cases c4 : l.length = 0 ∨ most = 0
  · rw [if_pos c4, if_pos c4]
    exact ⟨rfl, fun x hx => (by cases hx), fun x hx => (by cases hx)⟩
  rw [if_neg c4] at h0 ⊢
  rw [if_neg c4]
  have hm : 1 ≤ most := by omega
  have hlen : 1 ≤ l.length := by omega
  have vb := Vf_bound hm l.length l.length hlen (Nat.le_refl _) (by omega)
  have v := (cnt_vars hm l.length ⟨next, false, []⟩ l hlen (Nat.le_refl _) (by omega) rfl (by show next ≤ 65537; omega)).1 (by show next + _ ≤ 65537; omega)
  obtain ⟨e1, x1, k1⟩ := cnt_shift (n := next) (d := d) hm h1 (by omega) hd l.length ⟨next, false, []⟩ l hlen (Nat.le_refl _) (by omega) rfl (Int.le_refl _) (by show next + d + _ ≤ 65537; omega) (apartFrom_small l _ hw c2') (fun c hc => by cases hc)
  unfold mainS
  have e0 : (⟨next + d, false, []⟩ : TS) = TS.sh next d ⟨next, false, []⟩ := rfl
  rw [e0, e1]
  dsimp only
  have f1 : (cnt most l.length ⟨next, false, []⟩ l).2.full = false := v.1
  have f2 : ¬ (TS.sh next d (cnt most l.length ⟨next, false, []⟩ l).2).full = true := by
    show ¬ (cnt most l.length ⟨next, false, []⟩ l).2.full = true
    rw [f1]; decide
  have f3 : ¬ (cnt most l.length ⟨next, false, []⟩ l).2.full = true := by rw [f1]; decide
  rw [if_neg f2, if_neg f3]
  exact ⟨rfl, x1, k1⟩

#print axioms totalOf_shift

end Go.Proofs.Ytpadmbpopjmdjaa.G

namespace Go.Proofs.Ytpadmbpopjmdjaa.G
open Go.RowKit

section
variable {P : Int → Prop} (hP : ∀ x, P x → P (wrap64 (-x)))
include hP
omit hP in
theorem atL_all {l : List Int} (h : ∀ x ∈ l, P x) (j : Int) : ∀ x ∈ atL l j, P x := by
  intro x hx
  unfold atL at hx
  split at hx
  · rename_i hj
    rw [List.mem_singleton] at hx
    have hl : j.toNat < l.length := by omega
    subst hx
    exact h _ (by simp [List.getD_eq_getElem?_getD, hl])
  · cases hx
theorem notL_all {l : List Int} (h : ∀ x ∈ l, P x) : ∀ x ∈ notL l, P x := by
  intro x hx
  cases l with
  | nil => cases hx
  | cons y l =>
    have hy := h y (by simp)
    unfold notL at hx
    rw [List.mem_singleton] at hx
    subst hx
    exact hP y hy
theorem mergeTo_all {a b o : List Int} (ha : ∀ x ∈ a, P x) (hb : ∀ x ∈ b, P x) (ho : ∀ x ∈ o, P x) (many i : Nat) : ∀ c ∈ mergeTo a b o many i, ∀ x ∈ c, P x := by
  intro c hc
  unfold mergeTo rowTo at hc
  obtain ⟨j, _, hc⟩ := List.mem_flatMap.1 hc
  obtain ⟨k, _, hc⟩ := List.mem_flatMap.1 hc
  intro x hx
  unfold pairC at hc
  rcases List.mem_append.1 hc with hc | hc
  · split at hc
    · rw [List.mem_singleton] at hc
      subst hc
      unfold upC at hx
      simp only [List.mem_append] at hx
      rcases hx with (hx | hx) | hx
      · exact notL_all hP (atL_all ha _) x hx
      · exact notL_all hP (atL_all hb _) x hx
      · exact atL_all ho _ x hx
    · cases hc
  · split at hc
    · rw [List.mem_singleton] at hc
      subst hc
      unfold downC at hx
      simp only [List.mem_append] at hx
      rcases hx with (hx | hx) | hx
      · exact atL_all ha _ x hx
      · exact atL_all hb _ x hx
      · exact notL_all hP (atL_all ho _) x hx
    · cases hc
end

/-- A literal of one of the variables 1 to m - 1. -/
def Gd (m x : Int) : Prop := (1 ≤ x ∧ x < m) ∨ (1 ≤ -x ∧ -x < m)
theorem Gd.neg {m : Int} (hm : m ≤ 70000) : ∀ x, Gd m x → Gd m (wrap64 (-x)) := by
  intro x hx
  unfold Gd at *
  have : wrap64 (-x) = -x := by unfold wrap64; omega
  rw [this]
  omega
theorem Gd.mono {m n x : Int} (h : Gd m x) (hmn : m ≤ n) : Gd n x := by unfold Gd at *; omega

theorem cnt_gd {most : Int} (hm : 1 ≤ most) : ∀ f (s : TS) (l : List Int), 1 ≤ l.length → l.length ≤ f → l.length ≤ 40 → s.full = false → 1 ≤ s.next → s.next ≤ 65537 → (∀ x ∈ l, Gd s.next x) → (∀ c ∈ s.cs, ∀ x ∈ c, Gd s.next x) → (cnt most f s l).2.full = false →
    s.next ≤ (cnt most f s l).2.next ∧ (∀ x ∈ (cnt most f s l).1, Gd (cnt most f s l).2.next x) ∧ (∀ c ∈ (cnt most f s l).2.cs, ∀ x ∈ c, Gd (cnt most f s l).2.next x) := by
  intro f
  induction f with
  | zero => intro s l h1 h2; omega
  | succ f ih =>
    intro s l h1 h2 h3 hs hn1 hn2 hl hcs hend
    by_cases h : l.length = 1
    · rw [cnt_stop (.inl h)]
      exact ⟨Int.le_refl _, hl, hcs⟩
    have hno : ¬ (l.length = 1 ∨ s.full = true) := by
      rintro (e | e)
      · exact h e
      · rw [hs] at e
        cases e
    have t1 : (l.take (l.length / 2)).length = l.length / 2 := by rw [List.length_take]; omega
    have t2 : (l.drop (l.length / 2)).length = l.length - l.length / 2 := List.length_drop
    obtain ⟨r1, hr1⟩ : ∃ r1, cnt most f s (l.take (l.length / 2)) = r1 := ⟨_, rfl⟩
    obtain ⟨r2, hr2⟩ : ∃ r2, cnt most f r1.2 (l.drop (l.length / 2)) = r2 := ⟨_, rfl⟩
    have hstep := cnt_next_step hno hr1 hr2
    obtain ⟨M, hM⟩ : ∃ M : Nat, manyOf l.length most = M := ⟨(manyOf l.length most).toNat, by have := manyOf_ge (most := most) hm h1; omega⟩
    have b5 := manyOf_le l.length most
    have g1 : ¬ (r2.2.full = true ∨ 65537 < r2.2.next + (M : Int)) := fun e => by
      rw [hM, if_pos e] at hstep
      rw [hstep] at hend
      cases hend
    rw [hM, Int.toNat_natCast, if_neg g1] at hstep
    have f2 : r2.2.full = false := by
      cases e : r2.2.full with
      | true => exact (g1 (.inl e)).elim
      | false => rfl
    have f1 : r1.2.full = false := by
      cases e : r1.2.full with
      | true =>
        have := cnt_full' (most := most) (f := f) (l := l.drop (l.length / 2)) e
        rw [hr2, f2] at this
        cases this
      | false => rfl
    have bn1 := cnt_next hm f s (l.take (l.length / 2)) hn1 hn2 (by omega) (by omega)
    rw [hr1] at bn1
    have i1 := ih s (l.take (l.length / 2)) (by omega) (by omega) (by omega) hs hn1 hn2 (fun x hx => hl x (List.mem_of_mem_take hx)) hcs (by rw [hr1]; exact f1)
    rw [hr1] at i1
    have i2 := ih r1.2 (l.drop (l.length / 2)) (by omega) (by omega) (by omega) f1 (by omega) (by omega) (fun x hx => (hl x (List.mem_of_mem_drop hx)).mono i1.1) i1.2.2 (by rw [hr2]; exact f2)
    rw [hr2] at i2
    rw [hstep]
    have hgt : r2.2.next + (M : Int) ≤ 65537 := by
      have : ¬ 65537 < r2.2.next + (M : Int) := fun e => g1 (.inr e)
      omega
    have ho : ∀ x ∈ outsOf r2.2.next M, Gd (r2.2.next + M) x := by
      intro x hx
      unfold outsOf at hx
      obtain ⟨j, hj, rfl⟩ := List.mem_map.1 hx
      have := List.mem_range.1 hj
      unfold Gd
      omega
    refine ⟨by show s.next ≤ r2.2.next + M; omega, ho, ?_⟩
    intro c hc
    rcases List.mem_append.1 hc with hc | hc
    · exact fun x hx => (i2.2.2 c hc x hx).mono (by show r2.2.next ≤ r2.2.next + M; omega)
    · exact mergeTo_all (P := Gd (r2.2.next + M)) (Gd.neg (by omega)) (fun x hx => (i1.2.1 x hx).mono (by omega)) (fun x hx => (i2.2.1 x hx).mono (by omega)) ho _ _ c hc

/-- Under T the outputs o are the unary count of l. -/
def Una (T : Int → Bool) (most : Int) (o l : List Int) : Prop := (o.length : Int) = manyOf l.length most ∧ ∀ j, j < o.length → (T (o.getD j 0) = true ↔ j < l.countP T)

theorem atL_some {l : List Int} {j : Nat} (h : j < l.length) : atL l (j : Int) = [l.getD j 0] := by
  unfold atL
  rw [if_pos (by omega), Int.toNat_natCast]
theorem atL_none {l : List Int} {j : Int} (h : j < 0 ∨ (l.length : Int) ≤ j) : atL l j = [] := by
  unfold atL
  rw [if_neg (by omega)]

/-- One merge: halves of counts p and q. -/
theorem merge_una {T : Int → Bool} {a b o : List Int} {M : Nat} (hom : o.length = M) {p q : Nat} (ha : ∀ j, j < a.length → (T (a.getD j 0) = true ↔ j < p)) (hb : ∀ j, j < b.length → (T (b.getD j 0) = true ↔ j < q))
    (hnb : ∀ x, x ∈ a ∨ x ∈ b ∨ x ∈ o → T (wrap64 (-x)) = !(T x)) (hpa : p ≤ a.length ∨ M ≤ a.length) (hqb : q ≤ b.length ∨ M ≤ b.length) (hsum : M ≤ a.length + b.length ∨ M ≤ a.length ∨ M ≤ b.length)
    (hold : ∀ c ∈ mergeTo a b o M (a.length + 1), c.any T = true) : ∀ j, j < M → (T (o.getD j 0) = true ↔ j < p + q) := by
  have hin : ∀ i k, i ≤ a.length → k ≤ b.length → ∀ c ∈ pairC a b o M i k, c.any T = true := by
    intro i k hi hk c hc
    refine hold c ?_
    unfold mergeTo rowTo
    exact List.mem_flatMap.2 ⟨i, List.mem_range.2 (by omega), List.mem_flatMap.2 ⟨k, List.mem_range.2 (by omega), hc⟩⟩
  have mem : ∀ (l : List Int) (j : Nat), j < l.length → l.getD j 0 ∈ l := fun l j h => by simp [List.getD_eq_getElem?_getD, h]
  intro j hj
  constructor
  · intro ht
    by_cases hlt : j < p + q
    · exact hlt
    exfalso
    obtain ⟨i, k, hij, hi1, hi2, hk1, hk2⟩ : ∃ i k, i + k = j ∧ p ≤ i ∧ i ≤ a.length ∧ q ≤ k ∧ k ≤ b.length := by
      refine ⟨min a.length (j - q), j - min a.length (j - q), ?_, ?_, ?_, ?_, ?_⟩ <;> omega
    have h1 := hin i k hi2 hk2 (downC a b o i k) (by unfold pairC; rw [if_pos (show i + k < M by omega)]; simp)
    unfold downC at h1
    rw [List.any_append, List.any_append, show ((i : Int) + (k : Int)) = ((i + k : Nat) : Int) from by omega, atL_some (l := o) (j := i + k) (by omega)] at h1
    have z1 : (atL a (i : Int)).any T = false := by
      by_cases hia : i < a.length
      · rw [atL_some hia]
        have := ha i hia
        cases e : T (a.getD i 0) with
        | true => have := this.1 e; omega
        | false => simpa using e
      · rw [atL_none (by omega)]; rfl
    have z2 : (atL b (k : Int)).any T = false := by
      by_cases hkb : k < b.length
      · rw [atL_some hkb]
        have := hb k hkb
        cases e : T (b.getD k 0) with
        | true => have := this.1 e; omega
        | false => simpa using e
      · rw [atL_none (by omega)]; rfl
    rw [z1, z2, hij] at h1
    simp only [notL, List.any_cons, List.any_nil, Bool.or_false, Bool.false_or] at h1
    rw [hnb _ (.inr (.inr (mem o j (by omega)))), ht] at h1
    cases h1
  · intro hlt
    obtain ⟨i, k, hij, hi1, hi2, hk1, hk2⟩ : ∃ i k, i + k = j + 1 ∧ i ≤ p ∧ i ≤ a.length ∧ k ≤ q ∧ k ≤ b.length := by
      refine ⟨min (min p a.length) (j + 1), j + 1 - min (min p a.length) (j + 1), ?_, ?_, ?_, ?_, ?_⟩ <;> omega
    have h1 := hin i k hi2 hk2 (upC a b o i k) (by unfold pairC; rw [if_pos (show 0 < i + k ∧ i + k ≤ M by omega)]; simp)
    unfold upC at h1
    rw [List.any_append, List.any_append, show ((i : Int) + (k : Int) - 1) = (j : Int) from by omega, atL_some (l := o) (j := j) (by omega)] at h1
    have z1 : (notL (atL a ((i : Int) - 1))).any T = false := by
      by_cases hi0 : 0 < i
      · rw [show ((i : Int) - 1) = ((i - 1 : Nat) : Int) from by omega, atL_some (l := a) (j := i - 1) (by omega)]
        have := (ha (i - 1) (by omega)).2 (by omega)
        simp only [notL, List.any_cons, List.any_nil, Bool.or_false]
        rw [hnb _ (.inl (mem a (i - 1) (by omega))), this]
        rfl
      · rw [atL_none (by omega)]; rfl
    have z2 : (notL (atL b ((k : Int) - 1))).any T = false := by
      by_cases hk0 : 0 < k
      · rw [show ((k : Int) - 1) = ((k - 1 : Nat) : Int) from by omega, atL_some (l := b) (j := k - 1) (by omega)]
        have := (hb (k - 1) (by omega)).2 (by omega)
        simp only [notL, List.any_cons, List.any_nil, Bool.or_false]
        rw [hnb _ (.inr (.inl (mem b (k - 1) (by omega)))), this]
        rfl
      · rw [atL_none (by omega)]; rfl
    rw [z1, z2] at h1
    simpa using h1

theorem cnt_una {T : Int → Bool} {most : Int} (hm : 1 ≤ most) : ∀ f (s : TS) (l : List Int), 1 ≤ l.length → l.length ≤ f → l.length ≤ 40 → s.full = false → 1 ≤ s.next → s.next ≤ 65537 → (∀ x ∈ l, Gd s.next x) → (∀ c ∈ s.cs, ∀ x ∈ c, Gd s.next x) → (cnt most f s l).2.full = false →
    (∀ x, Gd (cnt most f s l).2.next x → T (wrap64 (-x)) = !(T x)) → (∀ c ∈ (cnt most f s l).2.cs, c.any T = true) → Una T most (cnt most f s l).1 l ∧ (∀ c ∈ s.cs, c.any T = true) := by
  intro f
  induction f with
  | zero => intro s l h1 h2; omega
  | succ f ih =>
    intro s l h1 h2 h3 hs hn1 hn2 hl hcs hend hT hold
    by_cases h : l.length = 1
    · rw [cnt_stop (.inl h)] at hold ⊢
      refine ⟨⟨?_, ?_⟩, hold⟩
      · show (l.length : Int) = manyOf l.length most
        rw [h]; unfold manyOf; split <;> omega
      · intro j hj
        have hj : j < l.length := hj
        obtain rfl : j = 0 := by omega
        obtain ⟨x, rfl⟩ := List.length_eq_one_iff.1 h
        show T x = true ↔ 0 < [x].countP T
        rw [List.countP_singleton]
        split <;> simp_all
    have hno : ¬ (l.length = 1 ∨ s.full = true) := by
      rintro (e | e)
      · exact h e
      · rw [hs] at e
        cases e
    have hG := cnt_gd hm (f + 1) s l h1 h2 h3 hs hn1 hn2 hl hcs hend
    have t1 : (l.take (l.length / 2)).length = l.length / 2 := by rw [List.length_take]; omega
    have t2 : (l.drop (l.length / 2)).length = l.length - l.length / 2 := List.length_drop
    obtain ⟨r1, hr1⟩ : ∃ r1, cnt most f s (l.take (l.length / 2)) = r1 := ⟨_, rfl⟩
    obtain ⟨r2, hr2⟩ : ∃ r2, cnt most f r1.2 (l.drop (l.length / 2)) = r2 := ⟨_, rfl⟩
    have hstep := cnt_next_step hno hr1 hr2
    have hM1 := manyOf_ge (most := most) hm h1
    obtain ⟨M, hM⟩ : ∃ M : Nat, manyOf l.length most = M := ⟨(manyOf l.length most).toNat, by omega⟩
    have g1 : ¬ (r2.2.full = true ∨ 65537 < r2.2.next + (M : Int)) := fun e => by
      rw [hM, if_pos e] at hstep
      rw [hstep] at hend
      cases hend
    rw [hM, Int.toNat_natCast, if_neg g1] at hstep
    have f2 : r2.2.full = false := by
      cases e : r2.2.full with
      | true => exact (g1 (.inl e)).elim
      | false => rfl
    have f1 : r1.2.full = false := by
      cases e : r1.2.full with
      | true =>
        have := cnt_full' (most := most) (f := f) (l := l.drop (l.length / 2)) e
        rw [hr2, f2] at this
        cases this
      | false => rfl
    have bn1 := cnt_next hm f s (l.take (l.length / 2)) hn1 hn2 (by omega) (by omega)
    rw [hr1] at bn1
    have i1 := cnt_gd hm f s (l.take (l.length / 2)) (by omega) (by omega) (by omega) hs hn1 hn2 (fun x hx => hl x (List.mem_of_mem_take hx)) hcs (by rw [hr1]; exact f1)
    rw [hr1] at i1
    have i2 := cnt_gd hm f r1.2 (l.drop (l.length / 2)) (by omega) (by omega) (by omega) f1 (by omega) (by omega) (fun x hx => (hl x (List.mem_of_mem_drop hx)).mono i1.1) i1.2.2 (by rw [hr2]; exact f2)
    rw [hr2] at i2
    rw [hstep] at hold hT ⊢
    have hT' : ∀ x, Gd (r2.2.next + M) x → T (wrap64 (-x)) = !(T x) := hT
    have hold' : ∀ c ∈ r2.2.cs ++ mergeTo r1.1 r2.1 (outsOf r2.2.next M) M (r1.1.length + 1), c.any T = true := hold
    obtain ⟨u2, c2⟩ := ih r1.2 (l.drop (l.length / 2)) (by omega) (by omega) (by omega) f1 (by omega) (by omega) (fun x hx => (hl x (List.mem_of_mem_drop hx)).mono i1.1) i1.2.2 (by rw [hr2]; exact f2)
      (by rw [hr2]; exact fun x hx => hT' x (hx.mono (by omega))) (by rw [hr2]; exact fun c hc => hold' c (List.mem_append_left _ hc))
    rw [hr2] at u2
    obtain ⟨u1, c1⟩ := ih s (l.take (l.length / 2)) (by omega) (by omega) (by omega) hs hn1 hn2 (fun x hx => hl x (List.mem_of_mem_take hx)) hcs (by rw [hr1]; exact f1)
      (by rw [hr1]; exact fun x hx => hT' x (hx.mono (by omega))) (by rw [hr1]; exact c2)
    rw [hr1] at u1
    refine ⟨⟨by show ((outsOf r2.2.next M).length : Int) = _; rw [outsOf_length, hM], ?_⟩, c1⟩
    obtain ⟨ul1, ua⟩ := u1
    obtain ⟨ul2, ub⟩ := u2
    rw [t1] at ul1
    rw [t2] at ul2
    have cp := List.countP_le_length (p := T) (l := l.take (l.length / 2))
    have cq := List.countP_le_length (p := T) (l := l.drop (l.length / 2))
    rw [t1] at cp
    rw [t2] at cq
    have hsum : l.countP T = (l.take (l.length / 2)).countP T + (l.drop (l.length / 2)).countP T := by rw [← List.countP_append, List.take_append_drop]
    intro j hj
    have hj' : j < M := by
      have : j < (outsOf r2.2.next M).length := hj
      rwa [outsOf_length] at this
    rw [hsum]
    have mm : ∀ n : Nat, manyOf n most = if most < (n : Int) then most else (n : Int) := fun n => rfl
    rw [mm] at ul1 ul2 hM
    have ho := hG.2.1
    rw [hstep] at ho
    refine merge_una (T := T) (a := r1.1) (b := r2.1) (o := outsOf r2.2.next M) (M := M) (outsOf_length _ _) ua ub ?_ ?_ ?_ ?_ (fun c hc => hold' c (List.mem_append_right _ hc)) j hj'
    · rintro x (hx | hx | hx)
      · exact hT' x ((i1.2.1 x hx).mono (by omega))
      · exact hT' x ((i2.2.1 x hx).mono (by omega))
      · exact hT' x (ho x hx)
    · split at ul1 <;> split at hM <;> omega
    · split at ul2 <;> split at hM <;> omega
    · split at ul1 <;> split at ul2 <;> split at hM <;> omega

#print axioms cnt_una

end Go.Proofs.Ytpadmbpopjmdjaa.G

namespace Go.Proofs.Ytpadmbpopjmdjaa.G
open Go.RowKit

theorem pairC_rows (a b o : List Int) (many i k : Nat) : ∀ c ∈ pairC a b o many i k, c.length ≤ 3 := by
  intro c hc
  have l1 := notL_len (atL a ((i : Int) - 1))
  have l2 := notL_len (atL b ((k : Int) - 1))
  have l3 := atL_len o ((i : Int) + k - 1)
  have l4 := atL_len a (i : Int)
  have l5 := atL_len b (k : Int)
  have l6 := notL_len (atL o ((i : Int) + k))
  unfold pairC at hc
  rcases List.mem_append.1 hc with hc | hc
  · split at hc
    · rw [List.mem_singleton] at hc
      subst hc
      unfold upC
      simp only [List.length_append]
      omega
    · cases hc
  · split at hc
    · rw [List.mem_singleton] at hc
      subst hc
      unfold downC
      simp only [List.length_append]
      omega
    · cases hc
theorem mergeTo_rows (a b o : List Int) (many i : Nat) : ∀ c ∈ mergeTo a b o many i, c.length ≤ 3 := by
  intro c hc
  unfold mergeTo rowTo at hc
  obtain ⟨j, _, hc⟩ := List.mem_flatMap.1 hc
  obtain ⟨k, _, hc⟩ := List.mem_flatMap.1 hc
  exact pairC_rows a b o many j k c hc
theorem cnt_rows {most : Int} (f : Nat) : ∀ (s : TS) (l : List Int), (∀ c ∈ s.cs, c.length ≤ 3) → ∀ c ∈ (cnt most f s l).2.cs, c.length ≤ 3 := by
  induction f with
  | zero => intro s l h; exact h
  | succ f ih =>
    intro s l h
    rw [cnt]
    split
    · exact h
    · dsimp only
      have h2 := ih _ (l.drop (l.length / 2)) (ih s (l.take (l.length / 2)) h)
      split
      · exact h2
      · intro c hc
        rcases List.mem_append.1 hc with hc | hc
        · exact h2 c hc
        · exact mergeTo_rows _ _ _ _ _ c hc

theorem totalOf_bounds (l : List Int) (most next : Int) (h40 : l.length ≤ 40) : (totalOf l most next).1.length ≤ 40 ∧ (totalOf l most next).2.1.length ≤ 160000 ∧ ∀ c ∈ (totalOf l most next).2.1, c.length ≤ 3 := by
  unfold totalOf
  split
  · simp
  split
  · simp
  split
  · simp
  · unfold mainS
    dsimp only
    split
    · simp
    · rename_i h1 h2 h3 h4
      have c1 := cnt_len (most := most) l.length ⟨next, false, []⟩ l
      have c2 := cnt_cs (most := most) l.length ⟨next, false, []⟩ l (by omega) (Nat.le_refl _) h40
      have c3 := cnt_rows (most := most) l.length ⟨next, false, []⟩ l (by simp)
      refine ⟨by dsimp only; omega, ?_, c3⟩
      have : ([] : List (List Int)).length = 0 := rfl
      simp only [List.length_nil] at c2
      dsimp only
      omega

theorem totalOf_after (l : List Int) (most next : Int) (h40 : l.length ≤ 40) : 0 ≤ (totalOf l most next).2.2.1 ∧ (totalOf l most next).2.2.1 ≤ 65537 := by
  unfold totalOf
  split
  · simp
  rename_i h1
  split
  · simp
  split
  · exact ⟨by show 0 ≤ next; omega, by show next ≤ 65537; omega⟩
  rename_i h3
  unfold mainS
  dsimp only
  split
  · simp
  · have := cnt_next (most := most) (by omega) l.length ⟨next, false, []⟩ l (by show 1 ≤ next; omega) (by show next ≤ 65537; omega) (by omega) (Nat.le_refl _)
    have e : (⟨next, false, []⟩ : TS).next = next := rfl
    rw [e] at this
    exact ⟨by dsimp only; omega, by dsimp only; omega⟩

end Go.Proofs.Ytpadmbpopjmdjaa.G

namespace Go.Proofs.Ytpadmbpopjmdjaa.G
open Go.RowKit Go.Proofs.YtpadmbpopjmdjaaW.PrintWords Go.Proofs.YtpadmbpopjmdjaaW.PrintLast Go.Proofs.YtpadmbpopjmdjaaW.PrintMore

theorem apartFrom_ne {n : Int} : ∀ (l : List Int) (S : Int → Bool), S 0 = true → apartFrom n S l = true → ∀ x ∈ l, x ≠ 0 := by
  intro l
  induction l with
  | nil => intro S _ _ x hx; cases hx
  | cons y l ih =>
    intro S hS hx x hm
    simp only [apartFrom] at hx
    split at hx
    · cases hx
    split at hx
    · cases hx
    split at hx
    · cases hx
    rename_i h1 h2 h3
    rcases List.mem_cons.1 hm with rfl | hm
    · rintro rfl
      have : vabs 0 = 0 := by decide +kernel
      rw [this] at h3
      exact h3 hS
    · exact ih _ (show (if (0 : Int) = vabs y then true else S 0) = true by split <;> first | rfl | exact hS) hx x hm

theorem apartB_gd {l : List Int} {next : Int} (hw : ∀ x ∈ l, (Lit.int .i64 x).wf = true) (h : apartB l next = true) : ∀ x ∈ l, Gd next x := by
  intro x hx
  have h1 := apartFrom_small l _ hw h x hx
  have h2 := apartFrom_ne l _ (by simp) h x hx
  unfold Gd
  omega

theorem totalOf_err {l : List Int} {most next : Int} (h : (totalOf l most next).2.2.2 ≠ 0) : (totalOf l most next).1 = [] ∧ (totalOf l most next).2.1 = [] ∧ (totalOf l most next).2.2.1 = 0 := by
  unfold totalOf at h ⊢
  split
  · exact ⟨rfl, rfl, rfl⟩
  rename_i c1
  rw [if_neg c1] at h
  split
  · exact ⟨rfl, rfl, rfl⟩
  rename_i c2
  rw [if_neg c2] at h
  split
  · rename_i c3
    rw [if_pos c3] at h
    exact (h rfl).elim
  rename_i c3
  rw [if_neg c3] at h
  unfold mainS at h ⊢
  dsimp only at h ⊢
  split
  · exact ⟨rfl, rfl, rfl⟩
  · rename_i c4
    rw [if_neg c4] at h
    exact (h rfl).elim

theorem totalOf_ok {l : List Int} {most next : Int} (hl : l.length ≤ 40) (hw : ∀ x ∈ l, (Lit.int .i64 x).wf = true) (h : (totalOf l most next).2.2.2 = 0) :
    (1 ≤ next ∧ next ≤ 65537 ∧ 0 ≤ most) ∧ (next ≤ (totalOf l most next).2.2.1 ∧ (totalOf l most next).2.2.1 ≤ next + 40 * l.length) ∧ ((totalOf l most next).1.length : Int) = mn (l.length : Int) most ∧
    (∀ x ∈ l, Gd next x) ∧ (∀ x ∈ (totalOf l most next).1, Gd (totalOf l most next).2.2.1 x) ∧ (∀ c ∈ (totalOf l most next).2.1, ∀ x ∈ c, Gd (totalOf l most next).2.2.1 x) ∧
    (∀ T : Int → Bool, (∀ x, Gd (totalOf l most next).2.2.1 x → T (wrap64 (-x)) = !(T x)) → (∀ c ∈ (totalOf l most next).2.1, c.any T = true) → ∀ j, j < (totalOf l most next).1.length → (T ((totalOf l most next).1.getD j 0) = true ↔ j < l.countP T)) := by
  unfold totalOf at h ⊢
  by_cases c1 : next < 1 ∨ 65537 < next ∨ most < 0 ∨ 1099511627776 < most
  · rw [if_pos c1] at h; cases h
  rw [if_neg c1] at h ⊢
  by_cases c2 : apartB l next = false
  · rw [if_pos c2] at h; cases h
  rw [if_neg c2] at h ⊢
  have c2' : apartB l next = true := by simpa using c2
  have hg := apartB_gd hw c2'
  by_cases c4 : l.length = 0 ∨ most = 0
  · rw [if_pos c4]
    refine ⟨by omega, ⟨Int.le_refl _, by show next ≤ next + 40 * (l.length : Int); omega⟩, ?_, hg, fun x hx => (by cases hx), fun x hx => (by cases hx), fun T _ _ j hj => (by cases hj)⟩
    show (0 : Int) = mn (l.length : Int) most
    unfold mn
    split <;> omega
  rw [if_neg c4] at h ⊢
  have hm : 1 ≤ most := by omega
  have hlen : 1 ≤ l.length := by omega
  unfold mainS at h ⊢
  dsimp only at h ⊢
  by_cases c5 : (cnt most l.length ⟨next, false, []⟩ l).2.full = true
  · rw [if_pos c5] at h; cases h
  rw [if_neg c5]
  have c5' : (cnt most l.length ⟨next, false, []⟩ l).2.full = false := by simpa using c5
  have hx := cnt_gd hm l.length ⟨next, false, []⟩ l hlen (Nat.le_refl _) hl rfl (by show 1 ≤ next; omega) (by show next ≤ 65537; omega) hg (fun c hc => by cases hc) c5'
  have hv := cnt_vars hm l.length ⟨next, false, []⟩ l hlen (Nat.le_refl _) hl rfl (by show next ≤ 65537; omega)
  have hvb := Vf_bound hm l.length l.length hlen (Nat.le_refl _) hl
  have hnx : (cnt most l.length ⟨next, false, []⟩ l).2.next = next + Vf most l.length l.length := by
    by_cases c6 : next + Vf most l.length l.length ≤ 65537
    · exact (hv.1 c6).2
    · rw [hv.2 (by show 65537 < next + _; omega)] at c5'
      cases c5'
  dsimp only
  refine ⟨by omega, ⟨by omega, by omega⟩, ?_, hg, hx.2.1, hx.2.2, ?_⟩
  · by_cases h1 : l.length = 1
    · obtain ⟨f, hf⟩ : ∃ f, l.length = f + 1 := ⟨l.length - 1, by omega⟩
      rw [hf, cnt_stop (.inl h1)]
      show (l.length : Int) = _
      unfold mn
      split <;> omega
    · obtain ⟨f, hf⟩ : ∃ f, l.length = f + 1 := ⟨l.length - 1, by omega⟩
      have hno : ¬ (l.length = 1 ∨ (⟨next, false, []⟩ : TS).full = true) := by
        rintro (e | e)
        · exact h1 e
        · cases e
      have hstep := cnt_next_step (most := most) (f := f) hno rfl rfl
      rw [← hf] at hstep
      split at hstep
      · rw [hstep] at c5'
        cases c5'
      · rw [hstep]
        show ((outsOf _ _).length : Int) = _
        rw [outsOf_length]
        have := manyOf_ge (most := most) hm hlen
        have e : mn (l.length : Int) most = manyOf l.length most := rfl
        rw [e]
        omega
  · intro T hT hold j hj
    exact (cnt_una hm l.length ⟨next, false, []⟩ l hlen (Nat.le_refl _) hl rfl (by show 1 ≤ next; omega) (by show next ≤ 65537; omega) hg (fun c hc => by cases hc) c5' hT hold).1.2 j hj

/-- A literal of a variable that b holds. -/
def Tv (b : List Bool) (x : Int) : Bool := if 0 < x then rdOf false b x else !(rdOf false b (-x))
theorem Tv_neg {b : List Bool} {m x : Int} (hm : m ≤ 70000) (h : Gd m x) : Tv b (wrap64 (-x)) = !(Tv b x) := by
  unfold Gd at h
  have e : wrap64 (-x) = -x := by unfold wrap64; omega
  rw [e]
  unfold Tv
  by_cases h0 : 0 < x
  · rw [if_neg (by omega), if_pos h0, Int.neg_neg]
  · rw [if_pos (by omega), if_neg h0, Bool.not_not]
theorem litB_Tv {b : List Bool} {m x : Int} (hm : m ≤ 65537) (h : Gd m x) (hb : m ≤ b.length) : litB b x = Tv b x := by
  unfold Gd at h
  have e : wrap64 (-x) = -x := by unfold wrap64; omega
  have e2 : wrap64 (-65536) = -65536 := by decide +kernel
  unfold litB QSmall.cnf_lit_true.f QSmall.cnf_lit_may.f QSmall.cnf_lit_of.f
  rw [e, e2, if_neg (by omega), if_pos (by omega)]
  simp only [Option.bind_some]
  rw [if_pos (by simp; omega)]
  unfold Tv
  by_cases h0 : 0 < x
  · have e3 : mx x (-x) = x := by unfold mx; rw [if_neg (by omega)]
    rw [e3, if_pos (by omega), if_pos (by omega), if_pos h0]
    simp [h0]
  · have e3 : mx x (-x) = -x := by unfold mx; rw [if_pos (by omega)]
    rw [e3, if_pos (by omega), if_pos (by omega), if_neg h0]
    have h1 : decide (x > 0) = false := decide_eq_false h0
    rw [h1]
    cases rdOf false b (-x) <;> rfl
theorem any_congr' {p q : Int → Bool} : ∀ {l : List Int}, (∀ x ∈ l, p x = q x) → l.any p = l.any q := by
  intro l
  induction l with
  | nil => intro _; rfl
  | cons y l ih =>
    intro h
    rw [List.any_cons, List.any_cons, h y (by simp), ih (fun x hx => h x (by simp [hx]))]
theorem holdsB_Tv {b : List Bool} {m : Int} {c : List Int} (hm : m ≤ 65537) (h : ∀ x ∈ c, Gd m x) (hb : m ≤ b.length) : holdsB c b = c.any (Tv b) := any_congr' (fun x hx => litB_Tv hm (h x hx) hb)
theorem Gd.wf {m x : Int} (hm : m ≤ 70000) (h : Gd m x) : (Lit.int .i64 x).wf = true := by
  have hmin : IntKind.i64.min = -9223372036854775808 := rfl
  have hmax : IntKind.i64.max = 9223372036854775807 := rfl
  unfold Gd at h
  simp only [Lit.wf, Bool.and_eq_true, decide_eq_true_eq]
  omega

#print axioms totalOf_ok

end Go.Proofs.Ytpadmbpopjmdjaa.G

namespace Go.Proofs.Ytpadmbpopjmdjaa.G
open Go.RowKit

/-- What the new variables of count stand for, in their order. -/
def idl (T : Int → Bool) (most : Int) : Nat → List Int → List Bool
  | 0, _ => []
  | f + 1, l => if l.length = 1 then [] else idl T most f (l.take (l.length / 2)) ++ idl T most f (l.drop (l.length / 2)) ++ (List.range (manyOf l.length most).toNat).map (fun j => decide (j < l.countP T))

theorem idl_len {T : Int → Bool} {most : Int} (hm : 1 ≤ most) : ∀ f (l : List Int), 1 ≤ l.length → l.length ≤ f → ((idl T most f l).length : Int) = Vf most f l.length := by
  intro f
  induction f with
  | zero => intro l h1 h2; omega
  | succ f ih =>
    intro l h1 h2
    rw [idl, Vf]
    split
    · rfl
    · have t1 : (l.take (l.length / 2)).length = l.length / 2 := by rw [List.length_take]; omega
      have t2 : (l.drop (l.length / 2)).length = l.length - l.length / 2 := List.length_drop
      have i1 := ih (l.take (l.length / 2)) (by omega) (by omega)
      have i2 := ih (l.drop (l.length / 2)) (by omega) (by omega)
      rw [t1] at i1
      rw [t2] at i2
      have := manyOf_ge (most := most) hm h1
      simp only [List.length_append, List.length_map, List.length_range]
      omega

theorem idl_congr {T U : Int → Bool} {most : Int} : ∀ f (l : List Int), (∀ x ∈ l, T x = U x) → idl T most f l = idl U most f l := by
  intro f
  induction f with
  | zero => intro l _; rfl
  | succ f ih =>
    intro l h
    rw [idl, idl]
    have hc : l.countP T = l.countP U := List.countP_congr (fun x hx => by rw [h x hx])
    rw [ih (l.take (l.length / 2)) (fun x hx => h x (List.mem_of_mem_take hx)), ih (l.drop (l.length / 2)) (fun x hx => h x (List.mem_of_mem_drop hx)), hc]

/-- One merge: where the outputs are the count, its clauses hold. -/
theorem merge_holds {T : Int → Bool} {a b o : List Int} {M : Nat} (hom : o.length = M) {p q : Nat} (ha : ∀ j, j < a.length → (T (a.getD j 0) = true ↔ j < p)) (hb : ∀ j, j < b.length → (T (b.getD j 0) = true ↔ j < q))
    (ho : ∀ j, j < M → (T (o.getD j 0) = true ↔ j < p + q)) (hnb : ∀ x, x ∈ a ∨ x ∈ b ∨ x ∈ o → T (wrap64 (-x)) = !(T x)) (hpa : p ≤ a.length ∨ M ≤ a.length) (hqb : q ≤ b.length ∨ M ≤ b.length) :
    ∀ c ∈ mergeTo a b o M (a.length + 1), c.any T = true := by
  have mem : ∀ (l : List Int) (j : Nat), j < l.length → l.getD j 0 ∈ l := fun l j h => by simp [List.getD_eq_getElem?_getD, h]
  intro c hc
  unfold mergeTo rowTo at hc
  obtain ⟨i, hi, hc⟩ := List.mem_flatMap.1 hc
  obtain ⟨k, hk, hc⟩ := List.mem_flatMap.1 hc
  have hi := List.mem_range.1 hi
  have hk := List.mem_range.1 hk
  unfold pairC at hc
  rcases List.mem_append.1 hc with hc | hc
  · split at hc
    · rename_i hcond
      rw [List.mem_singleton] at hc
      subst hc
      unfold upC
      rw [List.any_append, List.any_append]
      by_cases hp : i ≤ p
      · by_cases hq : k ≤ q
        · have h3 : (atL o ((i : Int) + (k : Int) - 1)).any T = true := by
            rw [show ((i : Int) + (k : Int) - 1) = ((i + k - 1 : Nat) : Int) from by omega, atL_some (by omega)]
            simpa using (ho (i + k - 1) (by omega)).2 (by omega)
          rw [h3, Bool.or_true]
        · have h2 : (notL (atL b ((k : Int) - 1))).any T = true := by
            rw [show ((k : Int) - 1) = ((k - 1 : Nat) : Int) from by omega, atL_some (by omega)]
            simp only [notL, List.any_cons, List.any_nil, Bool.or_false]
            rw [hnb _ (.inr (.inl (mem b (k - 1) (by omega))))]
            have := hb (k - 1) (by omega)
            cases e : T (b.getD (k - 1) 0) with
            | true => have := this.1 e; omega
            | false => rfl
          rw [h2, Bool.or_true, Bool.true_or]
      · have h1 : (notL (atL a ((i : Int) - 1))).any T = true := by
          rw [show ((i : Int) - 1) = ((i - 1 : Nat) : Int) from by omega, atL_some (by omega)]
          simp only [notL, List.any_cons, List.any_nil, Bool.or_false]
          rw [hnb _ (.inl (mem a (i - 1) (by omega)))]
          have := ha (i - 1) (by omega)
          cases e : T (a.getD (i - 1) 0) with
          | true => have := this.1 e; omega
          | false => rfl
        rw [h1, Bool.true_or, Bool.true_or]
    · cases hc
  · split at hc
    · rename_i hcond
      rw [List.mem_singleton] at hc
      subst hc
      unfold downC
      rw [List.any_append, List.any_append]
      by_cases hp : i < p
      · have h1 : (atL a (i : Int)).any T = true := by
          rw [atL_some (by omega)]
          simpa using (ha i (by omega)).2 hp
        rw [h1, Bool.true_or, Bool.true_or]
      · by_cases hq : k < q
        · have h2 : (atL b (k : Int)).any T = true := by
            rw [atL_some (by omega)]
            simpa using (hb k (by omega)).2 hq
          rw [h2, Bool.or_true, Bool.true_or]
        · have h3 : (notL (atL o ((i : Int) + (k : Int)))).any T = true := by
            rw [show ((i : Int) + (k : Int)) = ((i + k : Nat) : Int) from by omega, atL_some (by omega)]
            simp only [notL, List.any_cons, List.any_nil, Bool.or_false]
            rw [hnb _ (.inr (.inr (mem o (i + k) (by omega))))]
            have := ho (i + k) (by omega)
            cases e : T (o.getD (i + k) 0) with
            | true => have := this.1 e; omega
            | false => rfl
          rw [h3, Bool.or_true]
    · cases hc

theorem outs_getD {next : Int} {M j : Nat} (h : j < M) : (outsOf next M).getD j 0 = next + (j : Int) := by
  unfold outsOf
  simp [List.getD_eq_getElem?_getD, h]

theorem getD_app1 {A B : List Bool} {i : Nat} (h : i < A.length) : (A ++ B).getD i false = A.getD i false := by
  simp [List.getD_eq_getElem?_getD, List.getElem?_append_left h]
theorem getD_app2 {A B : List Bool} (i : Nat) : (A ++ B).getD (A.length + i) false = B.getD i false := by
  simp [List.getD_eq_getElem?_getD, List.getElem?_append_right (Nat.le_add_right A.length i)]
theorem getD_rng {M j : Nat} {f : Nat → Bool} (h : j < M) : ((List.range M).map f).getD j false = f j := by
  simp [List.getD_eq_getElem?_getD, h]

theorem cnt_uniq {T : Int → Bool} {most : Int} (hm : 1 ≤ most) : ∀ f (s : TS) (l : List Int), 1 ≤ l.length → l.length ≤ f → l.length ≤ 40 → s.full = false → 1 ≤ s.next → s.next ≤ 65537 → (∀ x ∈ l, Gd s.next x) → (∀ c ∈ s.cs, ∀ x ∈ c, Gd s.next x) → (cnt most f s l).2.full = false →
    (∀ x, Gd (cnt most f s l).2.next x → T (wrap64 (-x)) = !(T x)) → (∀ c ∈ s.cs, c.any T = true) →
    ((∀ c ∈ (cnt most f s l).2.cs, c.any T = true) ↔ ∀ i, i < (idl T most f l).length → T (s.next + (i : Int)) = (idl T most f l).getD i false) ∧ ((∀ i, i < (idl T most f l).length → T (s.next + (i : Int)) = (idl T most f l).getD i false) → Una T most (cnt most f s l).1 l) := by
  intro f
  induction f with
  | zero => intro s l h1 h2; omega
  | succ f ih =>
    intro s l h1 h2 h3 hs hn1 hn2 hl hcs hend hT hold0
    by_cases h : l.length = 1
    · have hu := (cnt_una (T := T) hm (f + 1) s l h1 h2 h3 hs hn1 hn2 hl hcs hend hT (by rw [cnt_stop (.inl h)]; exact hold0)).1
      rw [idl, if_pos h]
      refine ⟨⟨fun _ i hi => (by cases hi), fun _ => by rw [cnt_stop (.inl h)]; exact hold0⟩, fun _ => hu⟩
    have hno : ¬ (l.length = 1 ∨ s.full = true) := by
      rintro (e | e)
      · exact h e
      · rw [hs] at e
        cases e
    have hG := cnt_gd hm (f + 1) s l h1 h2 h3 hs hn1 hn2 hl hcs hend
    have t1 : (l.take (l.length / 2)).length = l.length / 2 := by rw [List.length_take]; omega
    have t2 : (l.drop (l.length / 2)).length = l.length - l.length / 2 := List.length_drop
    obtain ⟨r1, hr1⟩ : ∃ r1, cnt most f s (l.take (l.length / 2)) = r1 := ⟨_, rfl⟩
    obtain ⟨r2, hr2⟩ : ∃ r2, cnt most f r1.2 (l.drop (l.length / 2)) = r2 := ⟨_, rfl⟩
    have hstep := cnt_next_step hno hr1 hr2
    have hM1 := manyOf_ge (most := most) hm h1
    obtain ⟨M, hM⟩ : ∃ M : Nat, manyOf l.length most = M := ⟨(manyOf l.length most).toNat, by omega⟩
    have g1 : ¬ (r2.2.full = true ∨ 65537 < r2.2.next + (M : Int)) := fun e => by
      rw [hM, if_pos e] at hstep
      rw [hstep] at hend
      cases hend
    rw [hM, Int.toNat_natCast, if_neg g1] at hstep
    have f2 : r2.2.full = false := by
      cases e : r2.2.full with
      | true => exact (g1 (.inl e)).elim
      | false => rfl
    have f1 : r1.2.full = false := by
      cases e : r1.2.full with
      | true =>
        have := cnt_full' (most := most) (f := f) (l := l.drop (l.length / 2)) e
        rw [hr2, f2] at this
        cases this
      | false => rfl
    have bn1 := cnt_next hm f s (l.take (l.length / 2)) hn1 hn2 (by omega) (by omega)
    rw [hr1] at bn1
    have bn2 := cnt_next hm f r1.2 (l.drop (l.length / 2)) (by omega) (by omega) (by omega) (by omega)
    rw [hr2] at bn2
    have v1 := cnt_vars hm f s (l.take (l.length / 2)) (by omega) (by omega) (by omega) hs hn2
    rw [hr1, t1] at v1
    have n1 : r1.2.next = s.next + Vf most f (l.length / 2) := by
      by_cases c : s.next + Vf most f (l.length / 2) ≤ 65537
      · exact (v1.1 c).2
      · rw [v1.2 (by omega)] at f1; cases f1
    have v2 := cnt_vars hm f r1.2 (l.drop (l.length / 2)) (by omega) (by omega) (by omega) f1 (by omega)
    rw [hr2, t2] at v2
    have n2 : r2.2.next = r1.2.next + Vf most f (l.length - l.length / 2) := by
      by_cases c : r1.2.next + Vf most f (l.length - l.length / 2) ≤ 65537
      · exact (v2.1 c).2
      · rw [v2.2 (by omega)] at f2; cases f2
    have i1 := cnt_gd hm f s (l.take (l.length / 2)) (by omega) (by omega) (by omega) hs hn1 hn2 (fun x hx => hl x (List.mem_of_mem_take hx)) hcs (by rw [hr1]; exact f1)
    rw [hr1] at i1
    have i2 := cnt_gd hm f r1.2 (l.drop (l.length / 2)) (by omega) (by omega) (by omega) f1 (by omega) (by omega) (fun x hx => (hl x (List.mem_of_mem_drop hx)).mono i1.1) i1.2.2 (by rw [hr2]; exact f2)
    rw [hr2] at i2
    have hT' : ∀ x, Gd (r2.2.next + M) x → T (wrap64 (-x)) = !(T x) := by rw [hstep] at hT; exact hT
    have L1 := idl_len (T := T) hm f (l.take (l.length / 2)) (by omega) (by omega)
    have L2 := idl_len (T := T) hm f (l.drop (l.length / 2)) (by omega) (by omega)
    rw [t1] at L1
    rw [t2] at L2
    obtain ⟨D1, hD1⟩ : ∃ D1, idl T most f (l.take (l.length / 2)) = D1 := ⟨_, rfl⟩
    obtain ⟨D2, hD2⟩ : ∃ D2, idl T most f (l.drop (l.length / 2)) = D2 := ⟨_, rfl⟩
    have hI : idl T most (f + 1) l = D1 ++ D2 ++ (List.range M).map (fun j => decide (j < l.countP T)) := by
      rw [idl, if_neg h, hD1, hD2, hM, Int.toNat_natCast]
    rw [hD1] at L1
    rw [hD2] at L2
    obtain ⟨j1, u1⟩ := ih s (l.take (l.length / 2)) (by omega) (by omega) (by omega) hs hn1 hn2 (fun x hx => hl x (List.mem_of_mem_take hx)) hcs (by rw [hr1]; exact f1) (by rw [hr1]; exact fun x hx => hT' x (hx.mono (by omega))) hold0
    rw [hr1, hD1] at j1 u1
    have cp := List.countP_le_length (p := T) (l := l.take (l.length / 2))
    have cq := List.countP_le_length (p := T) (l := l.drop (l.length / 2))
    rw [t1] at cp
    rw [t2] at cq
    have hsum : l.countP T = (l.take (l.length / 2)).countP T + (l.drop (l.length / 2)).countP T := by rw [← List.countP_append, List.take_append_drop]
    have mm : ∀ n : Nat, manyOf n most = if most < (n : Int) then most else (n : Int) := fun n => rfl
    have hM' := hM
    rw [mm] at hM'
    -- the parts of the list
    have part : (∀ i, i < (idl T most (f + 1) l).length → T (s.next + (i : Int)) = (idl T most (f + 1) l).getD i false) ↔
        (∀ i, i < D1.length → T (s.next + (i : Int)) = D1.getD i false) ∧ (∀ i, i < D2.length → T (r1.2.next + (i : Int)) = D2.getD i false) ∧ (∀ j, j < M → T (r2.2.next + (j : Int)) = decide (j < l.countP T)) := by
      rw [hI]
      constructor
      · intro hall
        refine ⟨fun i hi => ?_, fun i hi => ?_, fun j hj => ?_⟩
        · have := hall i (by simp only [List.length_append]; omega)
          rw [this, List.append_assoc, getD_app1 hi]
        · have := hall (D1.length + i) (by simp only [List.length_append]; omega)
          rw [show r1.2.next + (i : Int) = s.next + ((D1.length + i : Nat) : Int) from by omega, this, List.append_assoc, getD_app2, getD_app1 hi]
        · have := hall ((D1 ++ D2).length + j) (by simp only [List.length_append, List.length_map, List.length_range]; omega)
          rw [show r2.2.next + (j : Int) = s.next + (((D1 ++ D2).length + j : Nat) : Int) from by rw [List.length_append]; omega, this, getD_app2, getD_rng hj]
      · rintro ⟨p1, p2, p3⟩ i hi
        simp only [List.length_append, List.length_map, List.length_range] at hi
        by_cases c1 : i < D1.length
        · rw [p1 i c1, List.append_assoc, getD_app1 c1]
        · by_cases c2 : i < D1.length + D2.length
          · obtain ⟨q, rfl⟩ : ∃ q, i = D1.length + q := ⟨i - D1.length, by omega⟩
            rw [show s.next + ((D1.length + q : Nat) : Int) = r1.2.next + (q : Int) from by omega, p2 q (by omega), List.append_assoc, getD_app2, getD_app1 (by omega)]
          · obtain ⟨q, rfl⟩ : ∃ q, i = (D1 ++ D2).length + q := ⟨i - (D1 ++ D2).length, by rw [List.length_append]; omega⟩
            have hL : (D1 ++ D2).length = D1.length + D2.length := List.length_append
            rw [show s.next + (((D1 ++ D2).length + q : Nat) : Int) = r2.2.next + (q : Int) from by omega, p3 q (by omega), getD_app2, getD_rng (by omega)]
    have hcsr : (cnt most (f + 1) s l).2.cs = r2.2.cs ++ mergeTo r1.1 r2.1 (outsOf r2.2.next M) M (r1.1.length + 1) := by rw [hstep]
    have hor : (cnt most (f + 1) s l).1 = outsOf r2.2.next M := by rw [hstep]
    have ho := hG.2.1
    rw [hor, hstep] at ho
    have outsCount : (∀ j, j < M → T (r2.2.next + (j : Int)) = decide (j < l.countP T)) ↔ ∀ j, j < M → (T ((outsOf r2.2.next M).getD j 0) = true ↔ j < l.countP T) := by
      constructor
      · intro h4 j hj
        rw [outs_getD hj, h4 j hj, decide_eq_true_iff]
      · intro h4 j hj
        have := h4 j hj
        rw [outs_getD hj] at this
        rw [Bool.eq_iff_iff, this, decide_eq_true_iff]
    have una : (∀ j, j < M → T (r2.2.next + (j : Int)) = decide (j < l.countP T)) → Una T most (cnt most (f + 1) s l).1 l := fun h4 => by
      rw [hor]
      exact ⟨by rw [outsOf_length, hM], fun j hj => outsCount.1 h4 j (by rwa [outsOf_length] at hj)⟩
    refine ⟨?_, fun hall => una (part.1 hall).2.2⟩
    rw [part, hcsr]
    constructor
    · intro hold
      have c2 : ∀ c ∈ r2.2.cs, c.any T = true := fun c hc => hold c (List.mem_append_left _ hc)
      have hu2 := cnt_una (T := T) hm f r1.2 (l.drop (l.length / 2)) (by omega) (by omega) (by omega) f1 (by omega) (by omega) (fun x hx => (hl x (List.mem_of_mem_drop hx)).mono i1.1) i1.2.2 (by rw [hr2]; exact f2)
        (by rw [hr2]; exact fun x hx => hT' x (hx.mono (by omega))) (by rw [hr2]; exact c2)
      obtain ⟨j2, u2⟩ := ih r1.2 (l.drop (l.length / 2)) (by omega) (by omega) (by omega) f1 (by omega) (by omega) (fun x hx => (hl x (List.mem_of_mem_drop hx)).mono i1.1) i1.2.2 (by rw [hr2]; exact f2)
        (by rw [hr2]; exact fun x hx => hT' x (hx.mono (by omega))) hu2.2
      rw [hr2, hD2] at j2 u2
      have hall := cnt_una (T := T) hm (f + 1) s l h1 h2 h3 hs hn1 hn2 hl hcs hend hT (by rw [hcsr]; exact hold)
      have huo := hall.1.2
      rw [hor, outsOf_length] at huo
      exact ⟨j1.1 hu2.2, j2.1 c2, outsCount.2 huo⟩
    · rintro ⟨p1, p2, p3⟩ c hc
      have c1 := j1.2 p1
      obtain ⟨j2, u2⟩ := ih r1.2 (l.drop (l.length / 2)) (by omega) (by omega) (by omega) f1 (by omega) (by omega) (fun x hx => (hl x (List.mem_of_mem_drop hx)).mono i1.1) i1.2.2 (by rw [hr2]; exact f2)
        (by rw [hr2]; exact fun x hx => hT' x (hx.mono (by omega))) c1
      rw [hr2, hD2] at j2 u2
      rcases List.mem_append.1 hc with hc | hc
      · exact j2.2 p2 c hc
      · obtain ⟨ul1, ua⟩ := u1 p1
        obtain ⟨ul2, ub⟩ := u2 p2
        rw [t1, mm] at ul1
        rw [t2, mm] at ul2
        refine merge_holds (T := T) (a := r1.1) (b := r2.1) (o := outsOf r2.2.next M) (M := M) (outsOf_length _ _) ua ub (fun j hj => by rw [← hsum]; exact outsCount.1 p3 j hj) ?_ ?_ ?_ c hc
        · rintro x (hx | hx | hx)
          · exact hT' x ((i1.2.1 x hx).mono (by omega))
          · exact hT' x ((i2.2.1 x hx).mono (by omega))
          · exact hT' x (ho x hx)
        · split at ul1 <;> split at hM' <;> omega
        · split at ul2 <;> split at hM' <;> omega

#print axioms cnt_uniq

end Go.Proofs.Ytpadmbpopjmdjaa.G

namespace Go.Proofs.Ytpadmbpopjmdjaa.G
open Go.RowKit Go.Proofs.YtpadmbpopjmdjaaW.PrintWords Go.Proofs.YtpadmbpopjmdjaaW.PrintLast Go.Proofs.YtpadmbpopjmdjaaW.PrintMore

def total_Total.f (l : List Int) (most next : Int) : Option (List Int × List (List Int) × Int × Int) := if l.length ≤ 40 ∧ wfL l = true then some (totalOf l most next) else none

theorem total_Total.calls (A0 : Option Addr) (c0 : Nat) (l0 : List Int) (a1 : Int) (a2 : Int) (r1 : List Int) (r2 : List (List Int)) (r3 : Int) (r4 : Int) (w : World) (hr0 : Kd.C (Kd.int .i64) w A0 l0.length l0) (hc0 : l0.length ≤ c0) (h : total_Total.f l0 a1 a2 = some (r1, r2, r3, r4)) :
    Calls Try.prog 18 #[.slice A0 l0.length c0, .int .i64 a1, .int .i64 a2] w fun e w' => ∃ v0_ v1_, e = .returned (.tuple #[v0_, v1_, .int .i64 r3, .int .i64 r4]) ∧ Kd.R (Kd.int .i64) 3 w' w.heap.size (fun k_ => (w.heap.size ≤ k_)) v0_ r1 ∧
      Kd.N (Kd.slice 3 (Kd.int .i64)) 22 w' w.heap.size (fun k_ => (w.heap.size ≤ k_) ∧ some k_ ≠ (v0_ : Value).ownBlock) v1_ r2 ∧ Below w.heap.size w w' := by
  unfold total_Total.f at h
  split at h
  · rename_i hc
    injection h with h
    have hh := total_calls A0 c0 l0 a1 a2 w hc.1 hc0 hr0 (wfL_mem hc.2)
    rw [h] at hh
    exact hh
  · cases h

#print axioms total_Total.calls
end Go.Proofs.Ytpadmbpopjmdjaa.G
