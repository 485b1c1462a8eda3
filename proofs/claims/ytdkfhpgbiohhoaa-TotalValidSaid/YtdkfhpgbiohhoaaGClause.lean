/-
  total.Total's closures 'clause' and 'not', and total.at: the walks.
-/
import Derived.Test.YtdkfhpgbiohhoaaGTotalM
import Derived.Test.YtdkfhpgbiohhoaaGTotalS
import Derived.Test.YtdkfhpgbiohhoaaWGuard
import Derived.Outline
import Derived.Deep.DeepMust
import Derived.Deep.LoopGhost
import Derived.WalkKit
namespace Go.Proofs.Ytdkfhpgbiohhoaa.G
open Go.RowKit Go.Proofs.YtdkfhpgbiohhoaaW.PrintWords Go.Proofs.YtdkfhpgbiohhoaaW.PrintLast Go.Proofs.YtdkfhpgbiohhoaaW.PrintMore
attribute [local go_sem] max2_int min2_int max_two min_two max_three min_three max_four min_four

theorem take_flatten {ps : List (List Int)} {i : Nat} (h : i < ps.length) : (ps.take (i + 1)).flatten = (ps.take i).flatten ++ ps.getD i [] := by
  rw [List.take_succ_eq_append_getElem h]
  simp only [List.flatten_append, List.flatten_cons, List.flatten_nil, List.append_nil, List.getD_eq_getElem?_getD, List.getElem?_eq_getElem h, Option.getD_some]

theorem flatten_take_le (ps : List (List Int)) (i : Nat) : (ps.take i).flatten.length ≤ ps.flatten.length := by
  conv => rhs; rw [← List.take_append_drop i ps]
  simp only [List.flatten_append, List.length_append]
  omega

set_option maxHeartbeats 800000 in
theorem clause_calls (t : TB) (A : Option Addr) (c0 : Nat) (ps : List (List Int)) (most next : Int) (full : Bool) (v : Value) (cs : List (List Int)) (w : World) (hst : t.St w most next full v cs)
    (hr : KRows.C w A ps.length ps) (hc : ps.length ≤ c0) (hp : ps.flatten.length ≤ 1000) (hps : ps.length ≤ 1000) (hcs : cs.length < 4000000000000) :
    Calls Try.prog 22 #[.slice A ps.length c0, .pointer (some ⟨t.bc, 0, none⟩)] w fun e w' => e = .returned (.tuple #[]) ∧ ∃ v', t.St w' most next full v' (cs ++ [ps.flatten]) ∧ t.Fr w w' := by
  have HS := Aside0.mk hst
  have HR := Aside0.mk hr
  have HC := Aside0.mk hc
  have HP := Aside0.mk hp
  have HCS := Aside0.mk hcs
  clear hst hr hc hcs
  go_enter Try.func22, Try.ntmps22
  go_wp2
  go_loopg [3, 8] ps.length (fun kq v3 v8 wr => ∃ (i : Nat), i ≤ ps.length ∧ v8 = .int .i64 i ∧ Aside0 (kq + i = ps.length) ∧ Aside0 ((Kd.int .i64).R 3 wr w.heap.size (fun _ => True) v3 (ps.take i).flatten) ∧ Aside0 (Below w.heap.size w wr))
  case atStart => exact ⟨0, by omega, rfl, ⟨by omega⟩, ⟨Kd.R_nil _ _ _ _ _⟩, ⟨Below.refl _ _⟩⟩
  case round =>
    obtain ⟨i, hi, rfl, HN, HL, HB⟩ := hrel
    by_cases hlt : i < ps.length
    · obtain ⟨ad, A1, c1, e0, hcell, hl1, hrow⟩ := at_rows HR.out i hlt
      cases e0
      replace hcell := (HB.out.cell (World.block_lt_of_cell? w _ hcell)).trans hcell
      obtain ⟨p, hpx⟩ : ∃ p, ps.getD i [] = p := ⟨_, rfl⟩
      rw [hpx] at hcell hl1 hrow
      have hf := take_flatten hlt
      rw [hpx] at hf
      have HF := Aside0.mk hf
      have HROW := Aside0.mk (Kd.C_below hrow HB.out)
      clear hpx hrow hf
      have hle := flatten_take_le ps (i + 1)
      rw [HF.out, List.length_append] at hle
      obtain ⟨A3, c3, e3⟩ := Kd.R_slice HL.out
      subst e3
      go_wp2_with (first | ((with_reducible refine gate_dst (N := 14) rfl ?_); refine Kd.R_append_row (Value.int .i64) (0 : Int) (h1 := fun _ => rfl) (w0 := w) w.heap.size rfl _ _ 22 3 (.int .i64 0) 8 rfl Try.underlying22 infoT3 rfl (by decide) _ _ p A1 p.length c1 (fun _ => True) rfl rfl (fun _ _ => trivial) HL.out HROW.out HB.out HB.out.size (by omega) ?_; intro v1 w1 ho hb hg hat; rw [← HF.out] at ho; have HO1 := Aside0.mk ho; have HB1 := Aside0.mk hb; clear ho hb hg hat))
      go_roundg (gk - 1)
      case measure => have := HN.out; omega
      case rel => exact ⟨i + 1, by omega, by go_num, ⟨by have := HN.out; omega⟩, HO1, HB1⟩
    · have hi2 : i = ps.length := by omega
      have h3 := HL.out
      rw [hi2, List.take_length] at h3
      have H3 := Aside0.mk h3
      clear h3 hi2
      obtain ⟨fl, hfl⟩ : ∃ fl, ps.flatten = fl := ⟨_, rfl⟩
      have h3 := H3.out
      rw [hfl] at h3
      have HFL := Aside0.mk hfl
      clear H3 hfl
      obtain ⟨A3, c3, e3⟩ := Kd.R_slice h3
      subst e3
      have hw := HS.out.size
      obtain ⟨inn, hown⟩ := Kd.R_own HS.out.rows
      have HM := Aside0.mk (Kd.R_lower (Kd.R_mono (Kd.R_new h3 hown) (fun k hk => hk.2)) hw)
      have HS1 := Aside0.mk (HS.out.below HB.out)
      clear h3 hown
      obtain ⟨Av, cv, ev⟩ := Kd.R_slice HS.out.rows
      subst ev
      have hcell := blk_cell HS1.out.c 0
      have hfz := blk_frozen HS1.out.c 0
      have hcs := HCS.out
      have hB2 := Aside0.mk (HB.out.mono hw)
      have hB3 := Aside0.mk (Nat.le_trans hw HB.out.size)
      have hlt2 := HS.out.lt.2.2.1
      go_wp2_with (first | ((with_reducible refine gate_dst (N := 19) rfl ?_); go_must (refine Kd.R_append KRows (w0 := w) t.S rfl _ _ 24 22 (.slice none 0 0) 24 rfl Try.underlying24 infoT22 rfl (by decide) (by decide) (Value.slice Av cs.length cv) cs fl [.slice A3 fl.length c3] (fun _ => True) (fun k => some k ≠ (Value.slice Av cs.length cv).ownBlock) rfl rfl ⟨_, rfl, HM.out⟩ (fun k hk => ⟨trivial, hk⟩) (fun _ _ => trivial) HS1.out.rows hB2.out hB3.out (by omega) ?_); intro v1 w1 ho hb hg hat; obtain ⟨A5, c5, e5⟩ := Kd.R_slice ho; rw [List.length_append, List.length_singleton] at e5; rw [e5]; rw [e5] at ho; have hc1 := HS1.out.cAfter hg; have hce := blk_cell hc1 0; have hfr := blk_frozen hc1 0; have HST := Aside0.mk (HS1.out.setC hg ho); have HFR := Aside0.mk ((TB.Fr.of_below HB.out).trans (HS1.out.frC hg (.slice A5 (cs.length + 1) c5))); clear ho hb hg hat hc1 e5))
      go_end0
      exact ⟨rfl, _, by rw [HFL.out]; exact HST.out, HFR.out⟩

theorem C_three {w : World} {g : Nat} {p1 p2 p3 : List Int} {A1 A2 A3 : Option Addr} {c1 c2 c3 : Nat} (hb : w.heap[g]? = some (.cells #[.slice A1 p1.length c1, .slice A2 p2.length c2, .slice A3 p3.length c3] 22 (0, 0)))
    (l1 : p1.length ≤ c1) (l2 : p2.length ≤ c2) (l3 : p3.length ≤ c3) (h1 : (Kd.int .i64).C w A1 p1.length p1) (h2 : (Kd.int .i64).C w A2 p2.length p2) (h3 : (Kd.int .i64).C w A3 p3.length p3) :
    KRows.C w (some ⟨g, 0, none⟩) [p1, p2, p3].length [p1, p2, p3] := by
  refine ⟨rfl, by simp, fun _ => ⟨_, rfl, fun j p hj => ?_⟩⟩
  have hc := fun i => blk_cell hb i
  match j, hj with
  | 0, hj =>
    obtain rfl : p1 = p := by simpa using hj
    refine ⟨[.slice A1 p1.length c1], rfl, ⟨_, _, rfl, l1, h1⟩, fun i u hu => ?_⟩
    obtain ⟨rfl, rfl⟩ : i = 0 ∧ u = .slice A1 p1.length c1 := by cases i <;> simp at hu; exact ⟨rfl, hu.symm⟩
    rw [add_plain]; exact hc 0
  | 1, hj =>
    obtain rfl : p2 = p := by simpa using hj
    refine ⟨[.slice A2 p2.length c2], rfl, ⟨_, _, rfl, l2, h2⟩, fun i u hu => ?_⟩
    obtain ⟨rfl, rfl⟩ : i = 0 ∧ u = .slice A2 p2.length c2 := by cases i <;> simp at hu; exact ⟨rfl, hu.symm⟩
    rw [add_plain]; exact hc 1
  | 2, hj =>
    obtain rfl : p3 = p := by simpa using hj
    refine ⟨[.slice A3 p3.length c3], rfl, ⟨_, _, rfl, l3, h3⟩, fun i u hu => ?_⟩
    obtain ⟨rfl, rfl⟩ : i = 0 ∧ u = .slice A3 p3.length c3 := by cases i <;> simp at hu; exact ⟨rfl, hu.symm⟩
    rw [add_plain]; exact hc 2
  | j + 3, hj => simp at hj

/-- 'clause' of three parts, in the world in which they were laid. -/
theorem clause3_calls (t : TB) (p1 p2 p3 : List Int) (A1 A2 A3 : Option Addr) (c1 c2 c3 : Nat) (most next : Int) (full : Bool) (v : Value) (cs : List (List Int)) (w : World) (hst : t.St w most next full v cs)
    (l1 : p1.length ≤ c1) (l2 : p2.length ≤ c2) (l3 : p3.length ≤ c3) (h1 : t.SC w A1 p1) (h2 : t.SC w A2 p2) (h3 : t.SC w A3 p3) (s1 : p1.length ≤ 1) (s2 : p2.length ≤ 1) (s3 : p3.length ≤ 1) (hcs : cs.length < 4000000000000) :
    Calls Try.prog 22 #[.slice (some ⟨w.heap.size, 0, none⟩) 3 3, .pointer (some ⟨t.bc, 0, none⟩)] (w.alloc (.cells #[.slice A1 p1.length c1, .slice A2 p2.length c2, .slice A3 p3.length c3] 22 (0, 0)))
      fun e w' => e = .returned (.tuple #[]) ∧ ∃ v', t.St w' most next full v' (cs ++ [p1 ++ p2 ++ p3]) ∧ t.Fr w w' := by
  have hb := Below.refl w.heap.size w
  have hba := below_alloc hb (.cells #[.slice A1 p1.length c1, .slice A2 p2.length c2, .slice A3 p3.length c3] 22 (0, 0))
  have hC := C_three (blk_new w (.cells #[.slice A1 p1.length c1, .slice A2 p2.length c2, .slice A3 p3.length c3] 22 (0, 0))) l1 l2 l3 (h1 _ (.of_below hba)) (h2 _ (.of_below hba)) (h3 _ (.of_below hba))
  have h := clause_calls t (some ⟨w.heap.size, 0, none⟩) 3 [p1, p2, p3] most next full v cs _ (hst.below hba) hC (by simp) (by simp; omega) (by simp) hcs
  refine h.mono ?_
  rintro e w' ⟨rfl, v', h1, h2⟩
  exact ⟨rfl, v', by simpa using h1, (TB.Fr.of_below hba).trans h2⟩

#print axioms clause3_calls

end Go.Proofs.Ytdkfhpgbiohhoaa.G
