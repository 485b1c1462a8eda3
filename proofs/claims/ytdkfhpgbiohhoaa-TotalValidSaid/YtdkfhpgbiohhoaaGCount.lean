/-
  total.Total's closure 'count': the walk.
-/
import Derived.Test.YtdkfhpgbiohhoaaGClause
import Derived.Test.YtdkfhpgbiohhoaaGAt
import Derived.Test.YtdkfhpgbiohhoaaGCountS
import Derived.Deep.RegionHeld3
import Derived.StillTailTactics
import Derived.IntWalk
namespace Go.Proofs.Ytdkfhpgbiohhoaa.G
set_option linter.unusedVariables false
set_option linter.unusedSimpArgs false
open Go.RowKit Go.Proofs.YtdkfhpgbiohhoaaW.PrintWords Go.Proofs.YtdkfhpgbiohhoaaW.PrintLast Go.Proofs.YtdkfhpgbiohhoaaW.PrintMore
attribute [local go_sem] max2_int min2_int max_two min_two max_three min_three max_four min_four

def CountPost (t : TB) (most : Int) (r : List Int × TS) (w : World) (e : Ending) (w' : World) : Prop :=
  ∃ A1 c1 v', e = .returned (.slice A1 r.1.length c1) ∧ r.1.length ≤ c1 ∧ t.SC w' A1 r.1 ∧ t.St w' most r.2.next r.2.full v' r.2.cs ∧ t.Fr w w'

def CountSaid (t : TB) (most : Int) (f : Nat) : Prop := ∀ (A : Option Addr) (c0 : Nat) (l : List Int) (s : TS) (v : Value) (w : World), 1 ≤ l.length → l.length ≤ f → l.length ≤ 40 → l.length ≤ c0 → 1 ≤ s.next → s.next ≤ 65537 → s.cs.length + 4000 * l.length ≤ 1000000 →
    t.St w most s.next s.full v s.cs → t.SC w A l →
    Calls Try.prog 24 #[.slice A l.length c0, .pointer (some ⟨t.bf, 0, none⟩), .pointer (some ⟨t.bcnt, 0, none⟩), .pointer (some ⟨t.bm, 0, none⟩), .pointer (some ⟨t.bn, 0, none⟩), .pointer (some ⟨t.bcl, 0, none⟩), .pointer (some ⟨t.bnot, 0, none⟩)] w (CountPost t most (cnt most f s l) w)

set_option maxHeartbeats 400000 in
theorem count_stop (t : TB) (most : Int) (f : Nat) (A : Option Addr) (c0 : Nat) (l : List Int) (s : TS) (v : Value) (w : World) (hc : l.length ≤ c0) (hst : t.St w most s.next s.full v s.cs) (hl : t.SC w A l) (h : l.length = 1 ∨ s.full = true) :
    Calls Try.prog 24 #[.slice A l.length c0, .pointer (some ⟨t.bf, 0, none⟩), .pointer (some ⟨t.bcnt, 0, none⟩), .pointer (some ⟨t.bm, 0, none⟩), .pointer (some ⟨t.bn, 0, none⟩), .pointer (some ⟨t.bcl, 0, none⟩), .pointer (some ⟨t.bnot, 0, none⟩)] w (CountPost t most (cnt most (f + 1) s l) w) := by
  rw [cnt_stop h]
  have HS := Aside0.mk hst
  have HL := Aside0.mk hl
  have hcf := blk_cell hst.f 0
  clear hst hl
  by_cases h1 : l.length = 1
  · have h2 : ((l.length : Int) == 1) = true := by rw [h1]; rfl
    have H1 := Aside0.mk h1
    clear h1 h
    go_enter Try.func24, Try.ntmps24
    go_wp2
    go_ret
    exact ⟨A, c0, v, rfl, hc, HL.out, HS.out, .refl _ _⟩
  · have h3 := h.resolve_left h1
    have h2 : ((l.length : Int) == 1) = false := by simpa using fun e : (l.length : Int) = 1 => h1 (by omega)
    simp only [h3] at hcf
    have HF := Aside0.mk h3
    clear h1 h h3
    go_enter Try.func24, Try.ntmps24
    go_wp2
    go_ret
    exact ⟨A, c0, v, rfl, hc, HL.out, HS.out, .refl _ _⟩

set_option maxRecDepth 100000 in
set_option maxHeartbeats 4000000 in
theorem count_step (t : TB) (most : Int) (hm1 : 1 ≤ most) (hm2 : most ≤ 1099511627776) (f : Nat) (ih : CountSaid t most f) (A : Option Addr) (c0 : Nat) (l : List Int) (s : TS) (v : Value) (w : World) (h2 : 2 ≤ l.length) (hf : l.length ≤ f + 1) (h40 : l.length ≤ 40) (hc : l.length ≤ c0)
    (hn1 : 1 ≤ s.next) (hn2 : s.next ≤ 65537) (hcs : s.cs.length + 4000 * l.length ≤ 1000000) (hfull : s.full = false) (hst : t.St w most s.next s.full v s.cs) (hl : t.SC w A l) :
    Calls Try.prog 24 #[.slice A l.length c0, .pointer (some ⟨t.bf, 0, none⟩), .pointer (some ⟨t.bcnt, 0, none⟩), .pointer (some ⟨t.bm, 0, none⟩), .pointer (some ⟨t.bn, 0, none⟩), .pointer (some ⟨t.bcl, 0, none⟩), .pointer (some ⟨t.bnot, 0, none⟩)] w (CountPost t most (cnt most (f + 1) s l) w) := by
  have HS := Aside0.mk hst
  have HL := Aside0.mk hl
  have hcf := blk_cell hst.f 0
  rw [hfull] at hcf
  have HFU := Aside0.mk hfull
  clear hst hl hfull
  have hne1 : ((l.length : Int) == 1) = false := by simpa using fun e : (l.length : Int) = 1 => by omega
  obtain ⟨h, hh⟩ : ∃ h, l.length / 2 = h := ⟨_, rfl⟩
  have hq : (l.length : Int) / 2 = (h : Int) := by omega
  have hb1 : 1 ≤ h := by omega
  have hb2 : h + h ≤ l.length := by omega
  have hb3 : l.length ≤ h + h + 1 := by omega
  have HH := Aside0.mk hh
  clear hh
  obtain ⟨i0, hi, hz0, hz1, hz2⟩ := info_parts infoT3
  have hrun1 := cut_to (P := Try.prog) 22 3 .i64 Try.underlying22 hi A l.length c0 (h : Int) (by omega) (by omega) hc
  have hrun2 := cut_from (P := Try.prog) 22 3 .i64 Try.underlying22 hi 1 hz1 A l.length c0 (h : Int) (by omega) (by omega)
  rw [Int.toNat_natCast] at hrun1 hrun2
  obtain ⟨A2, hA2⟩ : ∃ A2, (if c0 = h then A else A.map (·.add (h * 1))) = A2 := ⟨_, rfl⟩
  rw [hA2] at hrun2
  have hcnt : ∀ W v' nx fu cs', t.St W most nx fu v' cs' → W.cell? ⟨t.bcnt, 0, none⟩ = _ := fun W v' nx fu cs' hS => blk_cell hS.cnt 0
  have HL1 := Aside0.mk (show t.SC w A (l.take h) from fun W hW => Kd.C_take (HL.out W hW) (by omega))
  have HL2 := Aside0.mk (show t.SC w A2 (l.drop h) from fun W hW => by rw [← hA2]; exact Kd.C_drop (HL.out W hW) (by omega) hc)
  have l1 : (l.take h).length = h := by rw [List.length_take]; omega
  have l2 : (l.drop h).length = l.length - h := List.length_drop
  have HI1 := Aside0.mk (fun (W : World) (hf1 : t.Fr w W) (hS : t.St W most s.next s.full v s.cs) => ih A c0 (l.take h) s v W (by omega) (by omega) (by omega) (by omega) hn1 hn2 (by omega) hS (HL1.out.next hf1))
  rw [l1] at HI1
  obtain ⟨r1, hr1⟩ : ∃ r1, cnt most f s (l.take h) = r1 := ⟨_, rfl⟩
  have bn1 := cnt_next hm1 f s (l.take h) hn1 hn2 (by omega) (by omega)
  have bc1 := cnt_cs (most := most) f s (l.take h) (by omega) (by omega) (by omega)
  have bl1 := cnt_len (most := most) f s (l.take h)
  rw [hr1] at HI1 bn1 bc1 bl1
  rw [l1] at bc1 bl1
  have HI2 := Aside0.mk (fun (v1 : Value) (W : World) (hf1 : t.Fr w W) (hS : t.St W most r1.2.next r1.2.full v1 r1.2.cs) => ih A2 (c0 - h) (l.drop h) r1.2 v1 W (by omega) (by omega) (by omega) (by omega) (by omega) (by omega) (by omega) hS (HL2.out.next hf1))
  rw [l2] at HI2
  obtain ⟨r2, hr2⟩ : ∃ r2, cnt most f r1.2 (l.drop h) = r2 := ⟨_, rfl⟩
  have bn2 := cnt_next hm1 f r1.2 (l.drop h) (by omega) (by omega) (by omega) (by omega)
  have bc2 := cnt_cs (most := most) f r1.2 (l.drop h) (by omega) (by omega) (by omega)
  have bl2 := cnt_len (most := most) f r1.2 (l.drop h)
  rw [hr2] at HI2 bn2 bc2 bl2
  rw [l2] at bc2 bl2
  obtain ⟨R, hR⟩ : ∃ R, cnt most (f + 1) s l = R := ⟨_, rfl⟩
  rw [hR]
  have hno : ¬ (l.length = 1 ∨ s.full = true) := by
    rintro (e | e)
    · omega
    · rw [HFU.out] at e
      cases e
  have hstep := cnt_next_step (r1 := r1) (r2 := r2) hno (by rw [HH.out]; exact hr1) (by rw [HH.out]; exact hr2)
  rw [hR] at hstep
  have HR := Aside0.mk hstep
  clear hR hr1 hr2 hA2 l1 l2 hi hz0 hz1 hz2 hstep hno
  have hce := blk_cell HS.out.cnt 0
  have hmge := manyOf_ge hm1 (show 1 ≤ l.length by omega)
  have hmle := manyOf_le l.length most
  obtain ⟨M, hM⟩ : ∃ M : Nat, manyOf l.length most = M := ⟨(manyOf l.length most).toNat, by omega⟩
  rw [hM] at hmge hmle HR
  have hmin : (if most < (l.length : Int) then most else (l.length : Int)) = (M : Int) := hM
  clear hM
  obtain ⟨fu, hfu⟩ : ∃ fu, r2.2.full = fu := ⟨_, rfl⟩
  have HFU2 := Aside0.mk hfu
  rw [hfu] at HR
  clear hfu
  go_enter Try.func24, Try.ntmps24
  go_wp2
  go_still_tail 4, (by kernel_rfl)
  go_wp2_with ((go_at_call 24; refine (HI1.out _ (TB.Fr.refl t w).drew HS.out.drew).mono ?_; rintro e w1 ⟨A3, c3, v3, rfl, hc3, hsc3, hst3, hfr3⟩; have HC3 := Aside0.mk hc3; have HSC3 := Aside0.mk hsc3; have HS3 := Aside0.mk hst3; have HF3 := Aside0.mk ((TB.Fr.refl t w).drew.trans hfr3); have hce3 := blk_cell HS3.out.cnt 0; clear hc3 hsc3 hst3 hfr3))
  cases fu with
  | true =>
    rw [if_pos (.inl rfl)] at HR
    have HRR := Aside0.mk HR.out
    go_still_tail 4, (by kernel_rfl)
    go_wp2_with ((go_at_call 24; refine (HI2.out _ _ HF3.out.drew HS3.out.drew).mono ?_; rintro e w2 ⟨A4, c4, v4, rfl, hc4, hsc4, hst4, hfr4⟩; have HC4 := Aside0.mk hc4; have HSC4 := Aside0.mk hsc4; have HS4 := Aside0.mk hst4; have HF4 := Aside0.mk (HF3.out.drew.trans hfr4); have HSD4 := Aside0.mk ((HSC3.out.next (TB.Fr.refl t w1).drew).next hfr4); have hcm4 := blk_cell HS4.out.m 0; have hcn4 := blk_cell HS4.out.n 0; have hcf4 := blk_cell HS4.out.f 0; have hff4 := blk_frozen HS4.out.f 0; rw [HFU2.out] at hcf4; clear hc4 hsc4 hst4 hfr4))
    go_ret
    rw [HRR.out]
    exact ⟨none, 0, v4, rfl, Nat.le_refl _, fun W _ => Kd.C_nil _ _, HS4.out.setF true, HF4.out.trans (HS4.out.frF _)⟩
  | false =>
    by_cases hgt : 65537 < r2.2.next + M
    · rw [if_pos (.inr hgt)] at HR
      have HRR := Aside0.mk HR.out
      go_still_tail 4, (by kernel_rfl)
      go_wp2_with ((go_at_call 24; refine (HI2.out _ _ HF3.out.drew HS3.out.drew).mono ?_; rintro e w2 ⟨A4, c4, v4, rfl, hc4, hsc4, hst4, hfr4⟩; have HC4 := Aside0.mk hc4; have HSC4 := Aside0.mk hsc4; have HS4 := Aside0.mk hst4; have HF4 := Aside0.mk (HF3.out.drew.trans hfr4); have HSD4 := Aside0.mk ((HSC3.out.next (TB.Fr.refl t w1).drew).next hfr4); have hcm4 := blk_cell HS4.out.m 0; have hcn4 := blk_cell HS4.out.n 0; have hcf4 := blk_cell HS4.out.f 0; have hff4 := blk_frozen HS4.out.f 0; rw [HFU2.out] at hcf4; clear hc4 hsc4 hst4 hfr4))
      go_ret
      rw [HRR.out]
      exact ⟨none, 0, v4, rfl, Nat.le_refl _, fun W _ => Kd.C_nil _ _, HS4.out.setF true, HF4.out.trans (HS4.out.frF _)⟩
    · rw [if_neg (by simp [hgt])] at HR
      have hgtd : decide (65537 < r2.2.next + (M : Int)) = false := decide_eq_false hgt
      have HRR := Aside0.mk HR.out
      clear HR
      go_still_tail 4, (by kernel_rfl)
      go_wp2_with (first | (go_at_call 24; refine (HI2.out _ _ HF3.out.drew HS3.out.drew).mono ?_; rintro e w2 ⟨A4, c4, v4, rfl, hc4, hsc4, hst4, hfr4⟩; have HC4 := Aside0.mk hc4; have HSC4 := Aside0.mk hsc4; have HS4 := Aside0.mk hst4; have HF4 := Aside0.mk (HF3.out.drew.trans hfr4); have HSD4 := Aside0.mk ((HSC3.out.next (TB.Fr.refl t w1).drew).next hfr4); have hcm4 := blk_cell HS4.out.m 0; have hcn4 := blk_cell HS4.out.n 0; have hcf4 := blk_cell HS4.out.f 0; have hff4 := blk_frozen HS4.out.f 0; rw [HFU2.out] at hcf4; clear hc4 hsc4 hst4 hfr4) | ((with_reducible refine gate_store (t := 4) (p := 1) rfl ?_); go_must (refine store_event (t := 4) (p := 1) (v := ?vo1) (w1 := (w2.setCell ⟨t.bf, 0, none⟩ (.bool false))) ?hg ?ho ?hn ?hr ?_); (case ho => rfl); (case hg => rfl); (case hn => rfl); go_must (case hr => first | (go_simp; done) | (go_simp; rfl)); intro w3 hw; have HS5 := Aside0.mk (show t.St w3 most r2.2.next false v4 r2.2.cs from by rw [hw]; exact HS4.out.setF false); have HF5 := Aside0.mk (show t.Fr w w3 from by rw [hw]; exact HF4.out.trans (HS4.out.frF _)); have HSC5 := Aside0.mk (show t.SC w3 A4 r2.1 from by rw [hw]; exact HSC4.out.next (HS4.out.frF _)); have HSD5 := Aside0.mk (show t.SC w3 A3 r1.1 from by rw [hw]; exact HSD4.out.next (HS4.out.frF _)); have hcf5 := blk_cell HS5.out.f 0; clear hw hcf4 hff4 hcm4 hcn4) | ((with_reducible refine gate_dst (N := 52) rfl ?_); refine Kd.R_make (Kd.int .i64) (w0 := w3) t.S 3 rfl (N := 52) rfl 22 _ _ rfl (M : Int) rfl rfl Try.underlying22 (.int .i64 0) 8 infoT3 rfl (by decide) (by decide) 0 (ok := fun _ => True) (okp := fun _ => True) rfl (fun _ hk => hk) trivial (by omega) (by rw [Int.toNat_natCast]; omega) (Below.refl _ _) HS5.out.size ?_; intro v5 w5 ho hb hg hnew; rw [Int.toNat_natCast, ← fillTo_zero r2.2.next] at ho; have HB5 := Aside0.mk ((Below.refl w3.heap.size w3).grown hg (Nat.le_refl _) (fun k hk => by cases hk)); obtain ⟨gq, eg, hge⟩ := hnew; obtain ⟨g, cap, e5, _, _, _⟩ := Kd.R_form ho (by rw [fillTo_len]; omega); rw [fillTo_len] at e5; rw [e5] at eg ho; rw [e5]; have HG := Aside0.mk (show w3.heap.size ≤ g from by simp [Value.ownBlock] at eg; omega); have HO5 := Aside0.mk ho; clear e5 eg hge ho hb hg))
      have hnx := bn2.2
      have hnx0 : 1 ≤ r2.2.next := by omega
      obtain ⟨nx, hnxe⟩ : ∃ nx, r2.2.next = nx := ⟨_, rfl⟩
      rw [hnxe] at HRR HS5 HO5 hnx hnx0 hgt
      clear hgtd hcf5 hce hce3 hcf hrun1 hrun2 hcnt hmin hnxe bn1 bn2
      have HM := Aside0.mk hgt
      clear hgt
      go_loopg [55] M (fun kq v55 wr => ∃ i : Nat, i ≤ M ∧ v55 = .int .i64 i ∧ Aside0 (kq + i = M) ∧ Aside0 ((Kd.int .i64).R 3 wr t.S (fun _ => True) (.slice (some ⟨g, 0, none⟩) M cap) (fillTo nx M i)) ∧ Aside0 (Below w3.heap.size (w3.setCell ⟨t.bn, 0, none⟩ (.int .i64 (nx + i))) wr))
      case atStart => exact ⟨0, by omega, rfl, ⟨by omega⟩, HO5, ⟨by rw [show nx + ((0 : Nat) : Int) = nx from by omega]; exact (below_same HS5.out.n _).trans HB5.out⟩⟩
      case round =>
        obtain ⟨i, hi, rfl, HN, HO, HB⟩ := hrel
        have hnS := HS5.out.lt.2.1
        have hsz := HS5.out.size
        have HS := Aside0.mk ((HS5.out.setN (nx + i)).below (HB.out.mono (by simp [World.setCell])))
        by_cases hlt : i < M
        · have hcn := blk_cell HS.out.n 0
          have HP := Aside0.mk (Kd.R_putg HO.out (i : Int) (nx + i))
          obtain ⟨hx1, hx2⟩ := Kd.R_celln (0 : Int) HO.out (i : Int) (by omega) (by omega)
          rw [Int.toNat_natCast] at hx1 hx2
          go_wp2_with (first | ((with_reducible refine gate_store (t := 3) (p := 61) rfl ?_); refine store_event (t := 3) (p := 61) (v := ?vo2) (w1 := (wr.setCell ⟨g, i, none⟩ (.int .i64 (nx + i)))) ?hg ?ho ?hn ?hr ?_; (case ho => rfl); (case hg => rfl); (case hn => rfl); go_must (case hr => first | (go_simp; done) | (go_simp; rfl)); intro w6 hw; have HO6 := Aside0.mk (show (Kd.int .i64).R 3 w6 t.S (fun _ => True) (.slice (some ⟨g, 0, none⟩) M cap) (fillTo nx M (i + 1)) from by rw [hw, ← fillTo_set]; exact HP.out.1); have HB6 := Aside0.mk (show Below w3.heap.size (w3.setCell ⟨t.bn, 0, none⟩ (.int .i64 (nx + i))) w6 from by rw [hw]; exact HB.out.setCell HG.out _); have HS6 := Aside0.mk ((HS5.out.setN (nx + i)).below (HB6.out.mono (by simp [World.setCell]))); have hcn6 := blk_cell HS6.out.n 0; have hfn6 := blk_frozen HS6.out.n 0; clear hw) | ((with_reducible refine gate_store (t := 3) (p := 4) rfl ?_); refine store_event (t := 3) (p := 4) (v := ?vo3) (w1 := (w6.setCell ⟨t.bn, 0, none⟩ (.int .i64 (nx + i + 1)))) ?hg ?ho ?hn ?hr ?_; (case ho => rfl); (case hg => rfl); (case hn => rfl); go_must (case hr => first | (go_simp; done) | (go_simp; rfl)); intro w7 hw; have HO7 := Aside0.mk (show (Kd.int .i64).R 3 w7 t.S (fun _ => True) (.slice (some ⟨g, 0, none⟩) M cap) (fillTo nx M (i + 1)) from by rw [hw]; exact Kd.R_mono (Kd.R_far (Kd.R_bound HO6.out) (fun k hk => by have := hk.2.1; show k ≠ t.bn; omega) _) (fun _ _ => trivial)); have HB7 := Aside0.mk (show Below w3.heap.size (w3.setCell ⟨t.bn, 0, none⟩ (.int .i64 (nx + ((i + 1 : Nat) : Int)))) w7 from by rw [hw, show nx + ((i + 1 : Nat) : Int) = nx + i + 1 from by omega]; exact below_both HS5.out.n HB6.out (by omega)); clear hw))
          go_roundg (gk - 1)
          case measure => have := HN.out; omega
          case rel => exact ⟨i + 1, by omega, by go_num, ⟨by have := HN.out; omega⟩, HO7, HB7⟩
        · have hi2 : i = M := by omega
          have hO := HO.out
          have hS := HS.out
          rw [hi2] at hS hO
          rw [fillTo_all] at hO
          go_wp2
          obtain ⟨wo, rfl⟩ : ∃ wo : World, wo = wr := ⟨_, rfl⟩
          have hB := HB.out
          rw [hi2] at hB
          have hszM : (w3.setCell ⟨t.bn, 0, none⟩ (.int .i64 (nx + M))).heap.size ≤ w3.heap.size := by simp [World.setCell]
          have hfw := (HS5.out.frN (.int .i64 (nx + M))).trans (.of_below (hB.mono hszM))
          have HFo := Aside0.mk (HF5.out.trans hfw)
          have HSCa := Aside0.mk (HSD5.out.next hfw)
          have HSCb := Aside0.mk (HSC5.out.next hfw)
          obtain ⟨o, ho⟩ : ∃ o, outsOf nx M = o := ⟨_, rfl⟩
          have hol : o.length = M := by rw [← ho, outsOf_length]
          rw [ho] at hO
          rw [Int.toNat_natCast, ho] at HRR
          obtain ⟨Ao, co, eo, hco, hSCo⟩ := TB.SC.made hO ⟨hS.lt.2.1, hS.lt.2.2.1, hS.lt.2.2.2.2.2.1⟩
          rw [hol] at eo hco
          have HOL := Aside0.mk hol
          have HCO := Aside0.mk hco
          have HSCo := Aside0.mk hSCo
          have HSo := Aside0.mk hS
          injection eo with eo1 _ eo3
          subst eo1; subst eo3
          clear hB hszM hO hS hfw ho hol HO HB HS HS5 HB5 HO5 HSC5 HSD5 hSCo hco hi2 HN HG
          obtain ⟨ca, hca⟩ : ∃ ca, r1.1 = ca := ⟨_, rfl⟩
          obtain ⟨cb, hcb⟩ : ∃ cb, r2.1 = cb := ⟨_, rfl⟩
          obtain ⟨cs0, hcs0⟩ : ∃ cs0, r2.2.cs = cs0 := ⟨_, rfl⟩
          rw [hca] at HRR HC3 HSCa bl1
          rw [hcb] at HRR HC4 HSCb bl2
          rw [hcs0] at HRR HSo bc2
          rw [hca, hcb]
          clear hca hcb hcs0
          have hcsb : cs0.length + 2 * (41 * 41) ≤ 1100000 := by omega
          have hla : ca.length ≤ 40 := by omega
          have hlb : cb.length ≤ 40 := by omega
          have hMl : M ≤ 40 := by omega
          have hM1 : 1 ≤ M := by omega
          clear bl1 bl2 bc1 bc2 hcs HI1 HI2 HL1 HL2 HS HL HS3 HF3 HSC3 HS4 HF4 HSC4 HSD4 HF5 hb1 hb2 hb3 hmge hmle
          go_loopg [68] (ca.length + 1) (fun kq v68 wx => ∃ (i : Nat) (v : Value), i ≤ ca.length + 1 ∧ v68 = .int .i64 i ∧ Aside0 (kq + i = ca.length + 1) ∧ Aside0 (t.St wx most (nx + M) false v (cs0 ++ mergeTo ca cb o M i)) ∧ Aside0 (t.Fr wo wx))
          case atStart => exact ⟨0, v4, by omega, rfl, ⟨by omega⟩, ⟨by rw [mergeTo_zero, List.append_nil]; exact HSo.out⟩, ⟨.refl _ _⟩⟩
          case round =>
            obtain ⟨i, v6, hi6, rfl, HN6, HS6, HF6⟩ := hrel
            obtain ⟨g6, rfl⟩ : ∃ g6 : Nat, g6 = gk := ⟨_, rfl⟩
            by_cases hlt6 : i < ca.length + 1
            · go_wp2
              obtain ⟨wi, rfl⟩ : ∃ wi : World, wi = wr := ⟨_, rfl⟩
              go_loopg [74] (cb.length + 1) (fun kq v74 wx => ∃ (k : Nat) (v : Value), k ≤ cb.length + 1 ∧ v74 = .int .i64 k ∧ Aside0 (kq + k = cb.length + 1) ∧ Aside0 (t.St wx most (nx + M) false v (cs0 ++ mergeTo ca cb o M i ++ rowTo ca cb o M i k)) ∧ Aside0 (t.Fr wo wx))
              case atStart => exact ⟨0, v6, by omega, rfl, ⟨by omega⟩, ⟨by rw [rowTo_zero, List.append_nil]; exact HS6.out⟩, HF6⟩
              case round =>
                obtain ⟨k, v7, hk7, rfl, HN7, HS7, HF7⟩ := hrel
                obtain ⟨wk, rfl⟩ : ∃ wk : World, wk = wr := ⟨_, rfl⟩
                by_cases hlt7 : k < cb.length + 1
                · have hcl := blk_cell HS7.out.cl 0
                  have hnt := blk_cell HS7.out.nt 0
                  have HA7 := Aside0.mk (HSCa.out.next HF7.out)
                  have HB7 := Aside0.mk (HSCb.out.next HF7.out)
                  have HO7 := Aside0.mk (HSCo.out.next HF7.out)
                  by_cases t0 : 0 < i + k
                  · by_cases t1 : i + k < M
                    · have t2 : i + k ≤ M := by omega
                      obtain ⟨p1, hp1⟩ : ∃ p1, atL ca ((i : Int) - 1) = p1 := ⟨_, rfl⟩
                      obtain ⟨p2, hp2⟩ : ∃ p2, atL cb ((k : Int) - 1) = p2 := ⟨_, rfl⟩
                      obtain ⟨p3, hp3⟩ : ∃ p3, atL o ((i : Int) + k - 1) = p3 := ⟨_, rfl⟩
                      obtain ⟨q1, hq1⟩ : ∃ q1, notL p1 = q1 := ⟨_, rfl⟩
                      obtain ⟨q2, hq2⟩ : ∃ q2, notL p2 = q2 := ⟨_, rfl⟩
                      have HT1 := Aside0.mk (fun W => at_calls A3 c3 ca ((i : Int) - 1) W HC3.out (by omega))
                      have HT2 := Aside0.mk (fun W => at_calls A4 c4 cb ((k : Int) - 1) W HC4.out (by omega))
                      have HT3 := Aside0.mk (fun W => at_calls (some ⟨g, 0, none⟩) cap o ((i : Int) + k - 1) W (by rw [HOL.out]; exact HCO.out) (by omega))
                      have HU1 := Aside0.mk (fun A c W => not_calls A c p1 W)
                      have HU2 := Aside0.mk (fun A c W => not_calls A c p2 W)
                      have HL1 := Aside0.mk (show q1.length ≤ 1 ∧ q2.length ≤ 1 ∧ p3.length ≤ 1 from ⟨by rw [← hq1]; exact notL_len _, by rw [← hq2]; exact notL_len _, by rw [← hp3]; exact atL_len _ _⟩)
                      have HUP := Aside0.mk (show q1 ++ q2 ++ p3 = upC ca cb o i k from by rw [← hq1, ← hq2, ← hp1, ← hp2, ← hp3]; rfl)
                      rw [hp1] at HT1
                      rw [hp2] at HT2
                      rw [hp3, HOL.out] at HT3
                      rw [hq1] at HU1
                      rw [hq2] at HU2
                      clear hp1 hp2 hp3 hq1 hq2
                      obtain ⟨p4, hp4⟩ : ∃ p4, atL ca (i : Int) = p4 := ⟨_, rfl⟩
                      obtain ⟨p5, hp5⟩ : ∃ p5, atL cb (k : Int) = p5 := ⟨_, rfl⟩
                      obtain ⟨p6, hp6⟩ : ∃ p6, atL o ((i : Int) + k) = p6 := ⟨_, rfl⟩
                      obtain ⟨q6, hq6⟩ : ∃ q6, notL p6 = q6 := ⟨_, rfl⟩
                      have HT4 := Aside0.mk (fun W => at_calls A3 c3 ca (i : Int) W HC3.out (by omega))
                      have HT5 := Aside0.mk (fun W => at_calls A4 c4 cb (k : Int) W HC4.out (by omega))
                      have HT6 := Aside0.mk (fun W => at_calls (some ⟨g, 0, none⟩) cap o ((i : Int) + k) W (by rw [HOL.out]; exact HCO.out) (by omega))
                      have HU6 := Aside0.mk (fun A c W => not_calls A c p6 W)
                      have HL4 := Aside0.mk (show p4.length ≤ 1 ∧ p5.length ≤ 1 ∧ q6.length ≤ 1 from ⟨by rw [← hp4]; exact atL_len _ _, by rw [← hp5]; exact atL_len _ _, by rw [← hq6]; exact notL_len _⟩)
                      have HDN := Aside0.mk (show p4 ++ p5 ++ q6 = downC ca cb o i k from by rw [← hq6, ← hp4, ← hp5, ← hp6]; rfl)
                      rw [hp4] at HT4
                      rw [hp5] at HT5
                      rw [hp6, HOL.out] at HT6
                      rw [hq6] at HU6
                      clear hp4 hp5 hp6 hq6
                      have hlen7_ : (cs0 ++ mergeTo ca cb o M i ++ rowTo ca cb o M i k).length < 4000000000000 := by
                        have e1 := mergeTo_len ca cb o M i
                        have e2 := rowTo_len ca cb o M i k
                        have e3 : 2 * (cb.length + 1) * i ≤ 2 * 41 * 41 := Nat.mul_le_mul (by omega) (by omega)
                        simp only [List.length_append, List.length_cons, List.length_nil]
                        omega
                      have hlen7 := Aside0.mk hlen7_
                      clear hlen7_
                      have hlen8_ : (cs0 ++ mergeTo ca cb o M i ++ rowTo ca cb o M i k ++ [upC ca cb o i k]).length < 4000000000000 := by
                        have e1 := mergeTo_len ca cb o M i
                        have e2 := rowTo_len ca cb o M i k
                        have e3 : 2 * (cb.length + 1) * i ≤ 2 * 41 * 41 := Nat.mul_le_mul (by omega) (by omega)
                        simp only [List.length_append, List.length_cons, List.length_nil]
                        omega
                      have hlen8 := Aside0.mk hlen8_
                      clear hlen8_
                      go_wp2
                      have hS7 : t.S ≤ wk.drew.heap.size := HS7.out.size
                      have HW1 := Aside0.mk (TB.Fr.refl t wk).drew
                      have HS8 := Aside0.mk HS7.out.drew
                      have hw1 : IntKind.i64.wrap ((i : Int) - 1) = (i : Int) - 1 := IntWalk.i64_in _ (by omega)
                      have hw2 : IntKind.i64.wrap ((k : Int) - 1) = (k : Int) - 1 := IntWalk.i64_in _ (by omega)
                      have hw3 : IntKind.i64.wrap ((i : Int) + (k : Int) - 1) = (i : Int) + (k : Int) - 1 := IntWalk.i64_in _ (by omega)
                      have d1 : wk.drew.cell? ⟨t.bcl, 0, none⟩ = some (.func (.func 22) #[] #[.pointer (some ⟨t.bc, 0, none⟩)]) := hcl
                      have d2 : wk.drew.cell? ⟨t.bnot, 0, none⟩ = some (.func (.func 23) #[] #[]) := hnt
                      go_region_held3 (fun W => W.cell? ⟨t.bcl, 0, none⟩ = some (.func (.func 22) #[] #[.pointer (some ⟨t.bc, 0, none⟩)]) ∧ W.cell? ⟨t.bnot, 0, none⟩ = some (.func (.func 23) #[] #[])) (first | exact ⟨d1, d2⟩ | exact ⟨pw_cell_below (below_alloc (Below.refl _ _) _) (by assumption), pw_cell_below (below_alloc (Below.refl _ _) _) (by assumption)⟩ | exact ⟨(by assumption), (by assumption)⟩) (first | (go_at_call_of 25 (Value.slice A3 ca.length c3); refine (HT1.out _).mono ?_; rintro e w' ⟨A5, c5, rfl, rfl, hc5, hC5⟩; have HP1 := Aside0.mk (show t.SC wk A5 p1 from fun W hW => hC5 W (HA7.out W hW)); clear hc5 hC5) | (go_at_call_of 25 (Value.slice A4 cb.length c4); refine (HT2.out _).mono ?_; rintro e w' ⟨A6, c6, rfl, rfl, hc6, hC6⟩; have HP2 := Aside0.mk (show t.SC wk A6 p2 from fun W hW => hC6 W (HB7.out W hW)); clear hc6 hC6) | (go_at_call_of 25 (Value.slice (some ⟨g, 0, none⟩) M cap); refine (HT3.out _).mono ?_; rintro e w' ⟨A11, c11, rfl, rfl, hc11, hC11⟩; have HP3 := Aside0.mk (show t.SC w10 A11 p3 from fun W hW => hC11 W (by have h_ := (HO7.out.next HW10.out) W hW; rw [HOL.out] at h_; exact h_)); have HQ3 := Aside0.mk hc11; clear hc11 hC11) | (go_at_call_of 23 (Value.slice A5 p1.length c5); refine (HU1.out _ _ _ (HP1.out _ HW1.out)).mono ?_; rintro e w8 ⟨v8, rfl, hR8, hB8⟩; have HS9 := Aside0.mk (HS8.out.below hB8); have HW8 := Aside0.mk (HW1.out.trans (.of_below hB8)); obtain ⟨A8, c8, e8, hc8, hs8⟩ := TB.SC.made (Kd.R_lower hR8 hS7) ⟨HS9.out.lt.2.1, HS9.out.lt.2.2.1, HS9.out.lt.2.2.2.2.2.1⟩; rw [e8]; have HQ1 := Aside0.mk hc8; have HR1 := Aside0.mk hs8; have d3 := blk_cell HS9.out.cl 0; have d4 := blk_cell HS9.out.nt 0; have hS8 := HS9.out.size; clear e8 hc8 hs8 hR8 hB8) | (go_at_call_of 23 (Value.slice A6 p2.length c6); refine (HU2.out _ _ _ (HP2.out _ HW8.out)).mono ?_; rintro e w10 ⟨v10, rfl, hR10, hB10⟩; have HS10 := Aside0.mk (HS9.out.below hB10); have HW10 := Aside0.mk (HW8.out.trans (.of_below hB10)); obtain ⟨A10, c10, e10, hc10, hs10⟩ := TB.SC.made (Kd.R_lower hR10 hS8) ⟨HS9.out.lt.2.1, HS9.out.lt.2.2.1, HS9.out.lt.2.2.2.2.2.1⟩; rw [e10]; have HQ2 := Aside0.mk hc10; have HR2 := Aside0.mk hs10; have HR1b := Aside0.mk (HR1.out.next (.of_below hB10)); have d5 := blk_cell HS10.out.cl 0; have d6 := blk_cell HS10.out.nt 0; clear e10 hc10 hs10 hR10 hB10) | (go_at_call 22; refine (clause3_calls t q1 q2 p3 A8 A10 A11 c8 c10 c11 most (nx + M) false v7 _ w10 HS10.out HQ1.out HQ2.out HQ3.out HR1b.out HR2.out HP3.out HL1.out.1 HL1.out.2.1 HL1.out.2.2 hlen7.out).mono ?_; rintro e w12 ⟨rfl, v12, hst12, hfr12⟩; rw [HUP.out] at hst12; have HS12 := Aside0.mk hst12; have HW12 := Aside0.mk (HW10.out.trans hfr12); have d7 := blk_cell HS12.out.cl 0; have d8 := blk_cell HS12.out.nt 0; clear hst12 hfr12))
                      clear hw1 hw2 hw3 d1 d2 d3 d4 d5 d6 hcl hnt
                      go_wp2
                      have hS13 : t.S ≤ w12.drew.heap.size := HS12.out.size
                      have HW13 := Aside0.mk HW12.out.drew
                      have HS13 := Aside0.mk HS12.out.drew
                      have d1 : w12.drew.cell? ⟨t.bcl, 0, none⟩ = some (.func (.func 22) #[] #[.pointer (some ⟨t.bc, 0, none⟩)]) := d7
                      have d2 : w12.drew.cell? ⟨t.bnot, 0, none⟩ = some (.func (.func 23) #[] #[]) := d8
                      go_region_held3 (fun W => W.cell? ⟨t.bcl, 0, none⟩ = some (.func (.func 22) #[] #[.pointer (some ⟨t.bc, 0, none⟩)]) ∧ W.cell? ⟨t.bnot, 0, none⟩ = some (.func (.func 23) #[] #[])) (first | exact ⟨d1, d2⟩ | exact ⟨pw_cell_below (below_alloc (Below.refl _ _) _) (by assumption), pw_cell_below (below_alloc (Below.refl _ _) _) (by assumption)⟩ | exact ⟨(by assumption), (by assumption)⟩) (first | (go_at_call_of 25 (Value.slice A3 ca.length c3); refine (HT4.out _).mono ?_; rintro e w' ⟨A14, c14, rfl, rfl, hc14, hC14⟩; have HP4 := Aside0.mk (show t.SC w12.drew A14 p4 from fun W hW => hC14 W ((HA7.out.next HW13.out) W hW)); have HQ4 := Aside0.mk hc14; clear hc14 hC14) | (go_at_call_of 25 (Value.slice A4 cb.length c4); refine (HT5.out _).mono ?_; rintro e w' ⟨A15, c15, rfl, rfl, hc15, hC15⟩; have HP5 := Aside0.mk (show t.SC w12.drew A15 p5 from fun W hW => hC15 W ((HB7.out.next HW13.out) W hW)); have HQ5 := Aside0.mk hc15; clear hc15 hC15) | (go_at_call_of 25 (Value.slice (some ⟨g, 0, none⟩) M cap); refine (HT6.out _).mono ?_; rintro e w' ⟨A16, c16, rfl, rfl, hc16, hC16⟩; have HP6 := Aside0.mk (show t.SC w12.drew A16 p6 from fun W hW => hC16 W (by have h_ := (HO7.out.next HW13.out) W hW; rw [HOL.out] at h_; exact h_)); clear hc16 hC16) | (go_at_call_of 23 (Value.slice A16 p6.length c16); refine (HU6.out _ _ _ HP6.out.now).mono ?_; rintro e w17 ⟨v17, rfl, hR17, hB17⟩; have HS17 := Aside0.mk (HS13.out.below hB17); have HW17 := Aside0.mk (HW13.out.trans (.of_below hB17)); obtain ⟨A17, c17, e17, hc17, hs17⟩ := TB.SC.made (Kd.R_lower hR17 hS13) ⟨HS17.out.lt.2.1, HS17.out.lt.2.2.1, HS17.out.lt.2.2.2.2.2.1⟩; rw [e17]; have HQ6 := Aside0.mk hc17; have HR6 := Aside0.mk hs17; have HP4b := Aside0.mk (HP4.out.next (.of_below hB17)); have HP5b := Aside0.mk (HP5.out.next (.of_below hB17)); have d3 := blk_cell HS17.out.cl 0; have d4 := blk_cell HS17.out.nt 0; clear e17 hc17 hs17 hR17 hB17) | (go_at_call 22; refine (clause3_calls t p4 p5 q6 A14 A15 A17 c14 c15 c17 most (nx + M) false v12 _ w17 HS17.out HQ4.out HQ5.out HQ6.out HP4b.out HP5b.out HR6.out HL4.out.1 HL4.out.2.1 HL4.out.2.2 hlen8.out).mono ?_; rintro e w18 ⟨rfl, v18, hst18, hfr18⟩; rw [HDN.out] at hst18; have HS18 := Aside0.mk hst18; have HW18 := Aside0.mk (HW17.out.trans hfr18); have d9 := blk_cell HS18.out.cl 0; have d10 := blk_cell HS18.out.nt 0; clear hst18 hfr18))
                      go_wp2
                      go_roundg (gk - 1)
                      case measure => have := HN7.out; omega
                      case rel =>
                        have h_ := HS18.out
                        have e_ : rowTo ca cb o M i (k + 1) = rowTo ca cb o M i k ++ ([upC ca cb o i k] ++ [downC ca cb o i k]) := by
                          rw [rowTo_succ]
                          unfold pairC
                          rw [if_pos ⟨t0, t2⟩, if_pos t1]
                        exact ⟨k + 1, v18, by omega, by go_num, ⟨by have := HN7.out; omega⟩, ⟨by rw [e_]; simpa only [List.append_assoc, List.append_nil, List.cons_append, List.nil_append] using h_⟩, ⟨HF7.out.trans HW18.out⟩⟩
                    · by_cases t2 : i + k ≤ M
                      · skip
                        obtain ⟨p1, hp1⟩ : ∃ p1, atL ca ((i : Int) - 1) = p1 := ⟨_, rfl⟩
                        obtain ⟨p2, hp2⟩ : ∃ p2, atL cb ((k : Int) - 1) = p2 := ⟨_, rfl⟩
                        obtain ⟨p3, hp3⟩ : ∃ p3, atL o ((i : Int) + k - 1) = p3 := ⟨_, rfl⟩
                        obtain ⟨q1, hq1⟩ : ∃ q1, notL p1 = q1 := ⟨_, rfl⟩
                        obtain ⟨q2, hq2⟩ : ∃ q2, notL p2 = q2 := ⟨_, rfl⟩
                        have HT1 := Aside0.mk (fun W => at_calls A3 c3 ca ((i : Int) - 1) W HC3.out (by omega))
                        have HT2 := Aside0.mk (fun W => at_calls A4 c4 cb ((k : Int) - 1) W HC4.out (by omega))
                        have HT3 := Aside0.mk (fun W => at_calls (some ⟨g, 0, none⟩) cap o ((i : Int) + k - 1) W (by rw [HOL.out]; exact HCO.out) (by omega))
                        have HU1 := Aside0.mk (fun A c W => not_calls A c p1 W)
                        have HU2 := Aside0.mk (fun A c W => not_calls A c p2 W)
                        have HL1 := Aside0.mk (show q1.length ≤ 1 ∧ q2.length ≤ 1 ∧ p3.length ≤ 1 from ⟨by rw [← hq1]; exact notL_len _, by rw [← hq2]; exact notL_len _, by rw [← hp3]; exact atL_len _ _⟩)
                        have HUP := Aside0.mk (show q1 ++ q2 ++ p3 = upC ca cb o i k from by rw [← hq1, ← hq2, ← hp1, ← hp2, ← hp3]; rfl)
                        rw [hp1] at HT1
                        rw [hp2] at HT2
                        rw [hp3, HOL.out] at HT3
                        rw [hq1] at HU1
                        rw [hq2] at HU2
                        clear hp1 hp2 hp3 hq1 hq2
                        have hlen7_ : (cs0 ++ mergeTo ca cb o M i ++ rowTo ca cb o M i k).length < 4000000000000 := by
                          have e1 := mergeTo_len ca cb o M i
                          have e2 := rowTo_len ca cb o M i k
                          have e3 : 2 * (cb.length + 1) * i ≤ 2 * 41 * 41 := Nat.mul_le_mul (by omega) (by omega)
                          simp only [List.length_append, List.length_cons, List.length_nil]
                          omega
                        have hlen7 := Aside0.mk hlen7_
                        clear hlen7_
                        go_wp2
                        have hS7 : t.S ≤ wk.drew.heap.size := HS7.out.size
                        have HW1 := Aside0.mk (TB.Fr.refl t wk).drew
                        have HS8 := Aside0.mk HS7.out.drew
                        have hw1 : IntKind.i64.wrap ((i : Int) - 1) = (i : Int) - 1 := IntWalk.i64_in _ (by omega)
                        have hw2 : IntKind.i64.wrap ((k : Int) - 1) = (k : Int) - 1 := IntWalk.i64_in _ (by omega)
                        have hw3 : IntKind.i64.wrap ((i : Int) + (k : Int) - 1) = (i : Int) + (k : Int) - 1 := IntWalk.i64_in _ (by omega)
                        have d1 : wk.drew.cell? ⟨t.bcl, 0, none⟩ = some (.func (.func 22) #[] #[.pointer (some ⟨t.bc, 0, none⟩)]) := hcl
                        have d2 : wk.drew.cell? ⟨t.bnot, 0, none⟩ = some (.func (.func 23) #[] #[]) := hnt
                        go_region_held3 (fun W => W.cell? ⟨t.bcl, 0, none⟩ = some (.func (.func 22) #[] #[.pointer (some ⟨t.bc, 0, none⟩)]) ∧ W.cell? ⟨t.bnot, 0, none⟩ = some (.func (.func 23) #[] #[])) (first | exact ⟨d1, d2⟩ | exact ⟨pw_cell_below (below_alloc (Below.refl _ _) _) (by assumption), pw_cell_below (below_alloc (Below.refl _ _) _) (by assumption)⟩ | exact ⟨(by assumption), (by assumption)⟩) (first | (go_at_call_of 25 (Value.slice A3 ca.length c3); refine (HT1.out _).mono ?_; rintro e w' ⟨A5, c5, rfl, rfl, hc5, hC5⟩; have HP1 := Aside0.mk (show t.SC wk A5 p1 from fun W hW => hC5 W (HA7.out W hW)); clear hc5 hC5) | (go_at_call_of 25 (Value.slice A4 cb.length c4); refine (HT2.out _).mono ?_; rintro e w' ⟨A6, c6, rfl, rfl, hc6, hC6⟩; have HP2 := Aside0.mk (show t.SC wk A6 p2 from fun W hW => hC6 W (HB7.out W hW)); clear hc6 hC6) | (go_at_call_of 25 (Value.slice (some ⟨g, 0, none⟩) M cap); refine (HT3.out _).mono ?_; rintro e w' ⟨A11, c11, rfl, rfl, hc11, hC11⟩; have HP3 := Aside0.mk (show t.SC w10 A11 p3 from fun W hW => hC11 W (by have h_ := (HO7.out.next HW10.out) W hW; rw [HOL.out] at h_; exact h_)); have HQ3 := Aside0.mk hc11; clear hc11 hC11) | (go_at_call_of 23 (Value.slice A5 p1.length c5); refine (HU1.out _ _ _ (HP1.out _ HW1.out)).mono ?_; rintro e w8 ⟨v8, rfl, hR8, hB8⟩; have HS9 := Aside0.mk (HS8.out.below hB8); have HW8 := Aside0.mk (HW1.out.trans (.of_below hB8)); obtain ⟨A8, c8, e8, hc8, hs8⟩ := TB.SC.made (Kd.R_lower hR8 hS7) ⟨HS9.out.lt.2.1, HS9.out.lt.2.2.1, HS9.out.lt.2.2.2.2.2.1⟩; rw [e8]; have HQ1 := Aside0.mk hc8; have HR1 := Aside0.mk hs8; have d3 := blk_cell HS9.out.cl 0; have d4 := blk_cell HS9.out.nt 0; have hS8 := HS9.out.size; clear e8 hc8 hs8 hR8 hB8) | (go_at_call_of 23 (Value.slice A6 p2.length c6); refine (HU2.out _ _ _ (HP2.out _ HW8.out)).mono ?_; rintro e w10 ⟨v10, rfl, hR10, hB10⟩; have HS10 := Aside0.mk (HS9.out.below hB10); have HW10 := Aside0.mk (HW8.out.trans (.of_below hB10)); obtain ⟨A10, c10, e10, hc10, hs10⟩ := TB.SC.made (Kd.R_lower hR10 hS8) ⟨HS9.out.lt.2.1, HS9.out.lt.2.2.1, HS9.out.lt.2.2.2.2.2.1⟩; rw [e10]; have HQ2 := Aside0.mk hc10; have HR2 := Aside0.mk hs10; have HR1b := Aside0.mk (HR1.out.next (.of_below hB10)); have d5 := blk_cell HS10.out.cl 0; have d6 := blk_cell HS10.out.nt 0; clear e10 hc10 hs10 hR10 hB10) | (go_at_call 22; refine (clause3_calls t q1 q2 p3 A8 A10 A11 c8 c10 c11 most (nx + M) false v7 _ w10 HS10.out HQ1.out HQ2.out HQ3.out HR1b.out HR2.out HP3.out HL1.out.1 HL1.out.2.1 HL1.out.2.2 hlen7.out).mono ?_; rintro e w12 ⟨rfl, v12, hst12, hfr12⟩; rw [HUP.out] at hst12; have HS12 := Aside0.mk hst12; have HW12 := Aside0.mk (HW10.out.trans hfr12); have d7 := blk_cell HS12.out.cl 0; have d8 := blk_cell HS12.out.nt 0; clear hst12 hfr12))
                        clear hw1 hw2 hw3 d1 d2 d3 d4 d5 d6 hcl hnt
                        go_wp2
                        go_roundg (gk - 1)
                        case measure => have := HN7.out; omega
                        case rel =>
                          have h_ := HS12.out
                          have e_ : rowTo ca cb o M i (k + 1) = rowTo ca cb o M i k ++ ([upC ca cb o i k]) := by
                            rw [rowTo_succ]
                            unfold pairC
                            rw [if_pos ⟨t0, t2⟩, if_neg t1, List.append_nil]
                          exact ⟨k + 1, v12, by omega, by go_num, ⟨by have := HN7.out; omega⟩, ⟨by rw [e_]; simpa only [List.append_assoc, List.append_nil, List.cons_append, List.nil_append] using h_⟩, ⟨HF7.out.trans HW12.out⟩⟩
                      · have HW7 := Aside0.mk (TB.Fr.refl t wk)
                        go_wp2
                        go_roundg (gk - 1)
                        case measure => have := HN7.out; omega
                        case rel =>
                          have h_ := HS7.out
                          have e_ : rowTo ca cb o M i (k + 1) = rowTo ca cb o M i k ++ ([]) := by
                            rw [rowTo_succ]
                            unfold pairC
                            rw [if_neg (fun h => t2 h.2), if_neg t1, List.append_nil]
                          exact ⟨k + 1, v7, by omega, by go_num, ⟨by have := HN7.out; omega⟩, ⟨by rw [e_]; simpa only [List.append_assoc, List.append_nil, List.cons_append, List.nil_append] using h_⟩, ⟨HF7.out.trans HW7.out⟩⟩
                  · have t1 : i + k < M := by omega
                    obtain ⟨p4, hp4⟩ : ∃ p4, atL ca (i : Int) = p4 := ⟨_, rfl⟩
                    obtain ⟨p5, hp5⟩ : ∃ p5, atL cb (k : Int) = p5 := ⟨_, rfl⟩
                    obtain ⟨p6, hp6⟩ : ∃ p6, atL o ((i : Int) + k) = p6 := ⟨_, rfl⟩
                    obtain ⟨q6, hq6⟩ : ∃ q6, notL p6 = q6 := ⟨_, rfl⟩
                    have HT4 := Aside0.mk (fun W => at_calls A3 c3 ca (i : Int) W HC3.out (by omega))
                    have HT5 := Aside0.mk (fun W => at_calls A4 c4 cb (k : Int) W HC4.out (by omega))
                    have HT6 := Aside0.mk (fun W => at_calls (some ⟨g, 0, none⟩) cap o ((i : Int) + k) W (by rw [HOL.out]; exact HCO.out) (by omega))
                    have HU6 := Aside0.mk (fun A c W => not_calls A c p6 W)
                    have HL4 := Aside0.mk (show p4.length ≤ 1 ∧ p5.length ≤ 1 ∧ q6.length ≤ 1 from ⟨by rw [← hp4]; exact atL_len _ _, by rw [← hp5]; exact atL_len _ _, by rw [← hq6]; exact notL_len _⟩)
                    have HDN := Aside0.mk (show p4 ++ p5 ++ q6 = downC ca cb o i k from by rw [← hq6, ← hp4, ← hp5, ← hp6]; rfl)
                    rw [hp4] at HT4
                    rw [hp5] at HT5
                    rw [hp6, HOL.out] at HT6
                    rw [hq6] at HU6
                    clear hp4 hp5 hp6 hq6
                    have hlen7_ : (cs0 ++ mergeTo ca cb o M i ++ rowTo ca cb o M i k).length < 4000000000000 := by
                      have e1 := mergeTo_len ca cb o M i
                      have e2 := rowTo_len ca cb o M i k
                      have e3 : 2 * (cb.length + 1) * i ≤ 2 * 41 * 41 := Nat.mul_le_mul (by omega) (by omega)
                      simp only [List.length_append, List.length_cons, List.length_nil]
                      omega
                    have hlen7 := Aside0.mk hlen7_
                    clear hlen7_
                    have HW7 := Aside0.mk (TB.Fr.refl t wk)
                    go_wp2
                    have hS13 : t.S ≤ wk.drew.heap.size := HS7.out.size
                    have HW13 := Aside0.mk HW7.out.drew
                    have HS13 := Aside0.mk HS7.out.drew
                    have d1 : wk.drew.cell? ⟨t.bcl, 0, none⟩ = some (.func (.func 22) #[] #[.pointer (some ⟨t.bc, 0, none⟩)]) := hcl
                    have d2 : wk.drew.cell? ⟨t.bnot, 0, none⟩ = some (.func (.func 23) #[] #[]) := hnt
                    go_region_held3 (fun W => W.cell? ⟨t.bcl, 0, none⟩ = some (.func (.func 22) #[] #[.pointer (some ⟨t.bc, 0, none⟩)]) ∧ W.cell? ⟨t.bnot, 0, none⟩ = some (.func (.func 23) #[] #[])) (first | exact ⟨d1, d2⟩ | exact ⟨pw_cell_below (below_alloc (Below.refl _ _) _) (by assumption), pw_cell_below (below_alloc (Below.refl _ _) _) (by assumption)⟩ | exact ⟨(by assumption), (by assumption)⟩) (first | (go_at_call_of 25 (Value.slice A3 ca.length c3); refine (HT4.out _).mono ?_; rintro e w' ⟨A14, c14, rfl, rfl, hc14, hC14⟩; have HP4 := Aside0.mk (show t.SC wk.drew A14 p4 from fun W hW => hC14 W ((HA7.out.next HW13.out) W hW)); have HQ4 := Aside0.mk hc14; clear hc14 hC14) | (go_at_call_of 25 (Value.slice A4 cb.length c4); refine (HT5.out _).mono ?_; rintro e w' ⟨A15, c15, rfl, rfl, hc15, hC15⟩; have HP5 := Aside0.mk (show t.SC wk.drew A15 p5 from fun W hW => hC15 W ((HB7.out.next HW13.out) W hW)); have HQ5 := Aside0.mk hc15; clear hc15 hC15) | (go_at_call_of 25 (Value.slice (some ⟨g, 0, none⟩) M cap); refine (HT6.out _).mono ?_; rintro e w' ⟨A16, c16, rfl, rfl, hc16, hC16⟩; have HP6 := Aside0.mk (show t.SC wk.drew A16 p6 from fun W hW => hC16 W (by have h_ := (HO7.out.next HW13.out) W hW; rw [HOL.out] at h_; exact h_)); clear hc16 hC16) | (go_at_call_of 23 (Value.slice A16 p6.length c16); refine (HU6.out _ _ _ HP6.out.now).mono ?_; rintro e w17 ⟨v17, rfl, hR17, hB17⟩; have HS17 := Aside0.mk (HS13.out.below hB17); have HW17 := Aside0.mk (HW13.out.trans (.of_below hB17)); obtain ⟨A17, c17, e17, hc17, hs17⟩ := TB.SC.made (Kd.R_lower hR17 hS13) ⟨HS17.out.lt.2.1, HS17.out.lt.2.2.1, HS17.out.lt.2.2.2.2.2.1⟩; rw [e17]; have HQ6 := Aside0.mk hc17; have HR6 := Aside0.mk hs17; have HP4b := Aside0.mk (HP4.out.next (.of_below hB17)); have HP5b := Aside0.mk (HP5.out.next (.of_below hB17)); have d3 := blk_cell HS17.out.cl 0; have d4 := blk_cell HS17.out.nt 0; clear e17 hc17 hs17 hR17 hB17) | (go_at_call 22; refine (clause3_calls t p4 p5 q6 A14 A15 A17 c14 c15 c17 most (nx + M) false v7 _ w17 HS17.out HQ4.out HQ5.out HQ6.out HP4b.out HP5b.out HR6.out HL4.out.1 HL4.out.2.1 HL4.out.2.2 hlen7.out).mono ?_; rintro e w18 ⟨rfl, v18, hst18, hfr18⟩; rw [HDN.out] at hst18; have HS18 := Aside0.mk hst18; have HW18 := Aside0.mk (HW17.out.trans hfr18); have d9 := blk_cell HS18.out.cl 0; have d10 := blk_cell HS18.out.nt 0; clear hst18 hfr18))
                    go_wp2
                    go_roundg (gk - 1)
                    case measure => have := HN7.out; omega
                    case rel =>
                      have h_ := HS18.out
                      have e_ : rowTo ca cb o M i (k + 1) = rowTo ca cb o M i k ++ ([downC ca cb o i k]) := by
                        rw [rowTo_succ]
                        unfold pairC
                        rw [if_neg (fun h => t0 h.1), if_pos t1, List.nil_append]
                      exact ⟨k + 1, v18, by omega, by go_num, ⟨by have := HN7.out; omega⟩, ⟨by rw [e_]; simpa only [List.append_assoc, List.append_nil, List.cons_append, List.nil_append] using h_⟩, ⟨HF7.out.trans HW18.out⟩⟩
                · go_wp2
                  go_roundg (g6 - 1)
                  case measure => have := HN6.out; omega
                  case rel =>
                    have hkk : k = cb.length + 1 := by omega
                    have h7 := HS7.out
                    rw [hkk, List.append_assoc, ← mergeTo_succ] at h7
                    exact ⟨i + 1, v7, by omega, by go_num, ⟨by have := HN6.out; omega⟩, ⟨h7⟩, HF7⟩
            · go_wp2
              have hii : i = ca.length + 1 := by omega
              have h6 := HS6.out
              rw [hii] at h6
              go_ret
              rw [HRR.out]
              exact ⟨some ⟨g, 0, none⟩, cap, v6, by rw [HOL.out]; rfl, by rw [HOL.out]; exact HCO.out, HSCo.out.next HF6.out, h6, HFo.out.trans HF6.out⟩

theorem count_calls (t : TB) (most : Int) (hm1 : 1 ≤ most) (hm2 : most ≤ 1099511627776) : ∀ f, CountSaid t most f := by
  intro f
  induction f with
  | zero => intro A c0 l s v w h1 h2; omega
  | succ f ih =>
    intro A c0 l s v w h1 h2 h3 h4 h5 h6 h7 h8 h9
    by_cases hs : l.length = 1 ∨ s.full = true
    · exact count_stop t most f A c0 l s v w h4 h8 h9 hs
    · have e1 : l.length ≠ 1 := fun e => hs (.inl e)
      have e2 : s.full = false := by
        cases hf : s.full
        · rfl
        · exact absurd (.inr hf) hs
      exact count_step t most hm1 hm2 f ih A c0 l s v w (by omega) h2 h3 h4 h5 h6 h7 e2 h8 h9

#print axioms count_calls

end Go.Proofs.Ytdkfhpgbiohhoaa.G
