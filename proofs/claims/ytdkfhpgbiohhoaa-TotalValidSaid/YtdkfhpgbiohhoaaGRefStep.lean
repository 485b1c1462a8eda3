/-
  The reference's 'count', two literals or more: the walk.
-/
import Derived.Test.YtdkfhpgbiohhoaaGRefCount
import Derived.Deep.RegionWith
import Derived.Deep.CutRange
namespace Go.Proofs.Ytdkfhpgbiohhoaa.G
set_option linter.unusedVariables false
set_option linter.unusedSimpArgs false
open Go.RowKit Go.Proofs.YtdkfhpgbiohhoaaW.PrintWords Go.Proofs.YtdkfhpgbiohhoaaW.PrintLast Go.Proofs.YtdkfhpgbiohhoaaW.PrintMore
attribute [local go_sem] max2_int min2_int max_two min_two max_three min_three max_four min_four

theorem RFr.keep {S b : Nat} {w w' : World} {cs : Array Value} (h : RFr S w w') (hb : w.heap[b]? = some (.cells cs 52 (0, 0))) : w'.heap[b]? = some (.cells cs 52 (0, 0)) :=
  (h.block b (blk_lt hb) (.inr (fun cs fr e => by rw [hb] at e; injection e with e; injection e with _ e; exact absurd e (by decide)))).trans hb

theorem RFg.grow {S g : Nat} {w w' w1 : World} (h : RFg S g w w') (hb : Below w.heap.size w' w1) : RFg S g w w1 :=
  ⟨Nat.le_trans h.size hb.size, fun k hk hc => (hb.block k hk).trans (h.block k hk hc)⟩

theorem manyOf_lt_most {n : Nat} {most : Int} {M : Nat} (h : (if most < (n : Int) then most else (n : Int)) = (M : Int)) : (M : Int) ≤ most ∧ (M : Int) ≤ n ∧ ((M : Int) = most ∨ (M : Int) = n) := by split at h <;> omega

theorem BW.stop2 {S g M : Nat} {ok : Nat → Prop} {w wx : World} {v : Value} {next : Int} {cs : List (List Int)} {vu : Value} {up : List Int} (h : BW S g M ok w v next cs vu up wx) : BS S g (fun k => ok k ∧ some k ≠ vu.ownBlock) w v next cs wx :=
  ⟨h.sb, h.rb, Kd.R_mono h.rows (fun k hk => ⟨hk.1, fun e => by have := h.up.1 k e.symm; have := hk.2; omega⟩), h.fr, h.ge.1, h.ge.2.1⟩

theorem outsOf_succ (next : Int) (i : Nat) : outsOf next (i + 1) = outsOf next i ++ [next + (i : Int)] := by simp [outsOf, List.range_succ]

theorem cnt_full {most : Int} {f : Nat} {s : TS} {l : List Int} (h : s.full = true) : (cnt most f s l).2.full = true := by
  cases f with
  | zero => exact h
  | succ f => rw [cnt_stop (.inr h)]; exact h

set_option maxRecDepth 100000 in
set_option maxHeartbeats 4000000 in
theorem rcount_step (most : Int) (hm1 : 1 ≤ most) (hm2 : most ≤ 1099511627776) (f : Nat) (ih : RcSaid most f) (S : Nat) (ok : Nat → Prop) (A : Option Addr) (c0 : Nat) (l : List Int) (s : TS) (v : Value) (w : World) (h2 : 2 ≤ l.length) (hf : l.length ≤ f + 1) (h40 : l.length ≤ 40) (hc : l.length ≤ c0)
    (hn1 : 1 ≤ s.next) (hn2 : s.next ≤ 65537) (hcs : s.cs.length + 4000 * l.length ≤ 1000000) (hfull : s.full = false) (hend : (cnt most (f + 1) s l).2.full = false) (hok : ∀ k, w.heap.size ≤ k → ok k) (hR0 : KRows.R 22 w S ok v s.cs) (hS : S ≤ w.heap.size) (hl : RSC S w A l) :
    Calls Try.prog 28 #[.agg #[v, .int .i64 s.next], .slice A l.length c0, .int .i64 most] w (RcPost S ok (cnt most (f + 1) s l) w) := by
  have HL := Aside0.mk hl
  have HOK := Aside0.mk hok
  have HS0 := Aside0.mk (BS.first S ok v s.next s.cs w hR0 hS)
  clear hl
  have hne1 : ((l.length : Int) == 1) = false := by simpa using fun e : (l.length : Int) = 1 => by omega
  obtain ⟨h, hh⟩ : ∃ h, l.length / 2 = h := ⟨_, rfl⟩
  have hq : (l.length : Int) / 2 = (h : Int) := by omega
  have hb1 : 1 ≤ h := by omega
  have hb2 : h + h ≤ l.length := by omega
  have hb3 : l.length ≤ h + h + 1 := by omega
  have HH := Aside0.mk hh
  clear hh
  obtain ⟨i0, hi, hz0, hz1, hz2⟩ := info_parts infoT3
  have hrun1 := cut_to (P := Try.prog) 22 3 .i64 Try.underlying22 hi A l.length c0 (h : Int) (by omega) (by omega) hc
  have hrun2 := cut_from (P := Try.prog) 22 3 .i64 Try.underlying22 hi 1 hz1 A l.length c0 (h : Int) (by omega) (by omega)
  rw [Int.toNat_natCast] at hrun1 hrun2
  obtain ⟨A2, hA2⟩ : ∃ A2, (if c0 = h then A else A.map (·.add (h * 1))) = A2 := ⟨_, rfl⟩
  rw [hA2] at hrun2
  have HL1 := Aside0.mk (HL.out.take h (by omega))
  have HL2 := Aside0.mk (by have := HL.out.drop h c0 (by omega) hc; rwa [hA2] at this)
  have l1 : (l.take h).length = h := by rw [List.length_take]; omega
  have l2 : (l.drop h).length = l.length - h := List.length_drop
  have hno : ¬ (l.length = 1 ∨ s.full = true) := by
    rintro (e | e)
    · omega
    · rw [hfull] at e
      cases e
  obtain ⟨r1, hr1⟩ : ∃ r1, cnt most f s (l.take h) = r1 := ⟨_, rfl⟩
  obtain ⟨r2, hr2⟩ : ∃ r2, cnt most f r1.2 (l.drop h) = r2 := ⟨_, rfl⟩
  have hstep := cnt_next_step (r1 := r1) (r2 := r2) hno (by rw [HH.out]; exact hr1) (by rw [HH.out]; exact hr2)
  have hmge := manyOf_ge hm1 (show 1 ≤ l.length by omega)
  have hmle := manyOf_le l.length most
  obtain ⟨M, hM⟩ : ∃ M : Nat, manyOf l.length most = M := ⟨(manyOf l.length most).toNat, by omega⟩
  rw [hM, Int.toNat_natCast] at hstep
  rw [hM] at hmge hmle
  have hgo : ¬ (r2.2.full = true ∨ 65537 < r2.2.next + (M : Int)) := fun e => by
    rw [if_pos e] at hstep
    rw [hstep] at hend
    cases hend
  rw [if_neg hgo] at hstep
  rw [hstep]
  have hf2 : r2.2.full = false := by
    cases e : r2.2.full with
    | true => exact (hgo (.inl e)).elim
    | false => rfl
  have hf1 : r1.2.full = false := by
    cases e : r1.2.full with
    | true =>
      have := cnt_full (most := most) (f := f) (l := l.drop h) e
      rw [hr2, hf2] at this
      cases this
    | false => rfl
  have hgt : r2.2.next + (M : Int) ≤ 65537 := by
    have : ¬ 65537 < r2.2.next + (M : Int) := fun e => hgo (.inr e)
    omega
  have bn1 := cnt_next hm1 f s (l.take h) hn1 hn2 (by omega) (by omega)
  have bc1 := cnt_cs (most := most) f s (l.take h) (by omega) (by omega) (by omega)
  have bl1 := cnt_len (most := most) f s (l.take h)
  rw [hr1] at bn1 bc1 bl1
  rw [l1] at bc1 bl1
  have bn2 := cnt_next hm1 f r1.2 (l.drop h) (by omega) (by omega) (by omega) (by omega)
  have bc2 := cnt_cs (most := most) f r1.2 (l.drop h) (by omega) (by omega) (by omega)
  have bl2 := cnt_len (most := most) f r1.2 (l.drop h)
  rw [hr2] at bn2 bc2 bl2
  rw [l2] at bc2 bl2
  have HI1 := Aside0.mk (fun (v1 : Value) (W : World) (hsz : S ≤ W.heap.size) (hf1' : RFr S w W) (hR : KRows.R 22 W S ok v1 s.cs) => ih S ok A c0 (l.take h) s v1 W (by omega) (by omega) (by omega) (by omega) hn1 hn2 (by omega) hfull (by rw [hr1]; exact hf1) (fun k hk => hok k (Nat.le_trans hf1'.size hk)) hR hsz (HL1.out.next hf1'))
  have HI2 := Aside0.mk (fun (v1 : Value) (W : World) (hsz : S ≤ W.heap.size) (hf1' : RFr S w W) (hR : KRows.R 22 W S ok v1 r1.2.cs) => ih S ok A2 (c0 - h) (l.drop h) r1.2 v1 W (by omega) (by omega) (by omega) (by omega) (by omega) (by omega) (by omega) hf1 (by rw [hr2]; exact hf2) (fun k hk => hok k (Nat.le_trans hf1'.size hk)) hR hsz (HL2.out.next hf1'))
  rw [l1, hr1] at HI1
  rw [l2, hr2] at HI2
  have hmin : (if most < (l.length : Int) then most else (l.length : Int)) = (M : Int) := hM
  clear hr1 hr2 hA2 l1 l2 hi hz0 hz1 hz2 hstep hno hend hgo hf1 hf2 hM HL HL1 HL2 hfull hok
  obtain ⟨g, hg⟩ : ∃ g, w.heap.size = g := ⟨_, rfl⟩
  rw [hg] at HS0
  have hSg : S ≤ g := HS0.out.ge.1
  obtain ⟨Av, cv, ev⟩ := Kd.R_slice hR0
  subst ev
  clear hR0 hS
  go_enter Try.func28, Try.ntmps28
  go_upto_region 4 with (fail)
  obtain ⟨wx, hwx⟩ : ∃ wx, ((w.alloc (Obj.cells #[.slice Av s.cs.length cv, .int .i64 s.next] 52)).alloc (Obj.cells #[.slice none 0 0, .int .i64 0] 52)) = wx := ⟨_, rfl⟩
  rw [hwx] at HS0 ⊢
  clear hwx hg
  have c1 := blk_cell HS0.out.sb 0
  have c2 := blk_cell HS0.out.sb 1
  have hsz1 : S ≤ wx.drew.heap.size := by have := blk_lt HS0.out.sb; show S ≤ wx.heap.size; omega
  go_region_with ((go_at_call 28; go_must (refine (HI1.out _ _ hsz1 HS0.out.drew.fr HS0.out.drew.rows).mono ?_); go_must (rintro e w1 ⟨v9, v1, rfl, hR1, hR9, hf1⟩); replace hR1 := Kd.R_mono hR1 (fun _ h_ => h_.1); obtain ⟨A1, c1', e1⟩ := Kd.R_slice hR1; subst e1; have HB1 := Aside0.mk (HS0.out.drew.recalled (n' := r1.2.next) hR1 hf1); have HR9 := Aside0.mk hR9; have HF1 := Aside0.mk hf1; have HT1 := Aside0.mk (show BT g w1 from ⟨⟨_, hf1.keep HS0.out.drew.sb⟩, ⟨_, hf1.keep HS0.out.drew.rb⟩⟩); have d1 := blk_cell (hf1.keep HS0.out.drew.sb) 0; have d2 := blk_cell (hf1.keep HS0.out.drew.sb) 1; have d3 := blk_frozen (hf1.keep HS0.out.drew.sb) 0; have d4 := blk_frozen (hf1.keep HS0.out.drew.sb) 1; clear hR1 hR9 hf1))
  obtain ⟨wy, hwy⟩ : ∃ wy, ((w1.setCell ⟨g, 0, none⟩ (.slice A1 r1.2.cs.length c1')).setCell ⟨g, 1, none⟩ (.int .i64 r1.2.next)) = wy := ⟨_, rfl⟩
  obtain ⟨Aa, ca, ea, hca, hsa⟩ := RSG.made (S := S) HR9.out HT1.out
  subst ea
  have HCA := Aside0.mk hca
  have HB1' := HB1.out
  rw [hwy] at HB1' ⊢
  have HS1 := Aside0.mk HB1'.1
  have HSA := Aside0.mk (hsa.next (((RFg.set w1 g 0 (.inl rfl) hSg (.slice A1 r1.2.cs.length c1')).trans (.set _ g 1 (.inl rfl) hSg (.int .i64 r1.2.next)))))
  rw [hwy] at HSA
  clear HB1 HB1' hwy d1 d2 d3 d4 c1 c2 hca hsa HR9 HT1 HF1 hsz1 HS0
  have c1 := blk_cell HS1.out.sb 0
  have c2 := blk_cell HS1.out.sb 1
  go_upto_region 5 with (fail)
  have hsz7 : S ≤ wy.drew.heap.size := by have := blk_lt HS1.out.sb; show S ≤ wy.heap.size; omega
  go_region_with ((go_at_call 28; go_must (refine (HI2.out _ _ hsz7 HS1.out.drew.fr HS1.out.drew.rows).mono ?_); go_must (rintro e w7 ⟨v8, v7, rfl, hR1, hR9, hf1⟩); replace hR1 := Kd.R_mono hR1 (fun _ h_ => h_.1); obtain ⟨A7, c7', e1⟩ := Kd.R_slice hR1; subst e1; have HB7 := Aside0.mk (HS1.out.drew.recalled (n' := r2.2.next) hR1 hf1); have HR8 := Aside0.mk hR9; have HF7 := Aside0.mk hf1; have HT7 := Aside0.mk (show BT g w7 from ⟨⟨_, hf1.keep HS1.out.drew.sb⟩, ⟨_, hf1.keep HS1.out.drew.rb⟩⟩); have d1 := blk_cell (hf1.keep HS1.out.drew.sb) 0; have d2 := blk_cell (hf1.keep HS1.out.drew.sb) 1; have d3 := blk_frozen (hf1.keep HS1.out.drew.sb) 0; have d4 := blk_frozen (hf1.keep HS1.out.drew.sb) 1; clear hR1 hR9 hf1))
  obtain ⟨wz, hwz⟩ : ∃ wz, ((w7.setCell ⟨g, 0, none⟩ (.slice A7 r2.2.cs.length c7')).setCell ⟨g, 1, none⟩ (.int .i64 r2.2.next)) = wz := ⟨_, rfl⟩
  obtain ⟨Ab, cb, eb, hcb, hsb⟩ := RSG.made (S := S) HR8.out HT7.out
  subst eb
  have HCB := Aside0.mk hcb
  have HB7' := HB7.out
  rw [hwz] at HB7' ⊢
  have HS2 := Aside0.mk HB7'.1
  have HSB := Aside0.mk (hsb.next (((RFg.set w7 g 0 (.inl rfl) hSg (.slice A7 r2.2.cs.length c7')).trans (.set _ g 1 (.inl rfl) hSg (.int .i64 r2.2.next)))))
  rw [hwz] at HSB
  have HSA7 := Aside0.mk (HSA.out.next ((RFg.of (RFr.drew (.refl S wy))).trans HB7'.2))
  clear HB7 HB7' hwz d1 d2 d3 d4 c1 c2 hcb hsb HR8 HT7 HF7 hsz7 HS1 HSA
  obtain ⟨a, ha⟩ : ∃ a, r1.1 = a := ⟨_, rfl⟩
  obtain ⟨b, hb⟩ : ∃ b, r2.1 = b := ⟨_, rfl⟩
  obtain ⟨cs0, hcs0⟩ : ∃ cs0, r2.2.cs = cs0 := ⟨_, rfl⟩
  obtain ⟨nx, hnx⟩ : ∃ nx, r2.2.next = nx := ⟨_, rfl⟩
  rw [ha] at HSA7 HCA bl1 ⊢
  rw [hb] at HSB HCB bl2 ⊢
  rw [hcs0] at HS2 bc2 ⊢
  rw [hnx] at HS2 bn2 hgt ⊢
  have HE := Aside0.mk (show (r1.1 = a ∧ r2.1 = b) ∧ (r2.2.cs = cs0 ∧ r2.2.next = nx) from ⟨⟨ha, hb⟩, hcs0, hnx⟩)
  clear ha hb hcs0 hnx HI1 HI2
  have HM := Aside0.mk HS2.out.start
  go_wp2
  obtain ⟨wq, hwq⟩ : ∃ wq, wz.alloc (Obj.cells #[] 3) = wq := ⟨_, rfl⟩
  have HQ := Aside0.mk (show RFg S g wz wq from by rw [← hwq]; exact (RFg.refl S g wz).grow (below_alloc (Below.refl _ _) _))
  obtain ⟨Mb, hMb⟩ : ∃ Mb, wz.heap.size = Mb := ⟨_, rfl⟩
  rw [hwq, hMb] at HM ⊢
  have HMB := Aside0.mk hMb
  clear hwq hMb
  go_loopg [11, 12] M (fun kq v11 v12 wr => ∃ i : Nat, i ≤ M ∧ v12 = .int .i64 i ∧ Aside0 (kq + i = M) ∧ Aside0 (BW S g Mb ok w (.slice A7 cs0.length c7') (nx + i) cs0 v11 (outsOf nx i) wr) ∧ Aside0 (RFg S g wz wr))
  case atStart => exact ⟨0, by omega, rfl, ⟨by omega⟩, ⟨by rw [show nx + ((0 : Nat) : Int) = nx from by omega]; exact HM.out⟩, HQ⟩
  case round =>
    obtain ⟨i, hi, rfl, HN, HO, HB⟩ := hrel
    have HMN := Aside0.mk (manyOf_lt_most hmin)
    go_upto_region 8 with (fail)
    go_cut [53] from 45 to 53 (fun v53 wx => v53 = .bool (decide (i < M)) ∧ wx = wr)
    case first =>
      have hmn := HMN.out
      by_cases t1 : i < l.length
      · by_cases t2 : (i : Int) < most
        · go_wp2
          go_meet
          case rel => exact ⟨by have : i < M := by omega
                                simp [this], rfl⟩
        · go_wp2
          go_meet
          case rel => exact ⟨by have : ¬ i < M := by omega
                                simp [this], rfl⟩
      · go_wp2
        go_meet
        case rel => exact ⟨by have : ¬ i < M := by omega
                              simp [this], rfl⟩
    case rest =>
     obtain ⟨e53, rfl⟩ := hcut
     subst e53
     by_cases hlt : i < M
     · skip
       have hcx := blk_cell HO.out.sb 1
       have HLN := Aside0.mk (show (outsOf nx i).length < 100 from by rw [outsOf_length]; omega)
       go_wp2_with (first | ((with_reducible refine gate_dst (N := 60) rfl ?_); go_must (refine Kd.R_append (Kd.int .i64) (w0 := _) Mb rfl _ _ 22 3 (.int .i64 0) 8 rfl Try.underlying22 infoT3 rfl (by decide) (by decide) u11 (outsOf nx i) (nx + i) [.int .i64 (nx + i)] (fun k_ => Mb ≤ k_) (fun _ => False) rfl rfl rfl (fun _ h => h.elim) (fun k_ hk_ => Nat.le_trans HO.out.size hk_) HO.out.up (Below.refl _ _) HO.out.size (by have h_ := HLN.out; omega) ?_); intro v1_ w1_ ho_ hb_ hg_ hat_; have HO1 := Aside0.mk (HO.out.append ho_ hb_); have HB1 := Aside0.mk (HB.out.grow (by rw [HMB.out]; exact hb_)); have hcy := blk_cell HO1.out.sb 1; have hfy := blk_frozen HO1.out.sb 1; clear ho_ hb_ hg_ hat_))
       go_roundg (gk - 1)
       case measure => have := HN.out; omega
       case rel => exact ⟨i + 1, by omega, by go_num, ⟨by have := HN.out; omega⟩, ⟨by rw [outsOf_succ, show nx + ((i + 1 : Nat) : Int) = nx + i + 1 from by omega]; exact HO1.out.setNext⟩, ⟨HB1.out.trans (.set _ g 1 (.inl rfl) hSg _)⟩⟩
     · have hiM : i = M := by omega
       rw [show decide (i < M) = false from decide_eq_false hlt]
       go_wp2
       clear hlt
       obtain ⟨wo, rfl⟩ : ∃ wo : World, wo = wc := ⟨_, rfl⟩
       have hO := HO.out
       rw [hiM] at hO
       obtain ⟨o, ho⟩ : ∃ o, outsOf nx M = o := ⟨_, rfl⟩
       have hol : o.length = M := by rw [← ho, outsOf_length]
       rw [ho] at hO
       have HOE := Aside0.mk ho
       obtain ⟨Ao, co, eo, hco, hso⟩ := RSG.made (S := S) hO.up hO.bt
       rw [eo] at hO ⊢
       have HUP := Aside0.mk hO.up
       have HBT := Aside0.mk hO.bt
       have HSO := Aside0.mk hso
       have HS3 := Aside0.mk (hO.stop2)
       have HWS := Aside0.mk (show w.heap.size ≤ Mb from by have := hO.ge; omega)
       have HLT := Aside0.mk (Kd.R_lt hO.up)
       have HWO := Aside0.mk hO.fr.size
       have HA3 := Aside0.mk (HSA7.out.next HB.out)
       have HB3 := Aside0.mk (HSB.out.next HB.out)
       have HOL := Aside0.mk hol
       have HMS := Aside0.mk (show S ≤ Mb from by have := hO.ge; omega)
       have hla : a.length ≤ 40 := by omega
       have hlb : b.length ≤ 40 := by omega
       have hlo : o.length ≤ 40 := by omega
       have hcsb : cs0.length + 2 * (41 * 41) ≤ 1100000 := by omega
       clear hO ho hol eo hco hso HO HB HN hi HM HQ HMB HMN hmin hiM HSA7 HSB HS2 bl1 bl2 bc1 bc2 bn1 bn2 hmge hmle hgt hcs
       go_loopg [13] (a.length + 1) (fun kq v13 wx => ∃ (i : Nat) (v : Value), i ≤ a.length + 1 ∧ v13 = .int .i64 i ∧ Aside0 (kq + i = a.length + 1) ∧ Aside0 (BS S g (fun k => ok k ∧ some k ≠ (Value.slice Ao o.length co).ownBlock) w v (nx + M) (cs0 ++ mergeTo a b o M i) wx) ∧ Aside0 (RFg S g wo wx))
       case atStart => exact ⟨0, _, by omega, rfl, ⟨by omega⟩, ⟨by rw [mergeTo_zero, List.append_nil]; exact HS3.out⟩, ⟨.refl _ _ _⟩⟩
       case round =>
         obtain ⟨i, v6, hi6, rfl, HN6, HS6, HF6⟩ := hrel
         obtain ⟨g6, rfl⟩ : ∃ g6 : Nat, g6 = gk := ⟨_, rfl⟩
         by_cases hlt6 : i < a.length + 1
         · have hle6 : i ≤ a.length := by omega
           go_wp2
           obtain ⟨wi, rfl⟩ : ∃ wi : World, wi = wr := ⟨_, rfl⟩
           go_loopg [14] (b.length + 1) (fun kq v14 wx => ∃ (k : Nat) (v : Value), k ≤ b.length + 1 ∧ v14 = .int .i64 k ∧ Aside0 (kq + k = b.length + 1) ∧ Aside0 (BS S g (fun k => ok k ∧ some k ≠ (Value.slice Ao o.length co).ownBlock) w v (nx + M) (cs0 ++ mergeTo a b o M i ++ rowTo a b o M i k) wx) ∧ Aside0 (RFg S g wo wx))
           case atStart => exact ⟨0, v6, by omega, rfl, ⟨by omega⟩, ⟨by rw [rowTo_zero, List.append_nil]; exact HS6.out⟩, HF6⟩
           case round =>
             obtain ⟨k, v7, hk7, rfl, HN7, HS7, HF7⟩ := hrel
             obtain ⟨wk, rfl⟩ : ∃ wk : World, wk = wr := ⟨_, rfl⟩
             by_cases hlt7 : k < b.length + 1
             · have hle7 : k ≤ b.length := by omega
               have hlen7 : (cs0 ++ mergeTo a b o M i ++ rowTo a b o M i k).length < 4000000000000 := by
                 have e1 := mergeTo_len a b o M i
                 have e2 := rowTo_len a b o M i k
                 have e3 : 2 * (b.length + 1) * i ≤ 2 * 41 * 41 := Nat.mul_le_mul (by omega) (by omega)
                 simp only [List.length_append]
                 omega
               have HC := Aside0.mk (both_calls S (fun k => ok k ∧ some k ≠ (Value.slice Ao o.length co).ownBlock) v7 (nx + M) _ Aa Ab Ao ca cb co a b o i k wk (fun k hk => ⟨HOK.out k (Nat.le_trans (Nat.le_trans HWO.out HF7.out.size) hk), fun e => by have := HLT.out k e.symm; have := HF7.out.size; omega⟩) HS7.out.rows (by have := blk_lt HS7.out.sb; have := HS7.out.ge; omega) (HA3.out.next HF7.out).sc (HB3.out.next HF7.out).sc (HSO.out.next HF7.out).sc hla hlb hlo (by omega) (by omega) hlen7)
               clear hlen7
               obtain ⟨cs8, hcs8⟩ : ∃ cs8, cs0 ++ mergeTo a b o M i ++ rowTo a b o M i k ++ pairC a b o o.length i k = cs8 := ⟨_, rfl⟩
               rw [hcs8] at HC
               have HC8 := Aside0.mk hcs8
               clear hcs8
               have c1 := blk_cell HS7.out.sb 0
               have c2 := blk_cell HS7.out.sb 1
               go_wp2_with ((go_at_call 33; refine HC.out.mono ?_; rintro e w9 ⟨v9, rfl, hR9, hf9⟩; obtain ⟨A9, c9, e9⟩ := Kd.R_slice hR9; subst e9; have HB9 := Aside0.mk (HS7.out.recalled (n' := nx + M) hR9 hf9); have d1 := blk_cell (hf9.keep HS7.out.sb) 0; have d2 := blk_cell (hf9.keep HS7.out.sb) 1; have d3 := blk_frozen (hf9.keep HS7.out.sb) 0; have d4 := blk_frozen (hf9.keep HS7.out.sb) 1; clear hR9 hf9))
               go_roundg (gk - 1)
               case measure => have := HN7.out; omega
               case rel => exact ⟨k + 1, _, by omega, by go_num, ⟨by have := HN7.out; omega⟩, ⟨by rw [show cs0 ++ mergeTo a b o M i ++ rowTo a b o M i (k + 1) = cs8 from by rw [← HC8.out, HOL.out, rowTo_succ]; simp only [List.append_assoc]]; exact HB9.out.1⟩, ⟨HF7.out.trans HB9.out.2⟩⟩
             · go_wp2
               go_roundg (g6 - 1)
               case measure => have := HN6.out; omega
               case rel =>
                 have hkk : k = b.length + 1 := by omega
                 have h7 := HS7.out
                 rw [hkk, List.append_assoc, ← mergeTo_succ] at h7
                 exact ⟨i + 1, v7, by omega, by go_num, ⟨by have := HN6.out; omega⟩, ⟨h7⟩, HF7⟩
         · have hii : i = a.length + 1 := by omega
           have h6 := HS6.out
           rw [hii] at h6
           have HS7 := Aside0.mk h6
           clear h6 HS6
           obtain ⟨cs9, hcs9⟩ : ∃ cs9, cs0 ++ mergeTo a b o M (a.length + 1) = cs9 := ⟨_, rfl⟩
           rw [hcs9] at HS7
           have HC9 := Aside0.mk hcs9
           obtain ⟨A9, c9, e9⟩ := Kd.R_slice HS7.out.rows
           subst e9
           clear hcs9
           have c1 := blk_cell HS7.out.sb 0
           have c2 := blk_cell HS7.out.sb 1
           have c3 := blk_cell HS7.out.rb 0
           have c4 := blk_cell HS7.out.rb 1
           have f3 := blk_frozen HS7.out.rb 0
           have f4 := blk_frozen HS7.out.rb 1
           go_wp2
           have e1 := blk_set HS7.out.rb 0 (.slice A9 cs9.length c9)
           have e2 := blk_set e1 1 (.int .i64 (nx + M))
           have d1 := blk_cell e2 0
           have d2 := blk_cell e2 1
           exact bodyPost_ret (v := .tuple #[.agg #[.slice A9 cs9.length c9, .int .i64 (nx + M)], .slice Ao o.length co]) (by simp [results, Try.results28, go_sem, d1, d2]) rfl (by
             have hge := HS7.out.ge
             obtain ⟨⟨he1, he2⟩, he3, he4⟩ := HE.out
             obtain ⟨hl1, hl2⟩ := HS7.out.left (wF := (wr.setCell ⟨g + 1, 0, none⟩ (.slice A9 cs9.length c9)).setCell ⟨g + 1, 1, none⟩ (.int .i64 (nx + M))) rfl rfl rfl (by rw [set2_size]; exact Nat.le_refl _) (fun k hk hne => set2_far wr g _ _ k hne)
             refine ⟨.slice Ao o.length co, .slice A9 cs9.length c9, ?_, ?_, ?_, hl2⟩
             · show _ = Ending.returned (.tuple #[.agg #[_, .int .i64 (r2.2.next + M)], _])
               rw [he4]
             · show KRows.R _ _ S _ _ (r2.2.cs ++ mergeTo r1.1 r2.1 (outsOf r2.2.next M) M (r1.1.length + 1))
               rw [he1, he2, he3, he4, HOE.out, HC9.out]
               exact Kd.R_mono hl1 (fun _ h_ => h_.1)
             · show (Kd.int .i64).R _ _ S _ _ (outsOf r2.2.next M)
               rw [he4, HOE.out]
               exact Kd.R_mono (Kd.R_lower (R_through HUP.out HBT.out (HF6.out.trans ((RFg.set wr (g + 1) 0 (.inr rfl) (by omega) _).trans (.set _ (g + 1) 1 (.inr rfl) (by omega) _)))) HMS.out) (fun k hk => Nat.le_trans HWS.out hk))

theorem rcount_calls (most : Int) (hm1 : 1 ≤ most) (hm2 : most ≤ 1099511627776) : ∀ f, RcSaid most f := by
  intro f
  induction f with
  | zero => intro S ok A c0 l s v w h1 h2; omega
  | succ f ih =>
    intro S ok A c0 l s v w h1 hf h40 hc hn1 hn2 hcs hfull hend hok hR hS hl
    by_cases h : l.length = 1
    · exact rcount_one most f S ok A c0 l s v w hc h hR hS hl
    · exact rcount_step most hm1 hm2 f ih S ok A c0 l s v w (by omega) hf h40 hc hn1 hn2 hcs hfull hend hok hR hS hl

#print axioms rcount_calls

end Go.Proofs.Ytdkfhpgbiohhoaa.G
