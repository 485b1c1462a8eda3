/-
  The reference's 'both': the walk.
-/
import Derived.Test.YtdkfhpgbiohhoaaGRefM
import Derived.Test.YtdkfhpgbiohhoaaGCountS
import Derived.Test.YtdkfhpgbiohhoaaWGuard
import Derived.Outline
import Derived.Deep.DeepMust
import Derived.Deep.LoopGhost
import Derived.Deep.Cut
import Derived.WalkKit
namespace Go.Proofs.Ytdkfhpgbiohhoaa.G
set_option linter.unusedVariables false
set_option linter.unusedSimpArgs false
open Go.RowKit Go.Proofs.YtdkfhpgbiohhoaaW.PrintWords Go.Proofs.YtdkfhpgbiohhoaaW.PrintLast Go.Proofs.YtdkfhpgbiohhoaaW.PrintMore
attribute [local go_sem] max2_int min2_int max_two min_two max_three min_three max_four min_four

def BothPost (S : Nat) (ok : Nat → Prop) (next : Int) (cs : List (List Int)) (w : World) (e : Ending) (w' : World) : Prop :=
  ∃ v', e = .returned (.agg #[v', .int .i64 next]) ∧ KRows.R 22 w' S ok v' cs ∧ RFr S w w'

/-- The variable s, the result's place, the clauses. -/
structure BS (S g : Nat) (ok : Nat → Prop) (w : World) (v : Value) (next : Int) (cs : List (List Int)) (wx : World) : Prop where
  sb : wx.heap[g]? = some (.cells #[v, .int .i64 next] 52 (0, 0))
  rb : wx.heap[g + 1]? = some (.cells #[.slice none 0 0, .int .i64 0] 52 (0, 0))
  rows : KRows.R 22 wx S ok v cs
  fr : RFr S w wx
  ge : S ≤ g ∧ g = w.heap.size

/-- .. and what is being built. -/
structure BW (S g M : Nat) (ok : Nat → Prop) (w : World) (v : Value) (next : Int) (cs : List (List Int)) (vu : Value) (up : List Int) (wx : World) : Prop where
  sb : wx.heap[g]? = some (.cells #[v, .int .i64 next] 52 (0, 0))
  rb : wx.heap[g + 1]? = some (.cells #[.slice none 0 0, .int .i64 0] 52 (0, 0))
  rows : KRows.R 22 wx S (fun k => ok k ∧ k < M) v cs
  up : (Kd.int .i64).R 3 wx M (fun k => M ≤ k) vu up
  fr : RFr S w wx
  ge : S ≤ g ∧ g = w.heap.size ∧ g + 2 ≤ M
  size : M ≤ wx.heap.size

theorem BS.first (S : Nat) (ok : Nat → Prop) (v : Value) (next : Int) (cs : List (List Int)) (w : World) (hR : KRows.R 22 w S ok v cs) (hS : S ≤ w.heap.size) :
    BS S w.heap.size ok w v next cs ((w.alloc (Obj.cells #[v, .int .i64 next] 52)).alloc (Obj.cells #[.slice none 0 0, .int .i64 0] 52)) := by
  have hb := below_alloc (below_alloc (Below.refl w.heap.size w) (Obj.cells #[v, .int .i64 next] 52)) (Obj.cells #[.slice none 0 0, .int .i64 0] 52)
  have e1 : (w.alloc (Obj.cells #[v, .int .i64 next] 52)).heap.size = w.heap.size + 1 := by simp
  refine ⟨blk_alloc (blk_new w _) _, ?_, Kd.R_below hR hb, .of_below hb, hS, rfl⟩
  rw [← e1]
  exact blk_new _ _

theorem BS.start {S g : Nat} {ok : Nat → Prop} {w wx : World} {v : Value} {next : Int} {cs : List (List Int)} (h : BS S g ok w v next cs wx) : BW S g wx.heap.size ok w v next cs (.slice (some ⟨wx.heap.size, 0, none⟩) 0 0) [] (wx.alloc (Obj.cells #[] 3)) := by
  have hb := below_alloc (Below.refl wx.heap.size wx) (Obj.cells #[] 3)
  have l2 := blk_lt h.rb
  exact ⟨blk_alloc h.sb _, blk_alloc h.rb _, Kd.R_mono (Kd.R_below (Kd.R_bound h.rows) hb) (fun k hk => ⟨hk.1, hk.2.2.1⟩), Kd.R_of_own (own_lit_of (enc := Value.int .i64) wx wx.heap.size 3 [] (Nat.le_refl _) (by simp)) (fun k hk => by
    have : wx.heap.size = k := by simpa [Value.ownBlock] using hk
    omega), h.fr.trans (.of_below hb), ⟨h.ge.1, h.ge.2, by omega⟩, hb.size⟩

theorem BW.stop {S g M : Nat} {ok : Nat → Prop} {w wx : World} {v : Value} {next : Int} {cs : List (List Int)} {vu : Value} {up : List Int} (h : BW S g M ok w v next cs vu up wx) : BS S g ok w v next cs wx :=
  ⟨h.sb, h.rb, Kd.R_mono h.rows (fun _ hk => hk.1), h.fr, h.ge.1, h.ge.2.1⟩

theorem BW.append {S g M : Nat} {ok : Nat → Prop} {w wx w1 : World} {v : Value} {next : Int} {cs : List (List Int)} {vu v1 : Value} {up : List Int} {x : Int} (h : BW S g M ok w v next cs vu up wx)
    (ho : (Kd.int .i64).R 3 w1 M (fun k => M ≤ k) v1 (up ++ [x])) (hb : Below M wx w1) : BW S g M ok w v next cs v1 (up ++ [x]) w1 := by
  have hg := h.ge
  refine ⟨(hb.block g (by omega)).trans h.sb, (hb.block (g + 1) (by omega)).trans h.rb, Kd.R_step h.rows (fun k hk _ => hb.block k hk.2), ho, ⟨hb.os.trans h.fr.os, hb.tape.trans h.fr.tape, hb.output.trans h.fr.output, Nat.le_trans h.fr.size hb.size, fun k hk hc => ?_⟩, h.ge, Nat.le_trans h.size hb.size⟩
  exact (hb.block k (by omega)).trans (h.fr.block k hk hc)

/-- What was built is appended to the clauses, and stored. -/
theorem BW.push {S g M : Nat} {ok : Nat → Prop} {w wx w1 : World} {v v1 : Value} {next : Int} {cs : List (List Int)} {vu : Value} {up : List Int} (h : BW S g M ok w v next cs vu up wx)
    (ho : KRows.R 22 w1 S ok v1 (cs ++ [up])) (hg : wx.grownBy w1 v.ownBlock) : BS S g ok w v1 next (cs ++ [up]) (w1.setCell ⟨g, 0, none⟩ v1) := by
  obtain ⟨inner, hown⟩ := Kd.R_own h.rows
  have hge := h.ge
  have hne : ∀ {o : Obj} {T : TypeId} {cs' : Array Value}, T ≠ 22 → wx.heap[g]? = some (.cells cs' T (0, 0)) → some g ≠ v.ownBlock := fun hT hc e => by
    obtain ⟨cells, hcc⟩ := own_typed hown g e.symm
    rw [hc] at hcc
    injection hcc with hcc
    injection hcc with _ hcc
    exact hT hcc
  have g1 := blk_grown h.sb hg (fun e => by
    obtain ⟨cells, hcc⟩ := own_typed hown g e.symm
    rw [h.sb] at hcc
    injection hcc with hcc
    injection hcc with _ hcc
    exact absurd hcc (by decide))
  have g2 := blk_grown h.rb hg (fun e => by
    obtain ⟨cells, hcc⟩ := own_typed hown (g + 1) e.symm
    rw [h.rb] at hcc
    injection hcc with hcc
    injection hcc with _ hcc
    exact absurd hcc (by decide))
  have hfr := h.fr.trans (RFr.grown (S := S) hg hown (Nat.le_refl _))
  refine ⟨by simpa using blk_set g1 0 v1, blk_far g2 (by show g + 1 ≠ g; omega) _, ?_, ⟨hfr.os, hfr.tape, hfr.output, by simpa [World.setCell] using hfr.size, fun k hk hc => ?_⟩, h.ge.1, h.ge.2.1⟩
  · refine Kd.R_mono (Kd.R_far (Kd.R_bound ho) (fun k hk => ?_) _) (fun _ hk => hk.1)
    show k ≠ g
    rintro rfl
    obtain ⟨q, hq, cells, hcc⟩ := hk.2.2.2
    rw [g1] at hcc
    injection hcc with hcc
    injection hcc with _ hcc
    subst hcc
    exact absurd hq (by decide)
  · exact (Below.heap_setCell w1 ⟨g, 0, none⟩ v1 k (by show k ≠ g; omega)).trans (hfr.block k hk hc)

theorem BS.done {S g : Nat} {ok : Nat → Prop} {w wx : World} {v : Value} {next : Int} {cs : List (List Int)} (h : BS S g ok w v next cs wx) :
    BothPost S ok next cs w (.returned (.agg #[v, .int .i64 next])) ((wx.setCell ⟨g + 1, 0, none⟩ v).setCell ⟨g + 1, 1, none⟩ (.int .i64 next)) := by
  have hge := h.ge
  have hne : ∀ k, (ok k ∧ S ≤ k ∧ k < wx.heap.size ∧ ∃ q, q ∈ 22 :: KRows.E ∧ ∃ cells, wx.heap[k]? = some (.cells cells q (0, 0))) → k ≠ g + 1 := by
    rintro k hk rfl
    obtain ⟨q, hq, cells, hcc⟩ := hk.2.2.2
    rw [h.rb] at hcc
    injection hcc with hcc
    injection hcc with _ hcc
    subst hcc
    exact absurd hq (by decide)
  refine ⟨_, rfl, ?_, ⟨h.fr.os, h.fr.tape, h.fr.output, by simpa [World.setCell] using h.fr.size, fun k hk hc => ?_⟩⟩
  · exact Kd.R_mono (Kd.R_far (Kd.R_far (Kd.R_bound h.rows) (p := ⟨g + 1, 0, none⟩) (fun k hk => hne k hk) _) (p := ⟨g + 1, 1, none⟩) (fun k hk => hne k hk) _) (fun _ hk => hk.1)
  · exact ((Below.heap_setCell _ ⟨g + 1, 1, none⟩ _ k (by show k ≠ g + 1; omega)).trans (Below.heap_setCell wx ⟨g + 1, 0, none⟩ v k (by show k ≠ g + 1; omega))).trans (h.fr.block k hk hc)

/-- What stands for the clause of the one, and of the other kind. -/
def u1 (a : List Int) (i : Nat) : List Int := if 0 < i then [wrap64 (-(a.getD (i - 1) 0))] else []
def d1 (a : List Int) (i : Nat) : List Int := if i < a.length then [a.getD i 0] else []
def upsR (a b o : List Int) (i k : Nat) : List (List Int) := if 0 < i + k ∧ i + k ≤ o.length then [u1 a i ++ u1 b k ++ [o.getD (i + k - 1) 0]] else []
def downsR (a b o : List Int) (i k : Nat) : List (List Int) := if i + k < o.length then [d1 a i ++ d1 b k ++ [wrap64 (-(o.getD (i + k) 0))]] else []

theorem notL_at (a : List Int) (i : Nat) (hi : i ≤ a.length) : notL (atL a ((i : Int) - 1)) = u1 a i := by
  unfold atL u1
  by_cases h : 0 < i
  · rw [if_pos (by omega), if_pos h, show ((i : Int) - 1).toNat = i - 1 from by omega]
    rfl
  · rw [if_neg (by omega), if_neg h]
    rfl
theorem at_d1 (a : List Int) (i : Nat) : atL a (i : Int) = d1 a i := by
  unfold atL d1
  by_cases h : i < a.length
  · rw [if_pos (by omega), if_pos h]
    simp
  · rw [if_neg (by omega), if_neg h]
theorem pairC_ref (a b o : List Int) (i k : Nat) (hi : i ≤ a.length) (hk : k ≤ b.length) : pairC a b o o.length i k = upsR a b o i k ++ downsR a b o i k := by
  unfold pairC upsR downsR upC downC
  rw [notL_at a i hi, notL_at b k hk, at_d1, at_d1]
  congr 1
  · by_cases h : 0 < i + k ∧ i + k ≤ o.length
    · rw [if_pos h, if_pos h]
      unfold atL
      rw [if_pos (by omega), show ((i : Int) + (k : Int) - 1).toNat = i + k - 1 from by omega]
    · rw [if_neg h, if_neg h]
  · by_cases h : i + k < o.length
    · rw [if_pos h, if_pos h]
      unfold atL
      rw [if_pos (by omega), show ((i : Int) + (k : Int)).toNat = i + k from by omega]
      rfl
    · rw [if_neg h, if_neg h]

theorem upsR_len (a b o : List Int) (i k : Nat) : (upsR a b o i k).length ≤ 1 := by unfold upsR; split <;> simp
theorem u1_len (a : List Int) (i : Nat) : (u1 a i).length ≤ 1 := by unfold u1; split <;> simp
theorem d1_len (a : List Int) (i : Nat) : (d1 a i).length ≤ 1 := by unfold d1; split <;> simp
theorem BW.inner {S g M : Nat} {ok : Nat → Prop} {w wx : World} {v : Value} {next : Int} {cs : List (List Int)} {vu : Value} {up : List Int} (h : BW S g M ok w v next cs vu up wx) (hok : ∀ k, w.heap.size ≤ k → ok k) :
    (Kd.int .i64).R 3 wx S (fun k => ok k ∧ some k ≠ v.ownBlock) vu up := by
  have hge := h.ge
  refine Kd.R_mono (Kd.R_lower h.up (by omega)) (fun k hk => ⟨hok k (by omega), fun e => ?_⟩)
  have := (h.rows.1 k e.symm).2
  omega
theorem BW.ne_row {S g M : Nat} {ok : Nat → Prop} {w wx : World} {v : Value} {next : Int} {cs : List (List Int)} {vu : Value} {up : List Int} (h : BW S g M ok w v next cs vu up wx) : some g ≠ v.ownBlock := fun e => by
  obtain ⟨inner, hown⟩ := Kd.R_own h.rows
  obtain ⟨cells, hcc⟩ := own_typed hown g e.symm
  rw [h.sb] at hcc
  injection hcc with hcc
  injection hcc with _ hcc
  exact absurd hcc (by decide)

-- BELOW: written by wip/tools/mkboth.py
set_option maxRecDepth 100000 in
set_option maxHeartbeats 3200000 in
theorem both_calls (S : Nat) (ok : Nat → Prop) (v : Value) (next : Int) (cs : List (List Int)) (A B O : Option Addr) (ca cb co : Nat) (a b o : List Int) (i k : Nat) (w : World)
    (hok : ∀ k, w.heap.size ≤ k → ok k) (hR : KRows.R 22 w S ok v cs) (hS : S ≤ w.heap.size) (ha : RSC S w A a) (hb : RSC S w B b) (ho : RSC S w O o)
    (la : a.length ≤ 40) (lb : b.length ≤ 40) (lo : o.length ≤ 40) (hi : i ≤ a.length) (hk : k ≤ b.length) (hcs : cs.length < 4000000000000) :
    Calls Try.prog 33 #[.agg #[v, .int .i64 next], .slice A a.length ca, .slice B b.length cb, .slice O o.length co, .int .i64 i, .int .i64 k] w (BothPost S ok next (cs ++ pairC a b o o.length i k) w) := by
  have HA := Aside0.mk ha
  have HB := Aside0.mk hb
  have HO := Aside0.mk ho
  have HCS := Aside0.mk hcs
  have HOK := Aside0.mk hok
  have HS0 := Aside0.mk (BS.first S ok v next cs w hR hS).start
  have HP := Aside0.mk (pairC_ref a b o i k hi hk)
  obtain ⟨g, hg⟩ : ∃ g, w.heap.size = g := ⟨_, rfl⟩
  have hs1 : ((w.alloc (Obj.cells #[v, .int .i64 next] 52)).alloc (Obj.cells #[.slice none 0 0, .int .i64 0] 52)).heap.size = w.heap.size + 1 + 1 := by simp
  rw [hs1, hg] at HS0
  have HG := Aside0.mk hg
  clear hR ha hb ho hS hcs hs1 hok
  go_enter Try.func33, Try.ntmps33

  go_upto_if 21 with (fail)
  clear hg
  obtain ⟨wz, hwz⟩ : ∃ wz, (((w.alloc (Obj.cells #[v, .int .i64 next] 52)).alloc (Obj.cells #[.slice none 0 0, .int .i64 0] 52)).alloc (Obj.cells #[] 3)) = wz := ⟨_, rfl⟩
  rw [hwz] at HS0 ⊢
  clear hwz
  go_cut [14] from 16 (fun v14 wx => Aside0 (BW S g (g + 1 + 1) ok w v next cs v14 (u1 a i) wx))
  case first =>
    by_cases h1 : 0 < i
    · have HLN := Aside0.mk (show ([] : List Int).length < 100 from by simp)
      obtain ⟨ad, e0, hcell⟩ := Kd.at_int (HA.out.next HS0.out.fr).now ((i : Int) - 1) (by omega) (by omega)
      obtain ⟨x, hx⟩ : ∃ x, rd a ((i : Int) - 1) = x := ⟨_, rfl⟩
      rw [hx, show ((i : Int) - 1).toNat = i - 1 from by omega] at hcell
      have HX := Aside0.mk hx
      cases e0
      clear hx
      go_wp2_with (first | ((with_reducible refine gate_dst (N := 30) rfl ?_); go_must (refine Kd.R_append (Kd.int .i64) (w0 := _) (g + 1 + 1) rfl _ _ 22 3 (.int .i64 0) 8 rfl Try.underlying22 infoT3 rfl (by decide) (by decide) (.slice (some ⟨g + 1 + 1, 0, none⟩) 0 0) ([]) (wrap64 (-x)) [.int .i64 (wrap64 (-x))] (fun k_ => g + 1 + 1 ≤ k_) (fun _ => False) rfl rfl rfl (fun _ h => h.elim) (fun k_ hk_ => Nat.le_trans HS0.out.size hk_) HS0.out.up (Below.refl _ _) HS0.out.size (by have h_ := HLN.out; first | omega | (simp at h_ ⊢; done) | (simp at h_ ⊢; omega)) ?_); intro v1_ w1_ ho_ hb_ hg_ hat_; have HS1 := Aside0.mk (HS0.out.append ho_ hb_); clear ho_ hb_ hg_ hat_))
      go_meet
      case rel => exact ⟨by have h_ := HS1.out; rw [show u1 a i = [] ++ [wrap64 (-x)] from by rw [← HX.out]; unfold u1; rw [if_pos h1]; simp [rd]]; exact h_⟩
    · go_wp2
      go_meet
      case rel => exact ⟨by rw [show u1 a i = [] from by unfold u1; rw [if_neg h1]]; exact HS0.out⟩
  case rest =>
    have HS1 := hcut
    clear hcut HS0
    go_upto_if 32 with (fail)
    go_cut [14] from 16 (fun v14 wx => Aside0 (BW S g (g + 1 + 1) ok w v next cs v14 (u1 a i ++ u1 b k) wx))
    case first =>
      by_cases h2 : 0 < k
      · have HLN := Aside0.mk (show (u1 a i : List Int).length < 100 from by have := u1_len a i; omega)
        obtain ⟨ad, e0, hcell⟩ := Kd.at_int (HB.out.next HS1.out.fr).now ((k : Int) - 1) (by omega) (by omega)
        obtain ⟨x, hx⟩ : ∃ x, rd b ((k : Int) - 1) = x := ⟨_, rfl⟩
        rw [hx, show ((k : Int) - 1).toNat = k - 1 from by omega] at hcell
        have HX := Aside0.mk hx
        cases e0
        clear hx
        go_wp2_with (first | ((with_reducible refine gate_dst (N := 41) rfl ?_); go_must (refine Kd.R_append (Kd.int .i64) (w0 := _) (g + 1 + 1) rfl _ _ 22 3 (.int .i64 0) 8 rfl Try.underlying22 infoT3 rfl (by decide) (by decide) (u14) (u1 a i) (wrap64 (-x)) [.int .i64 (wrap64 (-x))] (fun k_ => g + 1 + 1 ≤ k_) (fun _ => False) rfl rfl rfl (fun _ h => h.elim) (fun k_ hk_ => Nat.le_trans HS1.out.size hk_) HS1.out.up (Below.refl _ _) HS1.out.size (by have h_ := HLN.out; first | omega | (simp at h_ ⊢; done) | (simp at h_ ⊢; omega)) ?_); intro v1_ w1_ ho_ hb_ hg_ hat_; have HS2 := Aside0.mk (HS1.out.append ho_ hb_); clear ho_ hb_ hg_ hat_))
        go_meet
        case rel => exact ⟨by have h_ := HS2.out; rw [show u1 b k = [wrap64 (-x)] from by rw [← HX.out]; unfold u1; rw [if_pos h2]; simp [rd]]; exact h_⟩
      · go_wp2
        go_meet
        case rel => exact ⟨by rw [show u1 b k = [] from by unfold u1; rw [if_neg h2], List.append_nil]; exact HS1.out⟩
    case rest =>
      have HS2 := hcut
      clear hcut HS1
      go_upto_region 7 with (fail)
      go_cut [14, 49] from 16 (fun v14 v49 wx => v49 = .bool (decide (0 < i + k ∧ i + k ≤ o.length)) ∧ Aside0 (BW S g (g + 1 + 1) ok w v next cs v14 (u1 a i ++ u1 b k) wx))
      case first =>
        by_cases t0 : 0 < i + k
        · by_cases t1 : i + k ≤ o.length
          · go_wp2
            go_meet
            case rel => exact ⟨by simp [t0, t1] <;> omega, HS2⟩
          · go_wp2
            go_meet
            case rel => exact ⟨by simp [t0, t1] <;> omega, HS2⟩
        · go_wp2
          go_meet
          case rel => exact ⟨by simp [t0], HS2⟩
      case rest =>
        obtain ⟨e49, HS3⟩ := hcut
        subst e49
        clear HS2
        go_upto_if 49 with (fail)
        go_cut [14] from 15 (fun v14 wx => ∃ v', Aside0 (BS S g ok w v' next (cs ++ upsR a b o i k) wx))
        case first =>
          have HLC := Aside0.mk (show cs.length < 4000000000100 from by have := HCS.out; omega)
          by_cases t2 : 0 < i + k ∧ i + k ≤ o.length
          · have HLN := Aside0.mk (show (u1 a i ++ u1 b k : List Int).length < 100 from by have := u1_len a i; have := u1_len b k; simp; omega)
            obtain ⟨ad, e0, hcell⟩ := Kd.at_int (HO.out.next HS3.out.fr).now ((i : Int) + (k : Int) - 1) (by omega) (by omega)
            obtain ⟨x, hx⟩ : ∃ x, rd o ((i : Int) + (k : Int) - 1) = x := ⟨_, rfl⟩
            rw [hx, show ((i : Int) + (k : Int) - 1).toNat = i + k - 1 from by omega] at hcell
            have HX := Aside0.mk hx
            cases e0
            clear hx
            obtain ⟨Av, cv, ev⟩ := Kd.R_slice HS3.out.rows
            subst ev
            have hcv := blk_cell HS3.out.sb 0
            go_wp2_with (first | ((with_reducible refine gate_dst (N := 57) rfl ?_); go_must (refine Kd.R_append (Kd.int .i64) (w0 := _) (g + 1 + 1) rfl _ _ 22 3 (.int .i64 0) 8 rfl Try.underlying22 infoT3 rfl (by decide) (by decide) (u14) (u1 a i ++ u1 b k) (x) [.int .i64 (x)] (fun k_ => g + 1 + 1 ≤ k_) (fun _ => False) rfl rfl rfl (fun _ h => h.elim) (fun k_ hk_ => Nat.le_trans HS3.out.size hk_) HS3.out.up (Below.refl _ _) HS3.out.size (by have h_ := HLN.out; first | omega | (simp at h_ ⊢; done) | (simp at h_ ⊢; omega)) ?_); intro v1_ w1_ ho_ hb_ hg_ hat_; have HS4 := Aside0.mk (HS3.out.append ho_ hb_); obtain ⟨up3, hup⟩ : ∃ up3, u1 a i ++ u1 b k ++ [x] = up3 := ⟨_, rfl⟩; rw [hup] at ho_ HS4; have HUP := Aside0.mk hup; clear hup; obtain ⟨Au, cu, eu⟩ := Kd.R_slice ho_; rw [eu]; rw [eu] at HS4; have HIN := Aside0.mk (HS4.out.inner HOK.out); have hcv := blk_cell HS4.out.sb 0; clear ho_ hb_ hg_ hat_ eu) | ((with_reducible refine gate_dst (N := 62) rfl ?_); go_must (refine Kd.R_append KRows (w0 := _) S rfl _ _ 24 22 (.slice none 0 0) 24 rfl Try.underlying24 infoT22 rfl (by decide) (by decide) (Value.slice Av cs.length cv) cs (up3) [.slice Au (up3).length cu] ok (fun k_ => ok k_ ∧ some k_ ≠ (Value.slice Av cs.length cv).ownBlock) rfl rfl ⟨_, rfl, HIN.out⟩ (fun k_ hk_ => hk_) (fun k_ hk_ => HOK.out k_ (Nat.le_trans HS4.out.fr.size hk_)) (Kd.R_mono HS4.out.rows (fun _ h_ => h_.1)) (Below.refl _ _) (by have h1_ := HS4.out.ge; have h2_ := HS4.out.size; omega) (by have := HCS.out; have := HLC.out; simp at this ⊢; omega) ?_); intro v1_ w2_ ho_ hb_ hg_ hat_; obtain ⟨A5, c5, e5⟩ := Kd.R_slice ho_; rw [List.length_append, List.length_singleton] at e5; rw [e5]; rw [e5] at ho_; have HS5 := Aside0.mk (HS4.out.push ho_ hg_); have hcx := blk_cell (blk_grown HS4.out.sb hg_ (HS4.out.ne_row)) 0; have hfx := blk_frozen (blk_grown HS4.out.sb hg_ (HS4.out.ne_row)) 0; clear ho_ hb_ hg_ hat_ e5))
            go_meet
            case rel => exact ⟨_, ⟨by have h_ := HS5.out; rw [← HUP.out] at h_; rw [show upsR a b o i k = [u1 a i ++ u1 b k ++ [x]] from by rw [← HX.out]; unfold upsR; rw [if_pos t2]; simp [rd, show ((i : Int) + (k : Int)).toNat = i + k from by omega]]; simpa only [List.append_assoc] using h_⟩⟩
          · go_wp2
            go_meet
            case rel => exact ⟨_, ⟨by rw [show upsR a b o i k = [] from by unfold upsR; rw [if_neg t2], List.append_nil]; exact HS3.out.stop⟩⟩
        case rest =>
          obtain ⟨v2, HS6⟩ := hcut
          clear HS3
          obtain ⟨cs2, hcs2⟩ : ∃ cs2, cs ++ upsR a b o i k = cs2 := ⟨_, rfl⟩
          rw [hcs2] at HS6
          have HLC := Aside0.mk (show cs2.length < 4000000000100 from by rw [← hcs2, List.length_append]; have := HCS.out; have := upsR_len a b o i k; omega)
          have HC2 := Aside0.mk hcs2
          clear hcs2
          have HS7 := Aside0.mk HS6.out.start
          clear HS6
          go_upto_if 68 with (fail)
          obtain ⟨wy, hwy⟩ : ∃ wy, wc.alloc (Obj.cells #[] 3) = wy := ⟨_, rfl⟩
          obtain ⟨M, hM⟩ : ∃ M, wc.heap.size = M := ⟨_, rfl⟩
          rw [hwy, hM] at HS7 ⊢
          clear hwy hM
          go_cut [15] from 16 (fun v15 wx => Aside0 (BW S g M ok w v2 next cs2 v15 (d1 a i) wx))
          case first =>
            by_cases h1 : i < a.length
            · have HLN := Aside0.mk (show ([] : List Int).length < 100 from by simp)
              obtain ⟨ad, e0, hcell⟩ := Kd.at_int (HA.out.next HS7.out.fr).now ((i : Int)) (by omega) (by omega)
              obtain ⟨x, hx⟩ : ∃ x, rd a ((i : Int)) = x := ⟨_, rfl⟩
              rw [hx, show ((i : Int)).toNat = i from by omega] at hcell
              have HX := Aside0.mk hx
              cases e0
              clear hx
              go_wp2_with (first | ((with_reducible refine gate_dst (N := 75) rfl ?_); go_must (refine Kd.R_append (Kd.int .i64) (w0 := _) (M) rfl _ _ 22 3 (.int .i64 0) 8 rfl Try.underlying22 infoT3 rfl (by decide) (by decide) (.slice (some ⟨M, 0, none⟩) 0 0) ([]) (x) [.int .i64 (x)] (fun k_ => M ≤ k_) (fun _ => False) rfl rfl rfl (fun _ h => h.elim) (fun k_ hk_ => Nat.le_trans HS7.out.size hk_) HS7.out.up (Below.refl _ _) HS7.out.size (by have h_ := HLN.out; first | omega | (simp at h_ ⊢; done) | (simp at h_ ⊢; omega)) ?_); intro v1_ w1_ ho_ hb_ hg_ hat_; have HS8 := Aside0.mk (HS7.out.append ho_ hb_); clear ho_ hb_ hg_ hat_))
              go_meet
              case rel => exact ⟨by have h_ := HS8.out; rw [show d1 a i = [] ++ [x] from by rw [← HX.out]; unfold d1; rw [if_pos h1]; simp [rd]]; exact h_⟩
            · go_wp2
              go_meet
              case rel => exact ⟨by rw [show d1 a i = [] from by unfold d1; rw [if_neg h1]]; exact HS7.out⟩
          case rest =>
            have HS8 := hcut
            clear hcut HS7
            go_upto_if 79 with (fail)
            go_cut [15] from 16 (fun v15 wx => Aside0 (BW S g M ok w v2 next cs2 v15 (d1 a i ++ d1 b k) wx))
            case first =>
              by_cases h2 : k < b.length
              · have HLN := Aside0.mk (show (d1 a i : List Int).length < 100 from by have := d1_len a i; omega)
                obtain ⟨ad, e0, hcell⟩ := Kd.at_int (HB.out.next HS8.out.fr).now ((k : Int)) (by omega) (by omega)
                obtain ⟨x, hx⟩ : ∃ x, rd b ((k : Int)) = x := ⟨_, rfl⟩
                rw [hx, show ((k : Int)).toNat = k from by omega] at hcell
                have HX := Aside0.mk hx
                cases e0
                clear hx
                go_wp2_with (first | ((with_reducible refine gate_dst (N := 86) rfl ?_); go_must (refine Kd.R_append (Kd.int .i64) (w0 := _) (M) rfl _ _ 22 3 (.int .i64 0) 8 rfl Try.underlying22 infoT3 rfl (by decide) (by decide) (u15) (d1 a i) (x) [.int .i64 (x)] (fun k_ => M ≤ k_) (fun _ => False) rfl rfl rfl (fun _ h => h.elim) (fun k_ hk_ => Nat.le_trans HS8.out.size hk_) HS8.out.up (Below.refl _ _) HS8.out.size (by have h_ := HLN.out; first | omega | (simp at h_ ⊢; done) | (simp at h_ ⊢; omega)) ?_); intro v1_ w1_ ho_ hb_ hg_ hat_; have HS9 := Aside0.mk (HS8.out.append ho_ hb_); clear ho_ hb_ hg_ hat_))
                go_meet
                case rel => exact ⟨by have h_ := HS9.out; rw [show d1 b k = [x] from by rw [← HX.out]; unfold d1; rw [if_pos h2]; simp [rd]]; exact h_⟩
              · go_wp2
                go_meet
                case rel => exact ⟨by rw [show d1 b k = [] from by unfold d1; rw [if_neg h2], List.append_nil]; exact HS8.out⟩
            case rest =>
              have HS9 := hcut
              clear hcut HS8
              go_upto_if 90 with (fail)
              go_cut [15] from 16 (fun v15 wx => ∃ v', Aside0 (BS S g ok w v' next (cs2 ++ downsR a b o i k) wx))
              case first =>
                by_cases t2 : i + k < o.length
                · have HLN := Aside0.mk (show (d1 a i ++ d1 b k : List Int).length < 100 from by have := d1_len a i; have := d1_len b k; simp; omega)
                  obtain ⟨ad, e0, hcell⟩ := Kd.at_int (HO.out.next HS9.out.fr).now ((i : Int) + (k : Int)) (by omega) (by omega)
                  obtain ⟨x, hx⟩ : ∃ x, rd o ((i : Int) + (k : Int)) = x := ⟨_, rfl⟩
                  rw [hx, show ((i : Int) + (k : Int)).toNat = i + k from by omega] at hcell
                  have HX := Aside0.mk hx
                  cases e0
                  clear hx
                  obtain ⟨Av, cv, ev⟩ := Kd.R_slice HS9.out.rows
                  subst ev
                  have hcv := blk_cell HS9.out.sb 0
                  go_wp2_with (first | ((with_reducible refine gate_dst (N := 98) rfl ?_); go_must (refine Kd.R_append (Kd.int .i64) (w0 := _) (M) rfl _ _ 22 3 (.int .i64 0) 8 rfl Try.underlying22 infoT3 rfl (by decide) (by decide) (u15) (d1 a i ++ d1 b k) (wrap64 (-x)) [.int .i64 (wrap64 (-x))] (fun k_ => M ≤ k_) (fun _ => False) rfl rfl rfl (fun _ h => h.elim) (fun k_ hk_ => Nat.le_trans HS9.out.size hk_) HS9.out.up (Below.refl _ _) HS9.out.size (by have h_ := HLN.out; first | omega | (simp at h_ ⊢; done) | (simp at h_ ⊢; omega)) ?_); intro v1_ w1_ ho_ hb_ hg_ hat_; have HS4 := Aside0.mk (HS9.out.append ho_ hb_); obtain ⟨up3, hup⟩ : ∃ up3, d1 a i ++ d1 b k ++ [wrap64 (-x)] = up3 := ⟨_, rfl⟩; rw [hup] at ho_ HS4; have HUP := Aside0.mk hup; clear hup; obtain ⟨Au, cu, eu⟩ := Kd.R_slice ho_; rw [eu]; rw [eu] at HS4; have HIN := Aside0.mk (HS4.out.inner HOK.out); have hcv := blk_cell HS4.out.sb 0; clear ho_ hb_ hg_ hat_ eu) | ((with_reducible refine gate_dst (N := 103) rfl ?_); go_must (refine Kd.R_append KRows (w0 := _) S rfl _ _ 24 22 (.slice none 0 0) 24 rfl Try.underlying24 infoT22 rfl (by decide) (by decide) (Value.slice Av cs2.length cv) cs2 (up3) [.slice Au (up3).length cu] ok (fun k_ => ok k_ ∧ some k_ ≠ (Value.slice Av cs2.length cv).ownBlock) rfl rfl ⟨_, rfl, HIN.out⟩ (fun k_ hk_ => hk_) (fun k_ hk_ => HOK.out k_ (Nat.le_trans HS4.out.fr.size hk_)) (Kd.R_mono HS4.out.rows (fun _ h_ => h_.1)) (Below.refl _ _) (by have h1_ := HS4.out.ge; have h2_ := HS4.out.size; omega) (by have := HCS.out; have := HLC.out; simp at this ⊢; omega) ?_); intro v1_ w2_ ho_ hb_ hg_ hat_; obtain ⟨A5, c5, e5⟩ := Kd.R_slice ho_; rw [List.length_append, List.length_singleton] at e5; rw [e5]; rw [e5] at ho_; have HS5 := Aside0.mk (HS4.out.push ho_ hg_); have hcx := blk_cell (blk_grown HS4.out.sb hg_ (HS4.out.ne_row)) 0; have hfx := blk_frozen (blk_grown HS4.out.sb hg_ (HS4.out.ne_row)) 0; clear ho_ hb_ hg_ hat_ e5))
                  go_meet
                  case rel => exact ⟨_, ⟨by have h_ := HS5.out; rw [← HUP.out] at h_; rw [show downsR a b o i k = [d1 a i ++ d1 b k ++ [wrap64 (-x)]] from by rw [← HX.out]; unfold downsR; rw [if_pos t2]; simp [rd, show ((i : Int) + (k : Int)).toNat = i + k from by omega]]; simpa only [List.append_assoc] using h_⟩⟩
                · go_wp2
                  go_meet
                  case rel => exact ⟨_, ⟨by rw [show downsR a b o i k = [] from by unfold downsR; rw [if_neg t2], List.append_nil]; exact HS9.out.stop⟩⟩
              case rest =>
                obtain ⟨v3, HS10⟩ := hcut
                have hp := HP.out
                have HQ := Aside0.mk (show cs ++ pairC a b o o.length i k = cs2 ++ downsR a b o i k from by rw [hp, ← HC2.out, List.append_assoc])
                clear hp HS9 HP
                obtain ⟨A9, c9, e9⟩ := Kd.R_slice HS10.out.rows
                subst e9
                obtain ⟨cs9, hcs9⟩ : ∃ cs9, cs2 ++ downsR a b o i k = cs9 := ⟨_, rfl⟩
                rw [hcs9] at HS10 HQ
                clear hcs9
                have c1 := blk_cell HS10.out.sb 0
                have c2 := blk_cell HS10.out.sb 1
                have c3 := blk_cell HS10.out.rb 0
                have c4 := blk_cell HS10.out.rb 1
                have f3 := blk_frozen HS10.out.rb 0
                have f4 := blk_frozen HS10.out.rb 1
                go_wp2
                have e1 := blk_set HS10.out.rb 0 (.slice A9 cs9.length c9)
                have e2 := blk_set e1 1 (.int .i64 next)
                have d1 := blk_cell e2 0
                have d2 := blk_cell e2 1
                exact bodyPost_ret (v := .agg #[.slice A9 cs9.length c9, .int .i64 next]) (by simp [results, Try.results33, go_sem, d1, d2]) rfl (by rw [HQ.out]; exact HS10.out.done)

end Go.Proofs.Ytdkfhpgbiohhoaa.G
