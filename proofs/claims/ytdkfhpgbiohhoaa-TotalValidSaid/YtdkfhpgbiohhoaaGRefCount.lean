/-
  The reference's 'count': the walk.
-/
import Derived.Test.YtdkfhpgbiohhoaaGBoth
import Derived.Test.YtdkfhpgbiohhoaaGAt
import Derived.Deep.RegionHeld3
import Derived.StillTailTactics
import Derived.IntWalk
import Derived.Test.YtdkfhpgbiohhoaaWNEv
namespace Go.Proofs.Ytdkfhpgbiohhoaa.G
set_option linter.unusedVariables false
set_option linter.unusedSimpArgs false
open Go.RowKit Go.Proofs.YtdkfhpgbiohhoaaW.PrintWords Go.Proofs.YtdkfhpgbiohhoaaW.PrintLast Go.Proofs.YtdkfhpgbiohhoaaW.PrintMore
attribute [local go_sem] max2_int min2_int max_two min_two max_three min_three max_four min_four

def RcPost (S : Nat) (ok : Nat → Prop) (r : List Int × TS) (w : World) (e : Ending) (w' : World) : Prop :=
  ∃ v1 v', e = .returned (.tuple #[.agg #[v', .int .i64 r.2.next], v1]) ∧ KRows.R 22 w' S (fun k => ok k ∧ some k ≠ v1.ownBlock) v' r.2.cs ∧ (Kd.int .i64).R 3 w' S (fun k => w.heap.size ≤ k) v1 r.1 ∧ RFr S w w'

def RcSaid (most : Int) (f : Nat) : Prop := ∀ (S : Nat) (ok : Nat → Prop) (A : Option Addr) (c0 : Nat) (l : List Int) (s : TS) (v : Value) (w : World), 1 ≤ l.length → l.length ≤ f → l.length ≤ 40 → l.length ≤ c0 → 1 ≤ s.next → s.next ≤ 65537 → s.cs.length + 4000 * l.length ≤ 1000000 →
    s.full = false → (cnt most f s l).2.full = false → (∀ k, w.heap.size ≤ k → ok k) → KRows.R 22 w S ok v s.cs → S ≤ w.heap.size → RSC S w A l →
    Calls Try.prog 28 #[.agg #[v, .int .i64 s.next], .slice A l.length c0, .int .i64 most] w (RcPost S ok (cnt most f s l) w)

theorem heap2 (w : World) (a b : Obj) : ((w.alloc a).alloc b).heap.size = w.heap.size + 1 + 1 := by simp

theorem cell_set_far {w : World} {p q : Addr} (u : Value) (h : q.block ≠ p.block) : (w.setCell p u).cell? q = w.cell? q := World.cell?_of_block (Below.heap_setCell w p u _ h)
theorem cell_set_far2 {w : World} {g : Nat} {q : Addr} {c : Value} (v u : Value) (h : q.block ≠ g + 1) (hc : w.cell? q = some c) : ((w.setCell ⟨g + 1, 0, none⟩ v).setCell ⟨g + 1, 1, none⟩ u).cell? q = some c :=
  (cell_set_far u h).trans ((cell_set_far v h).trans hc)

/-- Behind the stores into the result's place. -/
theorem BS.left {S g : Nat} {ok : Nat → Prop} {w wx wF : World} {v : Value} {next : Int} {cs : List (List Int)} (h : BS S g ok w v next cs wx) (ho : wF.os = wx.os) (ht : wF.tape = wx.tape) (hu : wF.output = wx.output) (hz : wx.heap.size ≤ wF.heap.size)
    (hk : ∀ k, k < wx.heap.size → k ≠ g + 1 → wF.heap[k]? = wx.heap[k]?) : KRows.R 22 wF S (fun k => ok k ∧ k < wx.heap.size) v cs ∧ RFr S w wF := by
  have hge := h.ge
  have hne : ∀ k, (ok k ∧ S ≤ k ∧ k < wx.heap.size ∧ ∃ q, q ∈ 22 :: KRows.E ∧ ∃ cells, wx.heap[k]? = some (.cells cells q (0, 0))) → k ≠ g + 1 := by
    rintro k hk rfl
    obtain ⟨q, hq, cells, hcc⟩ := hk.2.2.2
    rw [h.rb] at hcc
    injection hcc with hcc
    injection hcc with _ hcc
    subst hcc
    exact absurd hq (by decide)
  exact ⟨Kd.R_mono (Kd.R_step (Kd.R_bound h.rows) (fun k hk' hlt => hk k hlt (hne k hk'))) (fun _ hk' => ⟨hk'.1, hk'.2.2.1⟩),
    ⟨ho.trans h.fr.os, ht.trans h.fr.tape, hu.trans h.fr.output, Nat.le_trans h.fr.size hz, fun k hk' hc => (hk k (Nat.lt_of_lt_of_le hk' h.fr.size) (by omega)).trans (h.fr.block k hk' hc)⟩⟩

theorem set2_far (w : World) (g : Nat) (v u : Value) (k : Nat) (h : k ≠ g + 1) : ((w.setCell ⟨g + 1, 0, none⟩ v).setCell ⟨g + 1, 1, none⟩ u).heap[k]? = w.heap[k]? :=
  (Below.heap_setCell _ ⟨g + 1, 1, none⟩ u k h).trans (Below.heap_setCell w ⟨g + 1, 0, none⟩ v k h)
theorem set2_size (w : World) (g : Nat) (v u : Value) : ((w.setCell ⟨g + 1, 0, none⟩ v).setCell ⟨g + 1, 1, none⟩ u).heap.size = w.heap.size := by simp [World.setCell]

theorem own_self {b n c k : Nat} (h : (Value.slice (some ⟨b, 0, none⟩) n c).ownBlock = some k) : b = k := by simpa [Value.ownBlock] using h

theorem ret_a {S g : Nat} {ok : Nat → Prop} {w wx : World} {v : Value} {s : TS} {x : Int} (h : BS S g ok w v s.next s.cs wx) :
    RcPost S ok ([x], s) w (.returned (.tuple #[.agg #[v, .int .i64 s.next], .slice (some ⟨wx.heap.size, 0, none⟩) 1 1])) (((wx.setCell ⟨g + 1, 0, none⟩ v).setCell ⟨g + 1, 1, none⟩ (.int .i64 s.next)).alloc (Obj.cells #[.int .i64 x] 3)) := by
  have hlt := blk_lt h.rb
  have hge := h.ge
  have hz := set2_size wx g v (.int .i64 s.next)
  obtain ⟨h1, h2⟩ := h.left (wF := ((wx.setCell ⟨g + 1, 0, none⟩ v).setCell ⟨g + 1, 1, none⟩ (.int .i64 s.next)).alloc (Obj.cells #[.int .i64 x] 3)) rfl rfl rfl (by simp) (fun k hk hne =>
    (Below.heap_alloc _ _ k (by rw [hz]; exact hk)).trans (set2_far wx g _ _ k hne))
  have hR : (Kd.int .i64).R 3 (((wx.setCell ⟨g + 1, 0, none⟩ v).setCell ⟨g + 1, 1, none⟩ (.int .i64 s.next)).alloc (Obj.cells #[.int .i64 x] 3)) S (fun k => w.heap.size ≤ k) (.slice (some ⟨wx.heap.size, 0, none⟩) 1 1) [x] := by
    have := Kd.R_of_own (ok := fun k => w.heap.size ≤ k) (h1 := fun _ => rfl) (own_lit_of (enc := Value.int .i64) ((wx.setCell ⟨g + 1, 0, none⟩ v).setCell ⟨g + 1, 1, none⟩ (.int .i64 s.next)) S 3 [x] (by rw [hz]; omega) (by simp)) (fun k hk => by have := own_self hk; rw [hz] at this; omega)
    rw [hz] at this
    exact this
  exact ⟨_, v, rfl, Kd.R_mono h1 (fun k hk => ⟨hk.1, fun e => by have := own_self e.symm; have := hk.2; omega⟩), hR, h2⟩

theorem ret_b {S g : Nat} {ok : Nat → Prop} {w wx : World} {v : Value} {s : TS} {x : Int} (h : BS S g ok w v s.next s.cs wx) :
    RcPost S ok ([x], s) w (.returned (.tuple #[.agg #[v, .int .i64 s.next], .slice (some ⟨wx.heap.size, 0, none⟩) 1 1])) (((wx.alloc (Obj.cells #[.int .i64 x] 3)).setCell ⟨g + 1, 0, none⟩ v).setCell ⟨g + 1, 1, none⟩ (.int .i64 s.next)) := by
  have hlt := blk_lt h.rb
  have hge := h.ge
  obtain ⟨h1, h2⟩ := h.left (wF := ((wx.alloc (Obj.cells #[.int .i64 x] 3)).setCell ⟨g + 1, 0, none⟩ v).setCell ⟨g + 1, 1, none⟩ (.int .i64 s.next)) rfl rfl rfl (by rw [set2_size]; simp) (fun k hk hne =>
    (set2_far _ g _ _ k hne).trans (Below.heap_alloc _ _ k hk))
  have hR : (Kd.int .i64).R 3 (((wx.alloc (Obj.cells #[.int .i64 x] 3)).setCell ⟨g + 1, 0, none⟩ v).setCell ⟨g + 1, 1, none⟩ (.int .i64 s.next)) wx.heap.size (fun k => wx.heap.size ≤ k) (.slice (some ⟨wx.heap.size, 0, none⟩) 1 1) [x] :=
    Kd.R_far (Kd.R_far (Kd.R_of_own (h1 := fun _ => rfl) (own_lit_of (enc := Value.int .i64) wx wx.heap.size 3 [x] (Nat.le_refl _) (by simp)) (fun k hk => Nat.le_of_eq (own_self hk))) (p := ⟨g + 1, 0, none⟩) (fun k hk => by show k ≠ g + 1; omega) _) (p := ⟨g + 1, 1, none⟩) (fun k hk => by show k ≠ g + 1; omega) _
  exact ⟨_, v, rfl, Kd.R_mono h1 (fun k hk => ⟨hk.1, fun e => by have := own_self e.symm; have := hk.2; omega⟩), Kd.R_mono (Kd.R_lower hR (by omega)) (fun k hk => by omega), h2⟩

theorem RcPost.drew {S : Nat} {ok : Nat → Prop} {r : List Int × TS} {w w' : World} {e : Ending} (h : RcPost S ok r w e w') : RcPost S ok r w e w'.drew := by
  obtain ⟨v1, v', h1, h2, h3, h4⟩ := h
  exact ⟨v1, v', h1, Kd.R_drew h2, Kd.R_drew h3, h4.drew⟩

/-- What was there, but for the variable s and the result's place, and all but rows of rows, stays as it is. -/
structure RFg (S g : Nat) (w w' : World) : Prop where
  size : w.heap.size ≤ w'.heap.size
  block : ∀ k, k < w.heap.size → (k < S ∨ (k ≠ g ∧ k ≠ g + 1 ∧ ∀ cs fr, w.heap[k]? ≠ some (.cells cs 22 fr))) → w'.heap[k]? = w.heap[k]?
theorem RFg.refl (S g : Nat) (w : World) : RFg S g w w := ⟨Nat.le_refl _, fun _ _ _ => rfl⟩
theorem RFg.trans {S g : Nat} {a b c : World} (h : RFg S g a b) (k : RFg S g b c) : RFg S g a c :=
  ⟨Nat.le_trans h.size k.size, fun i hi hc => by
    have e := h.block i hi hc
    refine (k.block i (Nat.lt_of_lt_of_le hi h.size) ?_).trans e
    rcases hc with hc | ⟨h2, h3, h4⟩
    · exact .inl hc
    · exact .inr ⟨h2, h3, fun cs fr => by rw [e]; exact h4 cs fr⟩⟩
theorem RFg.of {S g : Nat} {w w' : World} (h : RFr S w w') : RFg S g w w' := ⟨h.size, fun k hk hc => h.block k hk (hc.imp id (·.2.2))⟩
theorem RFg.set {S g : Nat} (w : World) (b o : Nat) (hb : b = g ∨ b = g + 1) (hS : S ≤ b) (v : Value) : RFg S g w (w.setCell ⟨b, o, none⟩ v) :=
  ⟨by simp [World.setCell], fun k hk hc => Below.heap_setCell w ⟨b, o, none⟩ v k (by show k ≠ b; omega)⟩

/-- A slice that stays readable through count's own stores. -/
def RSG (S g : Nat) (w : World) (A : Option Addr) (xs : List Int) : Prop := ∀ w', RFg S g w w' → (Kd.int .i64).C w' A xs.length xs
theorem RSG.next {S g : Nat} {w w1 : World} {A : Option Addr} {xs : List Int} (h : RSG S g w A xs) (hf : RFg S g w w1) : RSG S g w1 A xs := fun w' h' => h w' (hf.trans h')
theorem RSG.sc {S g : Nat} {w : World} {A : Option Addr} {xs : List Int} (h : RSG S g w A xs) : RSC S w A xs := fun w' h' => h w' (.of h')
theorem row_block {B : Nat} {w : World} {ok : Nat → Prop} {v : Value} {xs : List Int} (h : (Kd.int .i64).R 3 w B ok v xs) {b : Nat} (hb : v.ownBlock = some b) : ∀ cs T fr, w.heap[b]? = some (.cells cs T fr) → T = 3 := fun cs T fr e => by
  obtain ⟨inner, ho⟩ := Kd.R_own h
  obtain ⟨cells, hcc⟩ := own_typed ho _ hb
  rw [hcc] at e
  injection e with e
  injection e with _ e
  exact e.symm
/-- Where the variable s lies, and the result's place. -/
structure BT (g : Nat) (w : World) : Prop where
  sb : ∃ c, w.heap[g]? = some (.cells c 52 (0, 0))
  rb : ∃ c, w.heap[g + 1]? = some (.cells c 52 (0, 0))
theorem BS.bt {S g : Nat} {ok : Nat → Prop} {w wx : World} {v : Value} {next : Int} {cs : List (List Int)} (h : BS S g ok w v next cs wx) : BT g wx := ⟨⟨_, h.sb⟩, ⟨_, h.rb⟩⟩
theorem BW.bt {S g M : Nat} {ok : Nat → Prop} {w wx : World} {v : Value} {next : Int} {cs : List (List Int)} {vu : Value} {up : List Int} (h : BW S g M ok w v next cs vu up wx) : BT g wx := ⟨⟨_, h.sb⟩, ⟨_, h.rb⟩⟩
theorem RSG.made {S g B : Nat} {w : World} {ok : Nat → Prop} {v : Value} {xs : List Int} (h : (Kd.int .i64).R 3 w B ok v xs) (hs : BT g w) : ∃ A c, v = .slice A xs.length c ∧ xs.length ≤ c ∧ RSG S g w A xs := by
  obtain ⟨A, c, rfl, hl, hc⟩ := Kd.R_reads h
  refine ⟨A, c, rfl, hl, fun w' hf => C_blocks hc (fun b hb hlt' => ?_)⟩
  obtain ⟨ad, rfl, rfl⟩ := hb
  have ht := row_block h (b := ad.block) (by simp [Value.ownBlock])
  refine hf.block _ hlt' (.inr ⟨?_, ?_, fun cs fr e => absurd (ht _ _ _ e) (by decide)⟩)
  · intro e
    obtain ⟨c, hb⟩ := hs.sb
    exact absurd (ht _ _ _ (by rw [e]; exact hb)) (by decide)
  · intro e
    obtain ⟨c, hb⟩ := hs.rb
    exact absurd (ht _ _ _ (by rw [e]; exact hb)) (by decide)
/-- A row that the call has made stays as it is. -/
theorem R_through {S g B : Nat} {w w' : World} {ok : Nat → Prop} {v : Value} {xs : List Int} (h : (Kd.int .i64).R 3 w B ok v xs) (hs : BT g w) (hf : RFg S g w w') : (Kd.int .i64).R 3 w' B ok v xs := by
  refine Kd.R_mono (Kd.R_step (Kd.R_bound h) (fun k hk hlt => ?_)) (fun k hk => hk.1)
  obtain ⟨q, hq, cells, hcc⟩ := hk.2.2.2
  have hq' : q = 3 := by simpa [Kd.int, Kd.scalar] using hq
  subst hq'
  refine hf.block k hlt (.inr ⟨?_, ?_, fun cs fr e => ?_⟩)
  · rintro rfl
    obtain ⟨c, this⟩ := hs.sb
    rw [hcc] at this
    injection this with this
    injection this with _ this
    exact absurd this (by decide)
  · rintro rfl
    obtain ⟨c, this⟩ := hs.rb
    rw [hcc] at this
    injection this with this
    injection this with _ this
    exact absurd this (by decide)
  · rw [hcc] at e
    injection e with e
    injection e with _ e
    exact absurd e (by decide)

/-- Behind a call that has given s anew, and the store of what it gave. -/
theorem BS.recalled {S g : Nat} {ok : Nat → Prop} {w wx w1 : World} {v v' : Value} {next n' : Int} {cs cs' : List (List Int)} (h : BS S g ok w v next cs wx) (hR : KRows.R 22 w1 S ok v' cs') (hf : RFr S wx w1) :
    BS S g ok w v' n' cs' ((w1.setCell ⟨g, 0, none⟩ v').setCell ⟨g, 1, none⟩ (.int .i64 n')) ∧ RFg S g wx ((w1.setCell ⟨g, 0, none⟩ v').setCell ⟨g, 1, none⟩ (.int .i64 n')) := by
  have hge := h.ge
  have b1 : w1.heap[g]? = _ := (hf.block g (blk_lt h.sb) (.inr (fun cs fr e => by rw [h.sb] at e; injection e with e; injection e with _ e; exact absurd e (by decide)))).trans h.sb
  have b2 : w1.heap[g + 1]? = _ := (hf.block (g + 1) (blk_lt h.rb) (.inr (fun cs fr e => by rw [h.rb] at e; injection e with e; injection e with _ e; exact absurd e (by decide)))).trans h.rb
  have hne : ∀ k, (ok k ∧ S ≤ k ∧ k < w1.heap.size ∧ ∃ q, q ∈ 22 :: KRows.E ∧ ∃ cells, w1.heap[k]? = some (.cells cells q (0, 0))) → k ≠ g := by
    rintro k hk rfl
    obtain ⟨q, hq, cells, hcc⟩ := hk.2.2.2
    rw [b1] at hcc
    injection hcc with hcc
    injection hcc with _ hcc
    subst hcc
    exact absurd hq (by decide)
  have hfr := h.fr.trans hf
  refine ⟨⟨by simpa using blk_set (blk_set b1 0 v') 1 (.int .i64 n'), blk_far (blk_far b2 (by show g + 1 ≠ g; omega) _) (by show g + 1 ≠ g; omega) _, ?_, ⟨hfr.os, hfr.tape, hfr.output, by simpa [World.setCell] using hfr.size, fun k hk hc => ?_⟩, h.ge⟩, ?_⟩
  · exact Kd.R_mono (Kd.R_far (Kd.R_far (Kd.R_bound hR) (p := ⟨g, 0, none⟩) (fun k hk => hne k hk) _) (p := ⟨g, 1, none⟩) (fun k hk => hne k hk) _) (fun _ hk => hk.1)
  · exact ((Below.heap_setCell _ ⟨g, 1, none⟩ _ k (by show k ≠ g; omega)).trans (Below.heap_setCell w1 ⟨g, 0, none⟩ v' k (by show k ≠ g; omega))).trans (hfr.block k hk hc)
  · exact ((RFg.of hf).trans (.set w1 g 0 (.inl rfl) hge.1 v')).trans (.set _ g 1 (.inl rfl) hge.1 _)
theorem BS.drew {S g : Nat} {ok : Nat → Prop} {w wx : World} {v : Value} {next : Int} {cs : List (List Int)} (h : BS S g ok w v next cs wx) : BS S g ok w v next cs wx.drew := ⟨h.sb, h.rb, Kd.R_drew h.rows, h.fr.drew, h.ge⟩

/-- All below M but the variable s is as it was. -/
structure KB (M g : Nat) (w w' : World) : Prop where
  size : w.heap.size ≤ w'.heap.size
  block : ∀ k, k < M → k ≠ g → w'.heap[k]? = w.heap[k]?

theorem BW.setNext {S g M : Nat} {ok : Nat → Prop} {w wx : World} {v : Value} {next n' : Int} {cs : List (List Int)} {vu : Value} {up : List Int} (h : BW S g M ok w v next cs vu up wx) : BW S g M ok w v n' cs vu up (wx.setCell ⟨g, 1, none⟩ (.int .i64 n')) := by
  have hge := h.ge
  refine ⟨by simpa using blk_set h.sb 1 (.int .i64 n'), blk_far h.rb (by show g + 1 ≠ g; omega) _, ?_, Kd.R_far h.up (fun k hk => by show k ≠ g; omega) _, ⟨h.fr.os, h.fr.tape, h.fr.output, by simpa [World.setCell] using h.fr.size, fun k hk hc => ?_⟩, h.ge, by simpa [World.setCell] using h.size⟩
  · refine Kd.R_mono (Kd.R_far (Kd.R_bound h.rows) (fun k hk => ?_) _) (fun k hk => hk.1)
    show k ≠ g
    rintro rfl
    obtain ⟨q, hq, cells, hcc⟩ := hk.2.2.2
    rw [h.sb] at hcc
    injection hcc with hcc
    injection hcc with _ hcc
    subst hcc
    exact absurd hq (by decide)
  · exact (Below.heap_setCell wx ⟨g, 1, none⟩ _ k (by show k ≠ g; omega)).trans (h.fr.block k hk hc)

set_option maxHeartbeats 800000 in
theorem rcount_one (most : Int) (f : Nat) (S : Nat) (ok : Nat → Prop) (A : Option Addr) (c0 : Nat) (l : List Int) (s : TS) (v : Value) (w : World) (hc : l.length ≤ c0) (h1 : l.length = 1) (hR : KRows.R 22 w S ok v s.cs) (hS : S ≤ w.heap.size) (hl : RSC S w A l) :
    Calls Try.prog 28 #[.agg #[v, .int .i64 s.next], .slice A l.length c0, .int .i64 most] w (RcPost S ok (cnt most (f + 1) s l) w) := by
  rw [cnt_stop (.inl h1)]
  obtain ⟨x, rfl⟩ := List.length_eq_one_iff.1 h1
  have HS0 := Aside0.mk (BS.first S ok v s.next s.cs w hR hS)
  obtain ⟨Av, cv, ev⟩ := Kd.R_slice hR
  subst ev
  have HL := Aside0.mk hl
  obtain ⟨g, hg⟩ : ∃ g, w.heap.size = g := ⟨_, rfl⟩
  rw [hg] at HS0
  clear hR hl
  go_enter Try.func28, Try.ntmps28
  go_upto_region 2 with (fail)
  obtain ⟨wx, hwx⟩ : ∃ wx, ((w.alloc (Obj.cells #[.slice Av s.cs.length cv, .int .i64 s.next] 52)).alloc (Obj.cells #[.slice none 0 0, .int .i64 0] 52)) = wx := ⟨_, rfl⟩
  rw [hwx] at HS0 ⊢
  clear hwx
  obtain ⟨ad, e0, hcellw⟩ := Kd.at_int HL.out.now 0 (by omega) (by simp)
  subst e0
  obtain ⟨ad', e0, hcell⟩ := Kd.at_int (HL.out.next HS0.out.fr).now 0 (by omega) (by simp)
  cases e0
  simp only [Int.toNat_zero, rd, List.getD_cons_zero, add_zero'] at hcell
  have c0 := blk_cell HS0.out.sb 0
  have c1 := blk_cell HS0.out.sb 1
  have c2 := blk_cell HS0.out.rb 0
  have c3 := blk_cell HS0.out.rb 1
  have f2 := blk_frozen HS0.out.rb 0
  have f3 := blk_frozen HS0.out.rb 1
  have hqb : ad.block < g := by have := World.block_lt_of_cell? w _ hcellw; rw [add_block] at this; omega
  clear hcellw
  have hne1 : ad.block ≠ g + 1 := by omega
  have hne2 : g ≠ g + 1 := by omega
  have a2 : wx.drew.cell? ⟨g + 1, 0, none⟩ = some (.slice none 0 0) := blk_cell HS0.out.rb 0
  have a3 : wx.drew.cell? ⟨g + 1, 1, none⟩ = some (.int .i64 0) := blk_cell HS0.out.rb 1
  have af2 : wx.drew.frozen? ⟨g + 1, 0, none⟩ = false := blk_frozen HS0.out.rb 0
  have af3 : wx.drew.frozen? ⟨g + 1, 1, none⟩ = false := blk_frozen HS0.out.rb 1
  have b2 : (wx.alloc (Obj.cells #[.int .i64 x] 3)).cell? ⟨g + 1, 0, none⟩ = some (.slice none 0 0) := blk_cell (blk_alloc (show wx.heap[_]? = _ from HS0.out.rb) _) 0
  have b3 : (wx.alloc (Obj.cells #[.int .i64 x] 3)).cell? ⟨g + 1, 1, none⟩ = some (.int .i64 0) := blk_cell (blk_alloc (show wx.heap[_]? = _ from HS0.out.rb) _) 1
  have bf2 : (wx.alloc (Obj.cells #[.int .i64 x] 3)).frozen? ⟨g + 1, 0, none⟩ = false := blk_frozen (blk_alloc (show wx.heap[_]? = _ from HS0.out.rb) _) 0
  have bf3 : (wx.alloc (Obj.cells #[.int .i64 x] 3)).frozen? ⟨g + 1, 1, none⟩ = false := blk_frozen (blk_alloc (show wx.heap[_]? = _ from HS0.out.rb) _) 1
  have k1 := cell_set_far2 (.slice Av s.cs.length cv) (.int .i64 s.next) hne1 hcell
  have k2 := cell_set_far2 (w := wx.alloc (Obj.cells #[.int .i64 x] 3)) (.slice Av s.cs.length cv) (.int .i64 s.next) hne1 (pw_cell_below (below_alloc (Below.refl _ _) _) hcell)
  have k3 : (((wx.setCell ⟨g + 1, 0, none⟩ (.slice Av s.cs.length cv)).setCell ⟨g + 1, 1, none⟩ (.int .i64 s.next)).alloc (Obj.cells #[.int .i64 x] 3)).cell? ad = some (.int .i64 x) := pw_cell_below (below_alloc (Below.refl _ _) _) k1
  go_region_held3 (fun W => W.cell? ⟨g, 0, none⟩ = some (.slice Av s.cs.length cv) ∧ W.cell? ⟨g, 1, none⟩ = some (.int .i64 s.next) ∧ W.cell? ad = some (.int .i64 x)) (go_keep) (fail)
  · have e1 := blk_set (blk_set (blk_alloc HS0.out.rb (Obj.cells #[.int .i64 x] 3)) 0 (.slice Av s.cs.length cv)) 1 (.int .i64 s.next)
    have m1 := blk_cell e1 0
    have m2 := blk_cell e1 1
    go_wp2
    exact bodyPost_ret (v := .tuple #[.agg #[.slice Av s.cs.length cv, .int .i64 s.next], .slice (some ⟨wx.heap.size, 0, none⟩) 1 1]) (by simp [results, Try.results28, go_sem, m1, m2]) rfl (ret_b HS0.out).drew
  · have e1 := blk_set (blk_set HS0.out.rb 0 (.slice Av s.cs.length cv)) 1 (.int .i64 s.next)
    have m1 := blk_cell (blk_alloc e1 (Obj.cells #[.int .i64 x] 3)) 0
    have m2 := blk_cell (blk_alloc e1 (Obj.cells #[.int .i64 x] 3)) 1
    go_wp2
    exact bodyPost_ret (v := .tuple #[.agg #[.slice Av s.cs.length cv, .int .i64 s.next], .slice (some ⟨wx.heap.size, 0, none⟩) 1 1]) (by simp [results, Try.results28, go_sem, m1, m2]) rfl (ret_a HS0.out).drew

end Go.Proofs.Ytdkfhpgbiohhoaa.G
