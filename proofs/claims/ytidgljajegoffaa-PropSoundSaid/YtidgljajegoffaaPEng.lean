/-
  prop's engine: what holds of its memory, and how each of its changes keeps it.
-/
import Derived.Test.YtidgljajegoffaaPLook
import Derived.Test.YtidgljajegoffaaQRefx0
namespace Go.Proofs.Ytidgljajegoffaa.G
set_option linter.unusedVariables false
open Go.RowKit Go.Proofs.YtidgljajegoffaaW.PrintWords Go.Proofs.YtidgljajegoffaaW.PrintLast Go.Proofs.YtidgljajegoffaaW.PrintMore
open Go.Proofs.Ytidgljajegoffaa.QRef (S32 k32 k32_mkM)

abbrev VM (w : World) (wb n : Nat) (V : Int → Value) : Prop := VMap Try.prog 3 w wb n V
def updV (V : Int → Value) (y : Int) (v : Value) : Int → Value := fun z => if z = y then v else V z
def updW (W : Int → List Int) (y : Int) (l : List Int) : Int → List Int := fun z => if z = y then l else W z

structure EI (bs g tb wb : Nat) (Ac : Option Addr) (nc cc : Nat) (vo : Value) (hd : Int) (B : Nat) (T : Int → Bool) (V : Int → Value) (W : Int → List Int) (out : List S32) (vX : Value) (xs : List Int) (w : World) : Prop where
  eb : EB g tb wb Ac nc cc vo hd w
  tm : ∃ n, n ≤ B ∧ TM w tb n T
  vm : ∃ n, n ≤ B ∧ VM w wb n V
  rows : ∀ x, LitP x → (Kd.int .i64).R 3 w bs (fun _ => True) (V x) (W x)
  apart : ∀ x y, LitP x → LitP y → x ≠ y → (V x).ownBlock = none ∨ (V x).ownBlock ≠ (V y).ownBlock
  len : ∀ x, LitP x → (W x).length ≤ B
  idx : ∀ x, LitP x → ∀ i ∈ W x, 0 ≤ i ∧ i < (nc : Int)
  own : k32.R 32 w bs (fun k => bs ≤ k) vo out
  olen : out.length ≤ B
  olit : ∀ s ∈ out, LitP s.f0
  xr : (Kd.int .i64).R 3 w bs (fun _ => True) vX xs
  xa : ∀ x, LitP x → vX.ownBlock = none ∨ vX.ownBlock ≠ (V x).ownBlock
  ne : tb ≠ wb
  lo : bs ≤ g ∧ bs ≤ tb ∧ bs ≤ wb ∧ bs ≤ w.heap.size

theorem TM.block {w : World} {tb n : Nat} {T : Int → Bool} (h : TM w tb n T) : ∃ es clock, w.heap[tb]? = some (.map es clock) := by
  obtain ⟨D, ⟨es, clock, e, _⟩, _⟩ := h
  exact ⟨es, clock, e⟩
theorem VMap.block {P : Program} {k : TypeId} {w : World} {b n : Nat} {V : Int → Value} (h : VMap P k w b n V) : ∃ es clock, w.heap[b]? = some (.map es clock) := by
  obtain ⟨D, ⟨es, clock, e, _⟩, _⟩ := h
  exact ⟨es, clock, e⟩
theorem VMap.below {P : Program} {k : TypeId} {w w' : World} {b n : Nat} {V : Int → Value} (h : VMap P k w b n V) (hb : Below w.heap.size w w') : VMap P k w' b n V := by
  obtain ⟨D, ⟨es, clock, e1, e2⟩, h2⟩ := h
  exact ⟨D, ⟨es, clock, (hb.block b (Array.getElem?_eq_some_iff.1 e1).1).trans e1, e2⟩, h2⟩
/-- A row's own block is no map. -/
theorem row_not_map {α : Type} {d : Kd α} {e base : Nat} {ok : Nat → Prop} {w : World} {v : Value} {xs : List α} {b : Nat} {es : Array MapEntry} {clock : Nat} (h : d.R e w base ok v xs) (hb : w.heap[b]? = some (.map es clock)) : some b ≠ v.ownBlock := by
  intro e
  obtain ⟨cells, hc⟩ := Kd.R_typed h b e.symm
  rw [hb] at hc
  cases hc
theorem EB.not_map {g tb wb : Nat} {Ac : Option Addr} {nc cc : Nat} {vo : Value} {hd : Int} {w : World} {b : Nat} {es : Array MapEntry} {clock : Nat} (h : EB g tb wb Ac nc cc vo hd w) (hb : w.heap[b]? = some (.map es clock)) : g ≠ b := by
  rintro rfl
  have h2 := h.box
  rw [hb] at h2
  cases h2

variable {bs g tb wb : Nat} {Ac : Option Addr} {nc cc : Nat} {vo : Value} {hd : Int} {B : Nat} {T : Int → Bool} {V : Int → Value} {W : Int → List Int} {out : List S32} {vX : Value} {xs : List Int} {w w1 w2 : World}

theorem EI.mono (h : EI bs g tb wb Ac nc cc vo hd B T V W out vX xs w) {B' : Nat} (hB : B ≤ B') : EI bs g tb wb Ac nc cc vo hd B' T V W out vX xs w :=
  { h with
    tm := by obtain ⟨n, a, b⟩ := h.tm; exact ⟨n, by omega, b⟩
    vm := by obtain ⟨n, a, b⟩ := h.vm; exact ⟨n, by omega, b⟩
    len := fun x hx => Nat.le_trans (h.len x hx) hB
    olen := Nat.le_trans h.olen hB }
/-- All that lay there stays. -/
theorem EI.below (h : EI bs g tb wb Ac nc cc vo hd B T V W out vX xs w) (hb : Below w.heap.size w w1) : EI bs g tb wb Ac nc cc vo hd B T V W out vX xs w1 :=
  { h with
    eb := h.eb.below hb
    tm := by obtain ⟨n, a, b⟩ := h.tm; exact ⟨n, a, b.below hb⟩
    vm := by obtain ⟨n, a, b⟩ := h.vm; exact ⟨n, a, VMap.below b hb⟩
    rows := fun x hx => Kd.R_below (h.rows x hx) hb
    own := Kd.R_below h.own hb
    xr := Kd.R_below h.xr hb
    lo := ⟨h.lo.1, h.lo.2.1, h.lo.2.2.1, Nat.le_trans h.lo.2.2.2 hb.size⟩ }
/-- A new truth. -/
theorem EI.stepT (h : EI bs g tb wb Ac nc cc vo hd B T V W out vX xs w) {n : Nat} {T1 : Int → Bool} (hT : TM w1 tb n T1) (hn : n ≤ B + 1) (hg : w.grownBy w1 (some tb)) : EI bs g tb wb Ac nc cc vo hd (B + 1) T1 V W out vX xs w1 ∧ Below bs w w1 := by
  obtain ⟨n0, hn0, ht0⟩ := h.tm
  obtain ⟨es, clock, hb⟩ := ht0.block
  obtain ⟨m, hm, hv⟩ := h.vm
  refine ⟨{ h with
    eb := ⟨blk_grown h.eb.box hg (fun e => h.eb.not_map hb (Option.some.inj e))⟩
    tm := ⟨n, hn, hT⟩
    vm := ⟨m, by omega, hv.kept hg (fun e => h.ne (Option.some.inj e).symm)⟩
    rows := fun x hx => Kd.R_grown1 (h.rows x hx) rfl hg (row_not_map (h.rows x hx) hb)
    len := fun x hx => by have := h.len x hx; omega
    own := Kd.R_grown1 h.own rfl hg (row_not_map h.own hb)
    olen := by have := h.olen; omega
    xr := Kd.R_grown1 h.xr rfl hg (row_not_map h.xr hb)
    lo := ⟨h.lo.1, h.lo.2.1, h.lo.2.2.1, Nat.le_trans h.lo.2.2.2 hg.size⟩ }, ?_⟩
  exact (Below.refl bs w).grown hg h.lo.2.2.2 (fun k hk => by cases hk; exact h.lo.2.1)

/-- A step more on the trail. -/
theorem EI.outS (h : EI bs g tb wb Ac nc cc vo hd B T V W out vX xs w) {v1 : Value} {s : S32} (hg : w.grownBy w1 vo.ownBlock) (ho : k32.R 32 w1 bs (fun k => bs ≤ k) v1 (out ++ [s])) (hs : LitP s.f0) :
    EI bs g tb wb Ac nc cc v1 hd (B + 1) T V W (out ++ [s]) vX xs (w1.setCell ⟨g, 3, none⟩ v1) ∧ Below bs w (w1.setCell ⟨g, 3, none⟩ v1) ∧ w1.heap[g]? = some (.cells #[.map (some tb), .slice Ac nc cc, .map (some wb), vo, .int .i64 hd] 61 (0, 0)) := by
  obtain ⟨n0, hn0, ht0⟩ := h.tm
  obtain ⟨m, hm, hv⟩ := h.vm
  obtain ⟨es, clock, hb⟩ := ht0.block
  obtain ⟨es2, clock2, hb2⟩ := VMap.block hv
  have hbox := blk_grown h.eb.box hg (fun e => Kd.R_ne h.own h.eb.box (by decide) e)
  have ht1 : TM w1 tb n0 T := ht0.kept hg (row_not_map h.own hb)
  have hv1 : VM w1 wb m V := hv.kept hg (row_not_map h.own hb2)
  have hgt : g ≠ tb := h.eb.not_map hb
  have hgw : g ≠ wb := h.eb.not_map hb2
  have hr1 : ∀ x, LitP x → (Kd.int .i64).R 3 w1 bs (fun _ => True) (V x) (W x) := fun x hx => Kd.R_over' (h.rows x hx) (Kd.R_typed h.own) (by decide) hg
  have hx1 := Kd.R_over' h.xr (Kd.R_typed h.own) (by decide) hg
  have hsz : (w1.setCell ⟨g, 3, none⟩ v1).heap.size = w1.heap.size := by simp [World.setCell]
  have hgs : w1.grownBy (w1.setCell ⟨g, 3, none⟩ v1) (some g) := ⟨rfl, rfl, rfl, by rw [hsz]; exact Nat.le_refl _, fun k hk hne => Below.heap_setCell w1 ⟨g, 3, none⟩ v1 k (fun e => hne (by rw [e]))⟩
  refine ⟨{ h with
    eb := ⟨by have := blk_set hbox 3 v1; simpa using this⟩
    tm := ⟨n0, by omega, ht1.kept hgs (fun e => hgt (Option.some.inj e).symm)⟩
    vm := ⟨m, by omega, hv1.kept hgs (fun e => hgw (Option.some.inj e).symm)⟩
    rows := fun x hx => Kd.R_set (hr1 x hx) hbox (by decide) 3 v1
    len := fun x hx => by have := h.len x hx; omega
    own := Kd.R_set ho hbox (by decide) 3 v1
    olen := by rw [List.length_append, List.length_singleton]; have := h.olen; omega
    olit := fun t ht => by
      rcases List.mem_append.1 ht with ht | ht
      · exact h.olit t ht
      · rw [List.mem_singleton] at ht; subst ht; exact hs
    xr := Kd.R_set hx1 hbox (by decide) 3 v1
    lo := ⟨h.lo.1, h.lo.2.1, h.lo.2.2.1, by rw [hsz]; exact Nat.le_trans h.lo.2.2.2 hg.size⟩ }, ?_, hbox⟩
  exact ((Below.refl bs w).grown hg h.lo.2.2.2 (fun k hk => Kd.R_base h.own k hk)).setCell (by exact h.lo.1) v1

/-- A list of watching clauses grows. -/
theorem EI.addV (h : EI bs g tb wb Ac nc cc vo hd B T V W out vX xs w) {y i : Int} (hy : LitP y) (hi : 0 ≤ i ∧ i < (nc : Int)) {v1 : Value} (hg : w.grownBy w1 (V y).ownBlock) (ho : (Kd.int .i64).R 3 w1 bs (fun _ => True) v1 (W y ++ [i])) (hat : v1.ownBlock = (V y).ownBlock ∨ ∃ b, v1.ownBlock = some b ∧ w.heap.size ≤ b)
    {n : Nat} (hn : n ≤ B + 1) (hvm : VM w2 wb n (updV V y v1)) (hg2 : w1.grownBy w2 (some wb)) :
    EI bs g tb wb Ac nc cc vo hd (B + 1) T (updV V y v1) (updW W y (W y ++ [i])) out vX xs w2 ∧ Below bs w w2 := by
  obtain ⟨n0, hn0, ht0⟩ := h.tm
  obtain ⟨m, hm, hv⟩ := h.vm
  obtain ⟨es, clock, hb⟩ := ht0.block
  obtain ⟨es2, clock2, hb2⟩ := VMap.block hv
  have hY := h.rows y hy
  have hbox := blk_grown h.eb.box hg (fun e => Kd.R_ne hY h.eb.box (by decide) e)
  have ht1 : TM w1 tb n0 T := ht0.kept hg (row_not_map hY hb)
  have hv1 : VM w1 wb m V := hv.kept hg (row_not_map hY hb2)
  obtain ⟨es3, clock3, hb3⟩ := VMap.block hv1
  have heb1 : EB g tb wb Ac nc cc vo hd w1 := ⟨hbox⟩
  have hr1 : ∀ x, LitP x → x ≠ y → (Kd.int .i64).R 3 w1 bs (fun _ => True) (V x) (W x) := fun x hx hne => by
    refine Kd.R_grown2 (h.rows x hx) rfl hg (fun k hk e => ?_)
    rcases h.apart x y hx hy hne with q | q
    · rw [q] at e; cases e
    · exact q (by rw [← e, hk])
  have ho1 := Kd.R_over' h.own (Kd.R_typed hY) (by decide) hg
  have hx1 : (Kd.int .i64).R 3 w1 bs (fun _ => True) vX xs := by
    refine Kd.R_grown2 h.xr rfl hg (fun k hk e => ?_)
    rcases h.xa y hy with q | q
    · rw [q] at e; cases e
    · exact q (by rw [← e, hk])
  have hlt : ∀ x, LitP x → ∀ b, w.heap.size ≤ b → (V x).ownBlock ≠ some b := fun x hx b hb e => by have := Kd.R_lt (h.rows x hx) b e; omega
  have hltX : ∀ b, w.heap.size ≤ b → vX.ownBlock ≠ some b := fun b hb e => by have := Kd.R_lt h.xr b e; omega
  refine ⟨{ h with
    eb := ⟨blk_grown hbox hg2 (fun e => heb1.not_map hb3 (Option.some.inj e))⟩
    tm := ⟨n0, by omega, ht1.kept hg2 (fun e => h.ne (Option.some.inj e))⟩
    vm := ⟨n, hn, hvm⟩
    rows := fun x hx => by
      unfold updV updW
      by_cases e : x = y
      · rw [if_pos e, if_pos e]; exact Kd.R_grown1 ho rfl hg2 (row_not_map ho hb3)
      · rw [if_neg e, if_neg e]; exact Kd.R_grown1 (hr1 x hx e) rfl hg2 (row_not_map (hr1 x hx e) hb3)
    apart := fun x z hx hz hne => by
      unfold updV
      by_cases e : x = y
      · rw [if_pos e, if_neg (fun e2 => hne (e.trans e2.symm))]
        rcases hat with q | ⟨b, q1, q2⟩
        · rw [q]; exact h.apart y z hy hz (fun e2 => hne (e.trans e2))
        · rw [q1]; exact .inr (fun e2 => hlt z hz b q2 e2.symm)
      · rw [if_neg e]
        by_cases e2 : z = y
        · rw [if_pos e2]
          rcases hat with q | ⟨b, q1, q2⟩
          · rw [q]; exact h.apart x y hx hy e
          · rw [q1]; exact .inr (hlt x hx b q2)
        · rw [if_neg e2]; exact h.apart x z hx hz hne
    len := fun x hx => by
      unfold updW
      by_cases e : x = y
      · rw [if_pos e, List.length_append, List.length_singleton]; have := h.len y hy; omega
      · rw [if_neg e]; have := h.len x hx; omega
    idx := fun x hx j hj => by
      unfold updW at hj
      by_cases e : x = y
      · rw [if_pos e] at hj
        rcases List.mem_append.1 hj with hj | hj
        · exact h.idx y hy j hj
        · rw [List.mem_singleton] at hj; subst hj; exact hi
      · rw [if_neg e] at hj; exact h.idx x hx j hj
    own := Kd.R_grown1 ho1 rfl hg2 (row_not_map ho1 hb3)
    olen := by have := h.olen; omega
    xr := Kd.R_grown1 hx1 rfl hg2 (row_not_map hx1 hb3)
    xa := fun x hx => by
      unfold updV
      by_cases e : x = y
      · rw [if_pos e]
        rcases hat with q | ⟨b, q1, q2⟩
        · rw [q]; exact h.xa y hy
        · rw [q1]; exact .inr (hltX b q2)
      · rw [if_neg e]; exact h.xa x hx
    lo := ⟨h.lo.1, h.lo.2.1, h.lo.2.2.1, Nat.le_trans h.lo.2.2.2 (Nat.le_trans hg.size hg2.size)⟩ }, ?_⟩
  exact ((Below.refl bs w).grown hg h.lo.2.2.2 (fun k hk => Kd.R_base hY k hk)).grown hg2 (Nat.le_trans h.lo.2.2.2 hg.size) (fun k hk => by cases hk; exact h.lo.2.2.1)

/-- A list is taken out, to be gone through. -/
theorem EI.take (h : EI bs g tb wb Ac nc cc vo hd B T V W out (.slice none 0 0) [] w) {y : Int} (hy : LitP y) {n : Nat} (hn : n ≤ B + 1) (hvm : VM w2 wb n (updV V y (.slice none 0 0))) (hg2 : w.grownBy w2 (some wb)) :
    EI bs g tb wb Ac nc cc vo hd (B + 1) T (updV V y (.slice none 0 0)) (updW W y []) out (V y) (W y) w2 ∧ Below bs w w2 := by
  obtain ⟨n0, hn0, ht0⟩ := h.tm
  obtain ⟨m, hm, hv⟩ := h.vm
  obtain ⟨es3, clock3, hb3⟩ := VMap.block hv
  refine ⟨{ h with
    eb := ⟨blk_grown h.eb.box hg2 (fun e => h.eb.not_map hb3 (Option.some.inj e))⟩
    tm := ⟨n0, by omega, ht0.kept hg2 (fun e => h.ne (Option.some.inj e))⟩
    vm := ⟨n, hn, hvm⟩
    rows := fun x hx => by
      unfold updV updW
      by_cases e : x = y
      · rw [if_pos e, if_pos e]; exact Kd.R_nil _ _ _ _ _
      · rw [if_neg e, if_neg e]; exact Kd.R_grown1 (h.rows x hx) rfl hg2 (row_not_map (h.rows x hx) hb3)
    apart := fun x z hx hz hne => by
      unfold updV
      by_cases e : x = y
      · rw [if_pos e]; exact .inl rfl
      · rw [if_neg e]
        by_cases e2 : z = y
        · rw [if_pos e2]
          cases hq : (V x).ownBlock with
          | none => exact .inl rfl
          | some k => exact .inr (fun e => by cases e)
        · rw [if_neg e2]; exact h.apart x z hx hz hne
    len := fun x hx => by
      unfold updW
      by_cases e : x = y
      · rw [if_pos e]; exact Nat.zero_le _
      · rw [if_neg e]; have := h.len x hx; omega
    idx := fun x hx j hj => by
      unfold updW at hj
      by_cases e : x = y
      · rw [if_pos e] at hj; cases hj
      · rw [if_neg e] at hj; exact h.idx x hx j hj
    own := Kd.R_grown1 h.own rfl hg2 (row_not_map h.own hb3)
    olen := by have := h.olen; omega
    xr := Kd.R_grown1 (h.rows y hy) rfl hg2 (row_not_map (h.rows y hy) hb3)
    xa := fun x hx => by
      unfold updV
      by_cases e : x = y
      · rw [if_pos e]
        cases hq : (V y).ownBlock with
        | none => exact .inl rfl
        | some k => exact .inr (fun e => by cases e)
      · rw [if_neg e]; exact h.apart y x hy hx (fun e2 => e e2.symm)
    lo := ⟨h.lo.1, h.lo.2.1, h.lo.2.2.1, Nat.le_trans h.lo.2.2.2 hg2.size⟩ }, ?_⟩
  exact (Below.refl bs w).grown hg2 h.lo.2.2.2 (fun k hk => by cases hk; exact h.lo.2.2.1)

/-- The list that was taken out is let go. -/
theorem EI.drop (h : EI bs g tb wb Ac nc cc vo hd B T V W out vX xs w) : EI bs g tb wb Ac nc cc vo hd B T V W out (.slice none 0 0) [] w :=
  { h with xr := Kd.R_nil _ _ _ _ _, xa := fun x hx => .inl rfl }

#print axioms EI.outS
#print axioms EI.addV
#print axioms EI.take
end Go.Proofs.Ytidgljajegoffaa.G
