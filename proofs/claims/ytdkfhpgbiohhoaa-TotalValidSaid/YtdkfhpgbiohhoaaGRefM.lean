/-
  The reference's clauses: an owned row of rows that is appended to; what stays as it is.
-/
import Derived.Test.YtdkfhpgbiohhoaaGTotalM
namespace Go.Proofs.Ytdkfhpgbiohhoaa.G
open Go.RowKit Go.Proofs.YtdkfhpgbiohhoaaW.PrintWords Go.Proofs.YtdkfhpgbiohhoaaW.PrintLast Go.Proofs.YtdkfhpgbiohhoaaW.PrintMore

/-- What was there before S, and all but rows of rows, stays as it is. -/
structure RFr (S : Nat) (w w' : World) : Prop where
  os : w'.os = w.os
  tape : w'.tape = w.tape
  output : w'.output = w.output
  size : w.heap.size ≤ w'.heap.size
  block : ∀ k, k < w.heap.size → (k < S ∨ ∀ cs fr, w.heap[k]? ≠ some (.cells cs 22 fr)) → w'.heap[k]? = w.heap[k]?

theorem RFr.refl (S : Nat) (w : World) : RFr S w w := ⟨rfl, rfl, rfl, Nat.le_refl _, fun _ _ _ => rfl⟩
theorem RFr.trans {S : Nat} {a b c : World} (h : RFr S a b) (k : RFr S b c) : RFr S a c :=
  ⟨k.os.trans h.os, k.tape.trans h.tape, k.output.trans h.output, Nat.le_trans h.size k.size, fun i hi hc => by
    have e := h.block i hi hc
    refine (k.block i (Nat.lt_of_lt_of_le hi h.size) ?_).trans e
    rcases hc with hc | h4
    · exact .inl hc
    · exact .inr (fun cs fr => by rw [e]; exact h4 cs fr)⟩
theorem RFr.of_below {S : Nat} {w w' : World} (h : Below w.heap.size w w') : RFr S w w' := ⟨h.os, h.tape, h.output, h.size, fun k hk _ => h.block k hk⟩
theorem RFr.drew {S : Nat} {a w : World} (h : RFr S a w) : RFr S a w.drew := h.trans (.of_below (below_drew (Below.refl _ _)))
theorem RFr.drewN {S : Nat} {a w : World} (h : RFr S a w) (n : Nat) : RFr S a (w.drewN n) := h.trans (.of_below (pw_below_drewN (Below.refl _ _) n))
/-- Behind an append to the clauses. -/
theorem RFr.grown {S B : Nat} {w w' : World} {v : Value} {n : Nat} {xs : List Value} (hg : w.grownBy w' v.ownBlock) (ho : w.ownsRow B 22 1 v n xs) (h0 : S ≤ B) : RFr S w w' :=
  ⟨hg.os, hg.tape, hg.output, hg.size, fun k hk hc => hg.block k hk (fun e => by
    obtain ⟨cells, hcc⟩ := own_typed ho k e.symm
    rcases hc with hc | h4
    · have := own_base ho k e.symm; omega
    · exact h4 _ _ hcc)⟩
/-- What was there before S is as it was. -/
theorem RFr.below {S : Nat} {w w' : World} (h : RFr S w w') (hS : S ≤ w.heap.size) : Below S w w' := ⟨h.os, h.tape, h.output, h.size, fun k hk => h.block k (Nat.lt_of_lt_of_le hk hS) (.inl hk)⟩

/-- A slice that stays readable. -/
def RSC (S : Nat) (w : World) (A : Option Addr) (xs : List Int) : Prop := ∀ w', RFr S w w' → (Kd.int .i64).C w' A xs.length xs
theorem RSC.now {S : Nat} {w : World} {A : Option Addr} {xs : List Int} (h : RSC S w A xs) : (Kd.int .i64).C w A xs.length xs := h w (.refl S w)
theorem RSC.next {S : Nat} {w w1 : World} {A : Option Addr} {xs : List Int} (h : RSC S w A xs) (hf : RFr S w w1) : RSC S w1 A xs := fun w' h' => h w' (hf.trans h')
theorem RSC.came {S : Nat} {w : World} {A : Option Addr} {xs : List Int} (h : (Kd.int .i64).C w A xs.length xs) (h0 : w.heap.size ≤ S) : RSC S w A xs := fun w' hf => C_blocks h (fun b _ hlt => hf.block b hlt (.inl (by omega)))
/-- A row of ints that the call has made stays readable. -/
theorem RSC.made {S B : Nat} {w : World} {ok : Nat → Prop} {v : Value} {xs : List Int} (h : (Kd.int .i64).R 3 w B ok v xs) : ∃ A c, v = .slice A xs.length c ∧ xs.length ≤ c ∧ RSC S w A xs := by
  obtain ⟨A, c, rfl, hl, hc⟩ := Kd.R_reads h
  refine ⟨A, c, rfl, hl, fun w' hf => C_blocks hc (fun b hb hlt' => ?_)⟩
  obtain ⟨ad, rfl, rfl⟩ := hb
  obtain ⟨inner, ho⟩ := Kd.R_own h
  have hk : (Value.slice (some ad) xs.length c).ownBlock = some ad.block := by simp [Value.ownBlock]
  obtain ⟨cells, hcc⟩ := own_typed ho _ hk
  refine hf.block _ hlt' (.inr (fun cs fr => ?_))
  rw [hcc]
  intro e
  injection e with e
  injection e with _ e
  exact absurd e (by decide)
theorem RSC.take {S : Nat} {w : World} {A : Option Addr} {xs : List Int} (h : RSC S w A xs) (n : Nat) (hn : n ≤ xs.length) : RSC S w A (xs.take n) := fun w' hf => Kd.C_take (h w' hf) hn
theorem RSC.drop {S : Nat} {w : World} {A : Option Addr} {xs : List Int} (h : RSC S w A xs) (n c0 : Nat) (hn : n ≤ xs.length) (hc : xs.length ≤ c0) : RSC S w (if c0 = n then A else A.map (·.add (n * 1))) (xs.drop n) := fun w' hf => Kd.C_drop (h w' hf) hn hc

end Go.Proofs.Ytdkfhpgbiohhoaa.G
