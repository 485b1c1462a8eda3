/-
  The memory of one call of total.Total: its seven variables, its clauses, what stays as it is.
-/
import Derived.Test.YtpadmbpopjmdjaaWWords
import Derived.Test.YtpadmbpopjmdjaaWMore
import Derived.Test.YtpadmbpopjmdjaaWKept
import Derived.Test.YtpadmbpopjmdjaaProg
namespace Go.Proofs.Ytpadmbpopjmdjaa.G
open Go.RowKit Go.Proofs.YtpadmbpopjmdjaaW.PrintWords Go.Proofs.YtpadmbpopjmdjaaW.PrintLast Go.Proofs.YtpadmbpopjmdjaaW.PrintMore

theorem infoT3 : (Try.prog.info? 3).map (fun i => (i.zero, i.size, i.bytes)) = some (some (.int .i64 0), 1, 8) := by kernel_rfl
theorem infoT22 : (Try.prog.info? 22).map (fun i => (i.zero, i.size, i.bytes)) = some (some (.slice none 0 0), 1, 24) := by kernel_rfl

/-- Rows of rows of ints. -/
abbrev KRows : Kd (List Int) := Kd.slice 3 (Kd.int .i64)

/-- The blocks of one call: S0: the heap's size when the call began; S: when its variables were laid. -/
structure TB where
  S0 : Nat
  S : Nat
  bm : Nat
  bn : Nat
  bc : Nat
  bcl : Nat
  bnot : Nat
  bf : Nat
  bcnt : Nat

/-- What was there before, and every row of ints, stays as it is. -/
structure TB.Fr (t : TB) (w w' : World) : Prop where
  os : w'.os = w.os
  tape : w'.tape = w.tape
  output : w'.output = w.output
  size : w.heap.size ≤ w'.heap.size
  block : ∀ k, k < w.heap.size → (k < t.S0 ∨ (k ≠ t.bn ∧ k ≠ t.bc ∧ k ≠ t.bf ∧ ∀ cs fr, w.heap[k]? ≠ some (.cells cs 22 fr))) → w'.heap[k]? = w.heap[k]?

theorem TB.Fr.refl (t : TB) (w : World) : t.Fr w w := ⟨rfl, rfl, rfl, Nat.le_refl _, fun _ _ _ => rfl⟩
theorem TB.Fr.trans {t : TB} {a b c : World} (h : t.Fr a b) (k : t.Fr b c) : t.Fr a c :=
  ⟨k.os.trans h.os, k.tape.trans h.tape, k.output.trans h.output, Nat.le_trans h.size k.size, fun i hi hc => by
    have e := h.block i hi hc
    refine (k.block i (Nat.lt_of_lt_of_le hi h.size) ?_).trans e
    rcases hc with hc | ⟨h1, h2, h3, h4⟩
    · exact .inl hc
    · exact .inr ⟨h1, h2, h3, fun cs fr => by rw [e]; exact h4 cs fr⟩⟩
theorem TB.Fr.of_below {t : TB} {w w' : World} (h : Below w.heap.size w w') : t.Fr w w' := ⟨h.os, h.tape, h.output, h.size, fun k hk _ => h.block k hk⟩
theorem TB.Fr.alloc {t : TB} {a w : World} (h : t.Fr a w) (o : Obj) : t.Fr a (w.alloc o) := h.trans (.of_below (below_alloc (Below.refl _ _) o))
theorem TB.Fr.drewN {t : TB} {a w : World} (h : t.Fr a w) (n : Nat) : t.Fr a (w.drewN n) := h.trans (.of_below (pw_below_drewN (Below.refl _ _) n))
theorem TB.Fr.drew {t : TB} {a w : World} (h : t.Fr a w) : t.Fr a w.drew := h.trans (.of_below (below_drew (Below.refl _ _)))
/-- A store into one of the three variables. -/
theorem TB.Fr.set {t : TB} (w : World) {b : Nat} (hb : b = t.bn ∨ b = t.bc ∨ b = t.bf) (h0 : t.S0 ≤ b) (o : Nat) (v : Value) : t.Fr w (w.setCell ⟨b, o, none⟩ v) :=
  ⟨rfl, rfl, rfl, by simp [World.setCell], fun k hk hc => by
    refine Below.heap_setCell w ⟨b, o, none⟩ v k ?_
    rcases hc with hc | ⟨h1, h2, h3, _⟩
    · show k ≠ b; omega
    · show k ≠ b
      rcases hb with rfl | rfl | rfl
      · exact h1
      · exact h2
      · exact h3⟩
/-- Behind an append to the clauses. -/
theorem TB.Fr.grown {t : TB} {w w' : World} {v : Value} {n : Nat} {xs : List Value} (hg : w.grownBy w' v.ownBlock) (ho : w.ownsRow t.S 22 1 v n xs) (h0 : t.S0 ≤ t.S) : t.Fr w w' :=
  ⟨hg.os, hg.tape, hg.output, hg.size, fun k hk hc => hg.block k hk (fun e => by
    obtain ⟨cells, hcc⟩ := own_typed ho k e.symm
    rcases hc with hc | ⟨_, _, _, h4⟩
    · have := own_base ho k e.symm; omega
    · exact h4 _ _ hcc)⟩

/-- A slice that stays readable. -/
def TB.SC (t : TB) (w : World) (A : Option Addr) (xs : List Int) : Prop := ∀ w', t.Fr w w' → (Kd.int .i64).C w' A xs.length xs
theorem TB.SC.now {t : TB} {w : World} {A : Option Addr} {xs : List Int} (h : t.SC w A xs) : (Kd.int .i64).C w A xs.length xs := h w (.refl t w)
theorem TB.SC.next {t : TB} {w w1 : World} {A : Option Addr} {xs : List Int} (h : t.SC w A xs) (hf : t.Fr w w1) : t.SC w1 A xs := fun w' h' => h w' (hf.trans h')

theorem C_blocks {w w' : World} {A : Option Addr} {xs : List Int} (h : (Kd.int .i64).C w A xs.length xs) (hs : ∀ b, (∃ ad, A = some ad ∧ ad.block = b) → b < w.heap.size → w'.heap[b]? = w.heap[b]?) : (Kd.int .i64).C w' A xs.length xs := by
  refine Kd.C_of_reads (h1 := fun _ => rfl) (d := (0 : Int)) ?_
  have hr := Kd.reads_of_C (enc := Value.int .i64) (d := (0 : Int)) (h1 := fun _ => rfl) h
  refine ⟨hr.1, hr.2.1, fun hn => ?_⟩
  obtain ⟨ad, e, hc⟩ := hr.2.2 hn
  refine ⟨ad, e, fun j hj => ?_⟩
  have hcj := hc j hj
  have hlt := World.block_lt_of_cell? w _ hcj
  rw [add_block] at hlt
  exact (World.cell?_of_block (w := w) (by rw [add_block]; exact hs _ ⟨ad, e, rfl⟩ hlt)).trans hcj

/-- What came in stays readable. -/
theorem TB.SC.came {t : TB} {w0 w : World} {A : Option Addr} {xs : List Int} (h : (Kd.int .i64).C w0 A xs.length xs) (h0 : w0.heap.size = t.S0) (hb : Below w0.heap.size w0 w) : t.SC w A xs := fun w' hf =>
  C_blocks h (fun b _ hlt => (hf.block b (Nat.lt_of_lt_of_le hlt hb.size) (.inl (by omega))).trans (hb.block b hlt))

/-- A row of ints that the call has made stays readable. -/
theorem TB.SC.made {t : TB} {w : World} {ok : Nat → Prop} {v : Value} {xs : List Int} (h : (Kd.int .i64).R 3 w t.S ok v xs) (hlt : t.bn < t.S ∧ t.bc < t.S ∧ t.bf < t.S) : ∃ A c, v = .slice A xs.length c ∧ xs.length ≤ c ∧ t.SC w A xs := by
  obtain ⟨A, c, rfl, hl, hc⟩ := Kd.R_reads h
  refine ⟨A, c, rfl, hl, fun w' hf => C_blocks hc (fun b hb hlt' => ?_)⟩
  obtain ⟨ad, rfl, rfl⟩ := hb
  obtain ⟨inner, ho⟩ := Kd.R_own h
  have hk : (Value.slice (some ad) xs.length c).ownBlock = some ad.block := by simp [Value.ownBlock]
  have hbs := own_base ho _ hk
  obtain ⟨cells, hcc⟩ := own_typed ho _ hk
  refine hf.block _ hlt' (.inr ⟨by omega, by omega, by omega, fun cs fr => ?_⟩)
  rw [hcc]
  intro e
  injection e with e
  injection e with _ e
  exact absurd e (by decide)

/-- The call's variables, and its clauses so far. -/
structure TB.St (t : TB) (w : World) (most next : Int) (full : Bool) (v : Value) (cs : List (List Int)) : Prop where
  m : w.heap[t.bm]? = some (.cells #[.int .i64 most] 3 (0, 0))
  n : w.heap[t.bn]? = some (.cells #[.int .i64 next] 3 (0, 0))
  c : w.heap[t.bc]? = some (.cells #[v] 24 (0, 0))
  cl : w.heap[t.bcl]? = some (.cells #[.func (.func 33) #[] #[.pointer (some ⟨t.bc, 0, none⟩)]] 55 (0, 0))
  nt : w.heap[t.bnot]? = some (.cells #[.func (.func 34) #[] #[]] 53 (0, 0))
  f : w.heap[t.bf]? = some (.cells #[.bool full] 4 (0, 0))
  cnt : w.heap[t.bcnt]? = some (.cells #[.func (.func 35) #[] #[.pointer (some ⟨t.bf, 0, none⟩), .pointer (some ⟨t.bcnt, 0, none⟩), .pointer (some ⟨t.bm, 0, none⟩), .pointer (some ⟨t.bn, 0, none⟩), .pointer (some ⟨t.bcl, 0, none⟩), .pointer (some ⟨t.bnot, 0, none⟩)]] 53 (0, 0))
  rows : KRows.R 22 w t.S (fun _ => True) v cs
  ne1 : t.bm ≠ t.bn
  ge : t.S0 ≤ t.bn ∧ t.S0 ≤ t.bc ∧ t.S0 ≤ t.bf ∧ t.S0 ≤ t.S
  lt : t.bm < t.S ∧ t.bn < t.S ∧ t.bc < t.S ∧ t.bcl < t.S ∧ t.bnot < t.S ∧ t.bf < t.S ∧ t.bcnt < t.S
  size : t.S ≤ w.heap.size

theorem TB.St.below {t : TB} {w w' : World} {most next : Int} {full : Bool} {v : Value} {cs : List (List Int)} (h : t.St w most next full v cs) (hb : Below w.heap.size w w') : t.St w' most next full v cs :=
  ⟨blk_below h.m hb, blk_below h.n hb, blk_below h.c hb, blk_below h.cl hb, blk_below h.nt hb, blk_below h.f hb, blk_below h.cnt hb, Kd.R_below h.rows hb, h.ne1, h.ge, h.lt, Nat.le_trans h.size hb.size⟩

theorem TB.St.drew {t : TB} {w : World} {most next : Int} {full : Bool} {v : Value} {cs : List (List Int)} (h : t.St w most next full v cs) : t.St w.drew most next full v cs := h.below (below_drew (Below.refl _ _))

theorem TB.St.setN {t : TB} {w : World} {most next : Int} {full : Bool} {v : Value} {cs : List (List Int)} (h : t.St w most next full v cs) (x : Int) : t.St (w.setCell ⟨t.bn, 0, none⟩ (.int .i64 x)) most x full v cs := by
  refine ⟨blk_far h.m h.ne1 _, by simpa using blk_set h.n 0 (.int .i64 x), blk_far h.c (blk_ne h.c h.n (by decide)) _, blk_far h.cl (blk_ne h.cl h.n (by decide)) _, blk_far h.nt (blk_ne h.nt h.n (by decide)) _, blk_far h.f (blk_ne h.f h.n (by decide)) _,
    blk_far h.cnt (blk_ne h.cnt h.n (by decide)) _, ?_, h.ne1, h.ge, h.lt, by simpa [World.setCell] using h.size⟩
  exact Kd.R_mono (Kd.R_far (Kd.R_bound h.rows) (fun k hk => by have := h.lt; have := hk.2.1; show k ≠ t.bn; omega) _) (fun _ _ => trivial)

theorem TB.St.setF {t : TB} {w : World} {most next : Int} {full : Bool} {v : Value} {cs : List (List Int)} (h : t.St w most next full v cs) (x : Bool) : t.St (w.setCell ⟨t.bf, 0, none⟩ (.bool x)) most next x v cs := by
  refine ⟨blk_far h.m (blk_ne h.m h.f (by decide)) _, blk_far h.n (blk_ne h.n h.f (by decide)) _, blk_far h.c (blk_ne h.c h.f (by decide)) _, blk_far h.cl (blk_ne h.cl h.f (by decide)) _, blk_far h.nt (blk_ne h.nt h.f (by decide)) _, by simpa using blk_set h.f 0 (.bool x),
    blk_far h.cnt (blk_ne h.cnt h.f (by decide)) _, ?_, h.ne1, h.ge, h.lt, by simpa [World.setCell] using h.size⟩
  exact Kd.R_mono (Kd.R_far (Kd.R_bound h.rows) (fun k hk => by have := h.lt; have := hk.2.1; show k ≠ t.bf; omega) _) (fun _ _ => trivial)

/-- Behind an append to the clauses, and the store of what it gave. -/
theorem TB.St.setC {t : TB} {w w' : World} {most next : Int} {full : Bool} {v v' : Value} {cs cs' : List (List Int)} (h : t.St w most next full v cs) (hg : w.grownBy w' v.ownBlock) (hR : KRows.R 22 w' t.S (fun _ => True) v' cs') :
    t.St (w'.setCell ⟨t.bc, 0, none⟩ v') most next full v' cs' := by
  obtain ⟨inner, ho⟩ := Kd.R_own h.rows
  have hne : ∀ b, b < t.S → some b ≠ v.ownBlock := fun b hb e => by have := own_base ho b e.symm; omega
  have hl := h.lt
  have gm := blk_grown h.m hg (hne _ hl.1)
  have gn := blk_grown h.n hg (hne _ hl.2.1)
  have gc := blk_grown h.c hg (hne _ hl.2.2.1)
  have gcl := blk_grown h.cl hg (hne _ hl.2.2.2.1)
  have gnt := blk_grown h.nt hg (hne _ hl.2.2.2.2.1)
  have gf := blk_grown h.f hg (hne _ hl.2.2.2.2.2.1)
  have gcnt := blk_grown h.cnt hg (hne _ hl.2.2.2.2.2.2)
  refine ⟨blk_far gm (blk_ne gm gc (by decide)) _, blk_far gn (blk_ne gn gc (by decide)) _, by simpa using blk_set gc 0 v', blk_far gcl (blk_ne gcl gc (by decide)) _, blk_far gnt (blk_ne gnt gc (by decide)) _, blk_far gf (blk_ne gf gc (by decide)) _,
    blk_far gcnt (blk_ne gcnt gc (by decide)) _, ?_, h.ne1, h.ge, h.lt, by have := hg.size; have := h.size; simp [World.setCell]; omega⟩
  exact Kd.R_mono (Kd.R_far (Kd.R_bound hR) (fun k hk => by have := hk.2.1; show k ≠ t.bc; omega) _) (fun _ _ => trivial)

theorem TB.St.cAfter {t : TB} {w w' : World} {most next : Int} {full : Bool} {v : Value} {cs : List (List Int)} (h : t.St w most next full v cs) (hg : w.grownBy w' v.ownBlock) : w'.heap[t.bc]? = some (.cells #[v] 24 (0, 0)) := by
  obtain ⟨inner, ho⟩ := Kd.R_own h.rows
  exact blk_grown h.c hg (fun e => by have := own_base ho t.bc e.symm; have := h.lt; omega)

theorem TB.St.frC {t : TB} {w w' : World} {most next : Int} {full : Bool} {v : Value} {cs : List (List Int)} (h : t.St w most next full v cs) (hg : w.grownBy w' v.ownBlock) (u : Value) : t.Fr w (w'.setCell ⟨t.bc, 0, none⟩ u) := by
  obtain ⟨inner, ho⟩ := Kd.R_own h.rows
  exact (TB.Fr.grown hg ho h.ge.2.2.2).trans (.set _ (.inr (.inl rfl)) h.ge.2.1 0 u)
theorem TB.St.frN {t : TB} {w : World} {most next : Int} {full : Bool} {v : Value} {cs : List (List Int)} (h : t.St w most next full v cs) (u : Value) : t.Fr w (w.setCell ⟨t.bn, 0, none⟩ u) := .set _ (.inl rfl) h.ge.1 0 u
theorem TB.St.frF {t : TB} {w : World} {most next : Int} {full : Bool} {v : Value} {cs : List (List Int)} (h : t.St w most next full v cs) (u : Value) : t.Fr w (w.setCell ⟨t.bf, 0, none⟩ u) := .set _ (.inr (.inr rfl)) h.ge.2.2.1 0 u

theorem below_same {w : World} {b : Nat} {u : Value} {ty : TypeId} (h : w.heap[b]? = some (.cells #[u] ty (0, 0))) (B : Nat) : Below B (w.setCell ⟨b, 0, none⟩ u) w :=
  ⟨rfl, rfl, rfl, by simp [World.setCell], fun k _ => by
    by_cases e : k = b
    · subst e
      rw [h, blk_set h 0 u]
      rfl
    · exact (Below.heap_setCell w ⟨b, 0, none⟩ u k e).symm⟩
/-- The same variable is written on both sides. -/
theorem below_both {w w' : World} {b B : Nat} {u u' x : Value} {ty : TypeId} (h : w.heap[b]? = some (.cells #[x] ty (0, 0))) (hb : Below B (w.setCell ⟨b, 0, none⟩ u) w') (hlt : b < B) : Below B (w.setCell ⟨b, 0, none⟩ u') (w'.setCell ⟨b, 0, none⟩ u') :=
  ⟨hb.os, hb.tape, hb.output, by simpa [World.setCell] using hb.size, fun k hk => by
    by_cases e : k = b
    · subst e
      have h1 := hb.block k hlt
      rw [blk_set h 0 u] at h1
      rw [blk_set h 0 u', blk_set h1 0 u']
      rfl
    · rw [Below.heap_setCell w' ⟨b, 0, none⟩ u' k e, hb.block k hk, Below.heap_setCell w ⟨b, 0, none⟩ u k e, Below.heap_setCell w ⟨b, 0, none⟩ u' k e]⟩

/-- An element of a row of rows that is read. -/
theorem at_rows {w : World} {A : Option Addr} {n : Nat} {xs : List (List Int)} (h : KRows.C w A n xs) (i : Nat) (h1 : i < n) : ∃ ad A0 c0, A = some ad ∧ w.cell? (ad.add i) = some (.slice A0 (xs.getD i []).length c0) ∧ (xs.getD i []).length ≤ c0 ∧ (Kd.int .i64).C w A0 (xs.getD i []).length (xs.getD i []) := by
  obtain ⟨ad, c, e, _, hK, hc0⟩ := Kd.C_get h ([] : List Int) (i : Int) (by omega) (by omega)
  rw [Int.toNat_natCast] at hK hc0
  have hc : ∀ j u, c[j]? = some u → w.cell? (ad.add (i * 1 + j)) = some u := hc0
  obtain ⟨A0, c0, rfl, l0, g0⟩ := hK
  exact ⟨ad, A0, c0, e, by have hq := hc 0 _ rfl; rwa [Nat.mul_one, Nat.add_zero] at hq, l0, g0⟩

end Go.Proofs.Ytpadmbpopjmdjaa.G
