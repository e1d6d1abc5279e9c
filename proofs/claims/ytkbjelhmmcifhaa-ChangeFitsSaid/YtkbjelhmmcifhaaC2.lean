/- Walks: a schedule's Pass, Waits, Counts, Oper and Set. The schedule is one that may be (VS). -/
import Derived.Test.YtkbjelhmmcifhaaC1
import Derived.Test.YtkbjelhmmcifhaaS1
set_option linter.unusedVariables false
set_option linter.unusedSimpArgs false
namespace Go.Proofs.Ytkbjelhmmcifhaa.CF
open Go.RowKit Go.Proofs.YtkbjelhmmcifhaaW.PrintWords Go.Proofs.YtkbjelhmmcifhaaW.PrintLast Go.Proofs.YtkbjelhmmcifhaaW.PrintMore
open Go.Proofs.Ytkbjelhmmcifhaa.PChangeFits (S71 S33 k71 k33 z71 z33 rd_T71 at_T71)

/-- Nothing has changed but the blocks of D, and what is new. -/
structure Chg (D : Nat → Prop) (w w' : World) : Prop where
  os : w'.os = w.os
  tape : w'.tape = w.tape
  output : w'.output = w.output
  size : w.heap.size ≤ w'.heap.size
  block : ∀ k, k < w.heap.size → ¬ D k → w'.heap[k]? = w.heap[k]?

section
variable {D : Nat → Prop} {w w1 w2 : World}
theorem Chg.refl (D : Nat → Prop) (w : World) : Chg D w w := ⟨rfl, rfl, rfl, Nat.le_refl _, fun _ _ _ => rfl⟩
theorem Chg.trans (h : Chg D w w1) (k : Chg D w1 w2) : Chg D w w2 :=
  ⟨k.os.trans h.os, k.tape.trans h.tape, k.output.trans h.output, Nat.le_trans h.size k.size, fun i hi hd => (k.block i (Nat.lt_of_lt_of_le hi h.size) hd).trans (h.block i hi hd)⟩
theorem Chg.of_below (h : Below w.heap.size w w1) : Chg D w w1 := ⟨h.os, h.tape, h.output, h.size, fun k hk _ => h.block k hk⟩
theorem Chg.below (h : Chg D w w1) (k : Below w1.heap.size w1 w2) : Chg D w w2 := h.trans (Chg.of_below k)
theorem Chg.setCell (h : Chg D w w1) {p : Addr} (hp : D p.block) (u : Value) : Chg D w (w1.setCell p u) :=
  h.trans ⟨rfl, rfl, rfl, by simp [World.setCell], fun k _ hk => Below.heap_setCell _ _ _ _ (fun e => hk (e ▸ hp))⟩
theorem Chg.mono {D' : Nat → Prop} (h : Chg D w w1) (hd : ∀ k, D k → D' k) : Chg D' w w1 := ⟨h.os, h.tape, h.output, h.size, fun k hk hn => h.block k hk (fun hx => hn (hd k hx))⟩
/-- From the view of an elder world w0: what changed since is new to it. -/
theorem Chg.since {w0 : World} (h : Below w0.heap.size w0 w) (k : Chg D w w1) (hd : ∀ k, D k → w0.heap.size ≤ k) : Below w0.heap.size w0 w1 :=
  ⟨k.os.trans h.os, k.tape.trans h.tape, k.output.trans h.output, Nat.le_trans h.size k.size, fun i hi => (k.block i (Nat.lt_of_lt_of_le hi h.size) (fun hx => by have := hd i hx; omega)).trans (h.block i hi)⟩
end

theorem Ents.mono {w : World} {A : Option Addr} {c : Nat} {xs : List S71} {ok ok' : Nat → Prop} (h : Ents w A c xs ok) (hk : ∀ k, ok k → ok' k) : Ents w A c xs ok' :=
  ⟨h.row, h.cap, fun a e => ⟨hk _ (h.lies a e).1, (h.lies a e).2⟩⟩

/-- A schedule at block g; its lists' arrays are ok (none of them is g). -/
structure Held (w : World) (g : Nat) (S : Sch) (ok : Nat → Prop) : Prop where
  at_ : ∃ A3 c3 A7 c7, w.heap[g]? = some (.cells (schCells S A3 c3 A7 c7) 80 (0, 0)) ∧ Ents w A3 c3 S.o.f3 ok ∧ Ents w A7 c7 S.a.f3 ok
  ne : ∀ k, ok k → k ≠ g

theorem Held.is {w : World} {g : Nat} {S : Sch} {ok : Nat → Prop} (h : Held w g S ok) : ∃ A3 c3 A7 c7, IsSch w g S A3 c3 A7 c7 := by
  obtain ⟨A3, c3, A7, c7, hb, h3, h7⟩ := h.at_
  exact ⟨A3, c3, A7, c7, hb, h3.mono h.ne, h7.mono h.ne⟩

theorem Ents.chg {D : Nat → Prop} {w w1 : World} {A : Option Addr} {c : Nat} {xs : List S71} {ok : Nat → Prop} (h : Ents w A c xs ok) (hc : Chg D w w1) (hd : ∀ k, ok k → ¬ D k) : Ents w1 A c xs ok :=
  h.move hc.size (fun k ho hk => hc.block k hk (hd k ho))

theorem Held.chg {D : Nat → Prop} {w w1 : World} {g : Nat} {S : Sch} {ok : Nat → Prop} (h : Held w g S ok) (hc : Chg D w w1) (hd : ∀ k, ok k → ¬ D k) (hg : ¬ D g) : Held w1 g S ok := by
  obtain ⟨A3, c3, A7, c7, hb, h3, h7⟩ := h.at_
  exact ⟨⟨A3, c3, A7, c7, (hc.block g (blk_lt hb) hg).trans hb, h3.chg hc hd, h7.chg hc hd⟩, h.ne⟩

theorem Held.below {w w1 : World} {g : Nat} {S : Sch} {ok : Nat → Prop} (h : Held w g S ok) (hb : Below w.heap.size w w1) : Held w1 g S ok :=
  h.chg (Chg.of_below (D := fun _ => False) hb) (fun _ _ h => h) (fun h => h)

def passF (S : Sch) (now : Int) : Sch :=
  if S.waits = true ∧ S.at_ ≤ now then { o := movedF S, a := ⟨0, 0, 0, []⟩, has := true, waits := false, at_ := S.at_, chg := S.chg + 1, rep := S.rep } else S

def RP (w : World) (g : Nat) (S : Sch) (ok : Nat → Prop) (e : Ending) (w' : World) : Prop := e = .returned (.tuple #[]) ∧ Held w' g S ok ∧ Chg (· = g) w w'

theorem ents_nil (w : World) (ok : Nat → Prop) : Ents w none 0 [] ok := ⟨⟨rfl, by simp, fun h => absurd h (by simp)⟩, by simp, fun a e => by cases e⟩

theorem pass_no (w : World) (g : Nat) (S : Sch) (ok : Nat → Prop) (now : Int) (h : Held w g S ok) (hn : ¬ (S.waits = true ∧ S.at_ ≤ now)) :
    Calls Try.prog 42 #[.pointer (some ⟨g, 0, none⟩), .int .i64 now] w (RP w g S ok) := by
  obtain ⟨A3, c3, A7, c7, hI⟩ := h.is
  obtain ⟨_, _, _, _, _, _, _, _, _, d9, d10, _, _⟩ := hI.cs
  have H := Aside0.mk h
  clear h hI
  cases hw : S.waits
  · rw [hw] at d9
    clear hn hw
    go_enter Try.func42, Try.ntmps42
    go_wp2
    go_end0
    exact ⟨rfl, H.out, Chg.refl _ _⟩
  · rw [hw] at d9
    have hd : decide (S.at_ ≤ now) = false := decide_eq_false (fun h => hn ⟨hw, h⟩)
    clear hn hw
    go_enter Try.func42, Try.ntmps42
    go_wp2
    go_end0
    exact ⟨rfl, H.out, Chg.refl _ _⟩

theorem RP_mk {w W : World} {g : Nat} {S : Sch} {ok : Nat → Prop} {A3 : Option Addr} {c3 : Nat} {A7 : Option Addr} {c7 : Nat} (hC : Chg (· = g) w W) (hb : W.heap[g]? = some (.cells (schCells S A3 c3 A7 c7) 80 (0, 0)))
    (h3 : Ents w A3 c3 S.o.f3 ok) (h7 : Ents w A7 c7 S.a.f3 ok) (hne : ∀ k, ok k → k ≠ g) : RP w g S ok (.returned (.tuple #[])) W :=
  ⟨rfl, ⟨⟨A3, c3, A7, c7, hb, h3.chg hC hne, h7.chg hC hne⟩, hne⟩, hC⟩

theorem pass_end {w : World} {g : Nat} {S : Sch} {ok : Nat → Prop} {A3 : Option Addr} {c3 : Nat} {A7 : Option Addr} {c7 : Nat} (hb : w.heap[g]? = some (.cells (schCells S A3 c3 A7 c7) 80 (0, 0)))
    (h7 : Ents w A7 c7 S.a.f3 ok) (hne : ∀ k, ok k → k ≠ g) :
    RP w g { o := movedF S, a := ⟨0, 0, 0, []⟩, has := true, waits := false, at_ := S.at_, chg := S.chg + 1, rep := S.rep } ok (.returned (.tuple #[]))
      ((((((((((((w.setCell ⟨g, 0, none⟩ (.int .i64 S.a.f0)).setCell ⟨g, 1, none⟩ (.int .i64 S.a.f1)).setCell ⟨g, 2, none⟩ (.int .i64 S.a.f2)).setCell ⟨g, 3, none⟩ (.slice A7 S.a.f3.length c7)).setCell ⟨g, 8, none⟩ (.bool true)).setCell ⟨g, 9, none⟩ (.bool false)).setCell ⟨g, 4, none⟩ (.int .i64 0)).setCell ⟨g, 5, none⟩ (.int .i64 0)).setCell ⟨g, 6, none⟩ (.int .i64 0)).setCell ⟨g, 7, none⟩ (.slice none 0 0)).setCell ⟨g, 0, none⟩ (.int .i64 S.at_)).setCell ⟨g, 11, none⟩ (.int .i64 (S.chg + 1))) := by
  have HH := blk_set (blk_set (blk_set (blk_set (blk_set (blk_set (blk_set (blk_set (blk_set (blk_set (blk_set (blk_set hb 0 (.int .i64 S.a.f0)) 1 (.int .i64 S.a.f1)) 2 (.int .i64 S.a.f2)) 3 (.slice A7 S.a.f3.length c7)) 8 (.bool true)) 9 (.bool false)) 4 (.int .i64 0)) 5 (.int .i64 0)) 6 (.int .i64 0)) 7 (.slice none 0 0)) 0 (.int .i64 S.at_)) 11 (.int .i64 (S.chg + 1))
  simp only [schCells, List.setIfInBounds_toArray, List.set_cons_zero, List.set_cons_succ] at HH
  refine RP_mk (A3 := A7) (c3 := c7) (A7 := none) (c7 := 0) ?_ HH h7 (ents_nil _ _) hne
  iterate 12 refine Chg.setCell (D := (· = g)) ?_ rfl _
  exact Chg.refl _ _

theorem pass_yes (w : World) (g : Nat) (S : Sch) (ok : Nat → Prop) (now : Int) (h : Held w g S ok) (hw : S.waits = true) (ha : S.at_ ≤ now) (hc0 : 0 ≤ S.chg) (hc1 : S.chg ≤ 1000000) :
    Calls Try.prog 42 #[.pointer (some ⟨g, 0, none⟩), .int .i64 now] w (RP w g { o := movedF S, a := ⟨0, 0, 0, []⟩, has := true, waits := false, at_ := S.at_, chg := S.chg + 1, rep := S.rep } ok) := by
  obtain ⟨A3, c3, A7, c7, hb, h3, h7⟩ := h.at_
  have hne := h.ne
  have hI : IsSch w g S A3 c3 A7 c7 := ⟨hb, h3.mono h.ne, h7.mono h.ne⟩
  obtain ⟨d0, d1, d2, d3, d4, d5, d6, d7, d8, d9, d10, d11, d12⟩ := hI.cs
  have f0 := blk_frozen hb 0
  have f1 := blk_frozen hb 1
  have f2 := blk_frozen hb 2
  have f3 := blk_frozen hb 3
  have f4 := blk_frozen hb 4
  have f5 := blk_frozen hb 5
  have f6 := blk_frozen hb 6
  have f7 := blk_frozen hb 7
  have f8 := blk_frozen hb 8
  have f9 := blk_frozen hb 9
  have f11 := blk_frozen hb 11
  rw [hw] at d9
  have HB := Aside0.mk hb
  have H7 := Aside0.mk h7
  have HNE := Aside0.mk hne
  have hd : decide (S.at_ ≤ now) = true := decide_eq_true ha
  clear h hI hb h3 h7 hne hw ha
  go_enter Try.func42, Try.ntmps42
  go_wp2
  go_end0
  exact pass_end HB.out H7.out HNE.out

theorem pass_any (w : World) (g : Nat) (S : Sch) (ok : Nat → Prop) (now : Int) (h : Held w g S ok) (hc0 : 0 ≤ S.chg) (hc1 : S.chg ≤ 1000000) :
    Calls Try.prog 42 #[.pointer (some ⟨g, 0, none⟩), .int .i64 now] w (RP w g (passF S now) ok) := by
  unfold passF
  by_cases hn : S.waits = true ∧ S.at_ ≤ now
  · rw [if_pos hn]; exact pass_yes w g S ok now h hn.1 hn.2 hc0 hc1
  · rw [if_neg hn]; exact pass_no w g S ok now h hn

section
variable (w : World) (g : Nat) (S : Sch) {A3 : Option Addr} {c3 : Nat} {A7 : Option Addr} {c7 : Nat}
def RIB (w : World) (a : Int) (b : Bool) (e : Ending) (w' : World) : Prop := e = .returned (.tuple #[.int .i64 a, .bool b]) ∧ Below w.heap.size w w'
def RII (w : World) (a b : Int) (e : Ending) (w' : World) : Prop := e = .returned (.tuple #[.int .i64 a, .int .i64 b]) ∧ Below w.heap.size w w'

theorem waits_any (h : IsSch w g S A3 c3 A7 c7) : Calls Try.prog 39 #[.pointer (some ⟨g, 0, none⟩)] w (RIB w S.at_ S.waits) := by
  obtain ⟨_, _, _, _, _, _, _, _, _, d9, d10, _, _⟩ := h.cs
  clear h
  go_enter Try.func39, Try.ntmps39
  go_wp2
  go_quiet (fail)
  go_wp2
  go_ret2
  exact ⟨rfl, below_q (Below.refl _ _) _⟩

theorem counts_any (h : IsSch w g S A3 c3 A7 c7) : Calls Try.prog 44 #[.pointer (some ⟨g, 0, none⟩)] w (RII w S.chg S.rep) := by
  obtain ⟨_, _, _, _, _, _, _, _, _, _, _, d11, d12⟩ := h.cs
  clear h
  go_enter Try.func44, Try.ntmps44
  go_wp2
  go_quiet (fail)
  go_wp2
  go_ret2
  exact ⟨rfl, below_q (Below.refl _ _) _⟩
end

/-- What is told: an error, or a list that waits. -/
def setE (l : S33) (now : Int) : Int := if checkF l ≠ 0 then 30 else if now < 0 ∨ 4611686018427387904 ≤ now then 31 else if 4611686018427387904 ≤ gStart l now then 31 else 0
def setF (S : Sch) (l : S33) (now : Int) : Sch :=
  passF { o := (passF S now).o, a := l, has := (passF S now).has, waits := true, at_ := gStart l now, chg := (passF S now).chg, rep := (passF S now).rep + (if (passF S now).waits = true then 1 else 0) } now

end Go.Proofs.Ytkbjelhmmcifhaa.CF
