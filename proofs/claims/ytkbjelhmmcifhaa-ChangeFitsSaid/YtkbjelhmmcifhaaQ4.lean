/- Walks: a pair's Pass and Set (bargateref17). The pair is one that may be (VS). -/
import Derived.Test.YtkbjelhmmcifhaaQ0
import Derived.Test.YtkbjelhmmcifhaaC3
set_option linter.unusedVariables false
set_option linter.unusedSimpArgs false
namespace Go.Proofs.Ytkbjelhmmcifhaa.CF
open Go.RowKit Go.Proofs.YtkbjelhmmcifhaaW.PrintWords Go.Proofs.YtkbjelhmmcifhaaW.PrintLast Go.Proofs.YtkbjelhmmcifhaaW.PrintMore
open Go.Proofs.Ytkbjelhmmcifhaa.PChangeFits (S71 S33 k71 k33 z71 z33 rd_T71)

/-- A pair at block g; its lists' arrays are ok (none of them is g). -/
structure PHeld (w : World) (g : Nat) (S : Sch) (ok : Nat → Prop) : Prop where
  at_ : ∃ A3 c3 A7 c7, w.heap[g]? = some (.cells (pairCells S A3 c3 A7 c7) 35 (0, 0)) ∧ Ents w A3 c3 S.o.f3 ok ∧ Ents w A7 c7 S.a.f3 ok
  ne : ∀ k, ok k → k ≠ g

section
variable {w w1 : World} {g : Nat} {S : Sch} {ok : Nat → Prop}
theorem PHeld.is (h : PHeld w g S ok) : ∃ A3 c3 A7 c7, IsPair w g S A3 c3 A7 c7 := by
  obtain ⟨A3, c3, A7, c7, hb, h3, h7⟩ := h.at_
  exact ⟨A3, c3, A7, c7, hb, h3.mono h.ne, h7.mono h.ne⟩
theorem PHeld.chg {D : Nat → Prop} (h : PHeld w g S ok) (hc : Chg D w w1) (hd : ∀ k, ok k → ¬ D k) (hg : ¬ D g) : PHeld w1 g S ok := by
  obtain ⟨A3, c3, A7, c7, hb, h3, h7⟩ := h.at_
  exact ⟨⟨A3, c3, A7, c7, (hc.block g (blk_lt hb) hg).trans hb, h3.chg hc hd, h7.chg hc hd⟩, h.ne⟩
theorem PHeld.below (h : PHeld w g S ok) (hb : Below w.heap.size w w1) : PHeld w1 g S ok :=
  h.chg (Chg.of_below (D := fun _ => False) hb) (fun _ _ h => h) (fun h => h)
end

def ppassF (S : Sch) (now : Int) : Sch :=
  if S.waits = true ∧ S.at_ ≤ now then { o := movedF S, a := S.a, has := true, waits := false, at_ := S.at_, chg := 0, rep := 0 } else S

def RPP (w : World) (g : Nat) (S : Sch) (ok : Nat → Prop) (e : Ending) (w' : World) : Prop := e = .returned (.tuple #[]) ∧ PHeld w' g S ok ∧ Chg (· = g) w w'

theorem ppass_no (w : World) (g : Nat) (S : Sch) (ok : Nat → Prop) (now : Int) (h : PHeld w g S ok) (hn : ¬ (S.waits = true ∧ S.at_ ≤ now)) :
    Calls Try.prog 72 #[.pointer (some ⟨g, 0, none⟩), .int .i64 now] w (RPP w g S ok) := by
  obtain ⟨A3, c3, A7, c7, hI⟩ := h.is
  obtain ⟨_, _, _, _, _, _, _, _, _, d9, d10⟩ := hI.cs
  have H := Aside0.mk h
  clear h hI
  cases hw : S.waits
  · rw [hw] at d9
    clear hn hw
    go_enter Try.func72, Try.ntmps72
    go_wp2
    go_end0
    exact ⟨rfl, H.out, Chg.refl _ _⟩
  · rw [hw] at d9
    have hd : decide (S.at_ ≤ now) = false := decide_eq_false (fun h => hn ⟨hw, h⟩)
    clear hn hw
    go_enter Try.func72, Try.ntmps72
    go_wp2
    go_end0
    exact ⟨rfl, H.out, Chg.refl _ _⟩

theorem ppass_end {w : World} {g : Nat} {S : Sch} {ok : Nat → Prop} {A3 : Option Addr} {c3 : Nat} {A7 : Option Addr} {c7 : Nat} (hb : w.heap[g]? = some (.cells (pairCells S A3 c3 A7 c7) 35 (0, 0)))
    (h7 : Ents w A7 c7 S.a.f3 ok) (hne : ∀ k, ok k → k ≠ g) :
    RPP w g { o := movedF S, a := S.a, has := true, waits := false, at_ := S.at_, chg := 0, rep := 0 } ok (.returned (.tuple #[]))
      (((((((w.setCell ⟨g, 0, none⟩ (.int .i64 S.a.f0)).setCell ⟨g, 1, none⟩ (.int .i64 S.a.f1)).setCell ⟨g, 2, none⟩ (.int .i64 S.a.f2)).setCell ⟨g, 3, none⟩ (.slice A7 S.a.f3.length c7)).setCell ⟨g, 8, none⟩ (.bool true)).setCell ⟨g, 9, none⟩ (.bool false)).setCell ⟨g, 0, none⟩ (.int .i64 S.at_)) := by
  have HH := blk_set (blk_set (blk_set (blk_set (blk_set (blk_set (blk_set hb 0 (.int .i64 S.a.f0)) 1 (.int .i64 S.a.f1)) 2 (.int .i64 S.a.f2)) 3 (.slice A7 S.a.f3.length c7)) 8 (.bool true)) 9 (.bool false)) 0 (.int .i64 S.at_)
  simp only [pairCells, List.setIfInBounds_toArray, List.set_cons_zero, List.set_cons_succ] at HH
  have hC : Chg (· = g) w (((((((w.setCell ⟨g, 0, none⟩ (.int .i64 S.a.f0)).setCell ⟨g, 1, none⟩ (.int .i64 S.a.f1)).setCell ⟨g, 2, none⟩ (.int .i64 S.a.f2)).setCell ⟨g, 3, none⟩ (.slice A7 S.a.f3.length c7)).setCell ⟨g, 8, none⟩ (.bool true)).setCell ⟨g, 9, none⟩ (.bool false)).setCell ⟨g, 0, none⟩ (.int .i64 S.at_)) := by
    iterate 7 refine Chg.setCell (D := (· = g)) ?_ rfl _
    exact Chg.refl _ _
  exact ⟨rfl, ⟨⟨A7, c7, A7, c7, HH, h7.chg hC hne, h7.chg hC hne⟩, hne⟩, hC⟩

theorem ppass_yes (w : World) (g : Nat) (S : Sch) (ok : Nat → Prop) (now : Int) (h : PHeld w g S ok) (hw : S.waits = true) (ha : S.at_ ≤ now) :
    Calls Try.prog 72 #[.pointer (some ⟨g, 0, none⟩), .int .i64 now] w (RPP w g { o := movedF S, a := S.a, has := true, waits := false, at_ := S.at_, chg := 0, rep := 0 } ok) := by
  obtain ⟨A3, c3, A7, c7, hb, h3, h7⟩ := h.at_
  have hne := h.ne
  have hI : IsPair w g S A3 c3 A7 c7 := ⟨hb, h3.mono h.ne, h7.mono h.ne⟩
  obtain ⟨d0, d1, d2, d3, d4, d5, d6, d7, d8, d9, d10⟩ := hI.cs
  have f0 := blk_frozen hb 0
  have f1 := blk_frozen hb 1
  have f2 := blk_frozen hb 2
  have f3 := blk_frozen hb 3
  have f8 := blk_frozen hb 8
  have f9 := blk_frozen hb 9
  rw [hw] at d9
  have HB := Aside0.mk hb
  have H7 := Aside0.mk h7
  have HNE := Aside0.mk hne
  have hd : decide (S.at_ ≤ now) = true := decide_eq_true ha
  clear h hI hb h3 h7 hne hw ha
  go_enter Try.func72, Try.ntmps72
  go_wp2
  go_end0
  exact ppass_end HB.out H7.out HNE.out

theorem ppass_any (w : World) (g : Nat) (S : Sch) (ok : Nat → Prop) (now : Int) (h : PHeld w g S ok) :
    Calls Try.prog 72 #[.pointer (some ⟨g, 0, none⟩), .int .i64 now] w (RPP w g (ppassF S now) ok) := by
  unfold ppassF
  by_cases hn : S.waits = true ∧ S.at_ ≤ now
  · rw [if_pos hn]; exact ppass_yes w g S ok now h hn.1 hn.2
  · rw [if_neg hn]; exact ppass_no w g S ok now h hn

def psetF (S : Sch) (l : S33) (now : Int) : Sch :=
  ppassF { o := (ppassF S now).o, a := l, has := (ppassF S now).has, waits := true, at_ := gStart l now, chg := 0, rep := 0 } now

/-- The stores of Set: the list waits. -/
theorem pset_store {w : World} {g : Nat} {S : Sch} {ok : Nat → Prop} {l : S33} {A : Option Addr} {c : Nat} {T : Int} (h : PHeld w g S ok) (hE : Ents w A c l.f3 ok) :
    PHeld ((((((w.setCell ⟨g, 4, none⟩ (.int .i64 l.f0)).setCell ⟨g, 5, none⟩ (.int .i64 l.f1)).setCell ⟨g, 6, none⟩ (.int .i64 l.f2)).setCell ⟨g, 7, none⟩ (.slice A l.f3.length c)).setCell ⟨g, 9, none⟩ (.bool true)).setCell ⟨g, 10, none⟩ (.int .i64 T)) g
      { o := S.o, a := l, has := S.has, waits := true, at_ := T, chg := 0, rep := 0 } ok ∧
    Chg (· = g) w ((((((w.setCell ⟨g, 4, none⟩ (.int .i64 l.f0)).setCell ⟨g, 5, none⟩ (.int .i64 l.f1)).setCell ⟨g, 6, none⟩ (.int .i64 l.f2)).setCell ⟨g, 7, none⟩ (.slice A l.f3.length c)).setCell ⟨g, 9, none⟩ (.bool true)).setCell ⟨g, 10, none⟩ (.int .i64 T)) := by
  obtain ⟨A3, c3, A7, c7, hb, h3, h7⟩ := h.at_
  have HH := blk_set (blk_set (blk_set (blk_set (blk_set (blk_set hb 4 (.int .i64 l.f0)) 5 (.int .i64 l.f1)) 6 (.int .i64 l.f2)) 7 (.slice A l.f3.length c)) 9 (.bool true)) 10 (.int .i64 T)
  simp only [pairCells, List.setIfInBounds_toArray, List.set_cons_zero, List.set_cons_succ] at HH
  have hC : Chg (· = g) w ((((((w.setCell ⟨g, 4, none⟩ (.int .i64 l.f0)).setCell ⟨g, 5, none⟩ (.int .i64 l.f1)).setCell ⟨g, 6, none⟩ (.int .i64 l.f2)).setCell ⟨g, 7, none⟩ (.slice A l.f3.length c)).setCell ⟨g, 9, none⟩ (.bool true)).setCell ⟨g, 10, none⟩ (.int .i64 T)) := by
    iterate 6 refine Chg.setCell (D := (· = g)) ?_ rfl _
    exact Chg.refl _ _
  exact ⟨⟨⟨A3, c3, A, c, HH, h3.chg hC h.ne, hE.chg hC h.ne⟩, h.ne⟩, hC⟩

section
variable (w : World) (g : Nat) (S : Sch) (ok : Nat → Prop) (l : S33) (A : Option Addr) (c : Nat) (now : Int)

theorem pset_any (h : PHeld w g S ok) (hv : VL l) (hr : Ents w A c l.f3 ok) (hn0 : 0 ≤ now) (hn1 : now < 4611686018427387904) :
    Calls Try.prog 47 #[.pointer (some ⟨g, 0, none⟩), listV l A c, .int .i64 now] w (RPP w g (psetF S l now) ok) := by
  have H := Aside0.mk h
  have HR := Aside0.mk hr
  have HV := Aside0.mk hv
  have hgw : g < w.heap.size := by obtain ⟨_, _, _, _, hb, _⟩ := h.at_; exact blk_lt hb
  clear h hr hv
  unfold listV
  go_enter Try.func47, Try.ntmps47
  go_wp2_with fail
  refine (ppass_any _ g S ok now (by exact H.out.below (below_alloc (Below.refl _ _) _))).mono ?_
  rintro e w1 ⟨rfl, hH, hC⟩
  have HH1 := Aside0.mk hH
  have HC1 := Aside0.mk ((Chg.of_below (D := (· = g)) (below_alloc (Below.refl _ _) (boxed l A c))).trans hC)
  have hk : w1.heap[w.heap.size]? = some (boxed l A c) := (hC.block _ (by simp) (by omega)).trans (blk_new _ _)
  obtain ⟨b0, b1, b2, b3⟩ := box_cs hk
  have HK := Aside0.mk hk
  obtain ⟨A3, c3, A7, c7, hI⟩ := hH.is
  obtain ⟨_, _, _, _, d4, d5, d6, d7, _, d9, d10⟩ := hI.cs
  have f4 := blk_frozen hI.blk 4
  have f5 := blk_frozen hI.blk 5
  have f6 := blk_frozen hI.blk 6
  have f7 := blk_frozen hI.blk 7
  have f9 := blk_frozen hI.blk 9
  have f10 := blk_frozen hI.blk 10
  have hz : w.heap.size < w1.heap.size := blk_lt hk
  clear hH hC hk hI
  go_wp2_with fail
  go_region_with (go_at_call 46; refine (rStart_any HV.out (by omega) _ (by exact (HR.out.chg HC1.out (fun k hk => HH1.out.ne k hk)).row) HR.out.cap).mono ?_; rintro e w2 ⟨rfl, hb0⟩; have hb := below_step (below_drew1 (Below.refl _ w1)) hb0; have HB2 := Aside0.mk hb; obtain ⟨B3, e3, B7, e7, hI2⟩ := (HH1.out.below hb).is; obtain ⟨_, _, _, _, x4, x5, x6, x7, _, x9, x10⟩ := hI2.cs; have g4 := blk_frozen hI2.blk 4; have g5 := blk_frozen hI2.blk 5; have g6 := blk_frozen hI2.blk 6; have g7 := blk_frozen hI2.blk 7; have g9 := blk_frozen hI2.blk 9; have g10 := blk_frozen hI2.blk 10; obtain ⟨y0, y1, y2, y3⟩ := box_cs (blk_below HK.out hb); clear hb hb0 hI2)
  all_goals
    have HB2' := HB2
    have HH2 := Aside0.mk (HH1.out.below HB2.out)
    have hst := pset_store (l := l) (A := A) (c := c) (T := gStart l now) HH2.out ((HR.out.chg HC1.out (fun k hk => HH1.out.ne k hk)).move HB2.out.size (fun k _ hk => HB2.out.block k hk))
    have HS := Aside0.mk hst
    clear hst
    go_wp2_with fail
    refine (ppass_any _ g { o := (ppassF S now).o, a := l, has := (ppassF S now).has, waits := true, at_ := gStart l now, chg := 0, rep := 0 } ok now (by exact HS.out.1)).mono ?_
    rintro e w5 ⟨rfl, hH, hC⟩
    have HH5 := Aside0.mk hH
    have HC5 := Aside0.mk (((HC1.out.below HB2.out).trans HS.out.2).trans hC)
    clear hH hC
    go_wp2
    go_end0
    exact ⟨rfl, HH5.out, HC5.out⟩
end

end Go.Proofs.Ytkbjelhmmcifhaa.CF
