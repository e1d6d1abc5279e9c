-- PRINTED BY print.sh 35421559b90ae4d0a3588c463048766b98c2df88dd9212a6774a882060cdf62d: not written by this session
import Derived.Test.YtkbjelhmmcifhaaPChangeFitsx0
namespace Go.Proofs.Ytkbjelhmmcifhaa.PChangeFits
open Go.RowKit Go.Proofs.YtkbjelhmmcifhaaW.PrintWords Go.Proofs.YtkbjelhmmcifhaaW.PrintLast Go.Proofs.YtkbjelhmmcifhaaW.PrintMore
attribute [local go_sem] max2_int min2_int max_two min_two max_three min_three max_four min_four   -- for this text's walks alone
set_option linter.unusedVariables false
set_option linter.unusedSimpArgs false

/-! ### gate_at: function 99 -/
mutual
def gate_at.l0 : Nat → Int → Int → List (S71) → Int → Int → Int → Int → Int → List (S71) → Option (Int × Int)
  | 0, _, _, _, _, _, _, _, _, _ => none
  | k + 1, x1, x6, x10, x11, x12, x102000, x102001, x102002, x102003 => if x12 < x11 then (if 0 ≤ x12 then (if x12 < (x10.length : Int) then (if x1 < (wrap64 (x6 + ((rd_T71 x10 x12).f1))) then (if x12 < (wrap64 ((x102003.length : Int) - 1)) then (gate_at.j1 k x1 (wrap64 (x6 + ((rd_T71 x10 x12).f1))) x12 x10 x11 x12 (decide ((wrap64 (x6 + ((rd_T71 x10 x12).f1))) < x102001)) x102000 x102001 x102002 x102003) else (gate_at.j1 k x1 (wrap64 (x6 + ((rd_T71 x10 x12).f1))) x12 x10 x11 x12 false x102000 x102001 x102002 x102003)) else (gate_at.j1 k x1 (wrap64 (x6 + ((rd_T71 x10 x12).f1))) x12 x10 x11 x12 false x102000 x102001 x102002 x102003)) else (none)) else (none)) else (some (wrap64 ((x102003.length : Int) - 1), wrap64 (x102001 - x1)))
def gate_at.j1 : Nat → Int → Int → Int → List (S71) → Int → Int → Bool → Int → Int → Int → List (S71) → Option (Int × Int)
  | 0, _, _, _, _, _, _, _, _, _, _, _ => none
  | k + 1, x1, x6, x7, x10, x11, x12, x37, x102000, x102001, x102002, x102003 => if x37 = true then (some (x7, wrap64 (x6 - x1))) else (if x6 ≥ x102001 then (some (x7, wrap64 (x102001 - x1))) else (gate_at.l0 k x1 x6 x10 x11 (wrap64 (x12 + 1)) x102000 x102001 x102002 x102003))
end
def gate_at.f (k : Nat) (a0_0 : Int) (a0_1 : Int) (a0_2 : Int) (l0_3 : List (S71)) (a1 : Int) : Option (Int × Int) := gate_at.l0 k a1 0 l0_3 (l0_3.length : Int) 0 a0_0 a0_1 a0_2 l0_3
theorem gate_at.mono_l : ∀ k, (∀ y0 y1 y2 y3 y4 y5 y6 y7 y8, LeO (gate_at.l0 k y0 y1 y2 y3 y4 y5 y6 y7 y8) (gate_at.l0 (k + 1) y0 y1 y2 y3 y4 y5 y6 y7 y8)) ∧ (∀ y0 y1 y2 y3 y4 y5 y6 y7 y8 y9 y10, LeO (gate_at.j1 k y0 y1 y2 y3 y4 y5 y6 y7 y8 y9 y10) (gate_at.j1 (k + 1) y0 y1 y2 y3 y4 y5 y6 y7 y8 y9 y10))
  | 0 => ⟨fun _ _ _ _ _ _ _ _ _ r h => by simp [gate_at.l0] at h, fun _ _ _ _ _ _ _ _ _ _ _ r h => by simp [gate_at.j1] at h⟩
  | k + 1 => by
    obtain ⟨ih0, ih1⟩ := gate_at.mono_l k
    refine ⟨?_, ?_⟩
    · intro y0 y1 y2 y3 y4 y5 y6 y7 y8
      unfold gate_at.l0
      repeat' first
      | (with_reducible exact ih0 _ _ _ _ _ _ _ _ _)
      | (with_reducible exact ih1 _ _ _ _ _ _ _ _ _ _ _)
      | (with_reducible exact LeO.refl _)
      | (with_reducible exact LeO.none _)
      | (with_reducible refine LeO.ite ?_ ?_)
      | (with_reducible refine LeO.bind ?_ (fun _ => ?_))
      | exact ih0 _ _ _ _ _ _ _ _ _
      | exact ih1 _ _ _ _ _ _ _ _ _ _ _
      | exact LeO.none _
      | refine LeO.ite ?_ ?_
      | refine LeO.bind ?_ (fun _ => ?_)
    · intro y0 y1 y2 y3 y4 y5 y6 y7 y8 y9 y10
      unfold gate_at.j1
      repeat' first
      | (with_reducible exact ih0 _ _ _ _ _ _ _ _ _)
      | (with_reducible exact ih1 _ _ _ _ _ _ _ _ _ _ _)
      | (with_reducible exact LeO.refl _)
      | (with_reducible exact LeO.none _)
      | (with_reducible refine LeO.ite ?_ ?_)
      | (with_reducible refine LeO.bind ?_ (fun _ => ?_))
      | exact ih0 _ _ _ _ _ _ _ _ _
      | exact ih1 _ _ _ _ _ _ _ _ _ _ _
      | exact LeO.none _
      | refine LeO.ite ?_ ?_
      | refine LeO.bind ?_ (fun _ => ?_)
theorem gate_at.mono : ∀ a0 a1 a2 a3 a4 k, LeO (gate_at.f k a0 a1 a2 a3 a4) (gate_at.f (k + 1) a0 a1 a2 a3 a4) := by
  intro a0 a1 a2 a3 a4 k
  obtain ⟨ih0, ih1⟩ := gate_at.mono_l k
  unfold gate_at.f
  repeat' first
      | (with_reducible exact ih0 _ _ _ _ _ _ _ _ _)
      | (with_reducible exact ih1 _ _ _ _ _ _ _ _ _ _ _)
      | (with_reducible exact LeO.refl _)
      | (with_reducible exact LeO.none _)
      | (with_reducible refine LeO.ite ?_ ?_)
      | (with_reducible refine LeO.bind ?_ (fun _ => ?_))
      | exact ih0 _ _ _ _ _ _ _ _ _
      | exact ih1 _ _ _ _ _ _ _ _ _ _ _
      | exact LeO.none _
      | refine LeO.ite ?_ ?_
      | refine LeO.bind ?_ (fun _ => ?_)
set_option maxHeartbeats 8000000 in
set_option maxRecDepth 100000 in
theorem gate_at.calls (k : Nat) (a0_0 : Int) (a0_1 : Int) (a0_2 : Int) (A0_3 : Option Addr) (c0_3 : Nat) (l0_3 : List (S71)) (a1 : Int) (r1 : Int) (r2 : Int) (w : World) (hr0_3 : Kd.C k71 w A0_3 l0_3.length l0_3) (hc0_3 : l0_3.length ≤ c0_3) (h : gate_at.f k a0_0 a0_1 a0_2 l0_3 a1 = some (r1, r2)) :
    Calls Try.prog 99 #[.agg #[.int .i64 a0_0, .int .i64 a0_1, .int .i64 a0_2, .slice A0_3 l0_3.length c0_3], .int .i64 a1] w fun e w' => e = .returned (.tuple #[.int .i64 r1, .int .i64 r2]) ∧ Below w.heap.size w w' := by
  have hu33 := Try.underlying33
  have hu71 := Try.underlying71
  have HR0_3 := Aside0.mk hr0_3
  have HC0_3 := Aside0.mk hc0_3
  clear hr0_3 hc0_3
  have HB := Aside0.mk (Below.refl w.heap.size w)
  have H : (gate_at.l0 k a1 0 l0_3 (l0_3.length : Int) 0 a0_0 a0_1 a0_2 l0_3) = some (r1, r2) := h
  clear h
  have H' := Aside0.mk H
  clear H
  go_enter Try.func99, Try.ntmps99
  go_wp2_with (first | ((with_reducible refine gate_dst (N := 2) rfl ?_); (try (refine gate_guard (by rfl) ?_; dsimp only)); refine box_event ?hg (N := 2) ?hd (cs := #[.int .i64 a0_0, .int .i64 a0_1, .int .i64 a0_2, .slice A0_3 l0_3.length c0_3]) (t := 33) ?hr ?_; (case hd => rfl); (case hg => rfl); (case hr => first | (go_simp; done) | (go_simp; rfl)); intro gb101 hg w3 hbox hb; have n0_ := Aside0.mk (below_step (by repeat (first | (with_reducible first | exact HB.out | apply below_alloc | apply pw_below_drewN | apply below_drew1) | exact HB.out)) hb); have n1_ := Aside0.mk (hbox); have n2_ := Aside0.mk ((by rw [hg]; exact (below_size (by repeat (first | (with_reducible first | exact HB.out | apply below_alloc | apply pw_below_drewN | apply below_drew1) | exact HB.out))) : w.heap.size ≤ gb101)); have n3_ := Aside0.mk ((by rw [hg]; exact (below_size (by repeat (first | (with_reducible first | exact HB.out | apply below_alloc | apply pw_below_drewN | apply below_drew1) | exact HB.out))) : w.heap.size ≤ gb101)); clear HB; have HB := n0_; have BK101 := n1_; have GW101 := n2_; have GE101 := n3_; clear n0_ n1_ n2_ n3_; clear hb hbox hg; have hcz4_0 : w3.cell? ⟨gb101, 0, none⟩ = some (.int .i64 a0_0) := (blk_cell BK101.out 0).trans rfl; have hcz4_1 : w3.cell? ⟨gb101, 1, none⟩ = some (.int .i64 a0_1) := (blk_cell BK101.out 1).trans rfl; have hcz4_2 : w3.cell? ⟨gb101, 2, none⟩ = some (.int .i64 a0_2) := (blk_cell BK101.out 2).trans rfl; have hcz4_3 : w3.cell? ⟨gb101, 3, none⟩ = some (.slice A0_3 l0_3.length c0_3) := (blk_cell BK101.out 3).trans rfl; have hfz4_0 := blk_frozen BK101.out 0; have hfz4_1 := blk_frozen BK101.out 1; have hfz4_2 := blk_frozen BK101.out 2; have hfz4_3 := blk_frozen BK101.out 3))
  repeat (go_quiet (first | ((with_reducible refine gate_dst (N := 2) rfl ?_); (try (refine gate_guard (by rfl) ?_; dsimp only)); refine box_event ?hg (N := 2) ?hd (cs := #[.int .i64 a0_0, .int .i64 a0_1, .int .i64 a0_2, .slice A0_3 l0_3.length c0_3]) (t := 33) ?hr ?_; (case hd => rfl); (case hg => rfl); (case hr => first | (go_simp; done) | (go_simp; rfl)); intro gb101 hg w3 hbox hb; have n0_ := Aside0.mk (below_step (by repeat (first | (with_reducible first | exact HB.out | apply below_alloc | apply pw_below_drewN | apply below_drew1) | exact HB.out)) hb); have n1_ := Aside0.mk (hbox); have n2_ := Aside0.mk ((by rw [hg]; exact (below_size (by repeat (first | (with_reducible first | exact HB.out | apply below_alloc | apply pw_below_drewN | apply below_drew1) | exact HB.out))) : w.heap.size ≤ gb101)); have n3_ := Aside0.mk ((by rw [hg]; exact (below_size (by repeat (first | (with_reducible first | exact HB.out | apply below_alloc | apply pw_below_drewN | apply below_drew1) | exact HB.out))) : w.heap.size ≤ gb101)); clear HB; have HB := n0_; have BK101 := n1_; have GW101 := n2_; have GE101 := n3_; clear n0_ n1_ n2_ n3_; clear hb hbox hg; have hcz4_0 : w3.cell? ⟨gb101, 0, none⟩ = some (.int .i64 a0_0) := (blk_cell BK101.out 0).trans rfl; have hcz4_1 : w3.cell? ⟨gb101, 1, none⟩ = some (.int .i64 a0_1) := (blk_cell BK101.out 1).trans rfl; have hcz4_2 : w3.cell? ⟨gb101, 2, none⟩ = some (.int .i64 a0_2) := (blk_cell BK101.out 2).trans rfl; have hcz4_3 : w3.cell? ⟨gb101, 3, none⟩ = some (.slice A0_3 l0_3.length c0_3) := (blk_cell BK101.out 3).trans rfl; have hfz4_0 := blk_frozen BK101.out 0; have hfz4_1 := blk_frozen BK101.out 1; have hfz4_2 := blk_frozen BK101.out 2; have hfz4_3 := blk_frozen BK101.out 3)); try go_wp2_with (first | ((with_reducible refine gate_dst (N := 2) rfl ?_); (try (refine gate_guard (by rfl) ?_; dsimp only)); refine box_event ?hg (N := 2) ?hd (cs := #[.int .i64 a0_0, .int .i64 a0_1, .int .i64 a0_2, .slice A0_3 l0_3.length c0_3]) (t := 33) ?hr ?_; (case hd => rfl); (case hg => rfl); (case hr => first | (go_simp; done) | (go_simp; rfl)); intro gb101 hg w3 hbox hb; have n0_ := Aside0.mk (below_step (by repeat (first | (with_reducible first | exact HB.out | apply below_alloc | apply pw_below_drewN | apply below_drew1) | exact HB.out)) hb); have n1_ := Aside0.mk (hbox); have n2_ := Aside0.mk ((by rw [hg]; exact (below_size (by repeat (first | (with_reducible first | exact HB.out | apply below_alloc | apply pw_below_drewN | apply below_drew1) | exact HB.out))) : w.heap.size ≤ gb101)); have n3_ := Aside0.mk ((by rw [hg]; exact (below_size (by repeat (first | (with_reducible first | exact HB.out | apply below_alloc | apply pw_below_drewN | apply below_drew1) | exact HB.out))) : w.heap.size ≤ gb101)); clear HB; have HB := n0_; have BK101 := n1_; have GW101 := n2_; have GE101 := n3_; clear n0_ n1_ n2_ n3_; clear hb hbox hg; have hcz4_0 : w3.cell? ⟨gb101, 0, none⟩ = some (.int .i64 a0_0) := (blk_cell BK101.out 0).trans rfl; have hcz4_1 : w3.cell? ⟨gb101, 1, none⟩ = some (.int .i64 a0_1) := (blk_cell BK101.out 1).trans rfl; have hcz4_2 : w3.cell? ⟨gb101, 2, none⟩ = some (.int .i64 a0_2) := (blk_cell BK101.out 2).trans rfl; have hcz4_3 : w3.cell? ⟨gb101, 3, none⟩ = some (.slice A0_3 l0_3.length c0_3) := (blk_cell BK101.out 3).trans rfl; have hfz4_0 := blk_frozen BK101.out 0; have hfz4_1 := blk_frozen BK101.out 1; have hfz4_2 := blk_frozen BK101.out 2; have hfz4_3 := blk_frozen BK101.out 3)))
  go_loopg [6, 12] k (fun kq v6 v12 w' => ∃ (x6_1 : Int) (x12_1 : Int), v6 = .int .i64 x6_1 ∧ v12 = .int .i64 x12_1 ∧ Aside0 (gate_at.l0 kq a1 x6_1 l0_3 (l0_3.length : Int) x12_1 a0_0 a0_1 a0_2 l0_3 = some (r1, r2)) ∧ Aside0 (kq ≤ k) ∧ Aside0 (w'.heap[gb101]? = some (.cells #[.int .i64 a0_0, .int .i64 a0_1, .int .i64 a0_2, (.slice A0_3 l0_3.length c0_3)] 33 (0, 0))) ∧ Aside0 (Below w.heap.size w w'))
  case atStart => exact ⟨(0), (0), (by first | rfl | (simp; done) | (simp [*]; done)), (by first | rfl | (simp; done) | (simp [*]; done)), H', ⟨Nat.le_refl _⟩, ⟨by (with_reducible repeat (first | refine blk_drewN ?_ _ | refine blk_drew ?_ | refine blk_alloc ?_ _)); exact BK101.out⟩, ⟨by repeat (first | (with_reducible first | exact HB.out | apply below_alloc | apply pw_below_drewN | apply below_drew1 | refine below_set ?_ GE101.out) | exact HB.out)⟩⟩
  case round =>
    clear H'
    try clear p2
    try clear hcz4_0
    try clear hcz4_1
    try clear hcz4_2
    try clear hcz4_3
    try clear hfz4_0
    try clear hfz4_1
    try clear hfz4_2
    try clear hfz4_3
    obtain ⟨x6_1, x12_1, rfl, rfl, HA, HK1, BK101, HB⟩ := hrel
    cases gk with
    | zero => exact absurd HA.out (by simp [gate_at.l0])
    | succ k1 =>
      have H := HA.out
      clear HA
      simp only [gate_at.l0] at H
      by_cases c5 : x12_1 < (l0_3.length : Int)
      · rw [if_pos c5] at H
        have c5b0 : decide (x12_1 < (l0_3.length : Int)) = true := decide_eq_true c5
        clear c5
        by_cases c6 : 0 ≤ x12_1
        · rw [if_pos c6] at H
          have c6b0 : decide (0 ≤ x12_1) = true := decide_eq_true c6
          clear c6
          by_cases c7 : x12_1 < (l0_3.length : Int)
          · rw [if_pos c7] at H
            have c7b0 : decide (x12_1 < (l0_3.length : Int)) = true := decide_eq_true c7
            clear c7
            have HC8 := Aside0.mk H
            clear H
            have p102 : 0 ≤ (x12_1 : Int) := of_decide_eq_true (by first | (with_reducible assumption) | assumption)
            have q102 : x12_1 < (l0_3.length : Int) := of_decide_eq_true (by first | (with_reducible assumption) | assumption)
            obtain ⟨ad102, e102, hx102_0, hx102_1⟩ := at_T71 HR0_3.out x12_1 p102 q102
            cases e102
            replace hx102_0 := (HB.out.cell (World.block_lt_of_cell? w _ hx102_0)).trans hx102_0
            replace hx102_1 := (HB.out.cell (World.block_lt_of_cell? w _ hx102_1)).trans hx102_1
            replace p102 := eq_true p102
            replace q102 := eq_true q102
            go_upto_region 6 with (first | ((with_reducible refine gate_dst (N := 8) rfl ?_); (try (refine gate_guard (by rfl) ?_; dsimp only)); refine box_event ?hg (N := 8) ?hd (cs := #[.int .i64 0, .int .i64 0]) (t := 71) ?hr ?_; (case hd => rfl); (case hg => rfl); (case hr => first | (go_simp; done) | (go_simp; rfl)); intro gb103 hg w9 hbox hb; have n0_ := Aside0.mk (blk_below (g := gb101) (o := .cells #[.int .i64 a0_0, .int .i64 a0_1, .int .i64 a0_2, .slice (some ad102) l0_3.length c0_3] 33 (0, 0)) (by (with_reducible repeat (first | refine blk_drewN ?_ _ | refine blk_drew ?_ | refine blk_alloc ?_ _)); exact BK101.out) hb); have n1_ := Aside0.mk (below_step (by repeat (first | (with_reducible first | exact HB.out | apply below_alloc | apply pw_below_drewN | apply below_drew1 | refine below_set ?_ GE101.out) | exact HB.out)) hb); have n2_ := Aside0.mk (hbox); have n3_ := Aside0.mk ((by rw [hg]; exact (below_size (by repeat (first | (with_reducible first | exact HB.out | apply below_alloc | apply pw_below_drewN | apply below_drew1 | refine below_set ?_ GE101.out) | exact HB.out))) : w.heap.size ≤ gb103)); have n4_ := Aside0.mk ((by rw [hg]; exact (below_size (by repeat (first | (with_reducible first | exact HB.out | apply below_alloc | apply pw_below_drewN | apply below_drew1 | refine below_set ?_ GE101.out) | exact HB.out))) : w.heap.size ≤ gb103)); have n5_ := Aside0.mk ((by rw [hg]; exact Nat.ne_of_lt (blk_lt (g := gb101) (o := .cells #[.int .i64 a0_0, .int .i64 a0_1, .int .i64 a0_2, .slice (some ad102) l0_3.length c0_3] 33 (0, 0)) (by (with_reducible repeat (first | refine blk_drewN ?_ _ | refine blk_drew ?_ | refine blk_alloc ?_ _)); exact BK101.out)) : gb101 ≠ gb103)); have n6_ := Aside0.mk ((by rw [hg]; exact Nat.ne_of_gt (blk_lt (g := gb101) (o := .cells #[.int .i64 a0_0, .int .i64 a0_1, .int .i64 a0_2, .slice (some ad102) l0_3.length c0_3] 33 (0, 0)) (by (with_reducible repeat (first | refine blk_drewN ?_ _ | refine blk_drew ?_ | refine blk_alloc ?_ _)); exact BK101.out)) : gb103 ≠ gb101)); clear BK101; clear HB; have BK101 := n0_; have HB := n1_; have BK103 := n2_; have GW103 := n3_; have GE103 := n4_; have NB101_103 := n5_; have NB103_101 := n6_; clear n0_ n1_ n2_ n3_ n4_ n5_ n6_; clear hb hbox hg; have hnb10 := NB103_101.out; have hnc10 := NB101_103.out; have hcz11_0 : w9.cell? ⟨gb103, 0, none⟩ = some (.int .i64 0) := (blk_cell BK103.out 0).trans rfl; have hcz11_1 : w9.cell? ⟨gb103, 1, none⟩ = some (.int .i64 0) := (blk_cell BK103.out 1).trans rfl; have hfz11_0 := blk_frozen BK103.out 0; have hfz11_1 := blk_frozen BK103.out 1))
            repeat (go_quiet (first | ((with_reducible refine gate_dst (N := 8) rfl ?_); (try (refine gate_guard (by rfl) ?_; dsimp only)); refine box_event ?hg (N := 8) ?hd (cs := #[.int .i64 0, .int .i64 0]) (t := 71) ?hr ?_; (case hd => rfl); (case hg => rfl); (case hr => first | (go_simp; done) | (go_simp; rfl)); intro gb103 hg w9 hbox hb; have n0_ := Aside0.mk (blk_below (g := gb101) (o := .cells #[.int .i64 a0_0, .int .i64 a0_1, .int .i64 a0_2, .slice (some ad102) l0_3.length c0_3] 33 (0, 0)) (by (with_reducible repeat (first | refine blk_drewN ?_ _ | refine blk_drew ?_ | refine blk_alloc ?_ _)); exact BK101.out) hb); have n1_ := Aside0.mk (below_step (by repeat (first | (with_reducible first | exact HB.out | apply below_alloc | apply pw_below_drewN | apply below_drew1 | refine below_set ?_ GE101.out) | exact HB.out)) hb); have n2_ := Aside0.mk (hbox); have n3_ := Aside0.mk ((by rw [hg]; exact (below_size (by repeat (first | (with_reducible first | exact HB.out | apply below_alloc | apply pw_below_drewN | apply below_drew1 | refine below_set ?_ GE101.out) | exact HB.out))) : w.heap.size ≤ gb103)); have n4_ := Aside0.mk ((by rw [hg]; exact (below_size (by repeat (first | (with_reducible first | exact HB.out | apply below_alloc | apply pw_below_drewN | apply below_drew1 | refine below_set ?_ GE101.out) | exact HB.out))) : w.heap.size ≤ gb103)); have n5_ := Aside0.mk ((by rw [hg]; exact Nat.ne_of_lt (blk_lt (g := gb101) (o := .cells #[.int .i64 a0_0, .int .i64 a0_1, .int .i64 a0_2, .slice (some ad102) l0_3.length c0_3] 33 (0, 0)) (by (with_reducible repeat (first | refine blk_drewN ?_ _ | refine blk_drew ?_ | refine blk_alloc ?_ _)); exact BK101.out)) : gb101 ≠ gb103)); have n6_ := Aside0.mk ((by rw [hg]; exact Nat.ne_of_gt (blk_lt (g := gb101) (o := .cells #[.int .i64 a0_0, .int .i64 a0_1, .int .i64 a0_2, .slice (some ad102) l0_3.length c0_3] 33 (0, 0)) (by (with_reducible repeat (first | refine blk_drewN ?_ _ | refine blk_drew ?_ | refine blk_alloc ?_ _)); exact BK101.out)) : gb103 ≠ gb101)); clear BK101; clear HB; have BK101 := n0_; have HB := n1_; have BK103 := n2_; have GW103 := n3_; have GE103 := n4_; have NB101_103 := n5_; have NB103_101 := n6_; clear n0_ n1_ n2_ n3_ n4_ n5_ n6_; clear hb hbox hg; have hnb10 := NB103_101.out; have hnc10 := NB101_103.out; have hcz11_0 : w9.cell? ⟨gb103, 0, none⟩ = some (.int .i64 0) := (blk_cell BK103.out 0).trans rfl; have hcz11_1 : w9.cell? ⟨gb103, 1, none⟩ = some (.int .i64 0) := (blk_cell BK103.out 1).trans rfl; have hfz11_0 := blk_frozen BK103.out 0; have hfz11_1 := blk_frozen BK103.out 1)); go_upto_region 6 with (first | ((with_reducible refine gate_dst (N := 8) rfl ?_); (try (refine gate_guard (by rfl) ?_; dsimp only)); refine box_event ?hg (N := 8) ?hd (cs := #[.int .i64 0, .int .i64 0]) (t := 71) ?hr ?_; (case hd => rfl); (case hg => rfl); (case hr => first | (go_simp; done) | (go_simp; rfl)); intro gb103 hg w9 hbox hb; have n0_ := Aside0.mk (blk_below (g := gb101) (o := .cells #[.int .i64 a0_0, .int .i64 a0_1, .int .i64 a0_2, .slice (some ad102) l0_3.length c0_3] 33 (0, 0)) (by (with_reducible repeat (first | refine blk_drewN ?_ _ | refine blk_drew ?_ | refine blk_alloc ?_ _)); exact BK101.out) hb); have n1_ := Aside0.mk (below_step (by repeat (first | (with_reducible first | exact HB.out | apply below_alloc | apply pw_below_drewN | apply below_drew1 | refine below_set ?_ GE101.out) | exact HB.out)) hb); have n2_ := Aside0.mk (hbox); have n3_ := Aside0.mk ((by rw [hg]; exact (below_size (by repeat (first | (with_reducible first | exact HB.out | apply below_alloc | apply pw_below_drewN | apply below_drew1 | refine below_set ?_ GE101.out) | exact HB.out))) : w.heap.size ≤ gb103)); have n4_ := Aside0.mk ((by rw [hg]; exact (below_size (by repeat (first | (with_reducible first | exact HB.out | apply below_alloc | apply pw_below_drewN | apply below_drew1 | refine below_set ?_ GE101.out) | exact HB.out))) : w.heap.size ≤ gb103)); have n5_ := Aside0.mk ((by rw [hg]; exact Nat.ne_of_lt (blk_lt (g := gb101) (o := .cells #[.int .i64 a0_0, .int .i64 a0_1, .int .i64 a0_2, .slice (some ad102) l0_3.length c0_3] 33 (0, 0)) (by (with_reducible repeat (first | refine blk_drewN ?_ _ | refine blk_drew ?_ | refine blk_alloc ?_ _)); exact BK101.out)) : gb101 ≠ gb103)); have n6_ := Aside0.mk ((by rw [hg]; exact Nat.ne_of_gt (blk_lt (g := gb101) (o := .cells #[.int .i64 a0_0, .int .i64 a0_1, .int .i64 a0_2, .slice (some ad102) l0_3.length c0_3] 33 (0, 0)) (by (with_reducible repeat (first | refine blk_drewN ?_ _ | refine blk_drew ?_ | refine blk_alloc ?_ _)); exact BK101.out)) : gb103 ≠ gb101)); clear BK101; clear HB; have BK101 := n0_; have HB := n1_; have BK103 := n2_; have GW103 := n3_; have GE103 := n4_; have NB101_103 := n5_; have NB103_101 := n6_; clear n0_ n1_ n2_ n3_ n4_ n5_ n6_; clear hb hbox hg; have hnb10 := NB103_101.out; have hnc10 := NB101_103.out; have hcz11_0 : w9.cell? ⟨gb103, 0, none⟩ = some (.int .i64 0) := (blk_cell BK103.out 0).trans rfl; have hcz11_1 : w9.cell? ⟨gb103, 1, none⟩ = some (.int .i64 0) := (blk_cell BK103.out 1).trans rfl; have hfz11_0 := blk_frozen BK103.out 0; have hfz11_1 := blk_frozen BK103.out 1)))
            (try simp only [Act.put, List.setIfInBounds_toArray, List.set_cons_zero, List.set_cons_succ])
            go_cut [37] (fun v37 wc => ∃ (kq : Nat) (x37_7 : Bool), v37 = .bool x37_7 ∧ Aside0 (gate_at.j1 kq a1 (wrap64 (x6_1 + ((rd_T71 l0_3 x12_1).f1))) x12_1 l0_3 (l0_3.length : Int) x12_1 x37_7 a0_0 a0_1 a0_2 l0_3 = some (r1, r2)) ∧ Aside0 (kq ≤ k1) ∧ Aside0 (wc.heap[gb101]? = some (.cells #[.int .i64 a0_0, .int .i64 a0_1, .int .i64 a0_2, (.slice (some ad102) l0_3.length c0_3)] 33 (0, 0))) ∧ Aside0 (wc.heap[gb103]? = some (.cells #[.int .i64 ((rd_T71 l0_3 x12_1).f0), .int .i64 ((rd_T71 l0_3 x12_1).f1)] 71 (0, 0))) ∧ Aside0 (Below w.heap.size w wc))
            case first =>
              have H := HC8.out
              clear HC8
              by_cases c12 : a1 < (wrap64 (x6_1 + ((rd_T71 l0_3 x12_1).f1)))
              · rw [if_pos c12] at H
                have c12b0 : decide (a1 < (wrap64 (x6_1 + ((rd_T71 l0_3 x12_1).f1)))) = true := decide_eq_true c12
                clear c12
                (first | rw [c12b0] | (simp only [i64_w, i32_w]; rw [c12b0]) | skip)
                by_cases c13 : x12_1 < (wrap64 ((l0_3.length : Int) - 1))
                · rw [if_pos c13] at H
                  have c13b0 : decide (x12_1 < (wrap64 ((l0_3.length : Int) - 1))) = true := decide_eq_true c13
                  clear c13
                  have H' := Aside0.mk H
                  clear H
                  have hnb14 := NB101_103.out
                  have hnc14 := NB103_101.out
                  have hcz15_0 : w9.cell? ⟨gb101, 0, none⟩ = some (.int .i64 a0_0) := (blk_cell BK101.out 0).trans rfl
                  have hcz15_1 : w9.cell? ⟨gb101, 1, none⟩ = some (.int .i64 a0_1) := (blk_cell BK101.out 1).trans rfl
                  have hcz15_2 : w9.cell? ⟨gb101, 2, none⟩ = some (.int .i64 a0_2) := (blk_cell BK101.out 2).trans rfl
                  have hcz15_3 : w9.cell? ⟨gb101, 3, none⟩ = some (.slice (some ad102) l0_3.length c0_3) := (blk_cell BK101.out 3).trans rfl
                  have hfz15_0 := blk_frozen BK101.out 0
                  have hfz15_1 := blk_frozen BK101.out 1
                  have hfz15_2 := blk_frozen BK101.out 2
                  have hfz15_3 := blk_frozen BK101.out 3
                  go_wp2
                  repeat (go_quiet (fail); try go_wp2)
                  go_meet
                  case rel => exact ⟨_, (decide ((wrap64 (x6_1 + ((rd_T71 l0_3 x12_1).f1))) < a0_1)), (by first | rfl | (simp; done) | (simp [*]; done)), H', ⟨by have := HK1.out; first | omega | exact Nat.le_refl _⟩, ⟨by (with_reducible repeat (first | refine blk_drewN ?_ _ | refine blk_drew ?_ | refine blk_alloc ?_ _)); refine blk_far ?_ NB101_103.out _; (with_reducible repeat (first | refine blk_drewN ?_ _ | refine blk_drew ?_ | refine blk_alloc ?_ _)); refine blk_far ?_ NB101_103.out _; (with_reducible repeat (first | refine blk_drewN ?_ _ | refine blk_drew ?_ | refine blk_alloc ?_ _)); exact BK101.out⟩, ⟨by (with_reducible repeat (first | refine blk_drewN ?_ _ | refine blk_drew ?_ | refine blk_alloc ?_ _)); refine blk_put (cs := #[.int .i64 ((rd_T71 l0_3 x12_1).f0), .int .i64 0]) ?_ 1 _ rfl; (with_reducible repeat (first | refine blk_drewN ?_ _ | refine blk_drew ?_ | refine blk_alloc ?_ _)); refine blk_put (cs := #[.int .i64 0, .int .i64 0]) ?_ 0 _ rfl; (with_reducible repeat (first | refine blk_drewN ?_ _ | refine blk_drew ?_ | refine blk_alloc ?_ _)); exact BK103.out⟩, ⟨by repeat (first | (with_reducible first | exact HB.out | apply below_alloc | apply pw_below_drewN | apply below_drew1 | refine below_set ?_ GE101.out | refine below_set ?_ GE103.out) | exact HB.out)⟩⟩
                · rw [if_neg c13] at H
                  have c13b0 : decide (x12_1 < (wrap64 ((l0_3.length : Int) - 1))) = false := decide_eq_false c13
                  clear c13
                  have H' := Aside0.mk H
                  clear H
                  have hnb16 := NB101_103.out
                  have hnc16 := NB103_101.out
                  have hcz17_0 : w9.cell? ⟨gb101, 0, none⟩ = some (.int .i64 a0_0) := (blk_cell BK101.out 0).trans rfl
                  have hcz17_1 : w9.cell? ⟨gb101, 1, none⟩ = some (.int .i64 a0_1) := (blk_cell BK101.out 1).trans rfl
                  have hcz17_2 : w9.cell? ⟨gb101, 2, none⟩ = some (.int .i64 a0_2) := (blk_cell BK101.out 2).trans rfl
                  have hcz17_3 : w9.cell? ⟨gb101, 3, none⟩ = some (.slice (some ad102) l0_3.length c0_3) := (blk_cell BK101.out 3).trans rfl
                  have hfz17_0 := blk_frozen BK101.out 0
                  have hfz17_1 := blk_frozen BK101.out 1
                  have hfz17_2 := blk_frozen BK101.out 2
                  have hfz17_3 := blk_frozen BK101.out 3
                  go_wp2
                  repeat (go_quiet (fail); try go_wp2)
                  go_meet
                  case rel => exact ⟨_, (false), (by first | rfl | (simp; done) | (simp [*]; done)), H', ⟨by have := HK1.out; first | omega | exact Nat.le_refl _⟩, ⟨by (with_reducible repeat (first | refine blk_drewN ?_ _ | refine blk_drew ?_ | refine blk_alloc ?_ _)); refine blk_far ?_ NB101_103.out _; (with_reducible repeat (first | refine blk_drewN ?_ _ | refine blk_drew ?_ | refine blk_alloc ?_ _)); refine blk_far ?_ NB101_103.out _; (with_reducible repeat (first | refine blk_drewN ?_ _ | refine blk_drew ?_ | refine blk_alloc ?_ _)); exact BK101.out⟩, ⟨by (with_reducible repeat (first | refine blk_drewN ?_ _ | refine blk_drew ?_ | refine blk_alloc ?_ _)); refine blk_put (cs := #[.int .i64 ((rd_T71 l0_3 x12_1).f0), .int .i64 0]) ?_ 1 _ rfl; (with_reducible repeat (first | refine blk_drewN ?_ _ | refine blk_drew ?_ | refine blk_alloc ?_ _)); refine blk_put (cs := #[.int .i64 0, .int .i64 0]) ?_ 0 _ rfl; (with_reducible repeat (first | refine blk_drewN ?_ _ | refine blk_drew ?_ | refine blk_alloc ?_ _)); exact BK103.out⟩, ⟨by repeat (first | (with_reducible first | exact HB.out | apply below_alloc | apply pw_below_drewN | apply below_drew1 | refine below_set ?_ GE101.out | refine below_set ?_ GE103.out) | exact HB.out)⟩⟩
              · rw [if_neg c12] at H
                have c12b0 : decide (a1 < (wrap64 (x6_1 + ((rd_T71 l0_3 x12_1).f1)))) = false := decide_eq_false c12
                clear c12
                (first | rw [c12b0] | (simp only [i64_w, i32_w]; rw [c12b0]) | skip)
                have H' := Aside0.mk H
                clear H
                go_wp2
                repeat (go_quiet (fail); try go_wp2)
                go_meet
                case rel => exact ⟨_, (false), (by first | rfl | (simp; done) | (simp [*]; done)), H', ⟨by have := HK1.out; first | omega | exact Nat.le_refl _⟩, ⟨by (with_reducible repeat (first | refine blk_drewN ?_ _ | refine blk_drew ?_ | refine blk_alloc ?_ _)); refine blk_far ?_ NB101_103.out _; (with_reducible repeat (first | refine blk_drewN ?_ _ | refine blk_drew ?_ | refine blk_alloc ?_ _)); refine blk_far ?_ NB101_103.out _; (with_reducible repeat (first | refine blk_drewN ?_ _ | refine blk_drew ?_ | refine blk_alloc ?_ _)); exact BK101.out⟩, ⟨by (with_reducible repeat (first | refine blk_drewN ?_ _ | refine blk_drew ?_ | refine blk_alloc ?_ _)); refine blk_put (cs := #[.int .i64 ((rd_T71 l0_3 x12_1).f0), .int .i64 0]) ?_ 1 _ rfl; (with_reducible repeat (first | refine blk_drewN ?_ _ | refine blk_drew ?_ | refine blk_alloc ?_ _)); refine blk_put (cs := #[.int .i64 0, .int .i64 0]) ?_ 0 _ rfl; (with_reducible repeat (first | refine blk_drewN ?_ _ | refine blk_drew ?_ | refine blk_alloc ?_ _)); exact BK103.out⟩, ⟨by repeat (first | (with_reducible first | exact HB.out | apply below_alloc | apply pw_below_drewN | apply below_drew1 | refine below_set ?_ GE101.out | refine below_set ?_ GE103.out) | exact HB.out)⟩⟩
            case rest =>
              clear HC8
              try clear c1
              try clear p1
              try clear q1
              try clear hx1
              try clear p2
              try clear c5
              try clear c5b0
              try clear c6
              try clear c6b0
              try clear p6
              try clear c7
              try clear c7b0
              try clear c9
              try clear c10
              try clear p10
              try clear q10
              try clear hx10
              try clear c12
              try clear c12b0
              try clear c13
              try clear c13b0
              try clear c14
              try clear c16
              try clear hcz11_0
              try clear hcz11_1
              try clear hcz15_0
              try clear hcz15_1
              try clear hcz15_2
              try clear hcz15_3
              try clear hcz17_0
              try clear hcz17_1
              try clear hcz17_2
              try clear hcz17_3
              try clear hcz4_0
              try clear hcz4_1
              try clear hcz4_2
              try clear hcz4_3
              try clear hfz11_0
              try clear hfz11_1
              try clear hfz15_0
              try clear hfz15_1
              try clear hfz15_2
              try clear hfz15_3
              try clear hfz17_0
              try clear hfz17_1
              try clear hfz17_2
              try clear hfz17_3
              try clear hfz4_0
              try clear hfz4_1
              try clear hfz4_2
              try clear hfz4_3
              try clear hx102_0
              try clear hx102_1
              try clear p102
              try clear p2
              try clear q102
              obtain ⟨kq, x37_7, rfl, HA, HJ7, BK101, BK103, HB⟩ := hcut
              cases kq with
              | zero => exact absurd HA.out (by simp [gate_at.j1])
              | succ kj7 =>
                have H := HA.out
                clear HA
                simp only [gate_at.j1] at H
                by_cases c18 : x37_7 = true
                · subst c18
                  have H1 : (some (x12_1, wrap64 ((wrap64 (x6_1 + ((rd_T71 l0_3 x12_1).f1))) - a1))) = some (r1, r2) := by rw [if_pos rfl] at H; exact H
                  clear H
                  have H := H1
                  clear H1
                  simp only [Option.some.injEq, Prod.mk.injEq] at H
                  obtain ⟨rfl, rfl⟩ := H
                  go_wp2
                  repeat (go_quiet (fail); try go_wp2)
                  go_ret2
                  exact ⟨by first | rfl | (simp [errW_none, errW_some] <;> rfl) | (simp [*, errW_none, errW_some] <;> rfl), by repeat (first | (with_reducible first | exact HB.out | apply below_alloc | apply pw_below_drewN | apply below_drew1 | refine below_set ?_ GE101.out | refine below_set ?_ GE103.out) | exact HB.out)⟩
                · replace c18 := Bool.eq_false_iff.mpr c18
                  subst c18
                  have H1 : (if (wrap64 (x6_1 + ((rd_T71 l0_3 x12_1).f1))) ≥ a0_1 then (some (x12_1, wrap64 (a0_1 - a1))) else (gate_at.l0 kj7 a1 (wrap64 (x6_1 + ((rd_T71 l0_3 x12_1).f1))) l0_3 (l0_3.length : Int) (wrap64 (x12_1 + 1)) a0_0 a0_1 a0_2 l0_3)) = some (r1, r2) := by rw [if_neg (show ¬ (false = true) by decide)] at H; exact H
                  clear H
                  have H := H1
                  clear H1
                  by_cases c19 : (wrap64 (x6_1 + ((rd_T71 l0_3 x12_1).f1))) ≥ a0_1
                  · rw [if_pos c19] at H
                    have c19b0 : decide (a0_1 ≤ (wrap64 (x6_1 + ((rd_T71 l0_3 x12_1).f1)))) = true := decide_eq_true c19
                    clear c19
                    simp only [Option.some.injEq, Prod.mk.injEq] at H
                    obtain ⟨rfl, rfl⟩ := H
                    have hnb20 := NB101_103.out
                    have hnc20 := NB103_101.out
                    have hcz21_0 : wc.cell? ⟨gb101, 0, none⟩ = some (.int .i64 a0_0) := (blk_cell BK101.out 0).trans rfl
                    have hcz21_1 : wc.cell? ⟨gb101, 1, none⟩ = some (.int .i64 a0_1) := (blk_cell BK101.out 1).trans rfl
                    have hcz21_2 : wc.cell? ⟨gb101, 2, none⟩ = some (.int .i64 a0_2) := (blk_cell BK101.out 2).trans rfl
                    have hcz21_3 : wc.cell? ⟨gb101, 3, none⟩ = some (.slice (some ad102) l0_3.length c0_3) := (blk_cell BK101.out 3).trans rfl
                    have hfz21_0 := blk_frozen BK101.out 0
                    have hfz21_1 := blk_frozen BK101.out 1
                    have hfz21_2 := blk_frozen BK101.out 2
                    have hfz21_3 := blk_frozen BK101.out 3
                    go_wp2
                    repeat (go_quiet (fail); try go_wp2)
                    go_ret2
                    exact ⟨by first | rfl | (simp [errW_none, errW_some] <;> rfl) | (simp [*, errW_none, errW_some] <;> rfl), by repeat (first | (with_reducible first | exact HB.out | apply below_alloc | apply pw_below_drewN | apply below_drew1 | refine below_set ?_ GE101.out | refine below_set ?_ GE103.out) | exact HB.out)⟩
                  · rw [if_neg c19] at H
                    have c19b0 : decide (a0_1 ≤ (wrap64 (x6_1 + ((rd_T71 l0_3 x12_1).f1)))) = false := decide_eq_false c19
                    clear c19
                    have H' := Aside0.mk H
                    clear H
                    have hnb22 := NB101_103.out
                    have hnc22 := NB103_101.out
                    have hcz23_0 : wc.cell? ⟨gb101, 0, none⟩ = some (.int .i64 a0_0) := (blk_cell BK101.out 0).trans rfl
                    have hcz23_1 : wc.cell? ⟨gb101, 1, none⟩ = some (.int .i64 a0_1) := (blk_cell BK101.out 1).trans rfl
                    have hcz23_2 : wc.cell? ⟨gb101, 2, none⟩ = some (.int .i64 a0_2) := (blk_cell BK101.out 2).trans rfl
                    have hcz23_3 : wc.cell? ⟨gb101, 3, none⟩ = some (.slice (some ad102) l0_3.length c0_3) := (blk_cell BK101.out 3).trans rfl
                    have hfz23_0 := blk_frozen BK101.out 0
                    have hfz23_1 := blk_frozen BK101.out 1
                    have hfz23_2 := blk_frozen BK101.out 2
                    have hfz23_3 := blk_frozen BK101.out 3
                    go_wp2
                    repeat (go_quiet (fail); try go_wp2)
                    go_roundg kj7
                    case measure => have := HK1.out; have := HJ7.out; omega
                    case rel => exact ⟨((wrap64 (x6_1 + ((rd_T71 l0_3 x12_1).f1)))), (wrap64 (x12_1 + 1)), (by first | rfl | (simp; done) | (simp [*]; done)), (by first | rfl | (simp; done) | (simp [*]; done)), H', ⟨by have := HK1.out; have := HJ7.out; omega⟩, ⟨by (with_reducible repeat (first | refine blk_drewN ?_ _ | refine blk_drew ?_ | refine blk_alloc ?_ _)); exact BK101.out⟩, ⟨by repeat (first | (with_reducible first | exact HB.out | apply below_alloc | apply pw_below_drewN | apply below_drew1 | refine below_set ?_ GE101.out | refine below_set ?_ GE103.out) | exact HB.out)⟩⟩
          · rw [if_neg c7] at H
            exact absurd H (by simp)
        · rw [if_neg c6] at H
          exact absurd H (by simp)
      · rw [if_neg c5] at H
        have c5b0 : decide (x12_1 < (l0_3.length : Int)) = false := decide_eq_false c5
        clear c5
        simp only [Option.some.injEq, Prod.mk.injEq] at H
        obtain ⟨rfl, rfl⟩ := H
        have hcz24_0 : wr.cell? ⟨gb101, 0, none⟩ = some (.int .i64 a0_0) := (blk_cell BK101.out 0).trans rfl
        have hcz24_1 : wr.cell? ⟨gb101, 1, none⟩ = some (.int .i64 a0_1) := (blk_cell BK101.out 1).trans rfl
        have hcz24_2 : wr.cell? ⟨gb101, 2, none⟩ = some (.int .i64 a0_2) := (blk_cell BK101.out 2).trans rfl
        have hcz24_3 : wr.cell? ⟨gb101, 3, none⟩ = some (.slice A0_3 l0_3.length c0_3) := (blk_cell BK101.out 3).trans rfl
        have hfz24_0 := blk_frozen BK101.out 0
        have hfz24_1 := blk_frozen BK101.out 1
        have hfz24_2 := blk_frozen BK101.out 2
        have hfz24_3 := blk_frozen BK101.out 3
        go_wp2
        repeat (go_quiet (fail); try go_wp2)
        go_ret2
        exact ⟨by first | rfl | (simp [errW_none, errW_some] <;> rfl) | (simp [*, errW_none, errW_some] <;> rfl), by repeat (first | (with_reducible first | exact HB.out | apply below_alloc | apply pw_below_drewN | apply below_drew1 | refine below_set ?_ GE101.out) | exact HB.out)⟩

/-! ### gate_State: function 76 -/
def gate_State.f (k : Nat) (a0_0 : Int) (a0_1 : Int) (a0_2 : Int) (l0_3 : List (S71)) (a1 : Int) : Option (Int) := if a1 < a0_0 then (some 255) else (if a0_1 = 0 then (none) else ((gate_at.f k a0_0 a0_1 a0_2 l0_3 (Int.tmod (wrap64 (a1 - a0_0)) a0_1)).bind fun bt105 => (if 0 ≤ bt105.1 then (if bt105.1 < (l0_3.length : Int) then (some ((rd_T71 l0_3 bt105.1).f0)) else (none)) else (none))))
theorem gate_State.mono : ∀ a0 a1 a2 a3 a4 k, LeO (gate_State.f k a0 a1 a2 a3 a4) (gate_State.f (k + 1) a0 a1 a2 a3 a4) := by
  intro a0 a1 a2 a3 a4 k
  unfold gate_State.f
  repeat' first
      | (with_reducible exact gate_at.mono _ _ _ _ _ _)
      | (with_reducible exact LeO.refl _)
      | (with_reducible exact LeO.none _)
      | (with_reducible refine LeO.ite ?_ ?_)
      | (with_reducible refine LeO.bind ?_ (fun _ => ?_))
      | exact gate_at.mono _ _ _ _ _ _
      | exact LeO.none _
      | refine LeO.ite ?_ ?_
      | refine LeO.bind ?_ (fun _ => ?_)
def gate_State.T3 : Bool × List (List Nat × List Nat) := (true, [([], []), ([], []), ([], []), ([2], [2]), ([1, 3], [1, 3]), ([], []), ([5], [5]), ([4, 6], [4, 6]), ([0, 7], [0, 7]), ([8], [8]), ([9], [9]), ([9], [9]), ([10, 8, 0, 1, 2, 3, 4, 5, 6, 7, 8, 9, 10], [10]), ([11, 12, 0, 1, 2, 3, 4, 5, 6, 7, 8, 9, 10, 11, 12], [11])])
def gate_State.B3 : List Nat := [0, 0, 0, 4, 14, 0, 32, 126, 255, 511, 1023, 1023, 2047, 8191]
theorem gate_State.tab3 : rtab .any (opsOf Try.f76 3) = gate_State.T3 := by kernel_rfl
theorem gate_State.bits3 : waitsOk gate_State.T3.2 gate_State.B3 = true := by kernel_rfl
set_option maxHeartbeats 8000000 in
set_option maxRecDepth 100000 in
theorem gate_State.calls (k : Nat) (a0_0 : Int) (a0_1 : Int) (a0_2 : Int) (A0_3 : Option Addr) (c0_3 : Nat) (l0_3 : List (S71)) (a1 : Int) (r : Int) (w : World) (hr0_3 : Kd.C k71 w A0_3 l0_3.length l0_3) (hc0_3 : l0_3.length ≤ c0_3) (h : gate_State.f k a0_0 a0_1 a0_2 l0_3 a1 = some r) :
    Calls Try.prog 76 #[.agg #[.int .i64 a0_0, .int .i64 a0_1, .int .i64 a0_2, .slice A0_3 l0_3.length c0_3], .int .i64 a1] w fun e w' => e = .returned (.int .i64 r) ∧ Below w.heap.size w w' := by
  have hu33 := Try.underlying33
  have HR0_3 := Aside0.mk hr0_3
  have HC0_3 := Aside0.mk hc0_3
  clear hr0_3 hc0_3
  have HB := Aside0.mk (Below.refl w.heap.size w)
  have H : (if a1 < a0_0 then (some 255) else (if a0_1 = 0 then (none) else ((gate_at.f k a0_0 a0_1 a0_2 l0_3 (Int.tmod (wrap64 (a1 - a0_0)) a0_1)).bind fun bt105 => (if 0 ≤ bt105.1 then (if bt105.1 < (l0_3.length : Int) then (some ((rd_T71 l0_3 bt105.1).f0)) else (none)) else (none))))) = some r := h
  clear h
  by_cases c3 : a1 < a0_0
  · rw [if_pos c3] at H
    have c3b0 : decide (a1 < a0_0) = true := decide_eq_true c3
    clear c3
    obtain rfl := Option.some.inj H
    go_enter Try.func76, Try.ntmps76
    go_wp2_with (first | ((with_reducible refine gate_dst (N := 2) rfl ?_); refine box_event ?hg (N := 2) ?hd (cs := #[.int .i64 a0_0, .int .i64 a0_1, .int .i64 a0_2, .slice A0_3 l0_3.length c0_3]) (t := 33) ?hr ?_; (case hd => rfl); (case hg => rfl); (case hr => first | (go_simp; done) | (go_simp; rfl)); intro gb104 hg w4 hbox hb; have n0_ := Aside0.mk (below_step (by repeat (first | (with_reducible first | exact HB.out | apply below_alloc | apply pw_below_drewN | apply below_drew1) | exact HB.out)) hb); have n1_ := Aside0.mk (hbox); have n2_ := Aside0.mk ((by rw [hg]; exact (below_size (by repeat (first | (with_reducible first | exact HB.out | apply below_alloc | apply pw_below_drewN | apply below_drew1) | exact HB.out))) : w.heap.size ≤ gb104)); have n3_ := Aside0.mk ((by rw [hg]; exact (below_size (by repeat (first | (with_reducible first | exact HB.out | apply below_alloc | apply pw_below_drewN | apply below_drew1) | exact HB.out))) : w.heap.size ≤ gb104)); clear HB; have HB := n0_; have BK104 := n1_; have GW104 := n2_; have GE104 := n3_; clear n0_ n1_ n2_ n3_; clear hb hbox hg; have hcz5_0 : w4.cell? ⟨gb104, 0, none⟩ = some (.int .i64 a0_0) := (blk_cell BK104.out 0).trans rfl; have hcz5_1 : w4.cell? ⟨gb104, 1, none⟩ = some (.int .i64 a0_1) := (blk_cell BK104.out 1).trans rfl; have hcz5_2 : w4.cell? ⟨gb104, 2, none⟩ = some (.int .i64 a0_2) := (blk_cell BK104.out 2).trans rfl; have hcz5_3 : w4.cell? ⟨gb104, 3, none⟩ = some (.slice A0_3 l0_3.length c0_3) := (blk_cell BK104.out 3).trans rfl; have hfz5_0 := blk_frozen BK104.out 0; have hfz5_1 := blk_frozen BK104.out 1; have hfz5_2 := blk_frozen BK104.out 2; have hfz5_3 := blk_frozen BK104.out 3))
    go_ret
    exact ⟨by first | rfl | (simp [errW_none, errW_some] <;> rfl) | (simp [*, errW_none, errW_some] <;> rfl), by repeat (first | (with_reducible first | exact HB.out | apply below_alloc | apply pw_below_drewN | apply below_drew1 | refine below_set ?_ GE104.out) | exact HB.out)⟩
  · rw [if_neg c3] at H
    have c3b0 : decide (a1 < a0_0) = false := decide_eq_false c3
    clear c3
    by_cases c6 : a0_1 = 0
    · rw [if_pos c6] at H
      exact absurd H (by simp)
    · rw [if_neg c6] at H
      have c6b0 : (a0_1 == 0) = false := beq_eq_false_iff_ne.mpr c6
      have c6b1 : (a0_1 != 0) = true := bne_iff_ne.mpr c6
      replace H := Option.bind_eq_some_iff.mp H
      obtain ⟨⟨t105, t106⟩, A70, H⟩ := H
      replace H : (if 0 ≤ t105 then (if t105 < (l0_3.length : Int) then (some ((rd_T71 l0_3 t105).f0)) else (none)) else (none)) = some r := H
      have A7 := Aside0.mk A70
      clear A70
      by_cases c8 : 0 ≤ t105
      · rw [if_pos c8] at H
        have c8b0 : decide (0 ≤ t105) = true := decide_eq_true c8
        clear c8
        by_cases c9 : t105 < (l0_3.length : Int)
        · rw [if_pos c9] at H
          have c9b0 : decide (t105 < (l0_3.length : Int)) = true := decide_eq_true c9
          clear c9
          obtain rfl := Option.some.inj H
          go_enter Try.func76, Try.ntmps76
          try go_wp2_with (first | ((with_reducible refine gate_dst (N := 2) rfl ?_); refine box_event ?hg (N := 2) ?hd (cs := #[.int .i64 a0_0, .int .i64 a0_1, .int .i64 a0_2, .slice A0_3 l0_3.length c0_3]) (t := 33) ?hr ?_; (case hd => rfl); (case hg => rfl); (case hr => first | (go_simp; done) | (go_simp; rfl)); intro gb104 hg w10 hbox hb; have n0_ := Aside0.mk (below_step (by repeat (first | (with_reducible first | exact HB.out | apply below_alloc | apply pw_below_drewN | apply below_drew1) | exact HB.out)) hb); have n1_ := Aside0.mk (hbox); have n2_ := Aside0.mk ((by rw [hg]; exact (below_size (by repeat (first | (with_reducible first | exact HB.out | apply below_alloc | apply pw_below_drewN | apply below_drew1) | exact HB.out))) : w.heap.size ≤ gb104)); have n3_ := Aside0.mk ((by rw [hg]; exact (below_size (by repeat (first | (with_reducible first | exact HB.out | apply below_alloc | apply pw_below_drewN | apply below_drew1) | exact HB.out))) : w.heap.size ≤ gb104)); clear HB; have HB := n0_; have BK104 := n1_; have GW104 := n2_; have GE104 := n3_; clear n0_ n1_ n2_ n3_; clear hb hbox hg; have hcz11_0 : w10.cell? ⟨gb104, 0, none⟩ = some (.int .i64 a0_0) := (blk_cell BK104.out 0).trans rfl; have hcz11_1 : w10.cell? ⟨gb104, 1, none⟩ = some (.int .i64 a0_1) := (blk_cell BK104.out 1).trans rfl; have hcz11_2 : w10.cell? ⟨gb104, 2, none⟩ = some (.int .i64 a0_2) := (blk_cell BK104.out 2).trans rfl; have hcz11_3 : w10.cell? ⟨gb104, 3, none⟩ = some (.slice A0_3 l0_3.length c0_3) := (blk_cell BK104.out 3).trans rfl; have hfz11_0 := blk_frozen BK104.out 0; have hfz11_1 := blk_frozen BK104.out 1; have hfz11_2 := blk_frozen BK104.out 2; have hfz11_3 := blk_frozen BK104.out 3))
          have n0_ := Aside0.mk (blk_drew BK104.out)
          have n1_ := Aside0.mk (below_drew1 HB.out)
          clear BK104
          clear HB
          have BK104 := n0_
          have HB := n1_
          clear n0_ n1_
          refine start_ (n := 14) (S := fun w' => w'.cell? ⟨gb104, 0, none⟩ = some (.int .i64 a0_0) ∧ w'.cell? ⟨gb104, 1, none⟩ = some (.int .i64 a0_1) ∧ w'.cell? ⟨gb104, 2, none⟩ = some (.int .i64 a0_2) ∧ w'.cell? ⟨gb104, 3, none⟩ = some (.slice A0_3 l0_3.length c0_3)) (ds := []) #[false, false, false, false, false, false, false, false, false, false, false, false, false, false] (by kernel_rfl) rfl rfl ⟨(blk_cell BK104.out 0).trans rfl, (blk_cell BK104.out 1).trans rfl, (blk_cell BK104.out 2).trans rfl, (blk_cell BK104.out 3).trans rfl⟩ (fun hHeld => ?_); refine with_tabW gate_State.tab3 gate_State.bits3 (fun HT_ HW_ => ?_)
          generalize w10.drew = w12 at BK104 HB hHeld ⊢
          refine pure_ (i := 1) (N := some 13) (v := ?_) (a' := ?_) #[false, true, false, false, false, false, false, false, false, false, false, false, false, false] rfl rfl (any_of HT_.out (by kernel_rfl)) (fun _ _ _ h => h) (Or.inl ⟨by rfl, ?_⟩) ?_ ?_
          rotate_left
          · intro w'
            go_simp
            with_reducible rfl
          rotate_left
          · simp only [Act.put, List.setIfInBounds_toArray, List.set_cons_zero, List.set_cons_succ, i64_w, i32_w]
            rfl
          refine pure_ (i := 2) (N := some 14) (v := ?_) (a' := ?_) #[false, true, true, false, false, false, false, false, false, false, false, false, false, false] rfl rfl (any_of HT_.out (by kernel_rfl)) (fun _ _ _ h => h) (Or.inl ⟨by rfl, ?_⟩) ?_ ?_
          rotate_left
          · intro w'
            go_simp
            with_reducible rfl
          rotate_left
          · simp only [Act.put, List.setIfInBounds_toArray, List.set_cons_zero, List.set_cons_succ, i64_w, i32_w]
            rfl
          refine pure_ (i := 5) (N := some 17) (v := ?_) (a' := ?_) #[false, true, true, false, false, true, false, false, false, false, false, false, false, false] rfl rfl (any_of HT_.out (by kernel_rfl)) (fun _ _ _ h => h) (Or.inl ⟨by rfl, ?_⟩) ?_ ?_
          rotate_left
          · intro w'
            go_simp
            with_reducible rfl
          rotate_left
          · simp only [Act.put, List.setIfInBounds_toArray, List.set_cons_zero, List.set_cons_succ, i64_w, i32_w]
            rfl
          refine take_ (i := 0) (N := some 12) (v := ?_) (a' := ?_) #[true, true, true, false, false, true, false, false, false, false, false, false, false, false] rfl rfl (take_ofW HT_.out HW_.out (by kernel_rfl)) (fun _ _ _ h => h) (Or.inl ⟨by rfl, ?_⟩) hHeld ?_ ?_
          rotate_left
          · rintro w' ⟨s0, s1, s2, s3⟩
            go_simp
            with_reducible rfl
          rotate_left
          · simp only [Act.put, List.setIfInBounds_toArray, List.set_cons_zero, List.set_cons_succ, i64_w, i32_w]
            rfl
          refine take_ (i := 3) (N := some 15) (v := ?_) (a' := ?_) #[true, true, true, true, false, true, false, false, false, false, false, false, false, false] rfl rfl (take_ofW HT_.out HW_.out (by kernel_rfl)) (fun _ _ _ h => h) (Or.inl ⟨by rfl, ?_⟩) hHeld ?_ ?_
          rotate_left
          · rintro w' ⟨s0, s1, s2, s3⟩
            go_simp
            with_reducible rfl
          rotate_left
          · simp only [Act.put, List.setIfInBounds_toArray, List.set_cons_zero, List.set_cons_succ, i64_w, i32_w]
            rfl
          refine pure_ (i := 4) (N := some 16) (v := ?_) (a' := ?_) #[true, true, true, true, true, true, false, false, false, false, false, false, false, false] rfl rfl (any_of HT_.out (by kernel_rfl)) (fun _ _ _ h => h) (Or.inl ⟨by rfl, ?_⟩) ?_ ?_
          rotate_left
          · intro w'
            go_simp
            with_reducible rfl
          rotate_left
          · simp only [Act.put, List.setIfInBounds_toArray, List.set_cons_zero, List.set_cons_succ, i64_w, i32_w]
            rfl
          refine take_ (i := 6) (N := some 18) (v := ?_) (a' := ?_) #[true, true, true, true, true, true, true, false, false, false, false, false, false, false] rfl rfl (take_ofW HT_.out HW_.out (by kernel_rfl)) (fun _ _ _ h => h) (Or.inl ⟨by rfl, ?_⟩) hHeld ?_ ?_
          rotate_left
          · rintro w' ⟨s0, s1, s2, s3⟩
            go_simp
            with_reducible rfl
          rotate_left
          · simp only [Act.put, List.setIfInBounds_toArray, List.set_cons_zero, List.set_cons_succ, i64_w, i32_w]
            rfl
          refine pure_ (i := 7) (N := some 19) (v := ?_) (a' := ?_) #[true, true, true, true, true, true, true, true, false, false, false, false, false, false] rfl rfl (any_of HT_.out (by kernel_rfl)) (fun _ _ _ h => h) (Or.inl ⟨by rfl, ?_⟩) ?_ ?_
          rotate_left
          · intro w'
            go_simp
            with_reducible rfl
          rotate_left
          · simp only [Act.put, List.setIfInBounds_toArray, List.set_cons_zero, List.set_cons_succ, i64_w, i32_w]
            rfl
          refine one_ (i := 8) (N := some 20) #[true, true, true, true, true, true, true, true, true, false, false, false, false, false] rfl rfl (one_of HT_.out (by kernel_rfl)) (by decide) (fun K hK => ?_)
          refine goes_ Try.func99 (by kernel_rfl) rfl #[.agg #[.int .i64 a0_0, .int .i64 a0_1, .int .i64 a0_2, .slice A0_3 l0_3.length c0_3], .int .i64 (Int.tmod (wrap64 (a1 - a0_0)) a0_1)] (by rfl) rfl rfl (by (try simp only [List.map_toArray, List.map_cons, List.map_nil]); first | done | rfl | (simp only [List.length_drop, List.length_take]; rfl)) ?_
          with_reducible refine (gate_at.calls k a0_0 a0_1 a0_2 _ _ l0_3 (Int.tmod (wrap64 (a1 - a0_0)) a0_1) t105 t106 _ ?side1 ?side2 A7.out).mono ?_
          (case side1 => repeat (first | exact (Kd.C_below HR0_3.out HB.out) | (with_reducible refine Kd.C_alloc ?_ _) | (with_reducible refine Kd.C_drewN ?_ _) | (with_reducible refine Kd.C_drew ?_)))
          (case side2 => exact HC0_3.out)
          rintro e w13 ⟨rfl, hb⟩
          refine ⟨_, rfl, ?_⟩
          have n0_ := Aside0.mk (blk_below (g := gb104) (o := .cells #[.int .i64 a0_0, .int .i64 a0_1, .int .i64 a0_2, .slice A0_3 l0_3.length c0_3] 33 (0, 0)) (by (with_reducible repeat (first | refine blk_drewN ?_ _ | refine blk_drew ?_ | refine blk_alloc ?_ _)); exact BK104.out) hb)
          have n1_ := Aside0.mk (below_step (by repeat (first | (with_reducible first | exact HB.out | apply below_alloc | apply pw_below_drewN | apply below_drew1 | refine below_set ?_ GE104.out) | exact HB.out)) hb)
          clear BK104
          clear HB
          have BK104 := n0_
          have HB := n1_
          clear n0_ n1_
          (try clear hb)
          (try clear hb2)
          (try clear hk)
          (try clear hi)
          refine hK.out _ _ ⟨(blk_cell BK104.out 0).trans rfl, (blk_cell BK104.out 1).trans rfl, (blk_cell BK104.out 2).trans rfl, (blk_cell BK104.out 3).trans rfl⟩ (fun hHeld => ?_)
          clear hK K
          refine norm_ (a' := ?_) ?_ ?_
          rotate_left
          · show Act.put _ (some 20) _ = _
            simp only [Act.put, List.setIfInBounds_toArray, List.set_cons_zero, List.set_cons_succ, i64_w, i32_w]
            rfl
          refine pure_ (i := 9) (N := some 11) (v := ?_) (a' := ?_) #[true, true, true, true, true, true, true, true, true, true, false, false, false, false] rfl rfl (any_of HT_.out (by kernel_rfl)) (fun _ _ _ h => h) (Or.inl ⟨by rfl, ?_⟩) ?_ ?_
          rotate_left
          · intro w'
            go_simp
            with_reducible rfl
          rotate_left
          · simp only [Act.put, List.setIfInBounds_toArray, List.set_cons_zero, List.set_cons_succ, i64_w, i32_w]
            rfl
          refine pure_ (i := 10) (N := some 21) (v := ?_) (a' := ?_) #[true, true, true, true, true, true, true, true, true, true, true, false, false, false] rfl rfl (any_of HT_.out (by kernel_rfl)) (fun _ _ _ h => h) (Or.inl ⟨by rfl, ?_⟩) ?_ ?_
          rotate_left
          · intro w'
            go_simp
            with_reducible rfl
          rotate_left
          · simp only [Act.put, List.setIfInBounds_toArray, List.set_cons_zero, List.set_cons_succ, i64_w, i32_w]
            rfl
          refine pure_ (i := 11) (N := some 22) (v := ?_) (a' := ?_) #[true, true, true, true, true, true, true, true, true, true, true, true, false, false] rfl rfl (any_of HT_.out (by kernel_rfl)) (fun _ _ _ h => h) (Or.inl ⟨by rfl, ?_⟩) ?_ ?_
          rotate_left
          · intro w'
            go_simp
            with_reducible rfl
          rotate_left
          · simp only [Act.put, List.setIfInBounds_toArray, List.set_cons_zero, List.set_cons_succ, i64_w, i32_w]
            rfl
          refine pure_ (i := 12) (N := some 5) (v := ?_) (a' := ?_) #[true, true, true, true, true, true, true, true, true, true, true, true, true, false] rfl rfl (any_of HT_.out (by kernel_rfl)) (fun _ _ _ h => h) (Or.inl ⟨by rfl, ?_⟩) ?_ ?_
          rotate_left
          · intro w'
            go_simp
            with_reducible rfl
          rotate_left
          · simp only [Act.put, List.setIfInBounds_toArray, List.set_cons_zero, List.set_cons_succ, i64_w, i32_w]
            rfl
          refine pure_ (i := 13) (N := some 6) (v := ?_) (a' := ?_) #[true, true, true, true, true, true, true, true, true, true, true, true, true, true] rfl rfl (any_of HT_.out (by kernel_rfl)) (fun _ _ _ h => h) (Or.inl ⟨by rfl, ?_⟩) ?_ ?_
          rotate_left
          · intro w'
            go_simp
            with_reducible rfl
          rotate_left
          · simp only [Act.put, List.setIfInBounds_toArray, List.set_cons_zero, List.set_cons_succ, i64_w, i32_w]
            rfl
          refine done_ (done_of HT_.out (by kernel_rfl)) ?_
          have hcz14_0 : w13.cell? ⟨gb104, 0, none⟩ = some (.int .i64 a0_0) := (blk_cell BK104.out 0).trans rfl
          have hcz14_1 : w13.cell? ⟨gb104, 1, none⟩ = some (.int .i64 a0_1) := (blk_cell BK104.out 1).trans rfl
          have hcz14_2 : w13.cell? ⟨gb104, 2, none⟩ = some (.int .i64 a0_2) := (blk_cell BK104.out 2).trans rfl
          have hcz14_3 : w13.cell? ⟨gb104, 3, none⟩ = some (.slice A0_3 l0_3.length c0_3) := (blk_cell BK104.out 3).trans rfl
          have hfz14_0 := blk_frozen BK104.out 0
          have hfz14_1 := blk_frozen BK104.out 1
          have hfz14_2 := blk_frozen BK104.out 2
          have hfz14_3 := blk_frozen BK104.out 3
          have p107 : 0 ≤ (t105 : Int) := of_decide_eq_true (by first | (with_reducible assumption) | assumption)
          have q107 : t105 < (l0_3.length : Int) := of_decide_eq_true (by first | (with_reducible assumption) | assumption)
          obtain ⟨ad107, e107, hx107_0, hx107_1⟩ := at_T71 HR0_3.out t105 p107 q107
          cases e107
          replace hx107_0 := (HB.out.cell (World.block_lt_of_cell? w _ hx107_0)).trans hx107_0
          replace hx107_1 := (HB.out.cell (World.block_lt_of_cell? w _ hx107_1)).trans hx107_1
          replace p107 := eq_true p107
          replace q107 := eq_true q107
          try go_wp2
          go_ret
          exact ⟨by first | rfl | (simp [errW_none, errW_some] <;> rfl) | (simp [*, errW_none, errW_some] <;> rfl), by repeat (first | (with_reducible first | exact HB.out | apply below_alloc | apply pw_below_drewN | apply below_drew1 | refine below_set ?_ GE104.out) | exact HB.out)⟩
        · rw [if_neg c9] at H
          exact absurd H (by simp)
      · rw [if_neg c8] at H
        exact absurd H (by simp)

-- NOT PRINTED: function 77 (change_Schedule_moved)

-- NOT PRINTED: function 78 (change_Schedule_tail)

-- NOT PRINTED: function 37 (change_Schedule_State)

/-- A state of type 80 at block g of W; what its slices lead to came in by w0. -/
def IsS80 (w0 W : World) (g : Nat) (f0 : Int) (f1 : Int) (f2 : Int) (f3 : List (S71)) (f4 : Int) (f5 : Int) (f6 : Int) (f7 : List (S71)) (f8 : Bool) (f9 : Bool) (f10 : Int) (f11 : Int) (f12 : Int) : Prop := ∃ A3 c3, ∃ A7 c7, W.heap[g]? = some (.cells #[.int .i64 f0, .int .i64 f1, .int .i64 f2, .slice A3 f3.length c3, .int .i64 f4, .int .i64 f5, .int .i64 f6, .slice A7 f7.length c7, .bool f8, .bool f9, .int .i64 f10, .int .i64 f11, .int .i64 f12] 80 (0, 0)) ∧ w0.heap.size ≤ g ∧ Kd.C k71 w0 A3 f3.length f3 ∧ Kd.C k71 w0 A7 f7.length f7
theorem IsS80.grown {w0 W : World} {g : Nat} {f0 : Int} {f1 : Int} {f2 : Int} {f3 : List (S71)} {f4 : Int} {f5 : Int} {f6 : Int} {f7 : List (S71)} {f8 : Bool} {f9 : Bool} {f10 : Int} {f11 : Int} {f12 : Int} {W1 : World} {row : Option Nat} (h : IsS80 w0 W g f0 f1 f2 f3 f4 f5 f6 f7 f8 f9 f10 f11 f12) (hw : W.grownBy W1 row) (hne : some g ≠ row) : IsS80 w0 W1 g f0 f1 f2 f3 f4 f5 f6 f7 f8 f9 f10 f11 f12 := by
  obtain ⟨A3, c3, A7, c7, hb, hg, hr3, hr7⟩ := h
  exact ⟨A3, c3, A7, c7, blk_grown hb hw hne, hg, hr3, hr7⟩
theorem IsS80.own_neN {w0 W : World} {g : Nat} {f0 : Int} {f1 : Int} {f2 : Int} {f3 : List (S71)} {f4 : Int} {f5 : Int} {f6 : Int} {f7 : List (S71)} {f8 : Bool} {f9 : Bool} {f10 : Int} {f11 : Int} {f12 : Int} {α : Type} {d : Kd α} {e : Nat} {base : Nat} {ok : Nat → Prop} {v : Value} {xs : List α} (h : IsS80 w0 W g f0 f1 f2 f3 f4 f5 f6 f7 f8 f9 f10 f11 f12) (ho : Kd.N d e W base ok v xs) (ht : e ≠ 80) : some g ≠ v.ownBlock := by
  obtain ⟨A3, c3, A7, c7, hb, hg, hr3, hr7⟩ := h
  exact Kd.N_ne ho hb ht
theorem IsS80.fresh {w0 W : World} {g : Nat} {f0 : Int} {f1 : Int} {f2 : Int} {f3 : List (S71)} {f4 : Int} {f5 : Int} {f6 : Int} {f7 : List (S71)} {f8 : Bool} {f9 : Bool} {f10 : Int} {f11 : Int} {f12 : Int} (h : IsS80 w0 W g f0 f1 f2 f3 f4 f5 f6 f7 f8 f9 f10 f11 f12) : ∀ k, W.heap.size ≤ k → k ≠ g := by
  obtain ⟨A3, c3, A7, c7, hb, hg, hr3, hr7⟩ := h
  exact Kd.freshB hb
theorem IsS80.kept {w0 W : World} {g : Nat} {f0 : Int} {f1 : Int} {f2 : Int} {f3 : List (S71)} {f4 : Int} {f5 : Int} {f6 : Int} {f7 : List (S71)} {f8 : Bool} {f9 : Bool} {f10 : Int} {f11 : Int} {f12 : Int} {W1 : World} {S : Nat → Prop} (h : IsS80 w0 W g f0 f1 f2 f3 f4 f5 f6 f7 f8 f9 f10 f11 f12) (hk : Kept W W1 S) (hne : ¬ S g) : IsS80 w0 W1 g f0 f1 f2 f3 f4 f5 f6 f7 f8 f9 f10 f11 f12 := by
  obtain ⟨A3, c3, A7, c7, hb, hg, hr3, hr7⟩ := h
  exact ⟨A3, c3, A7, c7, blk_kept hb hk hne, hg, hr3, hr7⟩
theorem IsS80.below {w0 W : World} {g : Nat} {f0 : Int} {f1 : Int} {f2 : Int} {f3 : List (S71)} {f4 : Int} {f5 : Int} {f6 : Int} {f7 : List (S71)} {f8 : Bool} {f9 : Bool} {f10 : Int} {f11 : Int} {f12 : Int} {W1 : World} (h : IsS80 w0 W g f0 f1 f2 f3 f4 f5 f6 f7 f8 f9 f10 f11 f12) (hw : Below W.heap.size W W1) : IsS80 w0 W1 g f0 f1 f2 f3 f4 f5 f6 f7 f8 f9 f10 f11 f12 := h.grown (grown_of_below hw none) (by simp)
theorem IsS80.alloc {w0 W : World} {g : Nat} {f0 : Int} {f1 : Int} {f2 : Int} {f3 : List (S71)} {f4 : Int} {f5 : Int} {f6 : Int} {f7 : List (S71)} {f8 : Bool} {f9 : Bool} {f10 : Int} {f11 : Int} {f12 : Int} (h : IsS80 w0 W g f0 f1 f2 f3 f4 f5 f6 f7 f8 f9 f10 f11 f12) (o : Obj) : IsS80 w0 (W.alloc o) g f0 f1 f2 f3 f4 f5 f6 f7 f8 f9 f10 f11 f12 := h.below (below_alloc (Below.refl _ _) o)
theorem IsS80.drewN {w0 W : World} {g : Nat} {f0 : Int} {f1 : Int} {f2 : Int} {f3 : List (S71)} {f4 : Int} {f5 : Int} {f6 : Int} {f7 : List (S71)} {f8 : Bool} {f9 : Bool} {f10 : Int} {f11 : Int} {f12 : Int} (h : IsS80 w0 W g f0 f1 f2 f3 f4 f5 f6 f7 f8 f9 f10 f11 f12) (m : Nat) : IsS80 w0 (W.drewN m) g f0 f1 f2 f3 f4 f5 f6 f7 f8 f9 f10 f11 f12 := h
theorem IsS80.drew {w0 W : World} {g : Nat} {f0 : Int} {f1 : Int} {f2 : Int} {f3 : List (S71)} {f4 : Int} {f5 : Int} {f6 : Int} {f7 : List (S71)} {f8 : Bool} {f9 : Bool} {f10 : Int} {f11 : Int} {f12 : Int} (h : IsS80 w0 W g f0 f1 f2 f3 f4 f5 f6 f7 f8 f9 f10 f11 f12) : IsS80 w0 W.drew g f0 f1 f2 f3 f4 f5 f6 f7 f8 f9 f10 f11 f12 := h
theorem IsS80.at_ {w0 W : World} {g : Nat} {f0 : Int} {f1 : Int} {f2 : Int} {f3 : List (S71)} {f4 : Int} {f5 : Int} {f6 : Int} {f7 : List (S71)} {f8 : Bool} {f9 : Bool} {f10 : Int} {f11 : Int} {f12 : Int} {w' : World} {m : Nat} (hq : W.drewN m = w') (h : IsS80 w0 W g f0 f1 f2 f3 f4 f5 f6 f7 f8 f9 f10 f11 f12) : IsS80 w0 w' g f0 f1 f2 f3 f4 f5 f6 f7 f8 f9 f10 f11 f12 := by subst hq; exact IsS80.drewN h m
theorem IsS80.apart {w0 W : World} {g : Nat} {f0 : Int} {f1 : Int} {f2 : Int} {f3 : List (S71)} {f4 : Int} {f5 : Int} {f6 : Int} {f7 : List (S71)} {f8 : Bool} {f9 : Bool} {f10 : Int} {f11 : Int} {f12 : Int} {α : Type} {d : Kd α} {e : Nat} {base : Nat} {ok : Nat → Prop} {v : Value} {xs : List α} (h : IsS80 w0 W g f0 f1 f2 f3 f4 f5 f6 f7 f8 f9 f10 f11 f12) (ho : d.R e W base ok v xs) (ht : ∀ q, q ∈ e :: d.E → q ≠ 80) : d.R e W base (fun k => ok k ∧ k ≠ g) v xs := by
  obtain ⟨A3, c3, A7, c7, hb, hg, hr3, hr7⟩ := h
  exact Kd.R_types ho hb ht
theorem IsS80.own_ne {w0 W : World} {g : Nat} {f0 : Int} {f1 : Int} {f2 : Int} {f3 : List (S71)} {f4 : Int} {f5 : Int} {f6 : Int} {f7 : List (S71)} {f8 : Bool} {f9 : Bool} {f10 : Int} {f11 : Int} {f12 : Int} {α : Type} {d : Kd α} {e : Nat} {base : Nat} {ok : Nat → Prop} {v : Value} {xs : List α} (h : IsS80 w0 W g f0 f1 f2 f3 f4 f5 f6 f7 f8 f9 f10 f11 f12) (ho : d.R e W base ok v xs) (ht : e ≠ 80) : some g ≠ v.ownBlock := by
  obtain ⟨A3, c3, A7, c7, hb, hg, hr3, hr7⟩ := h
  exact Kd.R_ne ho hb ht
theorem IsS80.apartQ {w0 W : World} {g : Nat} {f0 : Int} {f1 : Int} {f2 : Int} {f3 : List (S71)} {f4 : Int} {f5 : Int} {f6 : Int} {f7 : List (S71)} {f8 : Bool} {f9 : Bool} {f10 : Int} {f11 : Int} {f12 : Int} {α : Type} {d : Kd α} {e : Nat} {base : Nat} {ok : Nat → Prop} {v : Value} {xs : List α} (h : IsS80 w0 W g f0 f1 f2 f3 f4 f5 f6 f7 f8 f9 f10 f11 f12) (ho : d.Q e W base ok v xs) (ht : ∀ q, q ∈ e :: d.E → q ≠ 80) : d.Q e W base (fun k => ok k ∧ k ≠ g) v xs := by
  obtain ⟨A3, c3, A7, c7, hb, hg, hr3, hr7⟩ := h
  exact Kd.Q_types ho hb ht
theorem IsS80.own_neQ {w0 W : World} {g : Nat} {f0 : Int} {f1 : Int} {f2 : Int} {f3 : List (S71)} {f4 : Int} {f5 : Int} {f6 : Int} {f7 : List (S71)} {f8 : Bool} {f9 : Bool} {f10 : Int} {f11 : Int} {f12 : Int} {α : Type} {d : Kd α} {e : Nat} {base : Nat} {ok : Nat → Prop} {v : Value} {xs : List α} (h : IsS80 w0 W g f0 f1 f2 f3 f4 f5 f6 f7 f8 f9 f10 f11 f12) (ho : d.Q e W base ok v xs) (ht : e ≠ 80) : some g ≠ v.ownBlock := by
  obtain ⟨A3, c3, A7, c7, hb, hg, hr3, hr7⟩ := h
  exact Kd.Q_ne ho hb ht
theorem IsS80.apartS {w0 W : World} {g : Nat} {f0 : Int} {f1 : Int} {f2 : Int} {f3 : List (S71)} {f4 : Int} {f5 : Int} {f6 : Int} {f7 : List (S71)} {f8 : Bool} {f9 : Bool} {f10 : Int} {f11 : Int} {f12 : Int} {α : Type} {d : Kd α} {e : Nat} {base : Nat} {ok : Nat → Prop} {v : Value} {xs : List α} (h : IsS80 w0 W g f0 f1 f2 f3 f4 f5 f6 f7 f8 f9 f10 f11 f12) (ho : d.S e W base ok v xs) (ht : ∀ q, q ∈ e :: d.E → q ≠ 80) : d.S e W base (fun k => ok k ∧ k ≠ g) v xs := by
  obtain ⟨A3, c3, A7, c7, hb, hg, hr3, hr7⟩ := h
  exact Kd.S_types ho hb ht
theorem IsS80.own_neS {w0 W : World} {g : Nat} {f0 : Int} {f1 : Int} {f2 : Int} {f3 : List (S71)} {f4 : Int} {f5 : Int} {f6 : Int} {f7 : List (S71)} {f8 : Bool} {f9 : Bool} {f10 : Int} {f11 : Int} {f12 : Int} {α : Type} {d : Kd α} {e : Nat} {base : Nat} {ok : Nat → Prop} {v : Value} {xs : List α} (h : IsS80 w0 W g f0 f1 f2 f3 f4 f5 f6 f7 f8 f9 f10 f11 f12) (ho : d.S e W base ok v xs) (ht : e ≠ 80) : some g ≠ v.ownBlock := by
  obtain ⟨A3, c3, A7, c7, hb, hg, hr3, hr7⟩ := h
  exact Kd.S_ne ho hb ht
theorem IsS80.lt {w0 W : World} {g : Nat} {f0 : Int} {f1 : Int} {f2 : Int} {f3 : List (S71)} {f4 : Int} {f5 : Int} {f6 : Int} {f7 : List (S71)} {f8 : Bool} {f9 : Bool} {f10 : Int} {f11 : Int} {f12 : Int} (h : IsS80 w0 W g f0 f1 f2 f3 f4 f5 f6 f7 f8 f9 f10 f11 f12) : g < W.heap.size := by
  obtain ⟨A3, c3, A7, c7, hb, hg, hr3, hr7⟩ := h
  exact blk_lt hb
theorem IsS80.ge {w0 W : World} {g : Nat} {f0 : Int} {f1 : Int} {f2 : Int} {f3 : List (S71)} {f4 : Int} {f5 : Int} {f6 : Int} {f7 : List (S71)} {f8 : Bool} {f9 : Bool} {f10 : Int} {f11 : Int} {f12 : Int} (h : IsS80 w0 W g f0 f1 f2 f3 f4 f5 f6 f7 f8 f9 f10 f11 f12) : w0.heap.size ≤ g := by
  obtain ⟨A3, c3, A7, c7, hb, hg, hr3, hr7⟩ := h
  exact hg
theorem IsS80.ne_blk {w0 W : World} {g : Nat} {f0 : Int} {f1 : Int} {f2 : Int} {f3 : List (S71)} {f4 : Int} {f5 : Int} {f6 : Int} {f7 : List (S71)} {f8 : Bool} {f9 : Bool} {f10 : Int} {f11 : Int} {f12 : Int} {a : Nat} {cs : Array Value} {t : TypeId} {fr : Nat × Nat} (h : IsS80 w0 W g f0 f1 f2 f3 f4 f5 f6 f7 f8 f9 f10 f11 f12) (hb2 : W.heap[a]? = some (.cells cs t fr)) (ht : t ≠ 80) : g ≠ a := by
  obtain ⟨A3, c3, A7, c7, hb, hg, hr3, hr7⟩ := h
  rintro rfl
  rw [hb] at hb2
  injection hb2 with hb2
  injection hb2 with _ ht2
  exact ht ht2.symm
theorem IsS80.far {w0 W : World} {g : Nat} {f0 : Int} {f1 : Int} {f2 : Int} {f3 : List (S71)} {f4 : Int} {f5 : Int} {f6 : Int} {f7 : List (S71)} {f8 : Bool} {f9 : Bool} {f10 : Int} {f11 : Int} {f12 : Int} {p : Addr} (h : IsS80 w0 W g f0 f1 f2 f3 f4 f5 f6 f7 f8 f9 f10 f11 f12) (hne : g ≠ p.block) (u : Value) : IsS80 w0 (W.setCell p u) g f0 f1 f2 f3 f4 f5 f6 f7 f8 f9 f10 f11 f12 := by
  obtain ⟨A3, c3, A7, c7, hb, hg, hr3, hr7⟩ := h
  exact ⟨A3, c3, A7, c7, blk_far hb hne u, hg, hr3, hr7⟩
theorem cellS80_0 {W : World} {g : Nat} {A3 : Option Addr} {c3 : Nat} {A7 : Option Addr} {c7 : Nat} {f0 : Int} {f1 : Int} {f2 : Int} {f3 : List (S71)} {f4 : Int} {f5 : Int} {f6 : Int} {f7 : List (S71)} {f8 : Bool} {f9 : Bool} {f10 : Int} {f11 : Int} {f12 : Int} (h : W.heap[g]? = some (.cells #[.int .i64 f0, .int .i64 f1, .int .i64 f2, .slice A3 f3.length c3, .int .i64 f4, .int .i64 f5, .int .i64 f6, .slice A7 f7.length c7, .bool f8, .bool f9, .int .i64 f10, .int .i64 f11, .int .i64 f12] 80 (0, 0))) : W.cell? ⟨g, 0, none⟩ = some (.int .i64 f0) := (blk_cell h 0).trans rfl
theorem IsS80.set_0 {w0 W : World} {g : Nat} {f0 : Int} {f1 : Int} {f2 : Int} {f3 : List (S71)} {f4 : Int} {f5 : Int} {f6 : Int} {f7 : List (S71)} {f8 : Bool} {f9 : Bool} {f10 : Int} {f11 : Int} {f12 : Int} (h : IsS80 w0 W g f0 f1 f2 f3 f4 f5 f6 f7 f8 f9 f10 f11 f12) (x : Int) : IsS80 w0 (W.setCell ⟨g, 0, none⟩ (.int .i64 x)) g x f1 f2 f3 f4 f5 f6 f7 f8 f9 f10 f11 f12 := by
  obtain ⟨A3, c3, A7, c7, hb, hg, hr3, hr7⟩ := h
  exact ⟨A3, c3, A7, c7, by simpa using blk_set hb 0 (.int .i64 x), hg, hr3, hr7⟩
theorem cellS80_1 {W : World} {g : Nat} {A3 : Option Addr} {c3 : Nat} {A7 : Option Addr} {c7 : Nat} {f0 : Int} {f1 : Int} {f2 : Int} {f3 : List (S71)} {f4 : Int} {f5 : Int} {f6 : Int} {f7 : List (S71)} {f8 : Bool} {f9 : Bool} {f10 : Int} {f11 : Int} {f12 : Int} (h : W.heap[g]? = some (.cells #[.int .i64 f0, .int .i64 f1, .int .i64 f2, .slice A3 f3.length c3, .int .i64 f4, .int .i64 f5, .int .i64 f6, .slice A7 f7.length c7, .bool f8, .bool f9, .int .i64 f10, .int .i64 f11, .int .i64 f12] 80 (0, 0))) : W.cell? ⟨g, 1, none⟩ = some (.int .i64 f1) := (blk_cell h 1).trans rfl
theorem IsS80.set_1 {w0 W : World} {g : Nat} {f0 : Int} {f1 : Int} {f2 : Int} {f3 : List (S71)} {f4 : Int} {f5 : Int} {f6 : Int} {f7 : List (S71)} {f8 : Bool} {f9 : Bool} {f10 : Int} {f11 : Int} {f12 : Int} (h : IsS80 w0 W g f0 f1 f2 f3 f4 f5 f6 f7 f8 f9 f10 f11 f12) (x : Int) : IsS80 w0 (W.setCell ⟨g, 1, none⟩ (.int .i64 x)) g f0 x f2 f3 f4 f5 f6 f7 f8 f9 f10 f11 f12 := by
  obtain ⟨A3, c3, A7, c7, hb, hg, hr3, hr7⟩ := h
  exact ⟨A3, c3, A7, c7, by simpa using blk_set hb 1 (.int .i64 x), hg, hr3, hr7⟩
theorem cellS80_2 {W : World} {g : Nat} {A3 : Option Addr} {c3 : Nat} {A7 : Option Addr} {c7 : Nat} {f0 : Int} {f1 : Int} {f2 : Int} {f3 : List (S71)} {f4 : Int} {f5 : Int} {f6 : Int} {f7 : List (S71)} {f8 : Bool} {f9 : Bool} {f10 : Int} {f11 : Int} {f12 : Int} (h : W.heap[g]? = some (.cells #[.int .i64 f0, .int .i64 f1, .int .i64 f2, .slice A3 f3.length c3, .int .i64 f4, .int .i64 f5, .int .i64 f6, .slice A7 f7.length c7, .bool f8, .bool f9, .int .i64 f10, .int .i64 f11, .int .i64 f12] 80 (0, 0))) : W.cell? ⟨g, 2, none⟩ = some (.int .i64 f2) := (blk_cell h 2).trans rfl
theorem IsS80.set_2 {w0 W : World} {g : Nat} {f0 : Int} {f1 : Int} {f2 : Int} {f3 : List (S71)} {f4 : Int} {f5 : Int} {f6 : Int} {f7 : List (S71)} {f8 : Bool} {f9 : Bool} {f10 : Int} {f11 : Int} {f12 : Int} (h : IsS80 w0 W g f0 f1 f2 f3 f4 f5 f6 f7 f8 f9 f10 f11 f12) (x : Int) : IsS80 w0 (W.setCell ⟨g, 2, none⟩ (.int .i64 x)) g f0 f1 x f3 f4 f5 f6 f7 f8 f9 f10 f11 f12 := by
  obtain ⟨A3, c3, A7, c7, hb, hg, hr3, hr7⟩ := h
  exact ⟨A3, c3, A7, c7, by simpa using blk_set hb 2 (.int .i64 x), hg, hr3, hr7⟩
theorem cellS80_3 {W : World} {g : Nat} {A3 : Option Addr} {c3 : Nat} {A7 : Option Addr} {c7 : Nat} {f0 : Int} {f1 : Int} {f2 : Int} {f3 : List (S71)} {f4 : Int} {f5 : Int} {f6 : Int} {f7 : List (S71)} {f8 : Bool} {f9 : Bool} {f10 : Int} {f11 : Int} {f12 : Int} (h : W.heap[g]? = some (.cells #[.int .i64 f0, .int .i64 f1, .int .i64 f2, .slice A3 f3.length c3, .int .i64 f4, .int .i64 f5, .int .i64 f6, .slice A7 f7.length c7, .bool f8, .bool f9, .int .i64 f10, .int .i64 f11, .int .i64 f12] 80 (0, 0))) : W.cell? ⟨g, 3, none⟩ = some (.slice A3 f3.length c3) := (blk_cell h 3).trans rfl
theorem cellS80_4 {W : World} {g : Nat} {A3 : Option Addr} {c3 : Nat} {A7 : Option Addr} {c7 : Nat} {f0 : Int} {f1 : Int} {f2 : Int} {f3 : List (S71)} {f4 : Int} {f5 : Int} {f6 : Int} {f7 : List (S71)} {f8 : Bool} {f9 : Bool} {f10 : Int} {f11 : Int} {f12 : Int} (h : W.heap[g]? = some (.cells #[.int .i64 f0, .int .i64 f1, .int .i64 f2, .slice A3 f3.length c3, .int .i64 f4, .int .i64 f5, .int .i64 f6, .slice A7 f7.length c7, .bool f8, .bool f9, .int .i64 f10, .int .i64 f11, .int .i64 f12] 80 (0, 0))) : W.cell? ⟨g, 4, none⟩ = some (.int .i64 f4) := (blk_cell h 4).trans rfl
theorem IsS80.set_4 {w0 W : World} {g : Nat} {f0 : Int} {f1 : Int} {f2 : Int} {f3 : List (S71)} {f4 : Int} {f5 : Int} {f6 : Int} {f7 : List (S71)} {f8 : Bool} {f9 : Bool} {f10 : Int} {f11 : Int} {f12 : Int} (h : IsS80 w0 W g f0 f1 f2 f3 f4 f5 f6 f7 f8 f9 f10 f11 f12) (x : Int) : IsS80 w0 (W.setCell ⟨g, 4, none⟩ (.int .i64 x)) g f0 f1 f2 f3 x f5 f6 f7 f8 f9 f10 f11 f12 := by
  obtain ⟨A3, c3, A7, c7, hb, hg, hr3, hr7⟩ := h
  exact ⟨A3, c3, A7, c7, by simpa using blk_set hb 4 (.int .i64 x), hg, hr3, hr7⟩
theorem cellS80_5 {W : World} {g : Nat} {A3 : Option Addr} {c3 : Nat} {A7 : Option Addr} {c7 : Nat} {f0 : Int} {f1 : Int} {f2 : Int} {f3 : List (S71)} {f4 : Int} {f5 : Int} {f6 : Int} {f7 : List (S71)} {f8 : Bool} {f9 : Bool} {f10 : Int} {f11 : Int} {f12 : Int} (h : W.heap[g]? = some (.cells #[.int .i64 f0, .int .i64 f1, .int .i64 f2, .slice A3 f3.length c3, .int .i64 f4, .int .i64 f5, .int .i64 f6, .slice A7 f7.length c7, .bool f8, .bool f9, .int .i64 f10, .int .i64 f11, .int .i64 f12] 80 (0, 0))) : W.cell? ⟨g, 5, none⟩ = some (.int .i64 f5) := (blk_cell h 5).trans rfl
theorem IsS80.set_5 {w0 W : World} {g : Nat} {f0 : Int} {f1 : Int} {f2 : Int} {f3 : List (S71)} {f4 : Int} {f5 : Int} {f6 : Int} {f7 : List (S71)} {f8 : Bool} {f9 : Bool} {f10 : Int} {f11 : Int} {f12 : Int} (h : IsS80 w0 W g f0 f1 f2 f3 f4 f5 f6 f7 f8 f9 f10 f11 f12) (x : Int) : IsS80 w0 (W.setCell ⟨g, 5, none⟩ (.int .i64 x)) g f0 f1 f2 f3 f4 x f6 f7 f8 f9 f10 f11 f12 := by
  obtain ⟨A3, c3, A7, c7, hb, hg, hr3, hr7⟩ := h
  exact ⟨A3, c3, A7, c7, by simpa using blk_set hb 5 (.int .i64 x), hg, hr3, hr7⟩
theorem cellS80_6 {W : World} {g : Nat} {A3 : Option Addr} {c3 : Nat} {A7 : Option Addr} {c7 : Nat} {f0 : Int} {f1 : Int} {f2 : Int} {f3 : List (S71)} {f4 : Int} {f5 : Int} {f6 : Int} {f7 : List (S71)} {f8 : Bool} {f9 : Bool} {f10 : Int} {f11 : Int} {f12 : Int} (h : W.heap[g]? = some (.cells #[.int .i64 f0, .int .i64 f1, .int .i64 f2, .slice A3 f3.length c3, .int .i64 f4, .int .i64 f5, .int .i64 f6, .slice A7 f7.length c7, .bool f8, .bool f9, .int .i64 f10, .int .i64 f11, .int .i64 f12] 80 (0, 0))) : W.cell? ⟨g, 6, none⟩ = some (.int .i64 f6) := (blk_cell h 6).trans rfl
theorem IsS80.set_6 {w0 W : World} {g : Nat} {f0 : Int} {f1 : Int} {f2 : Int} {f3 : List (S71)} {f4 : Int} {f5 : Int} {f6 : Int} {f7 : List (S71)} {f8 : Bool} {f9 : Bool} {f10 : Int} {f11 : Int} {f12 : Int} (h : IsS80 w0 W g f0 f1 f2 f3 f4 f5 f6 f7 f8 f9 f10 f11 f12) (x : Int) : IsS80 w0 (W.setCell ⟨g, 6, none⟩ (.int .i64 x)) g f0 f1 f2 f3 f4 f5 x f7 f8 f9 f10 f11 f12 := by
  obtain ⟨A3, c3, A7, c7, hb, hg, hr3, hr7⟩ := h
  exact ⟨A3, c3, A7, c7, by simpa using blk_set hb 6 (.int .i64 x), hg, hr3, hr7⟩
theorem cellS80_7 {W : World} {g : Nat} {A3 : Option Addr} {c3 : Nat} {A7 : Option Addr} {c7 : Nat} {f0 : Int} {f1 : Int} {f2 : Int} {f3 : List (S71)} {f4 : Int} {f5 : Int} {f6 : Int} {f7 : List (S71)} {f8 : Bool} {f9 : Bool} {f10 : Int} {f11 : Int} {f12 : Int} (h : W.heap[g]? = some (.cells #[.int .i64 f0, .int .i64 f1, .int .i64 f2, .slice A3 f3.length c3, .int .i64 f4, .int .i64 f5, .int .i64 f6, .slice A7 f7.length c7, .bool f8, .bool f9, .int .i64 f10, .int .i64 f11, .int .i64 f12] 80 (0, 0))) : W.cell? ⟨g, 7, none⟩ = some (.slice A7 f7.length c7) := (blk_cell h 7).trans rfl
theorem cellS80_8 {W : World} {g : Nat} {A3 : Option Addr} {c3 : Nat} {A7 : Option Addr} {c7 : Nat} {f0 : Int} {f1 : Int} {f2 : Int} {f3 : List (S71)} {f4 : Int} {f5 : Int} {f6 : Int} {f7 : List (S71)} {f8 : Bool} {f9 : Bool} {f10 : Int} {f11 : Int} {f12 : Int} (h : W.heap[g]? = some (.cells #[.int .i64 f0, .int .i64 f1, .int .i64 f2, .slice A3 f3.length c3, .int .i64 f4, .int .i64 f5, .int .i64 f6, .slice A7 f7.length c7, .bool f8, .bool f9, .int .i64 f10, .int .i64 f11, .int .i64 f12] 80 (0, 0))) : W.cell? ⟨g, 8, none⟩ = some (.bool f8) := (blk_cell h 8).trans rfl
theorem IsS80.set_8 {w0 W : World} {g : Nat} {f0 : Int} {f1 : Int} {f2 : Int} {f3 : List (S71)} {f4 : Int} {f5 : Int} {f6 : Int} {f7 : List (S71)} {f8 : Bool} {f9 : Bool} {f10 : Int} {f11 : Int} {f12 : Int} (h : IsS80 w0 W g f0 f1 f2 f3 f4 f5 f6 f7 f8 f9 f10 f11 f12) (x : Bool) : IsS80 w0 (W.setCell ⟨g, 8, none⟩ (.bool x)) g f0 f1 f2 f3 f4 f5 f6 f7 x f9 f10 f11 f12 := by
  obtain ⟨A3, c3, A7, c7, hb, hg, hr3, hr7⟩ := h
  exact ⟨A3, c3, A7, c7, by simpa using blk_set hb 8 (.bool x), hg, hr3, hr7⟩
theorem cellS80_9 {W : World} {g : Nat} {A3 : Option Addr} {c3 : Nat} {A7 : Option Addr} {c7 : Nat} {f0 : Int} {f1 : Int} {f2 : Int} {f3 : List (S71)} {f4 : Int} {f5 : Int} {f6 : Int} {f7 : List (S71)} {f8 : Bool} {f9 : Bool} {f10 : Int} {f11 : Int} {f12 : Int} (h : W.heap[g]? = some (.cells #[.int .i64 f0, .int .i64 f1, .int .i64 f2, .slice A3 f3.length c3, .int .i64 f4, .int .i64 f5, .int .i64 f6, .slice A7 f7.length c7, .bool f8, .bool f9, .int .i64 f10, .int .i64 f11, .int .i64 f12] 80 (0, 0))) : W.cell? ⟨g, 9, none⟩ = some (.bool f9) := (blk_cell h 9).trans rfl
theorem IsS80.set_9 {w0 W : World} {g : Nat} {f0 : Int} {f1 : Int} {f2 : Int} {f3 : List (S71)} {f4 : Int} {f5 : Int} {f6 : Int} {f7 : List (S71)} {f8 : Bool} {f9 : Bool} {f10 : Int} {f11 : Int} {f12 : Int} (h : IsS80 w0 W g f0 f1 f2 f3 f4 f5 f6 f7 f8 f9 f10 f11 f12) (x : Bool) : IsS80 w0 (W.setCell ⟨g, 9, none⟩ (.bool x)) g f0 f1 f2 f3 f4 f5 f6 f7 f8 x f10 f11 f12 := by
  obtain ⟨A3, c3, A7, c7, hb, hg, hr3, hr7⟩ := h
  exact ⟨A3, c3, A7, c7, by simpa using blk_set hb 9 (.bool x), hg, hr3, hr7⟩
theorem cellS80_10 {W : World} {g : Nat} {A3 : Option Addr} {c3 : Nat} {A7 : Option Addr} {c7 : Nat} {f0 : Int} {f1 : Int} {f2 : Int} {f3 : List (S71)} {f4 : Int} {f5 : Int} {f6 : Int} {f7 : List (S71)} {f8 : Bool} {f9 : Bool} {f10 : Int} {f11 : Int} {f12 : Int} (h : W.heap[g]? = some (.cells #[.int .i64 f0, .int .i64 f1, .int .i64 f2, .slice A3 f3.length c3, .int .i64 f4, .int .i64 f5, .int .i64 f6, .slice A7 f7.length c7, .bool f8, .bool f9, .int .i64 f10, .int .i64 f11, .int .i64 f12] 80 (0, 0))) : W.cell? ⟨g, 10, none⟩ = some (.int .i64 f10) := (blk_cell h 10).trans rfl
theorem IsS80.set_10 {w0 W : World} {g : Nat} {f0 : Int} {f1 : Int} {f2 : Int} {f3 : List (S71)} {f4 : Int} {f5 : Int} {f6 : Int} {f7 : List (S71)} {f8 : Bool} {f9 : Bool} {f10 : Int} {f11 : Int} {f12 : Int} (h : IsS80 w0 W g f0 f1 f2 f3 f4 f5 f6 f7 f8 f9 f10 f11 f12) (x : Int) : IsS80 w0 (W.setCell ⟨g, 10, none⟩ (.int .i64 x)) g f0 f1 f2 f3 f4 f5 f6 f7 f8 f9 x f11 f12 := by
  obtain ⟨A3, c3, A7, c7, hb, hg, hr3, hr7⟩ := h
  exact ⟨A3, c3, A7, c7, by simpa using blk_set hb 10 (.int .i64 x), hg, hr3, hr7⟩
theorem cellS80_11 {W : World} {g : Nat} {A3 : Option Addr} {c3 : Nat} {A7 : Option Addr} {c7 : Nat} {f0 : Int} {f1 : Int} {f2 : Int} {f3 : List (S71)} {f4 : Int} {f5 : Int} {f6 : Int} {f7 : List (S71)} {f8 : Bool} {f9 : Bool} {f10 : Int} {f11 : Int} {f12 : Int} (h : W.heap[g]? = some (.cells #[.int .i64 f0, .int .i64 f1, .int .i64 f2, .slice A3 f3.length c3, .int .i64 f4, .int .i64 f5, .int .i64 f6, .slice A7 f7.length c7, .bool f8, .bool f9, .int .i64 f10, .int .i64 f11, .int .i64 f12] 80 (0, 0))) : W.cell? ⟨g, 11, none⟩ = some (.int .i64 f11) := (blk_cell h 11).trans rfl
theorem IsS80.set_11 {w0 W : World} {g : Nat} {f0 : Int} {f1 : Int} {f2 : Int} {f3 : List (S71)} {f4 : Int} {f5 : Int} {f6 : Int} {f7 : List (S71)} {f8 : Bool} {f9 : Bool} {f10 : Int} {f11 : Int} {f12 : Int} (h : IsS80 w0 W g f0 f1 f2 f3 f4 f5 f6 f7 f8 f9 f10 f11 f12) (x : Int) : IsS80 w0 (W.setCell ⟨g, 11, none⟩ (.int .i64 x)) g f0 f1 f2 f3 f4 f5 f6 f7 f8 f9 f10 x f12 := by
  obtain ⟨A3, c3, A7, c7, hb, hg, hr3, hr7⟩ := h
  exact ⟨A3, c3, A7, c7, by simpa using blk_set hb 11 (.int .i64 x), hg, hr3, hr7⟩
theorem cellS80_12 {W : World} {g : Nat} {A3 : Option Addr} {c3 : Nat} {A7 : Option Addr} {c7 : Nat} {f0 : Int} {f1 : Int} {f2 : Int} {f3 : List (S71)} {f4 : Int} {f5 : Int} {f6 : Int} {f7 : List (S71)} {f8 : Bool} {f9 : Bool} {f10 : Int} {f11 : Int} {f12 : Int} (h : W.heap[g]? = some (.cells #[.int .i64 f0, .int .i64 f1, .int .i64 f2, .slice A3 f3.length c3, .int .i64 f4, .int .i64 f5, .int .i64 f6, .slice A7 f7.length c7, .bool f8, .bool f9, .int .i64 f10, .int .i64 f11, .int .i64 f12] 80 (0, 0))) : W.cell? ⟨g, 12, none⟩ = some (.int .i64 f12) := (blk_cell h 12).trans rfl
theorem IsS80.set_12 {w0 W : World} {g : Nat} {f0 : Int} {f1 : Int} {f2 : Int} {f3 : List (S71)} {f4 : Int} {f5 : Int} {f6 : Int} {f7 : List (S71)} {f8 : Bool} {f9 : Bool} {f10 : Int} {f11 : Int} {f12 : Int} (h : IsS80 w0 W g f0 f1 f2 f3 f4 f5 f6 f7 f8 f9 f10 f11 f12) (x : Int) : IsS80 w0 (W.setCell ⟨g, 12, none⟩ (.int .i64 x)) g f0 f1 f2 f3 f4 f5 f6 f7 f8 f9 f10 f11 x := by
  obtain ⟨A3, c3, A7, c7, hb, hg, hr3, hr7⟩ := h
  exact ⟨A3, c3, A7, c7, by simpa using blk_set hb 12 (.int .i64 x), hg, hr3, hr7⟩
theorem IsS80.new (w0 W : World) (A3 : Option Addr) (c3 : Nat) (A7 : Option Addr) (c7 : Nat) (f0 : Int) (f1 : Int) (f2 : Int) (f3 : List (S71)) (f4 : Int) (f5 : Int) (f6 : Int) (f7 : List (S71)) (f8 : Bool) (f9 : Bool) (f10 : Int) (f11 : Int) (f12 : Int) (hB : Below w0.heap.size w0 W) (hr3 : Kd.C k71 w0 A3 f3.length f3) (hr7 : Kd.C k71 w0 A7 f7.length f7) : IsS80 w0 (W.alloc (.cells #[.int .i64 f0, .int .i64 f1, .int .i64 f2, .slice A3 f3.length c3, .int .i64 f4, .int .i64 f5, .int .i64 f6, .slice A7 f7.length c7, .bool f8, .bool f9, .int .i64 f10, .int .i64 f11, .int .i64 f12] 80)) W.heap.size f0 f1 f2 f3 f4 f5 f6 f7 f8 f9 f10 f11 f12 := ⟨A3, c3, A7, c7, by simpa using heap_alloc_new W _, hB.size, hr3, hr7⟩

/-! ### change_Schedule_steps: function 48 -/
def change_Schedule_steps.f (s0_0 : Int) (s0_1 : Int) (s0_2 : Int) (s0_3 : List (S71)) (s0_4 : Int) (s0_5 : Int) (s0_6 : Int) (s0_7 : List (S71)) (s0_8 : Bool) (s0_9 : Bool) (s0_10 : Int) (s0_11 : Int) (s0_12 : Int) : Option (Int × Int × Int × Int × Int × Int × Int × Bool × Bool × Int × Int × Int) := some (wrap64 ((wrap64 (2 * (wrap64 ((s0_3.length : Int) + (s0_7.length : Int))))) + 8), s0_0, s0_1, s0_2, s0_4, s0_5, s0_6, s0_8, s0_9, s0_10, s0_11, s0_12)
set_option maxHeartbeats 8000000 in
set_option maxRecDepth 100000 in
theorem change_Schedule_steps.calls (g : Nat) (s0_0 : Int) (s0_1 : Int) (s0_2 : Int) (s0_3 : List (S71)) (s0_4 : Int) (s0_5 : Int) (s0_6 : Int) (s0_7 : List (S71)) (s0_8 : Bool) (s0_9 : Bool) (s0_10 : Int) (s0_11 : Int) (s0_12 : Int) (r1 : Int) (r2 : Int) (r3 : Int) (r4 : Int) (r5 : Int) (r6 : Int) (r7 : Int) (r8 : Bool) (r9 : Bool) (r10 : Int) (r11 : Int) (r12 : Int) (w0 w : World) (hI : IsS80 w0 w g s0_0 s0_1 s0_2 s0_3 s0_4 s0_5 s0_6 s0_7 s0_8 s0_9 s0_10 s0_11 s0_12) (hB : Below w0.heap.size w0 w) (h : change_Schedule_steps.f s0_0 s0_1 s0_2 s0_3 s0_4 s0_5 s0_6 s0_7 s0_8 s0_9 s0_10 s0_11 s0_12 = some (r1, r2, r3, r4, r5, r6, r7, r8, r9, r10, r11, r12)) :
    Calls Try.prog 48 #[.pointer (some ⟨g, 0, none⟩)] w fun e w' => e = .returned (.int .i64 r1) ∧ IsS80 w0 w' g r2 r3 r4 s0_3 r5 r6 r7 s0_7 r8 r9 r10 r11 r12 ∧ Below w0.heap.size w0 w' ∧ KeepBut w w' g none := by
  have HI0 := Aside0.mk hI
  have HK := Aside0.mk (KeepBut.refl w g none)
  have HL := Aside0.mk hB.size
  clear hI
  have HW0 := Aside0.mk hB.size
  have HB := Aside0.mk hB
  clear hB
  have H : (some (wrap64 ((wrap64 (2 * (wrap64 ((s0_3.length : Int) + (s0_7.length : Int))))) + 8), s0_0, s0_1, s0_2, s0_4, s0_5, s0_6, s0_8, s0_9, s0_10, s0_11, s0_12)) = some (r1, r2, r3, r4, r5, r6, r7, r8, r9, r10, r11, r12) := h
  clear h
  simp only [Option.some.injEq, Prod.mk.injEq] at H
  obtain ⟨rfl, rfl, rfl, rfl, rfl, rfl, rfl, rfl, rfl, rfl, rfl, rfl⟩ := H
  obtain ⟨ASz2_3, cSz2_3, ASz2_7, cSz2_7, HGz2, hgz2, HSz2_3, HSz2_7⟩ := HI0.out
  have hcz2_0 := cellS80_0 HGz2
  have hcz2_1 := cellS80_1 HGz2
  have hcz2_2 := cellS80_2 HGz2
  have hcz2_3 := cellS80_3 HGz2
  have hcz2_4 := cellS80_4 HGz2
  have hcz2_5 := cellS80_5 HGz2
  have hcz2_6 := cellS80_6 HGz2
  have hcz2_7 := cellS80_7 HGz2
  have hcz2_8 := cellS80_8 HGz2
  have hcz2_9 := cellS80_9 HGz2
  have hcz2_10 := cellS80_10 HGz2
  have hcz2_11 := cellS80_11 HGz2
  have hcz2_12 := cellS80_12 HGz2
  have hfz2_0 := blk_frozen HGz2 0
  have hfz2_1 := blk_frozen HGz2 1
  have hfz2_2 := blk_frozen HGz2 2
  have hfz2_4 := blk_frozen HGz2 4
  have hfz2_5 := blk_frozen HGz2 5
  have hfz2_6 := blk_frozen HGz2 6
  have hfz2_8 := blk_frozen HGz2 8
  have hfz2_9 := blk_frozen HGz2 9
  have hfz2_10 := blk_frozen HGz2 10
  have hfz2_11 := blk_frozen HGz2 11
  have hfz2_12 := blk_frozen HGz2 12
  clear HGz2 hgz2
  go_enter Try.func48, Try.ntmps48
  go_wp2
  repeat (go_quiet (fail); try go_wp2)
  go_ret
  exact ⟨by first | rfl | (simp [errW_none, errW_some] <;> rfl) | (simp [*, errW_none, errW_some] <;> rfl), by repeat (first | (with_reducible first | exact HI0.out | apply IsS80.alloc | apply IsS80.drewN | apply IsS80.drew | apply IsS80.set_0 | apply IsS80.set_1 | apply IsS80.set_2 | apply IsS80.set_4 | apply IsS80.set_5 | apply IsS80.set_6 | apply IsS80.set_8 | apply IsS80.set_9 | apply IsS80.set_10 | apply IsS80.set_11 | apply IsS80.set_12) | exact HI0.out), by repeat (first | (with_reducible first | exact HB.out | apply below_alloc | apply pw_below_drewN | apply below_drew1 | refine below_set ?_ (IsS80.ge HI0.out)) | exact HB.out), by repeat (first | (with_reducible first | exact HK.out | apply KeepBut.set_ | apply keep_drewN | apply keep_drew | apply keep_alloc) | exact HK.out)⟩

/-! ### gate_Next: function 79 -/
def gate_Next.f (k : Nat) (a0_0 : Int) (a0_1 : Int) (a0_2 : Int) (l0_3 : List (S71)) (a1 : Int) : Option (Int) := if a1 < a0_0 then (some a0_0) else (if a0_1 = 0 then (none) else ((gate_at.f k a0_0 a0_1 a0_2 l0_3 (Int.tmod (wrap64 (a1 - a0_0)) a0_1)).bind fun bt112 => (some (wrap64 (a1 + bt112.2)))))
theorem gate_Next.mono : ∀ a0 a1 a2 a3 a4 k, LeO (gate_Next.f k a0 a1 a2 a3 a4) (gate_Next.f (k + 1) a0 a1 a2 a3 a4) := by
  intro a0 a1 a2 a3 a4 k
  unfold gate_Next.f
  repeat' first
      | (with_reducible exact gate_at.mono _ _ _ _ _ _)
      | (with_reducible exact LeO.refl _)
      | (with_reducible exact LeO.none _)
      | (with_reducible refine LeO.ite ?_ ?_)
      | (with_reducible refine LeO.bind ?_ (fun _ => ?_))
      | exact gate_at.mono _ _ _ _ _ _
      | exact LeO.none _
      | refine LeO.ite ?_ ?_
      | refine LeO.bind ?_ (fun _ => ?_)
def gate_Next.T3 : Bool × List (List Nat × List Nat) := (true, [([], []), ([], []), ([], []), ([2], [2]), ([1, 3], [1, 3]), ([], []), ([5], [5]), ([4, 6], [4, 6]), ([0, 7], [0, 7]), ([8], [8]), ([9], [9]), ([9], [9]), ([10, 8, 0, 1, 2, 3, 4, 5, 6, 7, 8, 9, 10], [10]), ([11, 12, 0, 1, 2, 3, 4, 5, 6, 7, 8, 9, 10, 11, 12], [11])])
def gate_Next.B3 : List Nat := [0, 0, 0, 4, 14, 0, 32, 126, 255, 511, 1023, 1023, 2047, 8191]
theorem gate_Next.tab3 : rtab .any (opsOf Try.f79 3) = gate_Next.T3 := by kernel_rfl
theorem gate_Next.bits3 : waitsOk gate_Next.T3.2 gate_Next.B3 = true := by kernel_rfl
set_option maxHeartbeats 8000000 in
set_option maxRecDepth 100000 in
theorem gate_Next.calls (k : Nat) (a0_0 : Int) (a0_1 : Int) (a0_2 : Int) (A0_3 : Option Addr) (c0_3 : Nat) (l0_3 : List (S71)) (a1 : Int) (r : Int) (w : World) (hr0_3 : Kd.C k71 w A0_3 l0_3.length l0_3) (hc0_3 : l0_3.length ≤ c0_3) (h : gate_Next.f k a0_0 a0_1 a0_2 l0_3 a1 = some r) :
    Calls Try.prog 79 #[.agg #[.int .i64 a0_0, .int .i64 a0_1, .int .i64 a0_2, .slice A0_3 l0_3.length c0_3], .int .i64 a1] w fun e w' => e = .returned (.int .i64 r) ∧ Below w.heap.size w w' := by
  have hu33 := Try.underlying33
  have HR0_3 := Aside0.mk hr0_3
  have HC0_3 := Aside0.mk hc0_3
  clear hr0_3 hc0_3
  have HB := Aside0.mk (Below.refl w.heap.size w)
  have H : (if a1 < a0_0 then (some a0_0) else (if a0_1 = 0 then (none) else ((gate_at.f k a0_0 a0_1 a0_2 l0_3 (Int.tmod (wrap64 (a1 - a0_0)) a0_1)).bind fun bt112 => (some (wrap64 (a1 + bt112.2)))))) = some r := h
  clear h
  by_cases c3 : a1 < a0_0
  · rw [if_pos c3] at H
    have c3b0 : decide (a1 < a0_0) = true := decide_eq_true c3
    clear c3
    obtain rfl := Option.some.inj H
    go_enter Try.func79, Try.ntmps79
    go_wp2_with (first | ((with_reducible refine gate_dst (N := 2) rfl ?_); refine box_event ?hg (N := 2) ?hd (cs := #[.int .i64 a0_0, .int .i64 a0_1, .int .i64 a0_2, .slice A0_3 l0_3.length c0_3]) (t := 33) ?hr ?_; (case hd => rfl); (case hg => rfl); (case hr => first | (go_simp; done) | (go_simp; rfl)); intro gb111 hg w4 hbox hb; have n0_ := Aside0.mk (below_step (by repeat (first | (with_reducible first | exact HB.out | apply below_alloc | apply pw_below_drewN | apply below_drew1) | exact HB.out)) hb); have n1_ := Aside0.mk (hbox); have n2_ := Aside0.mk ((by rw [hg]; exact (below_size (by repeat (first | (with_reducible first | exact HB.out | apply below_alloc | apply pw_below_drewN | apply below_drew1) | exact HB.out))) : w.heap.size ≤ gb111)); have n3_ := Aside0.mk ((by rw [hg]; exact (below_size (by repeat (first | (with_reducible first | exact HB.out | apply below_alloc | apply pw_below_drewN | apply below_drew1) | exact HB.out))) : w.heap.size ≤ gb111)); clear HB; have HB := n0_; have BK111 := n1_; have GW111 := n2_; have GE111 := n3_; clear n0_ n1_ n2_ n3_; clear hb hbox hg; have hcz5_0 : w4.cell? ⟨gb111, 0, none⟩ = some (.int .i64 a0_0) := (blk_cell BK111.out 0).trans rfl; have hcz5_1 : w4.cell? ⟨gb111, 1, none⟩ = some (.int .i64 a0_1) := (blk_cell BK111.out 1).trans rfl; have hcz5_2 : w4.cell? ⟨gb111, 2, none⟩ = some (.int .i64 a0_2) := (blk_cell BK111.out 2).trans rfl; have hcz5_3 : w4.cell? ⟨gb111, 3, none⟩ = some (.slice A0_3 l0_3.length c0_3) := (blk_cell BK111.out 3).trans rfl; have hfz5_0 := blk_frozen BK111.out 0; have hfz5_1 := blk_frozen BK111.out 1; have hfz5_2 := blk_frozen BK111.out 2; have hfz5_3 := blk_frozen BK111.out 3))
    go_ret
    exact ⟨by first | rfl | (simp [errW_none, errW_some] <;> rfl) | (simp [*, errW_none, errW_some] <;> rfl), by repeat (first | (with_reducible first | exact HB.out | apply below_alloc | apply pw_below_drewN | apply below_drew1 | refine below_set ?_ GE111.out) | exact HB.out)⟩
  · rw [if_neg c3] at H
    have c3b0 : decide (a1 < a0_0) = false := decide_eq_false c3
    clear c3
    by_cases c6 : a0_1 = 0
    · rw [if_pos c6] at H
      exact absurd H (by simp)
    · rw [if_neg c6] at H
      have c6b0 : (a0_1 == 0) = false := beq_eq_false_iff_ne.mpr c6
      have c6b1 : (a0_1 != 0) = true := bne_iff_ne.mpr c6
      replace H := Option.bind_eq_some_iff.mp H
      obtain ⟨⟨t112, t113⟩, A70, H⟩ := H
      replace H : (some (wrap64 (a1 + t113))) = some r := H
      have A7 := Aside0.mk A70
      clear A70
      obtain rfl := Option.some.inj H
      go_enter Try.func79, Try.ntmps79
      try go_wp2_with (first | ((with_reducible refine gate_dst (N := 2) rfl ?_); refine box_event ?hg (N := 2) ?hd (cs := #[.int .i64 a0_0, .int .i64 a0_1, .int .i64 a0_2, .slice A0_3 l0_3.length c0_3]) (t := 33) ?hr ?_; (case hd => rfl); (case hg => rfl); (case hr => first | (go_simp; done) | (go_simp; rfl)); intro gb111 hg w8 hbox hb; have n0_ := Aside0.mk (below_step (by repeat (first | (with_reducible first | exact HB.out | apply below_alloc | apply pw_below_drewN | apply below_drew1) | exact HB.out)) hb); have n1_ := Aside0.mk (hbox); have n2_ := Aside0.mk ((by rw [hg]; exact (below_size (by repeat (first | (with_reducible first | exact HB.out | apply below_alloc | apply pw_below_drewN | apply below_drew1) | exact HB.out))) : w.heap.size ≤ gb111)); have n3_ := Aside0.mk ((by rw [hg]; exact (below_size (by repeat (first | (with_reducible first | exact HB.out | apply below_alloc | apply pw_below_drewN | apply below_drew1) | exact HB.out))) : w.heap.size ≤ gb111)); clear HB; have HB := n0_; have BK111 := n1_; have GW111 := n2_; have GE111 := n3_; clear n0_ n1_ n2_ n3_; clear hb hbox hg; have hcz9_0 : w8.cell? ⟨gb111, 0, none⟩ = some (.int .i64 a0_0) := (blk_cell BK111.out 0).trans rfl; have hcz9_1 : w8.cell? ⟨gb111, 1, none⟩ = some (.int .i64 a0_1) := (blk_cell BK111.out 1).trans rfl; have hcz9_2 : w8.cell? ⟨gb111, 2, none⟩ = some (.int .i64 a0_2) := (blk_cell BK111.out 2).trans rfl; have hcz9_3 : w8.cell? ⟨gb111, 3, none⟩ = some (.slice A0_3 l0_3.length c0_3) := (blk_cell BK111.out 3).trans rfl; have hfz9_0 := blk_frozen BK111.out 0; have hfz9_1 := blk_frozen BK111.out 1; have hfz9_2 := blk_frozen BK111.out 2; have hfz9_3 := blk_frozen BK111.out 3))
      have n0_ := Aside0.mk (blk_drew BK111.out)
      have n1_ := Aside0.mk (below_drew1 HB.out)
      clear BK111
      clear HB
      have BK111 := n0_
      have HB := n1_
      clear n0_ n1_
      refine start_ (n := 14) (S := fun w' => w'.cell? ⟨gb111, 0, none⟩ = some (.int .i64 a0_0) ∧ w'.cell? ⟨gb111, 1, none⟩ = some (.int .i64 a0_1) ∧ w'.cell? ⟨gb111, 2, none⟩ = some (.int .i64 a0_2) ∧ w'.cell? ⟨gb111, 3, none⟩ = some (.slice A0_3 l0_3.length c0_3)) (ds := []) #[false, false, false, false, false, false, false, false, false, false, false, false, false, false] (by kernel_rfl) rfl rfl ⟨(blk_cell BK111.out 0).trans rfl, (blk_cell BK111.out 1).trans rfl, (blk_cell BK111.out 2).trans rfl, (blk_cell BK111.out 3).trans rfl⟩ (fun hHeld => ?_); refine with_tabW gate_Next.tab3 gate_Next.bits3 (fun HT_ HW_ => ?_)
      generalize w8.drew = w10 at BK111 HB hHeld ⊢
      refine pure_ (i := 1) (N := some 15) (v := ?_) (a' := ?_) #[false, true, false, false, false, false, false, false, false, false, false, false, false, false] rfl rfl (any_of HT_.out (by kernel_rfl)) (fun _ _ _ h => h) (Or.inl ⟨by rfl, ?_⟩) ?_ ?_
      rotate_left
      · intro w'
        go_simp
        with_reducible rfl
      rotate_left
      · simp only [Act.put, List.setIfInBounds_toArray, List.set_cons_zero, List.set_cons_succ, i64_w, i32_w]
        rfl
      refine pure_ (i := 2) (N := some 16) (v := ?_) (a' := ?_) #[false, true, true, false, false, false, false, false, false, false, false, false, false, false] rfl rfl (any_of HT_.out (by kernel_rfl)) (fun _ _ _ h => h) (Or.inl ⟨by rfl, ?_⟩) ?_ ?_
      rotate_left
      · intro w'
        go_simp
        with_reducible rfl
      rotate_left
      · simp only [Act.put, List.setIfInBounds_toArray, List.set_cons_zero, List.set_cons_succ, i64_w, i32_w]
        rfl
      refine pure_ (i := 5) (N := some 19) (v := ?_) (a' := ?_) #[false, true, true, false, false, true, false, false, false, false, false, false, false, false] rfl rfl (any_of HT_.out (by kernel_rfl)) (fun _ _ _ h => h) (Or.inl ⟨by rfl, ?_⟩) ?_ ?_
      rotate_left
      · intro w'
        go_simp
        with_reducible rfl
      rotate_left
      · simp only [Act.put, List.setIfInBounds_toArray, List.set_cons_zero, List.set_cons_succ, i64_w, i32_w]
        rfl
      refine take_ (i := 0) (N := some 14) (v := ?_) (a' := ?_) #[true, true, true, false, false, true, false, false, false, false, false, false, false, false] rfl rfl (take_ofW HT_.out HW_.out (by kernel_rfl)) (fun _ _ _ h => h) (Or.inl ⟨by rfl, ?_⟩) hHeld ?_ ?_
      rotate_left
      · rintro w' ⟨s0, s1, s2, s3⟩
        go_simp
        with_reducible rfl
      rotate_left
      · simp only [Act.put, List.setIfInBounds_toArray, List.set_cons_zero, List.set_cons_succ, i64_w, i32_w]
        rfl
      refine take_ (i := 3) (N := some 17) (v := ?_) (a' := ?_) #[true, true, true, true, false, true, false, false, false, false, false, false, false, false] rfl rfl (take_ofW HT_.out HW_.out (by kernel_rfl)) (fun _ _ _ h => h) (Or.inl ⟨by rfl, ?_⟩) hHeld ?_ ?_
      rotate_left
      · rintro w' ⟨s0, s1, s2, s3⟩
        go_simp
        with_reducible rfl
      rotate_left
      · simp only [Act.put, List.setIfInBounds_toArray, List.set_cons_zero, List.set_cons_succ, i64_w, i32_w]
        rfl
      refine pure_ (i := 4) (N := some 18) (v := ?_) (a' := ?_) #[true, true, true, true, true, true, false, false, false, false, false, false, false, false] rfl rfl (any_of HT_.out (by kernel_rfl)) (fun _ _ _ h => h) (Or.inl ⟨by rfl, ?_⟩) ?_ ?_
      rotate_left
      · intro w'
        go_simp
        with_reducible rfl
      rotate_left
      · simp only [Act.put, List.setIfInBounds_toArray, List.set_cons_zero, List.set_cons_succ, i64_w, i32_w]
        rfl
      refine take_ (i := 6) (N := some 20) (v := ?_) (a' := ?_) #[true, true, true, true, true, true, true, false, false, false, false, false, false, false] rfl rfl (take_ofW HT_.out HW_.out (by kernel_rfl)) (fun _ _ _ h => h) (Or.inl ⟨by rfl, ?_⟩) hHeld ?_ ?_
      rotate_left
      · rintro w' ⟨s0, s1, s2, s3⟩
        go_simp
        with_reducible rfl
      rotate_left
      · simp only [Act.put, List.setIfInBounds_toArray, List.set_cons_zero, List.set_cons_succ, i64_w, i32_w]
        rfl
      refine pure_ (i := 7) (N := some 21) (v := ?_) (a' := ?_) #[true, true, true, true, true, true, true, true, false, false, false, false, false, false] rfl rfl (any_of HT_.out (by kernel_rfl)) (fun _ _ _ h => h) (Or.inl ⟨by rfl, ?_⟩) ?_ ?_
      rotate_left
      · intro w'
        go_simp
        with_reducible rfl
      rotate_left
      · simp only [Act.put, List.setIfInBounds_toArray, List.set_cons_zero, List.set_cons_succ, i64_w, i32_w]
        rfl
      refine one_ (i := 8) (N := some 22) #[true, true, true, true, true, true, true, true, true, false, false, false, false, false] rfl rfl (one_of HT_.out (by kernel_rfl)) (by decide) (fun K hK => ?_)
      refine goes_ Try.func99 (by kernel_rfl) rfl #[.agg #[.int .i64 a0_0, .int .i64 a0_1, .int .i64 a0_2, .slice A0_3 l0_3.length c0_3], .int .i64 (Int.tmod (wrap64 (a1 - a0_0)) a0_1)] (by rfl) rfl rfl (by (try simp only [List.map_toArray, List.map_cons, List.map_nil]); first | done | rfl | (simp only [List.length_drop, List.length_take]; rfl)) ?_
      with_reducible refine (gate_at.calls k a0_0 a0_1 a0_2 _ _ l0_3 (Int.tmod (wrap64 (a1 - a0_0)) a0_1) t112 t113 _ ?side1 ?side2 A7.out).mono ?_
      (case side1 => repeat (first | exact (Kd.C_below HR0_3.out HB.out) | (with_reducible refine Kd.C_alloc ?_ _) | (with_reducible refine Kd.C_drewN ?_ _) | (with_reducible refine Kd.C_drew ?_)))
      (case side2 => exact HC0_3.out)
      rintro e w11 ⟨rfl, hb⟩
      refine ⟨_, rfl, ?_⟩
      have n0_ := Aside0.mk (blk_below (g := gb111) (o := .cells #[.int .i64 a0_0, .int .i64 a0_1, .int .i64 a0_2, .slice A0_3 l0_3.length c0_3] 33 (0, 0)) (by (with_reducible repeat (first | refine blk_drewN ?_ _ | refine blk_drew ?_ | refine blk_alloc ?_ _)); exact BK111.out) hb)
      have n1_ := Aside0.mk (below_step (by repeat (first | (with_reducible first | exact HB.out | apply below_alloc | apply pw_below_drewN | apply below_drew1 | refine below_set ?_ GE111.out) | exact HB.out)) hb)
      clear BK111
      clear HB
      have BK111 := n0_
      have HB := n1_
      clear n0_ n1_
      (try clear hb)
      (try clear hb2)
      (try clear hk)
      (try clear hi)
      refine hK.out _ _ ⟨(blk_cell BK111.out 0).trans rfl, (blk_cell BK111.out 1).trans rfl, (blk_cell BK111.out 2).trans rfl, (blk_cell BK111.out 3).trans rfl⟩ (fun hHeld => ?_)
      clear hK K
      refine norm_ (a' := ?_) ?_ ?_
      rotate_left
      · show Act.put _ (some 22) _ = _
        simp only [Act.put, List.setIfInBounds_toArray, List.set_cons_zero, List.set_cons_succ, i64_w, i32_w]
        rfl
      refine pure_ (i := 9) (N := some 13) (v := ?_) (a' := ?_) #[true, true, true, true, true, true, true, true, true, true, false, false, false, false] rfl rfl (any_of HT_.out (by kernel_rfl)) (fun _ _ _ h => h) (Or.inl ⟨by rfl, ?_⟩) ?_ ?_
      rotate_left
      · intro w'
        go_simp
        with_reducible rfl
      rotate_left
      · simp only [Act.put, List.setIfInBounds_toArray, List.set_cons_zero, List.set_cons_succ, i64_w, i32_w]
        rfl
      refine pure_ (i := 10) (N := some 23) (v := ?_) (a' := ?_) #[true, true, true, true, true, true, true, true, true, true, true, false, false, false] rfl rfl (any_of HT_.out (by kernel_rfl)) (fun _ _ _ h => h) (Or.inl ⟨by rfl, ?_⟩) ?_ ?_
      rotate_left
      · intro w'
        go_simp
        with_reducible rfl
      rotate_left
      · simp only [Act.put, List.setIfInBounds_toArray, List.set_cons_zero, List.set_cons_succ, i64_w, i32_w]
        rfl
      refine pure_ (i := 11) (N := some 24) (v := ?_) (a' := ?_) #[true, true, true, true, true, true, true, true, true, true, true, true, false, false] rfl rfl (any_of HT_.out (by kernel_rfl)) (fun _ _ _ h => h) (Or.inl ⟨by rfl, ?_⟩) ?_ ?_
      rotate_left
      · intro w'
        go_simp
        with_reducible rfl
      rotate_left
      · simp only [Act.put, List.setIfInBounds_toArray, List.set_cons_zero, List.set_cons_succ, i64_w, i32_w]
        rfl
      refine pure_ (i := 12) (N := some 5) (v := ?_) (a' := ?_) #[true, true, true, true, true, true, true, true, true, true, true, true, true, false] rfl rfl (any_of HT_.out (by kernel_rfl)) (fun _ _ _ h => h) (Or.inl ⟨by rfl, ?_⟩) ?_ ?_
      rotate_left
      · intro w'
        go_simp
        with_reducible rfl
      rotate_left
      · simp only [Act.put, List.setIfInBounds_toArray, List.set_cons_zero, List.set_cons_succ, i64_w, i32_w]
        rfl
      refine pure_ (i := 13) (N := some 6) (v := ?_) (a' := ?_) #[true, true, true, true, true, true, true, true, true, true, true, true, true, true] rfl rfl (any_of HT_.out (by kernel_rfl)) (fun _ _ _ h => h) (Or.inl ⟨by rfl, ?_⟩) ?_ ?_
      rotate_left
      · intro w'
        go_simp
        with_reducible rfl
      rotate_left
      · simp only [Act.put, List.setIfInBounds_toArray, List.set_cons_zero, List.set_cons_succ, i64_w, i32_w]
        rfl
      refine done_ (done_of HT_.out (by kernel_rfl)) ?_
      try go_wp2
      go_ret
      exact ⟨by first | rfl | (simp [errW_none, errW_some] <;> rfl) | (simp [*, errW_none, errW_some] <;> rfl), by repeat (first | (with_reducible first | exact HB.out | apply below_alloc | apply pw_below_drewN | apply below_drew1 | refine below_set ?_ GE111.out) | exact HB.out)⟩

-- NOT PRINTED: function 38 (change_Schedule_Next)

end Go.Proofs.Ytkbjelhmmcifhaa.PChangeFits
