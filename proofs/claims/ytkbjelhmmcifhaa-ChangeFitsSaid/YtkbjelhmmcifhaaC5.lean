/- Walks: a schedule's Oper, Set at a time below 0, and the law's own example (turns), which is true. No condition. -/
import Derived.Test.YtkbjelhmmcifhaaC3
import Derived.Test.YtkbjelhmmcifhaaS5
set_option linter.unusedVariables false
set_option linter.unusedSimpArgs false
namespace Go.Proofs.Ytkbjelhmmcifhaa.CF
open Go.RowKit Go.Proofs.YtkbjelhmmcifhaaW.PrintWords Go.Proofs.YtkbjelhmmcifhaaW.PrintLast Go.Proofs.YtkbjelhmmcifhaaW.PrintMore
open Go.Proofs.Ytkbjelhmmcifhaa.PChangeFits (S71 S33 k71 k33 z71 z33 rd_T71 at_T71)

theorem set_neg (w : World) (g : Nat) (S : Sch) (ok : Nat → Prop) (l : S33) (A : Option Addr) (c : Nat) (now : Int) (h : Held w g S ok) (hr : Kd.C k71 w A l.f3.length l.f3) (hE : checkF l = 0) (hn : now < 0) :
    Calls Try.prog 36 #[.pointer (some ⟨g, 0, none⟩), listV l A c, .int .i64 now] w (RSet w g S ok 31) := by
  have H := Aside0.mk h
  have HR := Aside0.mk hr
  have hd0 : decide (now < 0) = true := decide_eq_true hn
  clear h hr
  unfold listV
  go_enter Try.func36, Try.ntmps36
  go_wp2_with fail
  refine (check_any l A c _ (by exact Kd.C_below HR.out (below_alloc (Below.refl _ _) _))).mono ?_
  rintro e w1 ⟨rfl, hb⟩
  have HB := Aside0.mk (below_step (below_alloc (Below.refl _ _) _) hb)
  clear hb
  go_wp2
  go_ret
  exact ⟨rfl, H.out.below HB.out, Chg.of_below HB.out⟩

def ROp (w : World) (l : S33) (b : Bool) (e : Ending) (w' : World) : Prop := (∃ A c, e = .returned (.tuple #[.agg #[.int .i64 l.f0, .int .i64 l.f1, .int .i64 l.f2, .slice A l.f3.length c], .bool b])) ∧ Below w.heap.size w w'

set_option maxHeartbeats 1000000 in
theorem oper_any (w : World) (g : Nat) (S : Sch) {A3 : Option Addr} {c3 : Nat} {A7 : Option Addr} {c7 : Nat} (h : IsSch w g S A3 c3 A7 c7) (hv : VL S.o) :
    Calls Try.prog 43 #[.pointer (some ⟨g, 0, none⟩)] w (ROp w S.o S.has) := by
  obtain ⟨a, rfl⟩ := hv.some h.oe.row
  obtain ⟨d0, d1, d2, d3, _, _, _, _, d8, _, _, _, _⟩ := h.cs
  have H := Aside0.mk h
  have hg := blk_lt h.blk
  have hn1 : S.o.f3.length ≤ 1000000 := by have := hv.n1; omega
  clear h hv
  go_enter Try.func43, Try.ntmps43
  go_wp2_with fail
  have HBw : Aside0 (Below w.heap.size w (w.alloc (.cells #[.int .i64 0, .int .i64 0, .int .i64 0, .slice none 0 0] 33))) := ⟨below_alloc (Below.refl _ _) _⟩
  go_region_with (go_at_call 75; refine (clone_any S.o a _ _ (by exact Kd.C_below H.out.oe.row (below_drew1 HBw.out)) hn1).mono ?_; rintro e w2 ⟨⟨A', c', rfl, hE⟩, hb0⟩; have hb := below_step (below_drew1 (Below.refl _ _)) hb0; have HB2 := Aside0.mk hb; have hk := blk_below (blk_new _ _) hb; have HK := Aside0.mk hk; have hI2 := (H.out.below HBw.out).below hb; obtain ⟨_, _, _, _, _, _, _, _, x8, _, _, _, _⟩ := hI2.cs; have g0 := blk_frozen hk 0; have g1 := blk_frozen hk 1; have g2 := blk_frozen hk 2; have g3 := blk_frozen hk 3; have y0 := blk_cell hk 0; have y1 := blk_cell hk 1; have y2 := blk_cell hk 2; have y3 := blk_cell hk 3; simp at y0 y1 y2 y3 g0 g1 g2 g3; clear hb hb0 hI2 hk hE)
  all_goals
    have HB3 := Aside0.mk (below_step HBw.out HB2.out)
    go_wp2
    refine bodyPost_ret (v := .tuple #[.agg #[.int .i64 S.o.f0, .int .i64 S.o.f1, .int .i64 S.o.f2, .slice A' S.o.f3.length c'], .bool S.has]) (by simp [results, Try.results43, go_sem, y0, y1, y2, y3]) rfl ⟨⟨A', c', rfl⟩, ?_⟩
    exact (((HB3.out.setCell (by simp) _).setCell (by simp) _).setCell (by simp) _).setCell (by simp) _


def tl : S33 := ⟨10, 100, 0, [⟨1, 30⟩, ⟨2, 30⟩]⟩
def ts0 : Sch := ⟨⟨0, 0, 0, []⟩, ⟨0, 0, 0, []⟩, false, false, 0, 0, 0⟩
def ts1 : Sch := ⟨⟨0, 0, 0, []⟩, tl, false, true, 110, 0, 0⟩
def ts2 : Sch := ⟨⟨110, 100, 0, [⟨1, 30⟩, ⟨2, 30⟩]⟩, ⟨0, 0, 0, []⟩, true, false, 110, 1, 0⟩
theorem e1 : setF ts0 tl 50 = ts1 := by rfl
theorem e2 : passF ts1 200 = ts2 := by rfl
theorem v1 : stF ts0 5 = 255 := by decide +kernel
theorem v2 : nxF ts0 5 = -1 := by decide +kernel
theorem v3 : checkF ⟨0, 0, 0, []⟩ ≠ 0 := by decide +kernel
theorem v4 : checkF tl = 0 := by decide +kernel
theorem v5 : gStart tl 50 = 110 := by decide +kernel
theorem v6 : stF ts1 109 = 255 := by decide +kernel
theorem v7 : stF ts1 110 = 1 := by decide +kernel
theorem v8 : nxF ts1 50 = 110 := by decide +kernel
theorem v9 : seekF ts1 1 false 60 = 110 := by decide +kernel
theorem v10 : seekF ts1 1 true 115 = 140 := by decide +kernel
theorem v11 : fitsF ts1 0 115 20 = 115 := by decide +kernel
theorem v12 : fitsF ts1 0 125 20 = 210 := by decide +kernel
theorem v13 : fitsF ts1 0 125 31 = -1 := by decide +kernel
theorem v14 : stF ts2 200 = 2 := by decide +kernel

theorem vs_ts1 : VS ts1 := ⟨fun h => by simp [ts1] at h, fun _ => ⟨(VL_iff _).2 v4, by decide, by decide⟩, fun h => by simp [ts1] at h, by decide, by decide⟩
theorem vs_ts0 : VS ts0 := ⟨fun h => by simp [ts0] at h, fun h => by simp [ts0] at h, fun h => by simp [ts0] at h, by decide, by decide⟩
theorem vs_ts2 : VS ts2 := ⟨fun _ => (VL_iff _).2 (by decide +kernel), fun h => by simp [ts2] at h, fun _ h => by simp [ts2] at h, by decide, by decide⟩

def bx (A : Option Addr) (c : Nat) : Obj := boxed tl A c
/-- the example's memory: the schedule, the entries, the list. -/
structure Mem (w0 w : World) (S : Sch) : Prop where
  s : Held w w0.heap.size S (· ≠ w0.heap.size)
  x : w.heap[w0.heap.size + 2]? = some (boxed tl (some ⟨w0.heap.size + 1, 0, none⟩) 2)
  e : Ents w (some ⟨w0.heap.size + 1, 0, none⟩) 2 tl.f3 (· ≠ w0.heap.size)
  b : Below w0.heap.size w0 w
theorem Mem.below {w0 w w1 : World} {S : Sch} (h : Mem w0 w S) (hb : Below w.heap.size w w1) : Mem w0 w1 S :=
  ⟨h.s.below hb, blk_below h.x hb, h.e.move hb.size (fun k _ hk => hb.block k hk), below_step h.b hb⟩
theorem Mem.set {w0 w w1 : World} {S S' : Sch} (h : Mem w0 w S) (hH : Held w1 w0.heap.size S' (· ≠ w0.heap.size)) (hC : Chg (· = w0.heap.size) w w1) : Mem w0 w1 S' :=
  ⟨hH, (hC.block _ (blk_lt h.x) (by omega)).trans h.x, h.e.chg hC (fun k hk => hk), Chg.since h.b hC (fun k hk => by subst hk; omega)⟩
theorem Mem.cs {w0 w : World} {S : Sch} (h : Mem w0 w S) : w.cell? ⟨w0.heap.size + 2, 0, none⟩ = some (.int .i64 10) ∧ w.cell? ⟨w0.heap.size + 2, 1, none⟩ = some (.int .i64 100) ∧ w.cell? ⟨w0.heap.size + 2, 2, none⟩ = some (.int .i64 0) ∧ w.cell? ⟨w0.heap.size + 2, 3, none⟩ = some (.slice (some ⟨w0.heap.size + 1, 0, none⟩) 2 2) := box_cs h.x

theorem mem0 (w : World) : Mem w (((w.alloc (.cells (schCells ts0 none 0 none 0) 80)).alloc (.cells #[.int .i64 1, .int .i64 30, .int .i64 2, .int .i64 30] 71)).alloc (boxed tl (some ⟨w.heap.size + 1, 0, none⟩) 2)) ts0 := by
  have hb2 : ∀ (o1 o2 o3 : Obj), (((w.alloc o1).alloc o2).alloc o3).heap[w.heap.size + 1]? = some o2 := fun o1 o2 o3 => blk_alloc (by have := blk_new (w.alloc o1) o2; simpa using this) _
  have hb3 : ∀ (o1 o2 o3 : Obj), (((w.alloc o1).alloc o2).alloc o3).heap[w.heap.size + 2]? = some o3 := fun o1 o2 o3 => by have := blk_new ((w.alloc o1).alloc o2) o3; simpa using this
  refine ⟨⟨⟨none, 0, none, 0, blk_alloc (blk_alloc (blk_new _ _) _) _, ⟨⟨rfl, by decide, fun h => absurd h (by decide)⟩, by decide, fun a e => by cases e⟩, ⟨⟨rfl, by decide, fun h => absurd h (by decide)⟩, by decide, fun a e => by cases e⟩⟩, fun k hk => hk⟩, hb3 _ _ _, ⟨⟨rfl, by decide, fun _ => ⟨_, rfl, fun j p hj => ?_⟩⟩, by decide, fun a e => ?_⟩, below_alloc (below_alloc (below_alloc (Below.refl _ _) _) _) _⟩
  · have hc := blk_cell (hb2 (.cells (schCells ts0 none 0 none 0) 80) (.cells #[.int .i64 1, .int .i64 30, .int .i64 2, .int .i64 30] 71) (boxed tl (some ⟨w.heap.size + 1, 0, none⟩) 2))
    match j, hj with
    | 0, hj =>
      obtain rfl : (⟨1, 30⟩ : S71) = p := by simpa [tl] using hj
      refine ⟨[.int .i64 1, .int .i64 30], rfl, PChangeFits.k71_mk _ ⟨1, 30⟩, fun i u hu => ?_⟩
      match i, hu with
      | 0, hu => obtain rfl : Value.int .i64 1 = u := by simpa using hu
                 exact hc 0
      | 1, hu => obtain rfl : Value.int .i64 30 = u := by simpa using hu
                 exact hc 1
    | 1, hj =>
      obtain rfl : (⟨2, 30⟩ : S71) = p := by simpa [tl] using hj
      refine ⟨[.int .i64 2, .int .i64 30], rfl, PChangeFits.k71_mk _ ⟨2, 30⟩, fun i u hu => ?_⟩
      match i, hu with
      | 0, hu => obtain rfl : Value.int .i64 2 = u := by simpa using hu
                 exact hc 2
      | 1, hu => obtain rfl : Value.int .i64 30 = u := by simpa using hu
                 exact hc 3
  · obtain rfl := Option.some.inj e
    exact ⟨by simp, by simp⟩

theorem listV_tl (A : Option Addr) : (Value.agg #[.int .i64 10, .int .i64 100, .int .i64 0, .slice A 2 2]) = listV tl A 2 := rfl

set_option maxHeartbeats 4000000 in
set_option maxRecDepth 100000 in
theorem turns_any (w : World) : Calls Try.prog 9 #[] w (RB w true) := by
  have HM := Aside0.mk (mem0 w)
  go_enter Try.func9, Try.ntmps9
  go_wp2_with fail
  obtain ⟨q3, r3, q7, r7, hI⟩ := HM.out.s.is
  refine (state_any _ _ ts0 _ (by exact hI) vs_ts0 (by decide)).mono ?_
  rintro e w1 ⟨rfl, hb⟩
  rw [v1]
  replace HM := Aside0.mk (HM.out.below hb)
  obtain ⟨x0, x1, x2, x3⟩ := HM.out.cs
  clear hb hI
  go_wp2_with fail
  obtain ⟨q3, r3, q7, r7, hI⟩ := HM.out.s.is
  refine (next_any _ _ ts0 _ (by exact hI) vs_ts0 (by decide) (by decide)).mono ?_
  rintro e w1 ⟨rfl, hb⟩
  rw [v2]
  replace HM := Aside0.mk (HM.out.below hb)
  obtain ⟨x0, x1, x2, x3⟩ := HM.out.cs
  clear hb hI
  go_wp2_with fail
  refine (set_err _ _ ts0 _ ⟨0, 0, 0, []⟩ none 0 0 HM.out.s ⟨rfl, by decide, fun h => absurd h (by decide)⟩ v3).mono ?_
  rintro e w1 ⟨rfl, hH, hC⟩
  replace HM := Aside0.mk (HM.out.set hH hC)
  obtain ⟨x0, x1, x2, x3⟩ := HM.out.cs
  clear hH hC
  go_wp2_with fail
  refine (set_neg _ _ ts0 _ tl _ 2 (-1) HM.out.s HM.out.e.row v4 (by decide)).mono ?_
  rintro e w1 ⟨rfl, hH, hC⟩
  replace HM := Aside0.mk (HM.out.set hH hC)
  obtain ⟨x0, x1, x2, x3⟩ := HM.out.cs
  clear hH hC
  go_wp2_with fail
  refine (set_on _ _ ts0 _ tl _ 2 50 HM.out.s HM.out.e v4 (by decide) (by decide) (by rw [v5]; decide) (by decide) (by decide) (by decide) (by decide) (fun k hk => by
    have := blk_lt HM.out.x
    show k ≠ _
    omega)).mono ?_
  rintro e w1 ⟨rfl, hH, hC⟩
  rw [e1] at hH
  replace HM := Aside0.mk (HM.out.set hH hC)
  clear hH hC x0 x1 x2 x3
  go_wp2_with fail
  obtain ⟨q3, r3, q7, r7, hI⟩ := HM.out.s.is
  refine (waits_any _ _ ts1 (by exact hI)).mono ?_
  rintro e w1 ⟨rfl, hb⟩
  rw [show ts1.at_ = 110 from rfl, show ts1.waits = true from rfl]
  replace HM := Aside0.mk (HM.out.below hb)
  clear hb hI
  go_wp2_with fail
  obtain ⟨q3, r3, q7, r7, hI⟩ := HM.out.s.is
  refine (state_any _ _ ts1 _ (by exact hI) vs_ts1 (by decide)).mono ?_
  rintro e w1 ⟨rfl, hb⟩
  rw [v6]
  replace HM := Aside0.mk (HM.out.below hb)
  clear hb hI
  go_wp2_with fail
  obtain ⟨q3, r3, q7, r7, hI⟩ := HM.out.s.is
  refine (state_any _ _ ts1 _ (by exact hI) vs_ts1 (by decide)).mono ?_
  rintro e w1 ⟨rfl, hb⟩
  rw [v7]
  replace HM := Aside0.mk (HM.out.below hb)
  clear hb hI
  go_wp2_with fail
  obtain ⟨q3, r3, q7, r7, hI⟩ := HM.out.s.is
  refine (next_any _ _ ts1 _ (by exact hI) vs_ts1 (by decide) (by decide)).mono ?_
  rintro e w1 ⟨rfl, hb⟩
  rw [v8]
  replace HM := Aside0.mk (HM.out.below hb)
  clear hb hI
  go_wp2_with fail
  obtain ⟨q3, r3, q7, r7, hI⟩ := HM.out.s.is
  refine (until_F _ _ ts1 _ _ (by exact hI) vs_ts1 (by decide) (by decide) (by decide) (by decide)).mono ?_
  rintro e w1 ⟨rfl, hb⟩
  rw [v9]
  replace HM := Aside0.mk (HM.out.below hb)
  clear hb hI
  go_wp2_with fail
  obtain ⟨q3, r3, q7, r7, hI⟩ := HM.out.s.is
  refine (from_F _ _ ts1 _ _ (by exact hI) vs_ts1 (by decide) (by decide) (by decide) (by decide)).mono ?_
  rintro e w1 ⟨rfl, hb⟩
  rw [v10]
  replace HM := Aside0.mk (HM.out.below hb)
  clear hb hI
  go_wp2_with fail
  obtain ⟨q3, r3, q7, r7, hI⟩ := HM.out.s.is
  refine (fits_any _ _ ts1 _ _ _ (by exact hI) vs_ts1 (by decide) (by decide) (by decide) (by decide) (by decide) (by decide)).mono ?_
  rintro e w1 ⟨rfl, hb⟩
  rw [v11]
  replace HM := Aside0.mk (HM.out.below hb)
  clear hb hI
  go_wp2_with fail
  obtain ⟨q3, r3, q7, r7, hI⟩ := HM.out.s.is
  refine (fits_any _ _ ts1 _ _ _ (by exact hI) vs_ts1 (by decide) (by decide) (by decide) (by decide) (by decide) (by decide)).mono ?_
  rintro e w1 ⟨rfl, hb⟩
  rw [v12]
  replace HM := Aside0.mk (HM.out.below hb)
  clear hb hI
  go_wp2_with fail
  obtain ⟨q3, r3, q7, r7, hI⟩ := HM.out.s.is
  refine (fits_any _ _ ts1 _ _ _ (by exact hI) vs_ts1 (by decide) (by decide) (by decide) (by decide) (by decide) (by decide)).mono ?_
  rintro e w1 ⟨rfl, hb⟩
  rw [v13]
  replace HM := Aside0.mk (HM.out.below hb)
  clear hb hI
  go_wp2_with fail
  refine (pass_any _ _ ts1 _ 200 HM.out.s (by decide) (by decide)).mono ?_
  rintro e w1 ⟨rfl, hH, hC⟩
  rw [e2] at hH
  replace HM := Aside0.mk (HM.out.set hH hC)
  clear hH hC
  go_wp2_with fail
  obtain ⟨q3, r3, q7, r7, hI⟩ := HM.out.s.is
  refine (oper_any _ _ ts2 (by exact hI) (vs_ts2.o rfl)).mono ?_
  rintro e w1 ⟨⟨A, c, rfl⟩, hb⟩
  rw [show ts2.o.f0 = 110 from rfl, show ts2.o.f1 = 100 from rfl, show ts2.o.f2 = 0 from rfl, show ts2.o.f3.length = 2 from rfl, show ts2.has = true from rfl]
  replace HM := Aside0.mk (HM.out.below hb)
  clear hb hI
  go_wp2_with fail
  replace HM := Aside0.mk (HM.out.below (below_alloc (Below.refl _ _) (.cells #[.int .i64 110, .int .i64 100, .int .i64 0, .slice A 2 c] 33)))
  obtain ⟨q3, r3, q7, r7, hI⟩ := HM.out.s.is
  refine (counts_any _ _ ts2 (by exact hI)).mono ?_
  rintro e w2 ⟨rfl, hb⟩
  rw [show ts2.chg = 1 from rfl, show ts2.rep = 0 from rfl]
  have hk := blk_below (blk_new _ _) hb
  have k0 := blk_cell hk 0
  simp at k0
  replace HM := Aside0.mk (HM.out.below hb)
  clear hb hI hk
  go_wp2_with fail
  obtain ⟨q3, r3, q7, r7, hI⟩ := HM.out.s.is
  refine (state_any _ _ ts2 _ (by exact hI) vs_ts2 (by decide)).mono ?_
  rintro e w1 ⟨rfl, hb⟩
  rw [v14]
  replace HM := Aside0.mk (HM.out.below hb)
  clear hb hI
  go_wp2_with fail
  go_ret
  exact ⟨rfl, HM.out.b⟩

end Go.Proofs.Ytkbjelhmmcifhaa.CF
