/- Walks: a schedule's Set. The schedule is one that may be (VS); the time is from 0 on, and earlier than 2^62. -/
import Derived.Test.YtkbjelhmmcifhaaC2
set_option linter.unusedVariables false
set_option linter.unusedSimpArgs false
namespace Go.Proofs.Ytkbjelhmmcifhaa.CF
open Go.RowKit Go.Proofs.YtkbjelhmmcifhaaW.PrintWords Go.Proofs.YtkbjelhmmcifhaaW.PrintLast Go.Proofs.YtkbjelhmmcifhaaW.PrintMore
open Go.Proofs.Ytkbjelhmmcifhaa.PChangeFits (S71 S33 k71 k33 z71 z33 rd_T71 at_T71)

def RSet (w : World) (g : Nat) (S : Sch) (ok : Nat → Prop) (v : Int) (e : Ending) (w' : World) : Prop := e = .returned (.int .i64 v) ∧ Held w' g S ok ∧ Chg (· = g) w w'

def boxed (l : S33) (A : Option Addr) (c : Nat) : Obj := .cells #[.int .i64 l.f0, .int .i64 l.f1, .int .i64 l.f2, .slice A l.f3.length c] 33

theorem box_cs {w : World} {b : Nat} {l : S33} {A : Option Addr} {c : Nat} (h : w.heap[b]? = some (boxed l A c)) :
    w.cell? ⟨b, 0, none⟩ = some (.int .i64 l.f0) ∧ w.cell? ⟨b, 1, none⟩ = some (.int .i64 l.f1) ∧ w.cell? ⟨b, 2, none⟩ = some (.int .i64 l.f2) ∧ w.cell? ⟨b, 3, none⟩ = some (.slice A l.f3.length c) := by
  unfold boxed at h
  refine ⟨?_, ?_, ?_, ?_⟩ <;> (rw [blk_cell h]; rfl)

theorem VL.some {l : S33} (hv : VL l) {w : World} {A : Option Addr} (hr : Kd.C k71 w A l.f3.length l.f3) : ∃ a, A = some a := by
  obtain ⟨ad, e, _⟩ := hr.2.2 (by have := hv.n0; omega)
  exact ⟨ad, e⟩

/-- The stores of Set: the list waits. -/
theorem set_store {w : World} {g : Nat} {S : Sch} {ok : Nat → Prop} {l : S33} {A : Option Addr} {c : Nat} {T : Int} (h : Held w g S ok) (hE : Ents w A c l.f3 ok) :
    Held ((((((w.setCell ⟨g, 4, none⟩ (.int .i64 l.f0)).setCell ⟨g, 5, none⟩ (.int .i64 l.f1)).setCell ⟨g, 6, none⟩ (.int .i64 l.f2)).setCell ⟨g, 7, none⟩ (.slice A l.f3.length c)).setCell ⟨g, 9, none⟩ (.bool true)).setCell ⟨g, 10, none⟩ (.int .i64 T)) g
      { o := S.o, a := l, has := S.has, waits := true, at_ := T, chg := S.chg, rep := S.rep } ok ∧
    Chg (· = g) w ((((((w.setCell ⟨g, 4, none⟩ (.int .i64 l.f0)).setCell ⟨g, 5, none⟩ (.int .i64 l.f1)).setCell ⟨g, 6, none⟩ (.int .i64 l.f2)).setCell ⟨g, 7, none⟩ (.slice A l.f3.length c)).setCell ⟨g, 9, none⟩ (.bool true)).setCell ⟨g, 10, none⟩ (.int .i64 T)) := by
  obtain ⟨A3, c3, A7, c7, hb, h3, h7⟩ := h.at_
  have HH := blk_set (blk_set (blk_set (blk_set (blk_set (blk_set hb 4 (.int .i64 l.f0)) 5 (.int .i64 l.f1)) 6 (.int .i64 l.f2)) 7 (.slice A l.f3.length c)) 9 (.bool true)) 10 (.int .i64 T)
  simp only [schCells, List.setIfInBounds_toArray, List.set_cons_zero, List.set_cons_succ] at HH
  have hC : Chg (· = g) w ((((((w.setCell ⟨g, 4, none⟩ (.int .i64 l.f0)).setCell ⟨g, 5, none⟩ (.int .i64 l.f1)).setCell ⟨g, 6, none⟩ (.int .i64 l.f2)).setCell ⟨g, 7, none⟩ (.slice A l.f3.length c)).setCell ⟨g, 9, none⟩ (.bool true)).setCell ⟨g, 10, none⟩ (.int .i64 T)) := by
    iterate 6 refine Chg.setCell (D := (· = g)) ?_ rfl _
    exact Chg.refl _ _
  exact ⟨⟨⟨A3, c3, A, c, HH, h3.chg hC h.ne, hE.chg hC h.ne⟩, h.ne⟩, hC⟩

/-- One more list was replaced. -/
theorem rep_store {w : World} {g : Nat} {S : Sch} {ok : Nat → Prop} {x : Int} (h : Held w g S ok) :
    Held (w.setCell ⟨g, 12, none⟩ (.int .i64 x)) g { S with rep := x } ok ∧ Chg (· = g) w (w.setCell ⟨g, 12, none⟩ (.int .i64 x)) := by
  obtain ⟨A3, c3, A7, c7, hb, h3, h7⟩ := h.at_
  have HH := blk_set hb 12 (.int .i64 x)
  simp only [schCells, List.setIfInBounds_toArray, List.set_cons_zero, List.set_cons_succ] at HH
  have hC : Chg (· = g) w (w.setCell ⟨g, 12, none⟩ (.int .i64 x)) := Chg.setCell (D := (· = g)) (Chg.refl _ _) rfl _
  exact ⟨⟨⟨A3, c3, A7, c7, HH, h3.chg hC h.ne, h7.chg hC h.ne⟩, h.ne⟩, hC⟩

section
variable (w : World) (g : Nat) (S : Sch) (ok : Nat → Prop) (l : S33) (A : Option Addr) (c : Nat) (now : Int)

theorem set_err (h : Held w g S ok) (hr : Kd.C k71 w A l.f3.length l.f3) (hE : checkF l ≠ 0) :
    Calls Try.prog 36 #[.pointer (some ⟨g, 0, none⟩), listV l A c, .int .i64 now] w (RSet w g S ok 30) := by
  have hc : checkF l = 30 := by
    unfold checkF at hE ⊢
    by_cases hx : l.f3.length = 0 ∨ 64 < l.f3.length ∨ badL l = true ∨ l.f3.any badE = true
    · rw [if_pos hx]
    · rw [if_neg hx] at hE; exact absurd rfl hE
  have H := Aside0.mk h
  have HR := Aside0.mk hr
  clear h hr hE
  unfold listV
  go_enter Try.func36, Try.ntmps36
  go_wp2_with fail
  refine (check_any l A c _ (by exact Kd.C_below HR.out (below_alloc (Below.refl _ _) _))).mono ?_
  rintro e w1 ⟨rfl, hb⟩
  have HB := Aside0.mk (below_step (below_alloc (Below.refl _ _) _) hb)
  clear hb
  go_wp2
  go_ret
  exact ⟨rfl, H.out.below HB.out, Chg.of_below HB.out⟩

theorem set_late (h : Held w g S ok) (hr : Kd.C k71 w A l.f3.length l.f3) (hE : checkF l = 0) (hc : l.f3.length ≤ c) (hn0 : 0 ≤ now) (hn1 : now < 4611686018427387904) (hl : 4611686018427387904 ≤ gStart l now) :
    Calls Try.prog 36 #[.pointer (some ⟨g, 0, none⟩), listV l A c, .int .i64 now] w (RSet w g S ok 31) := by
  have H := Aside0.mk h
  have HR := Aside0.mk hr
  have HV := Aside0.mk ((VL_iff l).2 hE)
  have hd0 : decide (now < 0) = false := decide_eq_false (by omega)
  have hd1 : decide (4611686018427387904 ≤ now) = false := decide_eq_false (by omega)
  have hd2 : decide (4611686018427387904 ≤ gStart l now) = true := decide_eq_true hl
  have HC := Aside0.mk hc
  clear h hr hl hc
  unfold listV
  go_enter Try.func36, Try.ntmps36
  go_wp2_with fail
  refine (check_any l A c _ (by exact Kd.C_below HR.out (below_alloc (Below.refl _ _) _))).mono ?_
  rintro e w1 ⟨rfl, hb⟩
  have k0 := blk_below (o := boxed l A c) (blk_new _ _) hb
  obtain ⟨b0, b1, b2, b3⟩ := box_cs k0
  have HB := Aside0.mk (below_step (below_alloc (Below.refl _ _) _) hb)
  clear hb k0
  go_wp2_with fail
  refine (gStart_any HV.out (by omega) _ (by exact Kd.C_below HR.out HB.out) HC.out).mono ?_
  rintro e w2 ⟨rfl, hb⟩
  have HB2 := Aside0.mk (below_step HB.out hb)
  clear hb
  go_wp2
  go_ret
  exact ⟨rfl, H.out.below HB2.out, Chg.of_below HB2.out⟩

theorem set_on (h : Held w g S ok) (hr : Ents w A c l.f3 (· ≠ g)) (hE : checkF l = 0) (hn0 : 0 ≤ now) (hn1 : now < 4611686018427387904) (hl : gStart l now < 4611686018427387904)
    (hc0 : 0 ≤ S.chg) (hc1 : S.chg ≤ 100000) (hp0 : 0 ≤ S.rep) (hp1 : S.rep ≤ 100000) (hfresh : ∀ k, w.heap.size ≤ k → ok k) :
    Calls Try.prog 36 #[.pointer (some ⟨g, 0, none⟩), listV l A c, .int .i64 now] w (RSet w g (setF S l now) ok 0) := by
  have H := Aside0.mk h
  have HR := Aside0.mk hr
  have HV := Aside0.mk ((VL_iff l).2 hE)
  obtain ⟨a, rfl⟩ := HV.out.some hr.row
  have hd0 : decide (now < 0) = false := decide_eq_false (by omega)
  have hd1 : decide (4611686018427387904 ≤ now) = false := decide_eq_false (by omega)
  have hd2 : decide (4611686018427387904 ≤ gStart l now) = false := decide_eq_false (by omega)
  have HF := Aside0.mk hfresh
  have hgw : g < w.heap.size := by obtain ⟨_, _, _, _, hb, _⟩ := h.at_; exact blk_lt hb
  have HGW := Aside0.mk hgw
  have hS1 : (passF S now).chg ≤ 100001 ∧ 0 ≤ (passF S now).chg ∧ (passF S now).rep = S.rep := by
    unfold passF
    split
    · exact ⟨by show S.chg + 1 ≤ _; omega, by show 0 ≤ S.chg + 1; omega, rfl⟩
    · exact ⟨by omega, by omega, rfl⟩
  have HS1 := Aside0.mk hS1
  have hrp : 0 ≤ (passF S now).rep := by omega
  have hrp1 : (passF S now).rep ≤ 100000 := by omega
  clear h hr hl hgw hfresh hS1
  unfold listV
  go_enter Try.func36, Try.ntmps36
  go_wp2_with fail
  refine (check_any l (some a) c _ (by exact Kd.C_below HR.out.row (below_alloc (Below.refl _ _) _))).mono ?_
  rintro e w1 ⟨rfl, hb⟩
  have k0 := blk_below (o := boxed l (some a) c) (blk_new _ _) hb
  obtain ⟨b0, b1, b2, b3⟩ := box_cs k0
  have HB := Aside0.mk (below_step (below_alloc (Below.refl _ _) _) hb)
  have HK := Aside0.mk k0
  clear hb k0
  go_wp2_with fail
  refine (gStart_any HV.out (by omega) _ (by exact Kd.C_below HR.out.row HB.out) HR.out.cap).mono ?_
  rintro e w2 ⟨rfl, hb⟩
  have HB2 := Aside0.mk (below_step HB.out hb)
  have HK2 := Aside0.mk (blk_below HK.out hb)
  clear hb b0 b1 b2 b3
  go_wp2_with fail
  refine (pass_any _ g S ok now (H.out.below HB2.out) hc0 (by omega)).mono ?_
  rintro e w3 ⟨rfl, hH, hC⟩
  have HH3 := Aside0.mk hH
  have HC3 := Aside0.mk ((Chg.of_below (D := (· = g)) HB2.out).trans hC)
  have hne : w.heap.size ≠ g := by have := HGW.out; omega
  have HK3 := Aside0.mk ((hC.block _ (blk_lt HK2.out) hne).trans HK2.out)
  obtain ⟨A3, c3, A7, c7, hI⟩ := hH.is
  obtain ⟨_, _, _, _, _, _, _, _, _, d9, _, _, d12⟩ := hI.cs
  have f12 := blk_frozen hI.blk 12
  obtain ⟨b0, b1, b2, b3⟩ := box_cs HK3.out
  clear hH hC hI
  have hchk : l.f3.length ≤ 1000000 := by have := HV.out.n1; omega
  cases hw : (passF S now).waits
  · rw [hw] at d9
    have HW := Aside0.mk hw
    clear hw
    go_wp2_with fail
    refine (clone_any l a c _ (by exact (HR.out.chg HC3.out (fun k hk => hk)).row) hchk).mono ?_
    rintro e w4 ⟨⟨A', c', rfl, hE4⟩, hb⟩
    have HE4 := Aside0.mk hE4
    have HH4 := Aside0.mk (HH3.out.below hb)
    have HC4 := Aside0.mk (HC3.out.below hb)
    have HZ4 := Aside0.mk hb.size
    obtain ⟨A3, c3, A7, c7, hI⟩ := HH4.out.is
    obtain ⟨_, _, _, _, x4, x5, x6, x7, _, x9, x10, _, _⟩ := hI.cs
    have f4 := blk_frozen hI.blk 4
    have f5 := blk_frozen hI.blk 5
    have f6 := blk_frozen hI.blk 6
    have f7 := blk_frozen hI.blk 7
    have f9 := blk_frozen hI.blk 9
    have f10 := blk_frozen hI.blk 10
    clear hE4 hb hI b0 b1 b2 b3 d9 d12 f12
    go_wp2_with fail
    have hst := set_store (S := passF S now) (l := l) (T := gStart l now) HH4.out (HE4.out.mono (fun k hk => HF.out k (Nat.le_trans (HC3.out.size) hk)))
    have HS := Aside0.mk hst
    clear hst
    refine (pass_any _ g { o := (passF S now).o, a := l, has := (passF S now).has, waits := true, at_ := gStart l now, chg := (passF S now).chg, rep := (passF S now).rep } ok now HS.out.1 HS1.out.2.1 (by have := HS1.out.1; show (passF S now).chg ≤ _; omega)).mono ?_
    rintro e w5 ⟨rfl, hH, hC⟩
    have HH5 := Aside0.mk hH
    have HC5 := Aside0.mk ((HC4.out.trans HS.out.2).trans hC)
    clear hH hC
    go_wp2
    go_ret
    exact ⟨rfl, by have h1 := HH5.out; unfold setF; rw [HW.out]; simpa using h1, HC5.out⟩
  · rw [hw] at d9
    have HW := Aside0.mk hw
    clear hw
    go_wp2_with fail
    have hrs := rep_store (S := passF S now) (x := (passF S now).rep + 1) HH3.out
    have HRS := Aside0.mk hrs
    clear hrs
    refine (clone_any l a c _ (by exact ((HR.out.chg HC3.out (fun k hk => hk)).chg HRS.out.2 (fun k hk => hk)).row) hchk).mono ?_
    rintro e w4 ⟨⟨A', c', rfl, hE4⟩, hb⟩
    have HE4 := Aside0.mk hE4
    have HH4 := Aside0.mk (HRS.out.1.below hb)
    have HC4 := Aside0.mk ((HC3.out.trans HRS.out.2).below hb)
    obtain ⟨A3, c3, A7, c7, hI⟩ := HH4.out.is
    obtain ⟨_, _, _, _, x4, x5, x6, x7, _, x9, x10, _, _⟩ := hI.cs
    have f4 := blk_frozen hI.blk 4
    have f5 := blk_frozen hI.blk 5
    have f6 := blk_frozen hI.blk 6
    have f7 := blk_frozen hI.blk 7
    have f9 := blk_frozen hI.blk 9
    have f10 := blk_frozen hI.blk 10
    clear hE4 hb hI b0 b1 b2 b3 d9 d12 f12
    go_wp2_with fail
    have hst := set_store (l := l) (T := gStart l now) HH4.out (HE4.out.mono (fun k hk => HF.out k (Nat.le_trans ((HC3.out.trans HRS.out.2).size) hk)))
    have HS := Aside0.mk hst
    clear hst
    refine (pass_any _ g { o := (passF S now).o, a := l, has := (passF S now).has, waits := true, at_ := gStart l now, chg := (passF S now).chg, rep := (passF S now).rep + 1 } ok now HS.out.1 HS1.out.2.1 (by have := HS1.out.1; show (passF S now).chg ≤ _; omega)).mono ?_
    rintro e w5 ⟨rfl, hH, hC⟩
    have HH5 := Aside0.mk hH
    have HC5 := Aside0.mk ((HC4.out.trans HS.out.2).trans hC)
    clear hH hC
    go_wp2
    go_ret
    exact ⟨rfl, by have h1 := HH5.out; unfold setF; rw [HW.out]; simpa using h1, HC5.out⟩
end

end Go.Proofs.Ytkbjelhmmcifhaa.CF
