/- The walk of the law: ChangeFits answers true. No condition. -/
import Derived.Test.YtkbjelhmmcifhaaC6
import Derived.Test.YtkbjelhmmcifhaaC4
set_option linter.unusedVariables false
set_option linter.unusedSimpArgs false
namespace Go.Proofs.Ytkbjelhmmcifhaa.CF
open Go.RowKit Go.Proofs.YtkbjelhmmcifhaaW.PrintWords Go.Proofs.YtkbjelhmmcifhaaW.PrintLast Go.Proofs.YtkbjelhmmcifhaaW.PrintMore
open Go.Proofs.Ytkbjelhmmcifhaa.PChangeFits (S71 S33 S91 k71 k33 k91 z71 z33 rd_T71 rd_T91)

set_option maxRecDepth 100000 in
set_option maxHeartbeats 4000000 in
theorem law_any (A0 : Option Addr) (c0 : Nat) (l0 : List S91) (cls need : Int) (w : World) (hr : Kd.C k91 w A0 l0.length l0) (hc : l0.length ≤ c0) :
    Calls Try.prog 3 #[.slice A0 l0.length c0, .int .i64 cls, .int .i64 need] w (RB w true) := by
  have HR := Aside0.mk hr
  have HC := Aside0.mk hc
  clear hr hc
  go_enter Try.func3, Try.ntmps3
  go_wp2_with fail
  refine (turns_any _).mono ?_
  rintro e w1 ⟨rfl, hb⟩
  have HB := Aside0.mk hb
  clear hb
  go_wp2_with fail
  obtain ⟨r, hsm, hl⟩ := small_any A0 c0 l0 _ (Kd.C_below HR.out HB.out) HC.out
  refine hsm.mono ?_
  rintro e w2 ⟨rfl, hb⟩
  replace HB := Aside0.mk (below_step HB.out hb)
  clear hsm hb
  cases r with
  | false =>
    go_wp2_with fail
    exact bodyPost_ret (v := .bool true) (by simp [results, Try.results3, go_sem]) rfl ⟨rfl, HB.out⟩
  | true =>
    have hl30 : l0.length ≤ 30 := hl rfl
    clear hl
    by_cases g1 : cls < 0
    · have d1 : decide (cls < 0) = true := decide_eq_true g1
      clear g1
      go_wp2_with fail
      exact bodyPost_ret (v := .bool true) (by simp [results, Try.results3, go_sem]) rfl ⟨rfl, HB.out⟩
    have d1 : decide (cls < 0) = false := decide_eq_false g1
    by_cases g2 : 7 < cls
    · have d2 : decide (7 < cls) = true := decide_eq_true g2
      clear g1 g2
      go_wp2_with fail
      exact bodyPost_ret (v := .bool true) (by simp [results, Try.results3, go_sem]) rfl ⟨rfl, HB.out⟩
    have d2 : decide (7 < cls) = false := decide_eq_false g2
    by_cases g3 : need < 1
    · have d3 : decide (need < 1) = true := decide_eq_true g3
      clear g1 g2 g3
      go_wp2_with fail
      exact bodyPost_ret (v := .bool true) (by simp [results, Try.results3, go_sem]) rfl ⟨rfl, HB.out⟩
    have d3 : decide (need < 1) = false := decide_eq_false g3
    by_cases g4 : 500 < need
    · have d4 : decide (500 < need) = true := decide_eq_true g4
      clear g1 g2 g3 g4
      go_wp2_with fail
      exact bodyPost_ret (v := .bool true) (by simp [results, Try.results3, go_sem]) rfl ⟨rfl, HB.out⟩
    have d4 : decide (500 < need) = false := decide_eq_false g4
    have hc0 : 0 ≤ cls := by omega
    have hc1 : cls ≤ 7 := by omega
    have hn0 : 1 ≤ need := by omega
    have hn1 : need ≤ 500 := by omega
    clear g1 g2 g3 g4
    go_wp2_with fail
    refine (play_any A0 c0 l0 _ (Kd.C_below HR.out HB.out) (by omega)).mono ?_
    rintro e w3 ⟨gs, gp, S, P, now, rfl, hbo, hpl, hnow⟩
    have HBo := Aside0.mk hbo
    have HPl := Aside0.mk hpl
    replace HB := Aside0.mk (below_step HB.out hbo.b)
    have hnow0 := hpl.now0
    have hfl := fits_law hpl hc0 hc1 hn0 hn1
    have hfi : fitsF S cls now need ≤ 6000000000000000000 := fitsF_in hpl.vs hnow0 (by omega)
    obtain ⟨got, hgot⟩ : ∃ x, fitsF S cls now need = x := ⟨_, rfl⟩
    obtain ⟨want, hwant⟩ : ∃ x, pfitsL P cls need 600 600 now = x := ⟨_, rfl⟩
    rw [hgot, hwant] at hfl
    rw [hgot] at hfi
    have HL := Aside0.mk hfl
    have HG := Aside0.mk hgot
    have HW := Aside0.mk hwant
    clear hbo hpl hfl hgot hwant d1 d2 d3 d4
    go_wp2_with fail
    obtain ⟨q3, r3, q7, r7, hI⟩ := HBo.out.s.is
    refine (fits_any _ _ S _ cls need (by exact hI) HPl.out.vs hc0 hc1 hnow0 (by omega) (by omega) (by omega)).mono ?_
    rintro e w4 ⟨rfl, hb⟩
    rw [HG.out]
    replace HBo := Aside0.mk (HBo.out.below hb)
    replace HB := Aside0.mk (below_step HB.out hb)
    clear hb hI q3 r3 q7 r7
    go_wp2_with fail
    obtain ⟨q3, r3, q7, r7, hI⟩ := HBo.out.p.is
    refine (pfits_any _ _ P _ cls need 600 (by exact hI) HPl.out.vp hc0 hc1 hnow0 (by omega) (by omega) (by omega) (by omega)).mono ?_
    rintro e w5 ⟨rfl, hb⟩
    rw [HW.out]
    replace HBo := Aside0.mk (HBo.out.below hb)
    replace HB := Aside0.mk (below_step HB.out hb)
    clear hb hI q3 r3 q7 r7
    by_cases w0 : 0 ≤ want
    · have dw : decide (0 ≤ want) = true := decide_eq_true w0
      obtain rfl := HL.out.1 w0
      clear w0
      go_wp2_with fail
      exact bodyPost_ret (v := .bool true) (by simp [results, Try.results3, go_sem]) rfl ⟨rfl, HB.out⟩
    have dw : decide (0 ≤ want) = false := decide_eq_false w0
    have hno := HL.out.2 (by omega)
    by_cases g0 : got < 0
    · have dg : decide (got < 0) = true := decide_eq_true g0
      clear g0 w0 hno
      go_wp2_with fail
      exact bodyPost_ret (v := .bool true) (by simp [results, Try.results3, go_sem]) rfl ⟨rfl, HB.out⟩
    have dg : decide (got < 0) = false := decide_eq_false g0
    obtain ⟨hw, hop⟩ := hno.resolve_left g0
    have HO := Aside0.mk hop
    have g1 : 0 ≤ got := by omega
    clear hop hno w0 g0
    obtain ⟨q3, r3, q7, r7, hI⟩ := HBo.out.p.is
    obtain ⟨_, _, _, _, _, _, _, _, _, x9, _⟩ := hI.cs
    rw [hw] at x9
    have HI := Aside0.mk hI
    clear hI
    go_wp2_with fail
    refine (open_any _ _ P _ cls need 600 (by exact HI.out) HPl.out.vp hc0 hc1 g1 hfi (by omega) (by omega) (by omega)).mono ?_
    rintro e w6 ⟨rfl, hb⟩
    rw [HO.out]
    replace HB := Aside0.mk (below_step HB.out hb)
    clear hb
    go_wp2_with fail
    exact bodyPost_ret (v := .bool true) (by simp [results, Try.results3, go_sem]) rfl ⟨rfl, HB.out⟩

end Go.Proofs.Ytkbjelhmmcifhaa.CF
