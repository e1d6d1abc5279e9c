/- Walks: a schedule's methods that only read. The schedule is one that may be (VS). -/
import Derived.Test.YtkbjelhmmcifhaaG1
set_option linter.unusedVariables false
set_option linter.unusedSimpArgs false
namespace Go.Proofs.Ytkbjelhmmcifhaa.CF
open Go.RowKit Go.Proofs.YtkbjelhmmcifhaaW.PrintWords Go.Proofs.YtkbjelhmmcifhaaW.PrintLast Go.Proofs.YtkbjelhmmcifhaaW.PrintMore
open Go.Proofs.Ytkbjelhmmcifhaa.PChangeFits (S71 S33 k71 k33 z71 z33 rd_T71)

/-- A schedule that may be. -/
structure VS (S : Sch) : Prop where
  o : S.has = true → VL S.o
  a : S.waits = true → VL S.a ∧ 0 ≤ S.at_ ∧ S.at_ < 4611686018427387904
  ob : S.has = true → S.waits = true → S.o.f0 ≤ S.at_
  ol : S.o.f3.length ≤ 64
  al : S.a.f3.length ≤ 64

theorem VS.moved {S : Sch} (h : VS S) (hw : S.waits = true) : VL (movedF S) := by
  obtain ⟨ha, h0, h1⟩ := h.a hw
  exact ⟨h0, h1, ha.c0, ha.c1, ha.x0, ha.x1, ha.n0, ha.n1, ha.es⟩

section
variable {w : World} {g : Nat} {S : Sch} {A3 : Option Addr} {c3 : Nat} {A7 : Option Addr} {c7 : Nat}
theorem IsSch.cs (h : IsSch w g S A3 c3 A7 c7) : w.cell? ⟨g, 0, none⟩ = some (.int .i64 S.o.f0) ∧ w.cell? ⟨g, 1, none⟩ = some (.int .i64 S.o.f1) ∧ w.cell? ⟨g, 2, none⟩ = some (.int .i64 S.o.f2) ∧ w.cell? ⟨g, 3, none⟩ = some (.slice A3 S.o.f3.length c3) ∧
    w.cell? ⟨g, 4, none⟩ = some (.int .i64 S.a.f0) ∧ w.cell? ⟨g, 5, none⟩ = some (.int .i64 S.a.f1) ∧ w.cell? ⟨g, 6, none⟩ = some (.int .i64 S.a.f2) ∧ w.cell? ⟨g, 7, none⟩ = some (.slice A7 S.a.f3.length c7) ∧
    w.cell? ⟨g, 8, none⟩ = some (.bool S.has) ∧ w.cell? ⟨g, 9, none⟩ = some (.bool S.waits) ∧ w.cell? ⟨g, 10, none⟩ = some (.int .i64 S.at_) ∧ w.cell? ⟨g, 11, none⟩ = some (.int .i64 S.chg) ∧ w.cell? ⟨g, 12, none⟩ = some (.int .i64 S.rep) := by
  have hb := h.blk
  refine ⟨?_, ?_, ?_, ?_, ?_, ?_, ?_, ?_, ?_, ?_, ?_, ?_, ?_⟩ <;> (rw [blk_cell hb]; rfl)
theorem IsSch.below {w1 : World} (h : IsSch w g S A3 c3 A7 c7) (hb : Below w.heap.size w w1) : IsSch w1 g S A3 c3 A7 c7 :=
  ⟨blk_below h.blk hb, h.oe.move hb.size (fun k _ hk => hb.block k hk), h.ae.move hb.size (fun k _ hk => hb.block k hk)⟩
end

def R3 (w : World) (a b : Int) (c : Bool) (e : Ending) (w' : World) : Prop := e = .returned (.tuple #[.int .i64 a, .int .i64 b, .bool c]) ∧ Below w.heap.size w w'

theorem below_q {w W : World} (h : Below w.heap.size w W) (n : Nat) : Below w.heap.size w (W.drewN n) := pw_below_drewN h n

theorem tail_no (w : World) (g : Nat) (S : Sch) {A3 : Option Addr} {c3 : Nat} {A7 : Option Addr} {c7 : Nat} (h : IsSch w g S A3 c3 A7 c7) (hv : VS S) (ht : tailOk S = false) :
    Calls Try.prog 78 #[.pointer (some ⟨g, 0, none⟩)] w (R3 w 0 0 false) := by
  obtain ⟨c0, c1, c2, c3, c4, c5, c6, c7, c8, c9, c10, c11, c12⟩ := h.cs
  clear c3 c4 c5 c6 c7 c11 c12 h
  cases hw : S.waits with
  | false =>
    rw [hw] at c9
    clear hv ht
    go_enter Try.func78, Try.ntmps78
    go_wp2
    go_quiet (fail)
    go_wp2
    go_ret3
    exact ⟨rfl, below_q (Below.refl _ _) _⟩
  | true =>
    rw [hw] at c9
    cases hh : S.has with
    | false =>
      rw [hh] at c8
      clear hv ht
      go_enter Try.func78, Try.ntmps78
      go_wp2
      go_quiet (fail)
      go_wp2
      go_ret3
      exact ⟨rfl, below_q (Below.refl _ _) _⟩
    | true =>
      rw [hh] at c8
      have hvo := hv.o hh
      obtain ⟨_, ha0, ha1⟩ := hv.a hw
      by_cases hle : S.at_ ≤ S.o.f0
      · have hd : decide (S.at_ ≤ S.o.f0) = true := decide_eq_true hle
        clear hv ht hvo hle ha0 ha1
        go_enter Try.func78, Try.ntmps78
        go_wp2
        go_quiet (fail)
        go_wp2
        go_ret3
        exact ⟨rfl, below_q (Below.refl _ _) _⟩
      · have hd : decide (S.at_ ≤ S.o.f0) = false := decide_eq_false hle
        have hb0 := hvo.b0
        have hc0 := hvo.c0
        have hc1 := hvo.c1
        have hq0 : 0 ≤ (S.at_ - S.o.f0) / S.o.f1 := Int.ediv_nonneg (by omega) (by omega)
        have hq1 : (S.at_ - S.o.f0) / S.o.f1 ≤ S.at_ - S.o.f0 := Int.ediv_le_self _ (by omega)
        have hm0 : 0 ≤ (S.at_ - S.o.f0) / S.o.f1 * S.o.f1 := Int.mul_nonneg hq0 (by omega)
        have hm1 : (S.at_ - S.o.f0) / S.o.f1 * S.o.f1 ≤ S.at_ - S.o.f0 := Int.ediv_mul_le _ (by omega)
        have e1 : IntKind.i64.wrap (S.at_ - S.o.f0) = S.at_ - S.o.f0 := IntWalk.i64_in _ (by omega)
        have e2 : (S.at_ - S.o.f0).tdiv S.o.f1 = (S.at_ - S.o.f0) / S.o.f1 := Int.tdiv_eq_ediv_of_nonneg (by omega)
        have e3 : IntKind.i64.wrap ((S.at_ - S.o.f0) / S.o.f1) = (S.at_ - S.o.f0) / S.o.f1 := IntWalk.i64_in _ (by omega)
        have e4 : IntKind.i64.wrap ((S.at_ - S.o.f0) / S.o.f1 * S.o.f1) = (S.at_ - S.o.f0) / S.o.f1 * S.o.f1 := IntWalk.i64_in _ (by omega)
        obtain ⟨fr, hfr⟩ : ∃ fr, fr = tailFrom S := ⟨_, rfl⟩
        have hfr0 : S.o.f0 ≤ fr ∧ fr ≤ S.at_ := by rw [hfr]; unfold tailFrom; omega
        have e5 : IntKind.i64.wrap (S.o.f0 + (S.at_ - S.o.f0) / S.o.f1 * S.o.f1) = fr := by rw [hfr]; exact IntWalk.i64_in _ (by omega)
        have e6 : IntKind.i64.wrap (S.at_ - fr) = S.at_ - fr := IntWalk.i64_in _ (by omega)
        have z : (S.o.f1 == 0) = false := beq_eq_false_iff_ne.2 (by omega)
        obtain ⟨hlo, hhi⟩ := hfr0
        clear hv hvo
        by_cases hf : fr = S.o.f0
        · have hf' : (fr == S.o.f0) = true := beq_iff_eq.2 hf
          clear ht hf hfr
          go_enter Try.func78, Try.ntmps78
          go_wp2
          go_quiet (fail)
          go_wp2
          go_quiet (fail)
          go_wp2
          go_quiet (fail)
          go_wp2
          go_ret3
          exact ⟨rfl, below_q (below_q (below_q (Below.refl _ _) _) _) _⟩
        · have hf' : (fr == S.o.f0) = false := beq_eq_false_iff_ne.2 hf
          by_cases hfa : fr = S.at_
          · have hfa' : (fr == S.at_) = true := beq_iff_eq.2 hfa
            clear ht hfr hf hfa
            go_enter Try.func78, Try.ntmps78
            go_wp2
            go_quiet (fail)
            go_wp2
            go_quiet (fail)
            go_wp2
            go_quiet (fail)
            go_wp2
            go_ret3
            exact ⟨rfl, below_q (below_q (below_q (Below.refl _ _) _) _) _⟩
          · have hfa' : (fr == S.at_) = false := beq_eq_false_iff_ne.2 hfa
            have hx : S.o.f2 < S.at_ - fr := by
              unfold tailOk at ht
              rw [hw, hh, ← hfr] at ht
              simp only [Bool.and_true, Bool.true_and, Bool.and_eq_false_iff, decide_eq_false_iff_not] at ht
              omega
            have hxd : decide (S.o.f2 < S.at_ - fr) = true := decide_eq_true hx
            clear ht hfr hf hfa hx
            go_enter Try.func78, Try.ntmps78
            go_wp2
            go_quiet (fail)
            go_wp2
            go_quiet (fail)
            go_wp2
            go_quiet (fail)
            go_wp2
            go_ret3
            exact ⟨rfl, below_q (below_q (below_q (Below.refl _ _) _) _) _⟩

theorem tailOk_iff {S : Sch} (h : tailOk S = true) : S.waits = true ∧ S.has = true ∧ S.o.f0 < S.at_ ∧ tailFrom S ≠ S.o.f0 ∧ tailFrom S ≠ S.at_ ∧ S.at_ - tailFrom S ≤ S.o.f2 := by
  unfold tailOk at h
  simp only [Bool.and_eq_true, decide_eq_true_eq] at h
  obtain ⟨⟨⟨⟨⟨a, b⟩, c⟩, d⟩, e⟩, f⟩ := h
  exact ⟨a, b, c, d, e, f⟩

theorem from_in {S : Sch} (hvo : VL S.o) (hlt : S.o.f0 ≤ S.at_) : S.o.f0 ≤ tailFrom S ∧ tailFrom S ≤ S.at_ := by
  have hc0 := hvo.c0
  have hq0 : 0 ≤ (S.at_ - S.o.f0) / S.o.f1 := Int.ediv_nonneg (by omega) (by omega)
  have hm0 : 0 ≤ (S.at_ - S.o.f0) / S.o.f1 * S.o.f1 := Int.mul_nonneg hq0 (by omega)
  have hm1 : (S.at_ - S.o.f0) / S.o.f1 * S.o.f1 ≤ S.at_ - S.o.f0 := Int.ediv_mul_le _ (by omega)
  unfold tailFrom; omega

theorem tail_yes (w : World) (g : Nat) (S : Sch) {A3 : Option Addr} {c3 : Nat} {A7 : Option Addr} {c7 : Nat} (h : IsSch w g S A3 c3 A7 c7) (hv : VS S) (ht : tailOk S = true) :
    Calls Try.prog 78 #[.pointer (some ⟨g, 0, none⟩)] w (R3 w (tailFrom S) (gState S.o (tailFrom S - 1)) true) := by
  obtain ⟨hw, hh, hlt, hne, hna, hx⟩ := tailOk_iff ht
  have hvo := hv.o hh
  obtain ⟨_, ha0, ha1⟩ := hv.a hw
  have hin := from_in hvo (by omega)
  have hoe := h.oe
  obtain ⟨c0, c1, c2, c3, c4, c5, c6, c7, c8, c9, c10, c11, c12⟩ := h.cs
  clear c4 c5 c6 c7 c11 c12 h
  rw [hw] at c9
  rw [hh] at c8
  have hd : decide (S.at_ ≤ S.o.f0) = false := decide_eq_false (by omega)
  have hb0 := hvo.b0
  have hc0 := hvo.c0
  have hc1 := hvo.c1
  have hq0 : 0 ≤ (S.at_ - S.o.f0) / S.o.f1 := Int.ediv_nonneg (by omega) (by omega)
  have hq1 : (S.at_ - S.o.f0) / S.o.f1 ≤ S.at_ - S.o.f0 := Int.ediv_le_self _ (by omega)
  have hm0 : 0 ≤ (S.at_ - S.o.f0) / S.o.f1 * S.o.f1 := Int.mul_nonneg hq0 (by omega)
  have hm1 : (S.at_ - S.o.f0) / S.o.f1 * S.o.f1 ≤ S.at_ - S.o.f0 := Int.ediv_mul_le _ (by omega)
  have e1 : IntKind.i64.wrap (S.at_ - S.o.f0) = S.at_ - S.o.f0 := IntWalk.i64_in _ (by omega)
  have e2 : (S.at_ - S.o.f0).tdiv S.o.f1 = (S.at_ - S.o.f0) / S.o.f1 := Int.tdiv_eq_ediv_of_nonneg (by omega)
  have e3 : IntKind.i64.wrap ((S.at_ - S.o.f0) / S.o.f1) = (S.at_ - S.o.f0) / S.o.f1 := IntWalk.i64_in _ (by omega)
  have e4 : IntKind.i64.wrap ((S.at_ - S.o.f0) / S.o.f1 * S.o.f1) = (S.at_ - S.o.f0) / S.o.f1 * S.o.f1 := IntWalk.i64_in _ (by omega)
  obtain ⟨fr, hfr⟩ : ∃ fr, fr = tailFrom S := ⟨_, rfl⟩
  have e5 : IntKind.i64.wrap (S.o.f0 + (S.at_ - S.o.f0) / S.o.f1 * S.o.f1) = fr := by rw [hfr]; exact IntWalk.i64_in _ (by unfold tailFrom at hin; omega)
  rw [← hfr] at hne hna hx hin ⊢
  obtain ⟨hlo, hhi⟩ := hin
  have e6 : IntKind.i64.wrap (S.at_ - fr) = S.at_ - fr := IntWalk.i64_in _ (by omega)
  have e7 : IntKind.i64.wrap (fr - 1) = fr - 1 := IntWalk.i64_in _ (by omega)
  have z : (S.o.f1 == 0) = false := beq_eq_false_iff_ne.2 (by omega)
  have hf' : (fr == S.o.f0) = false := beq_eq_false_iff_ne.2 hne
  have hfa' : (fr == S.at_) = false := beq_eq_false_iff_ne.2 hna
  have hxd : decide (S.o.f2 < S.at_ - fr) = false := decide_eq_false (by omega)
  have hfle : fr - 1 ≤ 9000000000000000000 := by omega
  have H1 := Aside0.mk hvo
  have H2 := Aside0.mk hoe
  clear ht hfr hne hna hx hv hvo hoe
  go_enter Try.func78, Try.ntmps78
  go_wp2
  go_quiet (fail)
  go_wp2
  go_quiet (fail)
  go_wp2
  go_quiet (fail)
  go_wp2_with fail
  refine (gState_any H1.out hfle _ (by exact H2.out.row) H2.out.cap).mono ?_
  rintro e w1 ⟨rfl, hb⟩
  go_wp2
  go_ret3
  exact ⟨rfl, below_step (below_q (Below.refl _ _) _) hb⟩

end Go.Proofs.Ytkbjelhmmcifhaa.CF
