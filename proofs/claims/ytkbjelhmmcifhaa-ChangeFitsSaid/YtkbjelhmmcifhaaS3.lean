/- Walks: a schedule's steps and leap. The schedule is one that may be (VS); the time is from 0 on, and no later than 9*10^18. -/
import Derived.Test.YtkbjelhmmcifhaaS2
set_option linter.unusedVariables false
set_option linter.unusedSimpArgs false
namespace Go.Proofs.Ytkbjelhmmcifhaa.CF
open Go.RowKit Go.Proofs.YtkbjelhmmcifhaaW.PrintWords Go.Proofs.YtkbjelhmmcifhaaW.PrintLast Go.Proofs.YtkbjelhmmcifhaaW.PrintMore
open Go.Proofs.Ytkbjelhmmcifhaa.PChangeFits (S71 S33 k71 k33 z71 z33 rd_T71)

section
variable (w : World) (g : Nat) (S : Sch) {A3 : Option Addr} {c3 : Nat} {A7 : Option Addr} {c7 : Nat} (t : Int)

theorem steps_q (h : IsSch w g S A3 c3 A7 c7) (hv : VS S) :
    Calls Try.prog 48 #[.pointer (some ⟨g, 0, none⟩)] w fun e w' => e = .returned (.int .i64 (stepsF S)) ∧ ∃ m, w' = w.drewN m := by
  obtain ⟨c0, c1, c2, c3, c4, c5, c6, c7, c8, c9, c10, c11, c12⟩ := h.cs
  have hol := hv.ol
  have hal := hv.al
  have e1 : IntKind.i64.wrap ((S.o.f3.length : Int) + S.a.f3.length) = (S.o.f3.length : Int) + S.a.f3.length := IntWalk.i64_in _ (by omega)
  have e2 : IntKind.i64.wrap (2 * ((S.o.f3.length : Int) + S.a.f3.length)) = 2 * ((S.o.f3.length : Int) + S.a.f3.length) := IntWalk.i64_in _ (by omega)
  have e3 : IntKind.i64.wrap (2 * ((S.o.f3.length : Int) + S.a.f3.length) + 8) = stepsF S := IntWalk.i64_in _ (by omega)
  clear h hv
  go_enter Try.func48, Try.ntmps48
  go_wp2
  go_quiet (fail)
  go_wp2
  go_ret
  exact ⟨rfl, _, rfl⟩

theorem steps_any (h : IsSch w g S A3 c3 A7 c7) (hv : VS S) :
    Calls Try.prog 48 #[.pointer (some ⟨g, 0, none⟩)] w (R1 w (stepsF S)) :=
  (steps_q w g S h hv).mono fun e w' ⟨he, m, hm⟩ => ⟨he, by rw [hm]; exact below_q (Below.refl _ _) _⟩

def R2 (w : World) (a b : Int) (e : Ending) (w' : World) : Prop := e = .returned (.tuple #[.int .i64 a, .int .i64 b]) ∧ Below w.heap.size w w'

theorem IsSch.drewN (h : IsSch w g S A3 c3 A7 c7) (m : Nat) : IsSch (w.drewN m) g S A3 c3 A7 c7 := h.below (below_q (Below.refl _ _) _)

/-- the next edge is the change. -/
theorem leap_at (n : Int) (h : IsSch w g S A3 c3 A7 c7) (hv : VS S) (ht0 : 0 ≤ t) (ht1 : t ≤ 9000000000000000000) (hw : S.waits = true) (ha : t < S.at_) (hx : nxF S t = S.at_) :
    Calls Try.prog 80 #[.pointer (some ⟨g, 0, none⟩), .int .i64 t, .int .i64 n] w (R2 w (nxF S t) (stepsF S)) := by
  have H := Aside0.mk h
  have HV := Aside0.mk hv
  have HW := Aside0.mk hw
  have hd : decide (t < S.at_) = true := decide_eq_true ha
  have he : (nxF S t == S.at_) = true := beq_iff_eq.2 hx
  clear h hv hw ha hx
  go_enter Try.func80, Try.ntmps80
  go_wp2_with fail
  refine (next_any _ _ _ _ H.out HV.out ht0 ht1).mono ?_
  rintro e w1 ⟨rfl, hb⟩
  have H1 := Aside0.mk (H.out.below hb)
  obtain ⟨_, _, _, _, _, _, _, _, _, d9, d10, _, _⟩ := H1.out.cs
  rw [HW.out] at d9
  have HB := Aside0.mk hb
  clear hb
  go_wp2_with fail
  refine (steps_any _ _ _ H1.out HV.out).mono ?_
  rintro e w2 ⟨rfl, hb⟩
  go_wp2
  go_ret2
  exact ⟨rfl, below_step HB.out hb⟩

/-- not the change: one edge less. -/
theorem leap_on (n : Int) (h : IsSch w g S A3 c3 A7 c7) (hv : VS S) (ht0 : 0 ≤ t) (ht1 : t ≤ 9000000000000000000) (hn0 : 0 < n) (hn1 : n ≤ 1000) (h1 : ¬ (S.waits = true ∧ t < S.at_ ∧ nxF S t = S.at_)) (h2 : ¬ (n = 1 ∧ S.waits = true ∧ 0 ≤ nxF S t ∧ nxF S t < S.at_)) :
    Calls Try.prog 80 #[.pointer (some ⟨g, 0, none⟩), .int .i64 t, .int .i64 n] w (R2 w (nxF S t) (n - 1)) := by
  have H := Aside0.mk h
  have HV := Aside0.mk hv
  cases hw : S.waits with
  | false =>
    have HW := Aside0.mk hw
    clear h hv hw h1 h2
    by_cases hn : n = 1
    all_goals
      first | (have hn' : (n == 1) = true := beq_iff_eq.2 hn) | (have hn' : (n == 1) = false := beq_eq_false_iff_ne.2 hn)
      clear hn
      go_enter Try.func80, Try.ntmps80
      go_wp2_with fail
      refine (next_any _ _ _ _ H.out HV.out ht0 ht1).mono ?_
      rintro e w1 ⟨rfl, hb⟩
      have H1 := Aside0.mk (H.out.below hb)
      obtain ⟨_, _, _, _, _, _, _, _, _, d9, d10, _, _⟩ := H1.out.cs
      rw [HW.out] at d9
      have HB := Aside0.mk hb
      clear hb
      go_wp2_with fail
      go_ret2
      exact ⟨rfl, HB.out⟩
  | true =>
    have HW := Aside0.mk hw
    rw [hw] at h1 h2
    by_cases hlt : t < S.at_
    · have hne : ¬ nxF S t = S.at_ := fun e => h1 ⟨rfl, hlt, e⟩
      have hd : decide (t < S.at_) = true := decide_eq_true hlt
      have he : (nxF S t == S.at_) = false := beq_eq_false_iff_ne.2 hne
      by_cases hn : n = 1
      · have hn' : (n == 1) = true := beq_iff_eq.2 hn
        by_cases hp : 0 ≤ nxF S t
        · have hp' : decide (0 ≤ nxF S t) = true := decide_eq_true hp
          have hq' : decide (nxF S t < S.at_) = false := decide_eq_false (fun e => h2 ⟨hn, rfl, hp, e⟩)
          clear hp hn hne hlt h1 h2 hw h hv
          go_enter Try.func80, Try.ntmps80
          go_wp2_with fail
          refine (next_any _ _ _ _ H.out HV.out ht0 ht1).mono ?_
          rintro e w1 ⟨rfl, hb⟩
          have H1 := Aside0.mk (H.out.below hb)
          obtain ⟨_, _, _, _, _, _, _, _, _, d9, d10, _, _⟩ := H1.out.cs
          rw [HW.out] at d9
          have HB := Aside0.mk hb
          clear hb
          go_wp2_with fail
          go_ret2
          exact ⟨rfl, HB.out⟩
        · have hp' : decide (0 ≤ nxF S t) = false := decide_eq_false hp
          clear hp hn hne hlt h1 h2 hw h hv
          go_enter Try.func80, Try.ntmps80
          go_wp2_with fail
          refine (next_any _ _ _ _ H.out HV.out ht0 ht1).mono ?_
          rintro e w1 ⟨rfl, hb⟩
          have H1 := Aside0.mk (H.out.below hb)
          obtain ⟨_, _, _, _, _, _, _, _, _, d9, d10, _, _⟩ := H1.out.cs
          rw [HW.out] at d9
          have HB := Aside0.mk hb
          clear hb
          go_wp2_with fail
          go_ret2
          exact ⟨rfl, HB.out⟩
      · have hn' : (n == 1) = false := beq_eq_false_iff_ne.2 hn
        clear hn hne hlt h1 h2 hw h hv
        go_enter Try.func80, Try.ntmps80
        go_wp2_with fail
        refine (next_any _ _ _ _ H.out HV.out ht0 ht1).mono ?_
        rintro e w1 ⟨rfl, hb⟩
        have H1 := Aside0.mk (H.out.below hb)
        obtain ⟨_, _, _, _, _, _, _, _, _, d9, d10, _, _⟩ := H1.out.cs
        rw [HW.out] at d9
        have HB := Aside0.mk hb
        clear hb
        go_wp2_with fail
        go_ret2
        exact ⟨rfl, HB.out⟩
    · have hd : decide (t < S.at_) = false := decide_eq_false hlt
      by_cases hn : n = 1
      · have hn' : (n == 1) = true := beq_iff_eq.2 hn
        by_cases hp : 0 ≤ nxF S t
        · have hp' : decide (0 ≤ nxF S t) = true := decide_eq_true hp
          have hq' : decide (nxF S t < S.at_) = false := decide_eq_false (fun e => h2 ⟨hn, rfl, hp, e⟩)
          clear hp hn hlt h1 h2 hw h hv
          go_enter Try.func80, Try.ntmps80
          go_wp2_with fail
          refine (next_any _ _ _ _ H.out HV.out ht0 ht1).mono ?_
          rintro e w1 ⟨rfl, hb⟩
          have H1 := Aside0.mk (H.out.below hb)
          obtain ⟨_, _, _, _, _, _, _, _, _, d9, d10, _, _⟩ := H1.out.cs
          rw [HW.out] at d9
          have HB := Aside0.mk hb
          clear hb
          go_wp2_with fail
          go_ret2
          exact ⟨rfl, HB.out⟩
        · have hp' : decide (0 ≤ nxF S t) = false := decide_eq_false hp
          clear hp hn hlt h1 h2 hw h hv
          go_enter Try.func80, Try.ntmps80
          go_wp2_with fail
          refine (next_any _ _ _ _ H.out HV.out ht0 ht1).mono ?_
          rintro e w1 ⟨rfl, hb⟩
          have H1 := Aside0.mk (H.out.below hb)
          obtain ⟨_, _, _, _, _, _, _, _, _, d9, d10, _, _⟩ := H1.out.cs
          rw [HW.out] at d9
          have HB := Aside0.mk hb
          clear hb
          go_wp2_with fail
          go_ret2
          exact ⟨rfl, HB.out⟩
      · have hn' : (n == 1) = false := beq_eq_false_iff_ne.2 hn
        clear hn hlt h1 h2 hw h hv
        go_enter Try.func80, Try.ntmps80
        go_wp2_with fail
        refine (next_any _ _ _ _ H.out HV.out ht0 ht1).mono ?_
        rintro e w1 ⟨rfl, hb⟩
        have H1 := Aside0.mk (H.out.below hb)
        obtain ⟨_, _, _, _, _, _, _, _, _, d9, d10, _, _⟩ := H1.out.cs
        rw [HW.out] at d9
        have HB := Aside0.mk hb
        clear hb
        go_wp2_with fail
        go_ret2
        exact ⟨rfl, HB.out⟩

/-- all edges are gone: the longer cycle's begin, or the change. -/
theorem leap_jump (h : IsSch w g S A3 c3 A7 c7) (hv : VS S) (ht0 : 0 ≤ t) (ht1 : t ≤ 9000000000000000000) (hw : S.waits = true) (hx0 : 0 ≤ nxF S t) (hx1 : nxF S t < S.at_) :
    Calls Try.prog 80 #[.pointer (some ⟨g, 0, none⟩), .int .i64 t, .int .i64 1] w (R2 w (if tailOk S = true ∧ nxF S t < tailFrom S then tailFrom S else S.at_) (stepsF S)) := by
  have H := Aside0.mk h
  have HV := Aside0.mk hv
  have HW := Aside0.mk hw
  have he : (nxF S t == S.at_) = false := beq_eq_false_iff_ne.2 (by omega)
  have hp' : decide (0 ≤ nxF S t) = true := decide_eq_true hx0
  have hq' : decide (nxF S t < S.at_) = true := decide_eq_true hx1
  clear hx0 hx1 hw h hv
  by_cases hlt : t < S.at_
  all_goals
    first | (have hd : decide (t < S.at_) = true := decide_eq_true hlt) | (have hd : decide (t < S.at_) = false := decide_eq_false hlt)
    clear hlt
    cases hf : tailOk S
    · rw [if_neg (by simp)]
      have HF := Aside0.mk hf
      clear hf
      go_enter Try.func80, Try.ntmps80
      go_wp2_with fail
      refine (next_any _ _ _ _ H.out HV.out ht0 ht1).mono ?_
      rintro e w1 ⟨rfl, hb⟩
      have H1 := Aside0.mk (H.out.below hb)
      obtain ⟨_, _, _, _, _, _, _, _, _, d9, d10, _, _⟩ := H1.out.cs
      rw [HW.out] at d9
      have HB := Aside0.mk hb
      clear hb
      go_wp2_with fail
      refine (tail_no _ _ _ H1.out HV.out HF.out).mono ?_
      rintro e w2 ⟨rfl, hb⟩
      have H2 := Aside0.mk (H1.out.below hb)
      obtain ⟨_, _, _, _, _, _, _, _, _, _, f10, _, _⟩ := H2.out.cs
      have HB2 := Aside0.mk (below_step HB.out hb)
      clear hb
      go_wp2_with fail
      go_quiet ((go_at_call 48; exact Calls.quiet_of (steps_q _ _ _ (H2.out.drewN _ _ _ _) HV.out)))
      go_wp2
      go_ret2
      exact ⟨rfl, below_q HB2.out _⟩
    · have HF := Aside0.mk hf
      clear hf
      by_cases hl : nxF S t < tailFrom S
      · rw [if_pos ⟨rfl, hl⟩]
        have hl' : decide (nxF S t < tailFrom S) = true := decide_eq_true hl
        clear hl
        go_enter Try.func80, Try.ntmps80
        go_wp2_with fail
        refine (next_any _ _ _ _ H.out HV.out ht0 ht1).mono ?_
        rintro e w1 ⟨rfl, hb⟩
        have H1 := Aside0.mk (H.out.below hb)
        obtain ⟨_, _, _, _, _, _, _, _, _, d9, d10, _, _⟩ := H1.out.cs
        rw [HW.out] at d9
        have HB := Aside0.mk hb
        clear hb
        go_wp2_with fail
        refine (tail_yes _ _ _ H1.out HV.out HF.out).mono ?_
        rintro e w2 ⟨rfl, hb⟩
        have H2 := Aside0.mk (H1.out.below hb)
        have HB2 := Aside0.mk (below_step HB.out hb)
        clear hb
        go_wp2_with fail
        refine (steps_any _ _ _ H2.out HV.out).mono ?_
        rintro e w3 ⟨rfl, hb⟩
        go_wp2
        go_ret2
        exact ⟨rfl, below_step HB2.out hb⟩
      · rw [if_neg (fun hx => hl hx.2)]
        have hl' : decide (nxF S t < tailFrom S) = false := decide_eq_false hl
        clear hl
        go_enter Try.func80, Try.ntmps80
        go_wp2_with fail
        refine (next_any _ _ _ _ H.out HV.out ht0 ht1).mono ?_
        rintro e w1 ⟨rfl, hb⟩
        have H1 := Aside0.mk (H.out.below hb)
        obtain ⟨_, _, _, _, _, _, _, _, _, d9, d10, _, _⟩ := H1.out.cs
        rw [HW.out] at d9
        have HB := Aside0.mk hb
        clear hb
        go_wp2_with fail
        refine (tail_yes _ _ _ H1.out HV.out HF.out).mono ?_
        rintro e w2 ⟨rfl, hb⟩
        have H2 := Aside0.mk (H1.out.below hb)
        obtain ⟨_, _, _, _, _, _, _, _, _, _, f10, _, _⟩ := H2.out.cs
        have HB2 := Aside0.mk (below_step HB.out hb)
        clear hb
        go_wp2_with fail
        go_quiet ((go_at_call 48; exact Calls.quiet_of (steps_q _ _ _ (H2.out.drewN _ _ _ _) HV.out)))
        go_wp2
        go_ret2
        exact ⟨rfl, below_q HB2.out _⟩

theorem leap_any (n : Int) (h : IsSch w g S A3 c3 A7 c7) (hv : VS S) (ht0 : 0 ≤ t) (ht1 : t ≤ 9000000000000000000) (hn0 : 0 < n) (hn1 : n ≤ 1000) :
    Calls Try.prog 80 #[.pointer (some ⟨g, 0, none⟩), .int .i64 t, .int .i64 n] w (R2 w (leapF S t n).1 (leapF S t n).2) := by
  unfold leapF
  by_cases h1 : S.waits = true ∧ t < S.at_ ∧ nxF S t = S.at_
  · rw [if_pos h1]
    exact leap_at w g S t n h hv ht0 ht1 h1.1 h1.2.1 h1.2.2
  · rw [if_neg h1]
    by_cases h2 : n = 1 ∧ S.waits = true ∧ 0 ≤ nxF S t ∧ nxF S t < S.at_
    · rw [if_pos h2]
      obtain ⟨rfl, hw, hx0, hx1⟩ := h2
      have := leap_jump w g S t h hv ht0 ht1 hw hx0 hx1
      split <;> simp_all
    · rw [if_neg h2]
      exact leap_on w g S t n h hv ht0 ht1 hn0 hn1 h1 h2
end

end Go.Proofs.Ytkbjelhmmcifhaa.CF
