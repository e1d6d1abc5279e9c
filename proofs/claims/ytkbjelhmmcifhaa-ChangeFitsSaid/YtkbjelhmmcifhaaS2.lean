/- Walks: a schedule's Next, steps and leap. The schedule is one that may be (VS); the time is from 0 on, and no later than 9*10^18. -/
import Derived.Test.YtkbjelhmmcifhaaS1
set_option linter.unusedVariables false
set_option linter.unusedSimpArgs false
namespace Go.Proofs.Ytkbjelhmmcifhaa.CF
open Go.RowKit Go.Proofs.YtkbjelhmmcifhaaW.PrintWords Go.Proofs.YtkbjelhmmcifhaaW.PrintLast Go.Proofs.YtkbjelhmmcifhaaW.PrintMore
open Go.Proofs.Ytkbjelhmmcifhaa.PChangeFits (S71 S33 k71 k33 z71 z33 rd_T71)

theorem gNext_gt {l : S33} (hv : VL l) (t : Int) : t < gNext l t := by
  unfold gNext
  have := gatL_left hv t
  split <;> omega

theorem gNext_le {l : S33} (hv : VL l) (t : Int) : gNext l t ≤ t + l.f1 ∨ gNext l t = l.f0 := by
  unfold gNext
  have := gatL_left hv t
  have := into_in hv t
  split <;> omega

section
variable (w : World) (g : Nat) (S : Sch) {A3 : Option Addr} {c3 : Nat} {A7 : Option Addr} {c7 : Nat} (t : Int)

theorem next_moved (h : IsSch w g S A3 c3 A7 c7) (hv : VS S) (ht1 : t ≤ 9000000000000000000) (hw : S.waits = true) (ha : S.at_ ≤ t) :
    Calls Try.prog 38 #[.pointer (some ⟨g, 0, none⟩), .int .i64 t] w (R1 w (gNext (movedF S) t)) := by
  have hvm := Aside0.mk (hv.moved hw)
  obtain ⟨c0, c1, c2, c3, c4, c5, c6, c7, c8, c9, c10, c11, c12⟩ := h.cs
  have H := Aside0.mk h
  clear c0 c1 c2 c3 c4 c5 c6 c7 c8 c11 c12 h hv
  rw [hw] at c9
  have hd : decide (S.at_ ≤ t) = true := decide_eq_true ha
  clear ha
  go_enter Try.func38, Try.ntmps38
  go_wp2_with fail
  refine (moved_any _ _ _ _ _ _ _ H.out).mono ?_
  rintro e w1 ⟨rfl, hb⟩
  have HB := Aside0.mk hb
  clear hb
  go_wp2_with fail
  refine (gNext_any (l := movedF S) hvm.out ht1 _ (by exact (H.out.below HB.out).ae.row) (by exact H.out.ae.cap)).mono ?_
  rintro e w2 ⟨rfl, hb⟩
  go_wp2
  go_ret
  exact ⟨rfl, below_step HB.out hb⟩

/-- no longer cycle, nothing in force. -/
theorem next_none (h : IsSch w g S A3 c3 A7 c7) (hv : VS S) (hw : S.waits = true → t < S.at_) (hf : tailOk S = false) (hh : S.has = false) :
    Calls Try.prog 38 #[.pointer (some ⟨g, 0, none⟩), .int .i64 t] w (R1 w (if S.waits = true then S.at_ else -1)) := by
  obtain ⟨c0, c1, c2, c3, c4, c5, c6, c7, c8, c9, c10, c11, c12⟩ := h.cs
  have H := Aside0.mk h
  have HV := Aside0.mk hv
  have HF := Aside0.mk hf
  clear c0 c1 c2 c3 c4 c5 c6 c7 c8 c11 c12 h hv hf
  cases hw1 : S.waits
  all_goals
    rw [hw1] at c9
    try (have hd : decide (S.at_ ≤ t) = false := decide_eq_false (by have := hw hw1; omega))
    have HW1 := Aside0.mk hw1
    have HH := Aside0.mk hh
    clear hw hw1 hh
    go_enter Try.func38, Try.ntmps38
    go_wp2_with fail
    refine (tail_no _ _ _ H.out HV.out HF.out).mono ?_
    rintro e w1 ⟨rfl, hb⟩
    have H1 := Aside0.mk (H.out.below hb)
    obtain ⟨_, _, _, _, _, _, _, _, d8, d9, d10, _, _⟩ := H1.out.cs
    rw [HH.out] at d8
    rw [HW1.out] at d9
    have HB := Aside0.mk hb
    clear hb
    go_wp2_with fail
    go_ret
    exact ⟨rfl, HB.out⟩

theorem next_has (h : IsSch w g S A3 c3 A7 c7) (hv : VS S) (ht0 : 0 ≤ t) (ht1 : t ≤ 9000000000000000000) (hw : S.waits = true → t < S.at_) (hf : tailOk S = false) (hh : S.has = true) :
    Calls Try.prog 38 #[.pointer (some ⟨g, 0, none⟩), .int .i64 t] w (R1 w (if S.waits = true ∧ S.at_ < gNext S.o t then S.at_ else gNext S.o t)) := by
  obtain ⟨c0, c1, c2, c3, c4, c5, c6, c7, c8, c9, c10, c11, c12⟩ := h.cs
  have hgt := gNext_gt (hv.o hh) t
  have H := Aside0.mk h
  have HV := Aside0.mk hv
  have HF := Aside0.mk hf
  clear c0 c1 c2 c3 c4 c5 c6 c7 c8 c11 c12 h hv hf
  have hn : decide (gNext S.o t < 0) = false := decide_eq_false (by omega)
  clear hgt
  cases hw1 : S.waits
  · rw [hw1] at c9
    rw [if_neg (by simp)]
    have HW1 := Aside0.mk hw1
    have HH := Aside0.mk hh
    clear hw hw1 hh
    go_enter Try.func38, Try.ntmps38
    go_wp2_with fail
    refine (tail_no _ _ _ H.out HV.out HF.out).mono ?_
    rintro e w1 ⟨rfl, hb⟩
    have H1 := Aside0.mk (H.out.below hb)
    obtain ⟨d0, d1, d2, d3, _, _, _, _, d8, d9, d10, _, _⟩ := H1.out.cs
    rw [HH.out] at d8
    have HB := Aside0.mk hb
    clear hb
    go_wp2_with fail
    refine (gNext_any (HV.out.o HH.out) ht1 _ (by exact H1.out.oe.row) H1.out.oe.cap).mono ?_
    rintro e w2 ⟨rfl, hb⟩
    have H2 := Aside0.mk (H1.out.below hb)
    obtain ⟨_, _, _, _, _, _, _, _, f8, f9, f10, _, _⟩ := H2.out.cs
    rw [HW1.out] at f9
    have HB2 := Aside0.mk (below_step HB.out hb)
    clear hb
    go_wp2_with fail
    go_ret
    exact ⟨rfl, HB2.out⟩
  · have hd : decide (S.at_ ≤ t) = false := decide_eq_false (by have := hw hw1; omega)
    rw [hw1] at c9
    have HW1 := Aside0.mk hw1
    have HH := Aside0.mk hh
    clear hw hw1 hh
    by_cases hl : S.at_ < gNext S.o t
    all_goals
      first | (have hl' : decide (S.at_ < gNext S.o t) = true := decide_eq_true hl) | (have hl' : decide (S.at_ < gNext S.o t) = false := decide_eq_false hl)
      simp only [hl, and_self, and_false, if_true, if_false, Bool.false_eq_true]
      clear hl
      go_enter Try.func38, Try.ntmps38
      go_wp2_with fail
      refine (tail_no _ _ _ H.out HV.out HF.out).mono ?_
      rintro e w1 ⟨rfl, hb⟩
      have H1 := Aside0.mk (H.out.below hb)
      obtain ⟨d0, d1, d2, d3, _, _, _, _, d8, d9, d10, _, _⟩ := H1.out.cs
      rw [HH.out] at d8
      have HB := Aside0.mk hb
      clear hb
      go_wp2_with fail
      refine (gNext_any (HV.out.o HH.out) ht1 _ (by exact H1.out.oe.row) H1.out.oe.cap).mono ?_
      rintro e w2 ⟨rfl, hb⟩
      have H2 := Aside0.mk (H1.out.below hb)
      obtain ⟨_, _, _, _, _, _, _, _, f8, f9, f10, _, _⟩ := H2.out.cs
      rw [HW1.out] at f9
      have HB2 := Aside0.mk (below_step HB.out hb)
      clear hb
      go_wp2_with fail
      go_ret
      exact ⟨rfl, HB2.out⟩

theorem next_late (h : IsSch w g S A3 c3 A7 c7) (hv : VS S) (ha : t < S.at_) (hf : tailOk S = true) (hle : tailFrom S ≤ t) :
    Calls Try.prog 38 #[.pointer (some ⟨g, 0, none⟩), .int .i64 t] w (R1 w S.at_) := by
  obtain ⟨hw, hh, _⟩ := tailOk_iff hf
  obtain ⟨c0, c1, c2, c3, c4, c5, c6, c7, c8, c9, c10, c11, c12⟩ := h.cs
  have H := Aside0.mk h
  have HV := Aside0.mk hv
  have HF := Aside0.mk hf
  have HW := Aside0.mk hw
  clear c0 c1 c2 c3 c4 c5 c6 c7 c8 c11 c12 h hv hf
  rw [hw] at c9
  have hd : decide (S.at_ ≤ t) = false := decide_eq_false (by omega)
  have hd2 : decide (tailFrom S ≤ t) = true := decide_eq_true hle
  clear ha hle hw hh
  go_enter Try.func38, Try.ntmps38
  go_wp2_with fail
  refine (tail_yes _ _ _ H.out HV.out HF.out).mono ?_
  rintro e w1 ⟨rfl, hb⟩
  have H1 := Aside0.mk (H.out.below hb)
  obtain ⟨_, _, _, _, _, _, _, _, _, d9, d10, _, _⟩ := H1.out.cs
  rw [HW.out] at d9
  have HB := Aside0.mk hb
  clear hb
  go_wp2_with fail
  go_ret
  exact ⟨rfl, HB.out⟩

theorem next_tail (h : IsSch w g S A3 c3 A7 c7) (hv : VS S) (ht0 : 0 ≤ t) (ha : t < S.at_) (hf : tailOk S = true) (hle : t < tailFrom S) :
    Calls Try.prog 38 #[.pointer (some ⟨g, 0, none⟩), .int .i64 t] w (R1 w (if tailFrom S < gNext S.o t then tailFrom S else if S.at_ < gNext S.o t then S.at_ else gNext S.o t)) := by
  obtain ⟨hw, hh, hlt, _⟩ := tailOk_iff hf
  have hin := from_in (hv.o hh) (by omega)
  obtain ⟨_, ha0, ha1⟩ := hv.a hw
  obtain ⟨c0, c1, c2, c3, c4, c5, c6, c7, c8, c9, c10, c11, c12⟩ := h.cs
  have hgt := gNext_gt (hv.o hh) t
  have ht1 : t ≤ 9000000000000000000 := by omega
  have H := Aside0.mk h
  have HV := Aside0.mk hv
  have HF := Aside0.mk hf
  have HW := Aside0.mk hw
  have HH := Aside0.mk hh
  clear c0 c1 c2 c3 c4 c5 c6 c7 c8 c11 c12 h hv hf
  rw [hw] at c9
  have hd : decide (S.at_ ≤ t) = false := decide_eq_false (by omega)
  have hd2 : decide (tailFrom S ≤ t) = false := decide_eq_false (by omega)
  have hn : decide (gNext S.o t < 0) = false := decide_eq_false (by omega)
  have hn2 : decide (tailFrom S < 0) = false := decide_eq_false (by omega)
  have hn3 : decide (S.at_ < tailFrom S) = false := decide_eq_false (by omega)
  clear hle hw hh hgt hin
  by_cases hl : tailFrom S < gNext S.o t
  · have hl' : decide (tailFrom S < gNext S.o t) = true := decide_eq_true hl
    rw [if_pos hl]
    clear hl
    go_enter Try.func38, Try.ntmps38
    go_wp2_with fail
    refine (tail_yes _ _ _ H.out HV.out HF.out).mono ?_
    rintro e w1 ⟨rfl, hb⟩
    have H1 := Aside0.mk (H.out.below hb)
    obtain ⟨d0, d1, d2, d3, _, _, _, _, d8, d9, d10, _, _⟩ := H1.out.cs
    rw [HH.out] at d8
    have HB := Aside0.mk hb
    clear hb
    go_wp2_with fail
    refine (gNext_any (HV.out.o HH.out) ht1 _ (by exact H1.out.oe.row) H1.out.oe.cap).mono ?_
    rintro e w2 ⟨rfl, hb⟩
    have H2 := Aside0.mk (H1.out.below hb)
    obtain ⟨_, _, _, _, _, _, _, _, f8, f9, f10, _, _⟩ := H2.out.cs
    rw [HW.out] at f9
    have HB2 := Aside0.mk (below_step HB.out hb)
    clear hb
    go_wp2_with fail
    go_ret
    exact ⟨rfl, HB2.out⟩
  · have hl' : decide (tailFrom S < gNext S.o t) = false := decide_eq_false hl
    rw [if_neg hl]
    clear hl
    by_cases hl : S.at_ < gNext S.o t
    all_goals
      first | (have hl2 : decide (S.at_ < gNext S.o t) = true := decide_eq_true hl) | (have hl2 : decide (S.at_ < gNext S.o t) = false := decide_eq_false hl)
      first | rw [if_pos hl] | rw [if_neg hl]
      clear hl
      go_enter Try.func38, Try.ntmps38
      go_wp2_with fail
      refine (tail_yes _ _ _ H.out HV.out HF.out).mono ?_
      rintro e w1 ⟨rfl, hb⟩
      have H1 := Aside0.mk (H.out.below hb)
      obtain ⟨d0, d1, d2, d3, _, _, _, _, d8, d9, d10, _, _⟩ := H1.out.cs
      rw [HH.out] at d8
      have HB := Aside0.mk hb
      clear hb
      go_wp2_with fail
      refine (gNext_any (HV.out.o HH.out) ht1 _ (by exact H1.out.oe.row) H1.out.oe.cap).mono ?_
      rintro e w2 ⟨rfl, hb⟩
      have H2 := Aside0.mk (H1.out.below hb)
      obtain ⟨_, _, _, _, _, _, _, _, f8, f9, f10, _, _⟩ := H2.out.cs
      rw [HW.out] at f9
      have HB2 := Aside0.mk (below_step HB.out hb)
      clear hb
      go_wp2_with fail
      go_ret
      exact ⟨rfl, HB2.out⟩

theorem next_any (h : IsSch w g S A3 c3 A7 c7) (hv : VS S) (ht0 : 0 ≤ t) (ht1 : t ≤ 9000000000000000000) :
    Calls Try.prog 38 #[.pointer (some ⟨g, 0, none⟩), .int .i64 t] w (R1 w (nxF S t)) := by
  unfold nxF
  by_cases h1 : S.waits = true ∧ S.at_ ≤ t
  · rw [if_pos h1]; exact next_moved w g S t h hv ht1 h1.1 h1.2
  · rw [if_neg h1]
    have h2 : S.waits = true → t < S.at_ := fun hw => by
      have : ¬ S.at_ ≤ t := fun hx => h1 ⟨hw, hx⟩
      omega
    cases hf : tailOk S with
    | false =>
      unfold nx0
      rw [hf]
      cases hh : S.has with
      | false =>
        have := next_none w g S t h hv h2 hf hh
        simpa using this
      | true =>
        have := next_has w g S t h hv ht0 ht1 h2 hf hh
        have hgt := gNext_gt (hv.o hh) t
        have hn : ¬ gNext S.o t < 0 := by omega
        simpa [hn] using this
    | true =>
      obtain ⟨hw, hh, hlt, _⟩ := tailOk_iff hf
      obtain ⟨_, ha0, ha1⟩ := hv.a hw
      have ha := h2 hw
      unfold nx0
      rw [hf, hw, hh]
      by_cases hle : tailFrom S ≤ t
      · have := next_late w g S t h hv ha hf hle
        simpa [hle] using this
      · have := next_tail w g S t h hv ht0 ha hf (by omega)
        have hgt := gNext_gt (hv.o hh) t
        have hin := from_in (hv.o hh) (by omega)
        have hn : ¬ gNext S.o t < 0 := by omega
        have hn2 : ¬ tailFrom S < 0 := by omega
        have hn3 : ¬ S.at_ < tailFrom S := by omega
        by_cases hl : tailFrom S < gNext S.o t
        · simpa [hle, hl, hn, hn2, hn3] using this
        · simpa [hle, hl, hn, hn2, hn3] using this
end

end Go.Proofs.Ytkbjelhmmcifhaa.CF
