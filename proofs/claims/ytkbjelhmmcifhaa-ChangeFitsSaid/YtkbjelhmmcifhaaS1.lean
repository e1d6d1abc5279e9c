/- Walks: a schedule's State and Next. The schedule is one that may be (VS); the time is from 0 on, and no later than 9*10^18. -/
import Derived.Test.YtkbjelhmmcifhaaS0
set_option linter.unusedVariables false
set_option linter.unusedSimpArgs false
namespace Go.Proofs.Ytkbjelhmmcifhaa.CF
open Go.RowKit Go.Proofs.YtkbjelhmmcifhaaW.PrintWords Go.Proofs.YtkbjelhmmcifhaaW.PrintLast Go.Proofs.YtkbjelhmmcifhaaW.PrintMore
open Go.Proofs.Ytkbjelhmmcifhaa.PChangeFits (S71 S33 k71 k33 z71 z33 rd_T71)

def R1 (w : World) (a : Int) (e : Ending) (w' : World) : Prop := e = .returned (.int .i64 a) ∧ Below w.heap.size w w'

section
variable (w : World) (g : Nat) (S : Sch) {A3 : Option Addr} {c3 : Nat} {A7 : Option Addr} {c7 : Nat} (t : Int)

theorem state_moved (h : IsSch w g S A3 c3 A7 c7) (hv : VS S) (ht1 : t ≤ 9000000000000000000) (hw : S.waits = true) (ha : S.at_ ≤ t) :
    Calls Try.prog 37 #[.pointer (some ⟨g, 0, none⟩), .int .i64 t] w (R1 w (gState (movedF S) t)) := by
  have hvm := Aside0.mk (hv.moved hw)
  obtain ⟨c0, c1, c2, c3, c4, c5, c6, c7, c8, c9, c10, c11, c12⟩ := h.cs
  have H := Aside0.mk h
  clear c0 c1 c2 c3 c4 c5 c6 c7 c8 c11 c12 h hv
  rw [hw] at c9
  have hd : decide (S.at_ ≤ t) = true := decide_eq_true ha
  clear ha
  go_enter Try.func37, Try.ntmps37
  go_wp2_with fail
  refine (moved_any _ _ _ _ _ _ _ H.out).mono ?_
  rintro e w1 ⟨rfl, hb⟩
  have HB := Aside0.mk hb
  clear hb
  go_wp2_with fail
  refine (gState_any (l := movedF S) hvm.out ht1 _ (by exact (H.out.below HB.out).ae.row) (by exact H.out.ae.cap)).mono ?_
  rintro e w2 ⟨rfl, hb⟩
  go_wp2
  go_ret
  exact ⟨rfl, below_step HB.out hb⟩

theorem state_no (h : IsSch w g S A3 c3 A7 c7) (hv : VS S) (ht1 : t ≤ 9000000000000000000) (hw : S.waits = false ∨ S.waits = true ∧ t < S.at_) (hf : tailOk S = false) :
    Calls Try.prog 37 #[.pointer (some ⟨g, 0, none⟩), .int .i64 t] w (R1 w (if S.has = true then gState S.o t else 255)) := by
  obtain ⟨c0, c1, c2, c3, c4, c5, c6, c7, c8, c9, c10, c11, c12⟩ := h.cs
  have H := Aside0.mk h
  have HV := Aside0.mk hv
  have HF := Aside0.mk hf
  clear c0 c1 c2 c3 c4 c5 c6 c7 c8 c11 c12 h hv hf
  have hd : S.waits = true → decide (S.at_ ≤ t) = false := fun hw' => decide_eq_false (by rcases hw with h | h <;> simp_all)
  rcases hw with hw | ⟨hw, _⟩
  all_goals
    rw [hw] at c9
    try (have hd' := hd hw)
    clear hd
    cases hh : S.has
    all_goals
      go_enter Try.func37, Try.ntmps37
      go_wp2_with fail
      refine (tail_no _ _ _ H.out HV.out HF.out).mono ?_
      rintro e w1 ⟨rfl, hb⟩
      have H1 := Aside0.mk (H.out.below hb)
      obtain ⟨d0, d1, d2, d3, _, _, _, _, d8, _, _, _, _⟩ := H1.out.cs
      rw [hh] at d8
      have HB := Aside0.mk hb
      clear hb
      have hh' := Aside0.mk hh
      clear hh
      go_wp2_with fail
  · go_ret
    exact ⟨rfl, HB.out⟩
  · refine (gState_any (HV.out.o hh'.out) ht1 _ (by exact H1.out.oe.row) H1.out.oe.cap).mono ?_
    rintro e w2 ⟨rfl, hb⟩
    go_wp2
    go_ret
    exact ⟨rfl, below_step HB.out hb⟩
  · go_ret
    exact ⟨rfl, HB.out⟩
  · refine (gState_any (HV.out.o hh'.out) ht1 _ (by exact H1.out.oe.row) H1.out.oe.cap).mono ?_
    rintro e w2 ⟨rfl, hb⟩
    go_wp2
    go_ret
    exact ⟨rfl, below_step HB.out hb⟩

theorem state_yes (h : IsSch w g S A3 c3 A7 c7) (hv : VS S) (ht1 : t ≤ 9000000000000000000) (ha : t < S.at_) (hf : tailOk S = true) :
    Calls Try.prog 37 #[.pointer (some ⟨g, 0, none⟩), .int .i64 t] w (R1 w (if tailFrom S ≤ t then gState S.o (tailFrom S - 1) else gState S.o t)) := by
  obtain ⟨hw, hh, _⟩ := tailOk_iff hf
  obtain ⟨c0, c1, c2, c3, c4, c5, c6, c7, c8, c9, c10, c11, c12⟩ := h.cs
  have H := Aside0.mk h
  have HV := Aside0.mk hv
  have HF := Aside0.mk hf
  have HH := Aside0.mk hh
  clear c0 c1 c2 c3 c4 c5 c6 c7 c8 c11 c12 h hv hf
  have hd : decide (S.at_ ≤ t) = false := decide_eq_false (by omega)
  rw [hw] at c9
  clear hw
  by_cases hle : tailFrom S ≤ t
  all_goals
    first | (have hd2 : decide (tailFrom S ≤ t) = true := decide_eq_true hle) | (have hd2 : decide (tailFrom S ≤ t) = false := decide_eq_false hle)
    first | rw [if_pos hle] | rw [if_neg hle]
    clear hle ha
    go_enter Try.func37, Try.ntmps37
    go_wp2_with fail
    refine (tail_yes _ _ _ H.out HV.out HF.out).mono ?_
    rintro e w1 ⟨rfl, hb⟩
    have H1 := Aside0.mk (H.out.below hb)
    obtain ⟨d0, d1, d2, d3, _, _, _, _, d8, _, _, _, _⟩ := H1.out.cs
    rw [hh] at d8
    have HB := Aside0.mk hb
    clear hb hh
    go_wp2_with fail
  · go_ret
    exact ⟨rfl, HB.out⟩
  · refine (gState_any (HV.out.o HH.out) ht1 _ (by exact H1.out.oe.row) H1.out.oe.cap).mono ?_
    rintro e w2 ⟨rfl, hb⟩
    go_wp2
    go_ret
    exact ⟨rfl, below_step HB.out hb⟩

theorem state_any (h : IsSch w g S A3 c3 A7 c7) (hv : VS S) (ht1 : t ≤ 9000000000000000000) :
    Calls Try.prog 37 #[.pointer (some ⟨g, 0, none⟩), .int .i64 t] w (R1 w (stF S t)) := by
  unfold stF
  by_cases h1 : S.waits = true ∧ S.at_ ≤ t
  · rw [if_pos h1]; exact state_moved w g S t h hv ht1 h1.1 h1.2
  · rw [if_neg h1]
    have h2 : S.waits = false ∨ S.waits = true ∧ t < S.at_ := by
      cases hw : S.waits with
      | false => exact .inl rfl
      | true => exact .inr ⟨rfl, by rw [hw] at h1; simp at h1; exact h1⟩
    cases hf : tailOk S with
    | false =>
      rw [if_neg (by simp)]
      exact state_no w g S t h hv ht1 h2 hf
    | true =>
      obtain ⟨hw, hh, _⟩ := tailOk_iff hf
      have ha : t < S.at_ := by rcases h2 with h | h; (rw [hw] at h; cases h); exact h.2
      have := state_yes w g S t h hv ht1 ha hf
      rw [if_pos hh]
      simpa using this
end

end Go.Proofs.Ytkbjelhmmcifhaa.CF
