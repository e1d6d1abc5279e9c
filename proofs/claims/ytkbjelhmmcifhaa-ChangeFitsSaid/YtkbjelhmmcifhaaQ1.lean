/- Walks: a pair's State and Next (bargateref17). The pair is one that may be (VS); the time is from 0 on, and no later than 9*10^18. -/
import Derived.Test.YtkbjelhmmcifhaaQ0
set_option linter.unusedVariables false
set_option linter.unusedSimpArgs false
namespace Go.Proofs.Ytkbjelhmmcifhaa.CF
open Go.RowKit Go.Proofs.YtkbjelhmmcifhaaW.PrintWords Go.Proofs.YtkbjelhmmcifhaaW.PrintLast Go.Proofs.YtkbjelhmmcifhaaW.PrintMore
open Go.Proofs.Ytkbjelhmmcifhaa.PChangeFits (S71 S33 k71 k33 z71 z33 rd_T71)

section
variable (w : World) (g : Nat) (S : Sch) {A3 : Option Addr} {c3 : Nat} {A7 : Option Addr} {c7 : Nat} (t : Int)

theorem pstate_any (h : IsPair w g S A3 c3 A7 c7) (hv : VS S) (ht0 : 0 ≤ t) (ht1 : t ≤ 9000000000000000000) :
    Calls Try.prog 50 #[.pointer (some ⟨g, 0, none⟩), .int .i64 t] w (R1 w (stF S t)) := by
  obtain ⟨c0, c1, c2, c3, c4, c5, c6, c7, c8, c9, c10⟩ := h.cs
  have H := Aside0.mk h
  have HV := Aside0.mk hv
  have hg := blk_lt h.blk
  rcases phases S t with hp | hp | hp | hp
  · rw [st_M hp]
    have hw := hp.1
    have hvm := Aside0.mk (hv.moved hw)
    have hd : decide (S.at_ ≤ t) = true := decide_eq_true hp.2
    rw [hw] at c9
    clear h hv hp hw
    go_enter Try.func50, Try.ntmps50
    go_wp2_with fail
    refine (rState_any (l := movedF S) hvm.out ht1 _ (by exact Kd.C_below H.out.ae.row (below_alloc (Below.refl _ _) _)) (by exact H.out.ae.cap)).mono ?_
    rintro e w2 ⟨rfl, hb⟩
    go_wp2
    go_ret
    exact ⟨rfl, below_step (below_alloc (Below.refl _ _) _) hb⟩
  · rw [st_T hp]
    obtain ⟨hw, hh, hlt, hnb, hne, _⟩ := tailOk_iff hp.1
    have hvo := hv.o hh
    have hin := from_in hvo (by omega)
    have hb0 := hvo.b0
    have hat := (hv.a hw).2.2
    have hlong : longF S = tailFrom S := by unfold longF; rw [if_pos hp.1]
    have hd : decide (S.at_ ≤ t) = false := decide_eq_false (by have := hp.2.2; omega)
    have hd1 : decide (0 ≤ tailFrom S) = true := decide_eq_true (by omega)
    have hd2 : decide (tailFrom S ≤ t) = true := decide_eq_true hp.2.1
    have hf0 : 0 ≤ tailFrom S := by omega
    have hf1 : tailFrom S ≤ 4611686018427387904 := by omega
    rw [hw] at c9
    rw [hh] at c8
    have HL := Aside0.mk hlong
    have HVO := Aside0.mk hvo
    clear h hv hp hw hh hlong hvo hne hnb hlt hin
    go_enter Try.func50, Try.ntmps50
    go_wp2_with fail
    refine (long_any _ _ _ H.out HV.out).mono ?_
    rintro e w1 ⟨rfl, hb⟩
    rw [HL.out]
    have H1 := Aside0.mk (H.out.below hb)
    obtain ⟨d0, d1, d2, d3, _, _, _, _, d8, _, _⟩ := H1.out.cs
    have HB := Aside0.mk hb
    clear hb
    go_wp2_with fail
    refine (rState_any HVO.out (by omega) _ (by exact H1.out.oe.row) H1.out.oe.cap).mono ?_
    rintro e w2 ⟨rfl, hb⟩
    go_wp2
    go_ret
    exact ⟨rfl, below_step HB.out hb⟩
  · rw [st_O hp]
    have hh := hp.1
    have hvo := hv.o hh
    have hb0 := hvo.b0
    have HVO := Aside0.mk hvo
    have hwd : S.waits = true → decide (S.at_ ≤ t) = false := fun hw => decide_eq_false (by have := hp.2.1 hw; omega)
    have hlong : longF S = -1 ∨ (longF S = tailFrom S ∧ 0 ≤ tailFrom S ∧ t < tailFrom S) := by
      unfold longF
      cases hf : tailOk S with
      | false => left; simp
      | true =>
        right
        obtain ⟨_, _, hlt, _⟩ := tailOk_iff hf
        have hin := from_in hvo (by omega)
        exact ⟨by simp, by omega, hp.2.2 hf⟩
    rw [hh] at c8
    obtain ⟨lf, hlf⟩ : ∃ lf, longF S = lf := ⟨_, rfl⟩
    rw [hlf] at hlong
    have HLF := Aside0.mk hlf
    have hlc : decide (0 ≤ lf) = false ∨ (decide (0 ≤ lf) = true ∧ decide (lf ≤ t) = false) := by
      rcases hlong with h | ⟨h1, h2, h3⟩
      · left; exact decide_eq_false (by omega)
      · right; exact ⟨decide_eq_true (by omega), decide_eq_false (by omega)⟩
    clear h hv hp hh hvo hlong hlf
    cases hw : S.waits
    · rw [hw] at c9
      clear hwd hw
      rcases hlc with hlc | ⟨hlc, hld⟩
      all_goals
        go_enter Try.func50, Try.ntmps50
        go_wp2_with fail
        refine (long_any _ _ _ H.out HV.out).mono ?_
        rintro e w1 ⟨rfl, hb⟩
        rw [HLF.out]
        have H1 := Aside0.mk (H.out.below hb)
        obtain ⟨d0, d1, d2, d3, _, _, _, _, d8, _, _⟩ := H1.out.cs
        have HB := Aside0.mk hb
        clear hb
        go_wp2_with fail
        refine (rState_any HVO.out ht1 _ (by exact H1.out.oe.row) H1.out.oe.cap).mono ?_
        rintro e w2 ⟨rfl, hb⟩
        go_wp2
        go_ret
        exact ⟨rfl, below_step HB.out hb⟩
    · rw [hw] at c9
      have hd := hwd hw
      clear hwd hw
      rcases hlc with hlc | ⟨hlc, hld⟩
      all_goals
        go_enter Try.func50, Try.ntmps50
        go_wp2_with fail
        refine (long_any _ _ _ H.out HV.out).mono ?_
        rintro e w1 ⟨rfl, hb⟩
        rw [HLF.out]
        have H1 := Aside0.mk (H.out.below hb)
        obtain ⟨d0, d1, d2, d3, _, _, _, _, d8, _, _⟩ := H1.out.cs
        have HB := Aside0.mk hb
        clear hb
        go_wp2_with fail
        refine (rState_any HVO.out ht1 _ (by exact H1.out.oe.row) H1.out.oe.cap).mono ?_
        rintro e w2 ⟨rfl, hb⟩
        go_wp2
        go_ret
        exact ⟨rfl, below_step HB.out hb⟩
  · rw [st_N hp]
    have hh := hp.1
    have hwd : S.waits = true → decide (S.at_ ≤ t) = false := fun hw => decide_eq_false (by have := hp.2 hw; omega)
    rw [hh] at c8
    clear h hv hp hh
    cases hw : S.waits
    all_goals
      rw [hw] at c9
      try (have hd := hwd hw)
      clear hwd hw
      go_enter Try.func50, Try.ntmps50
      go_wp2
      go_ret
      exact ⟨rfl, Below.refl _ _⟩
end

end Go.Proofs.Ytkbjelhmmcifhaa.CF
