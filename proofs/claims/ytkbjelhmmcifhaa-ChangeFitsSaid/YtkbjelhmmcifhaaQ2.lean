/- Walks: a pair's Next (bargateref17). The pair is one that may be (VS); the time is from 0 on, and no later than 9*10^18. -/
import Derived.Test.YtkbjelhmmcifhaaQ1
set_option linter.unusedVariables false
set_option linter.unusedSimpArgs false
namespace Go.Proofs.Ytkbjelhmmcifhaa.CF
open Go.RowKit Go.Proofs.YtkbjelhmmcifhaaW.PrintWords Go.Proofs.YtkbjelhmmcifhaaW.PrintLast Go.Proofs.YtkbjelhmmcifhaaW.PrintMore
open Go.Proofs.Ytkbjelhmmcifhaa.PChangeFits (S71 S33 k71 k33 z71 z33 rd_T71)

section
variable (w : World) (g : Nat) (S : Sch) {A3 : Option Addr} {c3 : Nat} {A7 : Option Addr} {c7 : Nat} (t : Int)

theorem pnext_M (h : IsPair w g S A3 c3 A7 c7) (hv : VS S) (ht1 : t ≤ 9000000000000000000) (hp : PM S t) :
    Calls Try.prog 49 #[.pointer (some ⟨g, 0, none⟩), .int .i64 t] w (R1 w (gNext (movedF S) t)) := by
  obtain ⟨c0, c1, c2, c3, c4, c5, c6, c7, c8, c9, c10⟩ := h.cs
  have H := Aside0.mk h
  have hg := blk_lt h.blk
  have hw := hp.1
  have hvm := Aside0.mk (hv.moved hw)
  have hd : decide (S.at_ ≤ t) = true := decide_eq_true hp.2
  rw [hw] at c9
  clear h hv hp hw
  go_enter Try.func49, Try.ntmps49
  go_wp2_with fail
  refine (rNext_any (l := movedF S) hvm.out ht1 _ (by exact Kd.C_below H.out.ae.row (below_alloc (Below.refl _ _) _)) (by exact H.out.ae.cap)).mono ?_
  rintro e w2 ⟨rfl, hb⟩
  go_wp2
  go_ret
  exact ⟨rfl, below_step (below_alloc (Below.refl _ _) _) hb⟩

theorem pnext_T (h : IsPair w g S A3 c3 A7 c7) (hv : VS S) (hp : PT S t) :
    Calls Try.prog 49 #[.pointer (some ⟨g, 0, none⟩), .int .i64 t] w (R1 w S.at_) := by
  obtain ⟨c0, c1, c2, c3, c4, c5, c6, c7, c8, c9, c10⟩ := h.cs
  have H := Aside0.mk h
  have HV := Aside0.mk hv
  obtain ⟨hw, hh, hlt, hnb, hne, _⟩ := tailOk_iff hp.1
  have hin := from_in (hv.o hh) (by omega)
  have hb0 := (hv.o hh).b0
  have HLF : Aside0 (longF S = tailFrom S) := ⟨by unfold longF; rw [if_pos hp.1]⟩
  have hd : decide (S.at_ ≤ t) = false := decide_eq_false (by have := hp.2.2; omega)
  have hd1 : decide (tailFrom S < 0) = false := decide_eq_false (by omega)
  have hd2 : decide (t < tailFrom S) = false := decide_eq_false (by have := hp.2.1; omega)
  have hd3 : decide (0 ≤ tailFrom S) = true := decide_eq_true (by omega)
  have hd4 : decide (tailFrom S < -1) = false := decide_eq_false (by omega)
  have HH := Aside0.mk hh
  have HW := Aside0.mk hw
  rw [hw] at c9
  clear h hv hp hw hh hne hnb hlt hin
  go_enter Try.func49, Try.ntmps49
  go_wp2_with fail
  refine (long_any _ _ _ H.out HV.out).mono ?_
  rintro e w1 ⟨rfl, hb⟩
  rw [HLF.out]
  have H1 := Aside0.mk (H.out.below hb)
  obtain ⟨d0, d1, d2, d3, _, _, _, _, d8, d9, d10⟩ := H1.out.cs
  rw [HH.out] at d8
  rw [HW.out] at d9
  have HB := Aside0.mk hb
  clear hb
  go_wp2_with fail
  go_ret
  exact ⟨rfl, HB.out⟩

theorem pnext_free (h : IsPair w g S A3 c3 A7 c7) (hv : VS S) (ht0 : 0 ≤ t) (ht1 : t ≤ 9000000000000000000) (hh : S.has = true) (hw : S.waits = false) :
    Calls Try.prog 49 #[.pointer (some ⟨g, 0, none⟩), .int .i64 t] w (R1 w (gNext S.o t)) := by
  obtain ⟨c0, c1, c2, c3, c4, c5, c6, c7, c8, c9, c10⟩ := h.cs
  have H := Aside0.mk h
  have HV := Aside0.mk hv
  have HVO := Aside0.mk (hv.o hh)
  have HLF : Aside0 (longF S = -1) := ⟨by unfold longF tailOk; rw [hw]; simp⟩
  have HH := Aside0.mk hh
  have HW := Aside0.mk hw
  rw [hw] at c9
  clear h hv hw hh
  go_enter Try.func49, Try.ntmps49
  go_wp2_with fail
  refine (long_any _ _ _ H.out HV.out).mono ?_
  rintro e w1 ⟨rfl, hb⟩
  rw [HLF.out]
  have H1 := Aside0.mk (H.out.below hb)
  obtain ⟨d0, d1, d2, d3, _, _, _, _, d8, d9, d10⟩ := H1.out.cs
  rw [HH.out] at d8
  rw [HW.out] at d9
  have HB := Aside0.mk hb
  clear hb
  go_wp2_with fail
  refine (rNext_any HVO.out ht1 _ (by exact H1.out.oe.row) H1.out.oe.cap).mono ?_
  rintro e w2 ⟨rfl, hb⟩
  have H2 := Aside0.mk (H1.out.below hb)
  obtain ⟨_, _, _, _, _, _, _, _, f8, f9, f10⟩ := H2.out.cs
  rw [HW.out] at f9
  have HB2 := Aside0.mk (below_step HB.out hb)
  clear hb
  go_wp2
  go_ret
  exact ⟨rfl, HB2.out⟩

theorem pnext_waits (h : IsPair w g S A3 c3 A7 c7) (hv : VS S) (ht0 : 0 ≤ t) (ht1 : t ≤ 9000000000000000000) (hh : S.has = true) (hw : S.waits = true) (ha : t < S.at_) (hf : tailOk S = false) :
    Calls Try.prog 49 #[.pointer (some ⟨g, 0, none⟩), .int .i64 t] w (R1 w (if S.at_ < gNext S.o t then S.at_ else gNext S.o t)) := by
  obtain ⟨c0, c1, c2, c3, c4, c5, c6, c7, c8, c9, c10⟩ := h.cs
  have H := Aside0.mk h
  have HV := Aside0.mk hv
  have HVO := Aside0.mk (hv.o hh)
  have hgt := gNext_gt (hv.o hh) t
  have HLF : Aside0 (longF S = -1) := ⟨by unfold longF; rw [hf]; simp⟩
  have hd : decide (S.at_ ≤ t) = false := decide_eq_false (by omega)
  have hn : decide (gNext S.o t < 0) = false := decide_eq_false (by omega)
  have HH := Aside0.mk hh
  have HW := Aside0.mk hw
  rw [hw] at c9
  clear h hv hw hh hf hgt
  by_cases hl : S.at_ < gNext S.o t
  · have hl' : decide (S.at_ < gNext S.o t) = true := decide_eq_true hl
    rw [if_pos hl]
    clear hl
    go_enter Try.func49, Try.ntmps49
    go_wp2_with fail
    refine (long_any _ _ _ H.out HV.out).mono ?_
    rintro e w1 ⟨rfl, hb⟩
    rw [HLF.out]
    have H1 := Aside0.mk (H.out.below hb)
    obtain ⟨d0, d1, d2, d3, _, _, _, _, d8, d9, d10⟩ := H1.out.cs
    rw [HH.out] at d8
    rw [HW.out] at d9
    have HB := Aside0.mk hb
    clear hb
    go_wp2_with fail
    refine (rNext_any HVO.out ht1 _ (by exact H1.out.oe.row) H1.out.oe.cap).mono ?_
    rintro e w2 ⟨rfl, hb⟩
    have H2 := Aside0.mk (H1.out.below hb)
    obtain ⟨_, _, _, _, _, _, _, _, f8, f9, f10⟩ := H2.out.cs
    rw [HW.out] at f9
    have HB2 := Aside0.mk (below_step HB.out hb)
    clear hb
    go_wp2
    go_ret
    exact ⟨rfl, HB2.out⟩
  · have hl' : decide (S.at_ < gNext S.o t) = false := decide_eq_false hl
    rw [if_neg hl]
    clear hl
    go_enter Try.func49, Try.ntmps49
    go_wp2_with fail
    refine (long_any _ _ _ H.out HV.out).mono ?_
    rintro e w1 ⟨rfl, hb⟩
    rw [HLF.out]
    have H1 := Aside0.mk (H.out.below hb)
    obtain ⟨d0, d1, d2, d3, _, _, _, _, d8, d9, d10⟩ := H1.out.cs
    rw [HH.out] at d8
    rw [HW.out] at d9
    have HB := Aside0.mk hb
    clear hb
    go_wp2_with fail
    refine (rNext_any HVO.out ht1 _ (by exact H1.out.oe.row) H1.out.oe.cap).mono ?_
    rintro e w2 ⟨rfl, hb⟩
    have H2 := Aside0.mk (H1.out.below hb)
    obtain ⟨_, _, _, _, _, _, _, _, f8, f9, f10⟩ := H2.out.cs
    rw [HW.out] at f9
    have HB2 := Aside0.mk (below_step HB.out hb)
    clear hb
    go_wp2
    go_ret
    exact ⟨rfl, HB2.out⟩

theorem pnext_tail (h : IsPair w g S A3 c3 A7 c7) (hv : VS S) (ht0 : 0 ≤ t) (ht1 : t ≤ 9000000000000000000) (hf : tailOk S = true) (hlt2 : t < tailFrom S) :
    Calls Try.prog 49 #[.pointer (some ⟨g, 0, none⟩), .int .i64 t] w (R1 w (if tailFrom S < gNext S.o t then tailFrom S else gNext S.o t)) := by
  obtain ⟨c0, c1, c2, c3, c4, c5, c6, c7, c8, c9, c10⟩ := h.cs
  have H := Aside0.mk h
  have HV := Aside0.mk hv
  obtain ⟨hw, hh, hlt, hnb, hne, _⟩ := tailOk_iff hf
  have hin := from_in (hv.o hh) (by omega)
  have hb0 := (hv.o hh).b0
  have HVO := Aside0.mk (hv.o hh)
  have hgt := gNext_gt (hv.o hh) t
  have HLF : Aside0 (longF S = tailFrom S) := ⟨by unfold longF; rw [if_pos hf]⟩
  have hd : decide (S.at_ ≤ t) = false := decide_eq_false (by omega)
  have hd1 : decide (tailFrom S < 0) = false := decide_eq_false (by omega)
  have hd2 : decide (t < tailFrom S) = true := decide_eq_true (by omega)
  have hd3 : decide (0 ≤ tailFrom S) = true := decide_eq_true (by omega)
  have hn : decide (gNext S.o t < 0) = false := decide_eq_false (by omega)
  have hn3 : decide (S.at_ < tailFrom S) = false := decide_eq_false (by omega)
  have HH := Aside0.mk hh
  have HW := Aside0.mk hw
  rw [hw] at c9
  by_cases hl : tailFrom S < gNext S.o t
  · have hl' : decide (tailFrom S < gNext S.o t) = true := decide_eq_true hl
    rw [if_pos hl]
    clear h hv hw hh hf hgt hl hne hnb hlt hin
    go_enter Try.func49, Try.ntmps49
    go_wp2_with fail
    refine (long_any _ _ _ H.out HV.out).mono ?_
    rintro e w1 ⟨rfl, hb⟩
    rw [HLF.out]
    have H1 := Aside0.mk (H.out.below hb)
    obtain ⟨d0, d1, d2, d3, _, _, _, _, d8, d9, d10⟩ := H1.out.cs
    rw [HH.out] at d8
    rw [HW.out] at d9
    have HB := Aside0.mk hb
    clear hb
    go_wp2_with fail
    refine (rNext_any HVO.out ht1 _ (by exact H1.out.oe.row) H1.out.oe.cap).mono ?_
    rintro e w2 ⟨rfl, hb⟩
    have H2 := Aside0.mk (H1.out.below hb)
    obtain ⟨_, _, _, _, _, _, _, _, f8, f9, f10⟩ := H2.out.cs
    rw [HW.out] at f9
    have HB2 := Aside0.mk (below_step HB.out hb)
    clear hb
    go_wp2
    go_ret
    exact ⟨rfl, HB2.out⟩
  · have hl' : decide (tailFrom S < gNext S.o t) = false := decide_eq_false hl
    have hl2 : decide (S.at_ < gNext S.o t) = false := decide_eq_false (by omega)
    rw [if_neg hl]
    clear h hv hw hh hf hgt hl hne hnb hlt hin
    go_enter Try.func49, Try.ntmps49
    go_wp2_with fail
    refine (long_any _ _ _ H.out HV.out).mono ?_
    rintro e w1 ⟨rfl, hb⟩
    rw [HLF.out]
    have H1 := Aside0.mk (H.out.below hb)
    obtain ⟨d0, d1, d2, d3, _, _, _, _, d8, d9, d10⟩ := H1.out.cs
    rw [HH.out] at d8
    rw [HW.out] at d9
    have HB := Aside0.mk hb
    clear hb
    go_wp2_with fail
    refine (rNext_any HVO.out ht1 _ (by exact H1.out.oe.row) H1.out.oe.cap).mono ?_
    rintro e w2 ⟨rfl, hb⟩
    have H2 := Aside0.mk (H1.out.below hb)
    obtain ⟨_, _, _, _, _, _, _, _, f8, f9, f10⟩ := H2.out.cs
    rw [HW.out] at f9
    have HB2 := Aside0.mk (below_step HB.out hb)
    clear hb
    go_wp2
    go_ret
    exact ⟨rfl, HB2.out⟩

theorem pnext_N (h : IsPair w g S A3 c3 A7 c7) (hv : VS S) (hp : PN S t) :
    Calls Try.prog 49 #[.pointer (some ⟨g, 0, none⟩), .int .i64 t] w (R1 w (if S.waits = true then S.at_ else -1)) := by
  obtain ⟨c0, c1, c2, c3, c4, c5, c6, c7, c8, c9, c10⟩ := h.cs
  have H := Aside0.mk h
  have HV := Aside0.mk hv
  have hh := hp.1
  have HLF : Aside0 (longF S = -1) := ⟨by unfold longF tailOk; rw [hh]; simp⟩
  have hwd : S.waits = true → decide (S.at_ ≤ t) = false := fun hw => decide_eq_false (by have := hp.2 hw; omega)
  have HH := Aside0.mk hh
  clear h hv hp hh
  cases hw : S.waits
  all_goals
    rw [hw] at c9
    try (have hd := hwd hw)
    have HW := Aside0.mk hw
    clear hwd hw
    try rw [if_pos rfl]
    try rw [if_neg (by decide)]
    go_enter Try.func49, Try.ntmps49
    go_wp2_with fail
    refine (long_any _ _ _ H.out HV.out).mono ?_
    rintro e w1 ⟨rfl, hb⟩
    rw [HLF.out]
    have H1 := Aside0.mk (H.out.below hb)
    obtain ⟨d0, d1, d2, d3, _, _, _, _, d8, d9, d10⟩ := H1.out.cs
    rw [HH.out] at d8
    rw [HW.out] at d9
    have HB := Aside0.mk hb
    clear hb
    go_wp2_with fail
    go_ret
    exact ⟨rfl, HB.out⟩

theorem pnext_any (h : IsPair w g S A3 c3 A7 c7) (hv : VS S) (ht0 : 0 ≤ t) (ht1 : t ≤ 9000000000000000000) :
    Calls Try.prog 49 #[.pointer (some ⟨g, 0, none⟩), .int .i64 t] w (R1 w (nxF S t)) := by
  rcases phases S t with hp | hp | hp | hp
  · rw [nx_M hp]; exact pnext_M w g S t h hv ht1 hp
  · rw [nx_T hp]; exact pnext_T w g S t h hv hp
  · cases hw : S.waits with
    | false => rw [nx_O_free hp hw]; exact pnext_free w g S t h hv ht0 ht1 hp.1 hw
    | true =>
      cases hf : tailOk S with
      | false => rw [nx_O_waits hv hp ht0 hw hf]; exact pnext_waits w g S t h hv ht0 ht1 hp.1 hw (hp.2.1 hw) hf
      | true => rw [nx_O_tail hv hp ht0 hf]; exact pnext_tail w g S t h hv ht0 ht1 hf (hp.2.2 hf)
  · rw [nx_N hp]; exact pnext_N w g S t h hv hp
end

end Go.Proofs.Ytkbjelhmmcifhaa.CF
