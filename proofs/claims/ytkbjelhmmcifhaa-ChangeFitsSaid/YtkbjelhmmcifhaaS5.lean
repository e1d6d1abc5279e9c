/- Walks: a schedule's Fits. The schedule is one that may be (VS); the time is from 0 on, and no later than 2^62. -/
import Derived.Test.YtkbjelhmmcifhaaT1
set_option linter.unusedVariables false
set_option linter.unusedSimpArgs false
namespace Go.Proofs.Ytkbjelhmmcifhaa.CF
open Go.RowKit Go.Proofs.YtkbjelhmmcifhaaW.PrintWords Go.Proofs.YtkbjelhmmcifhaaW.PrintLast Go.Proofs.YtkbjelhmmcifhaaW.PrintMore
open Go.Proofs.Ytkbjelhmmcifhaa.PChangeFits (S71 S33 k71 k33 z71 z33 rd_T71)
attribute [local go_sem] max2_int min2_int max_two min_two

def fitsIn (S : Sch) (c need : Int) : Nat → Int → Option Int × Int
  | 0, t => (none, t)
  | k + 1, t =>
    if seekF S c true t < 0 then (none, t)
    else if seekF S c false (seekF S c true t) < 0 ∨ need ≤ seekF S c false (seekF S c true t) - seekF S c true t then (some (seekF S c true t), t)
    else fitsIn S c need k (seekF S c false (seekF S c true t))

def againF (S : Sch) (t : Int) : Int :=
  if S.has = true then (if (if t < S.at_ - 2000000000 then S.at_ - 2000000000 else t) < S.at_ - 2 * S.o.f1 then S.at_ - 2 * S.o.f1 else (if t < S.at_ - 2000000000 then S.at_ - 2000000000 else t))
  else (if t < S.at_ - 2000000000 then S.at_ - 2000000000 else t)

def fitsF (S : Sch) (c t need : Int) : Int :=
  match fitsIn S c need (2 * stepsF S).toNat t with
  | (some r, _) => r
  | (none, t') => if S.waits = true then ((fitsIn S c need (2 * stepsF S).toNat (againF S t')).1).getD (-1) else -1

section
variable (w : World) (g : Nat) (S : Sch) {A3 : Option Addr} {c3 : Nat} {A7 : Option Addr} {c7 : Nat} (t : Int)

theorem from_F (c : Int) (h : IsSch w g S A3 c3 A7 c7) (hv : VS S) (hc0 : 0 ≤ c) (hc1 : c ≤ 7) (ht0 : 0 ≤ t) (ht1 : t ≤ 5000000000000000000) :
    Calls Try.prog 41 #[.pointer (some ⟨g, 0, none⟩), .int .i64 c, .int .i64 t] w (R1 w (seekF S c true t)) :=
  from_any w g S t c _ 2000 h hv hc0 hc1 ht0 (by omega) (by omega) (by rw [from_seek]; exact seekF_eq hv c true t)
theorem until_F (c : Int) (h : IsSch w g S A3 c3 A7 c7) (hv : VS S) (hc0 : 0 ≤ c) (hc1 : c ≤ 7) (ht0 : 0 ≤ t) (ht1 : t ≤ 5000000000000000000) :
    Calls Try.prog 40 #[.pointer (some ⟨g, 0, none⟩), .int .i64 c, .int .i64 t] w (R1 w (seekF S c false t)) :=
  until_any w g S t c _ 2000 h hv hc0 hc1 ht0 (by omega) (by omega) (by rw [until_seek]; exact seekF_eq hv c false t)

theorem fitsIn_none {c need ts : Int} : ∀ (k : Nat) (t : Int) (X : Option Int × Int), fitsIn S c need k t = X → X.1 = none ∨ ∃ r, X.1 = some r := by
  intro k t X h
  cases hX : X.1 with
  | none => exact .inl rfl
  | some r => exact .inr ⟨r, rfl⟩

set_option maxRecDepth 100000 in
set_option maxHeartbeats 4000000 in
theorem fits_any (c need : Int) (h : IsSch w g S A3 c3 A7 c7) (hv : VS S) (hc0 : 0 ≤ c) (hc1 : c ≤ 7) (ht0 : 0 ≤ t) (ht1 : t ≤ 4611686018427387904) (hn0 : 0 ≤ need) (hn1 : need ≤ 4611686018427387904) :
    Calls Try.prog 12 #[.pointer (some ⟨g, 0, none⟩), .int .i64 c, .int .i64 t, .int .i64 need] w (R1 w (fitsF S c t need)) := by
  have H := Aside0.mk h
  have HV := Aside0.mk hv
  have hsp := steps_pos S
  have hs : stepsF S ≤ 300 := by have := hv.ol; have := hv.al; unfold stepsF; omega
  obtain ⟨N, hN⟩ : ∃ N : Nat, (2 * stepsF S).toNat = N := ⟨_, rfl⟩
  have hNa : 2 * stepsF S ≤ (N : Int) := by omega
  have hNb : (N : Int) ≤ 2 * stepsF S := by omega
  have hNl : N ≤ 600 := by omega
  have HN := Aside0.mk hN
  clear h hv hN
  go_enter Try.func12, Try.ntmps12
  go_wp2_with fail
  go_loopg [2, 12] 3 (fun k tv rv wr => ∃ t' r : Int, tv = .int .i64 t' ∧ rv = .int .i64 r ∧ r + k = 3 ∧ 0 ≤ r ∧ Below w.heap.size w wr ∧ 0 ≤ t' ∧ t' ≤ 4611686018427387904 + 2400000000000000 * r ∧
    (r = 0 ∧ t' = t ∨ r = 1 ∧ fitsIn S c need N t = (none, t') ∨ r = 2 ∧ fitsF S c t need = -1))
  case atStart => exact ⟨t, 0, rfl, rfl, rfl, by omega, Below.refl _ _, ht0, by omega, .inl ⟨rfl, rfl⟩⟩
  case round =>
    obtain ⟨t', r, rfl, rfl, hrk, hr0, hB, hlo, hhi, hcase⟩ := hrel
    have HB := Aside0.mk hB
    have H1 := Aside0.mk (H.out.below hB)
    have HC := Aside0.mk hcase
    have HRK := Aside0.mk hrk
    clear hB hcase hrk
    by_cases h2 : r < 2
    · by_cases h1 : r = 1
      · subst h1
        have hC : fitsIn S c need N t = (none, t') := by
          rcases HC.out with h | h | h
          · exact absurd h.1 (by decide)
          · exact h.2
          · exact absurd h.1 (by decide)
        have HC := Aside0.mk hC
        clear hC
        obtain ⟨_, _, _, _, _, _, _, _, d8, d9, d10, _, _⟩ := H1.out.cs
        obtain ⟨d1, _⟩ := H1.out.cs.2
        cases hw : S.waits
        · rw [hw] at d9
          have HE : Aside0 (fitsF S c t need = -1) := ⟨by unfold fitsF; rw [HN.out, HC.out]; simp [hw]⟩
          clear hw
          go_wp2_with fail
          go_ret
          exact ⟨congrArg (fun x => Ending.returned (.int .i64 x)) HE.out.symm, HB.out⟩
        · rw [hw] at d9
          have hat := (HV.out.a hw).2
          have hat0 := hat.1
          have hat1 := hat.2
          have HW := Aside0.mk hw
          clear hw hat
          have HX : Aside0 (∃ X, fitsIn S c need N (againF S t') = X) := ⟨⟨_, rfl⟩⟩
          obtain ⟨X, hX⟩ := HX.out
          have HEND : Aside0 (∀ x, X.1 = some x → fitsF S c t need = x) := ⟨fun x hx => by
            unfold fitsF; rw [HN.out, HC.out]; simp only; rw [if_pos HW.out, hX, hx]; rfl⟩
          have HNEXT : Aside0 (∀ t2, X = (none, t2) → fitsF S c t need = -1) := ⟨fun t2 hx => by
            unfold fitsF; rw [HN.out, HC.out]; simp only; rw [if_pos HW.out, hX, hx]; rfl⟩
          have HX := Aside0.mk hX
          clear hX
          have hAG : 0 ≤ againF S t' ∧ againF S t' ≤ 4614086018427387904 := by
            unfold againF
            cases hh : S.has
            · simp only [Bool.false_eq_true, if_false]; split <;> omega
            · have := (HV.out.o hh).c0
              simp only [if_true]; split <;> split <;> omega
          have HAG := Aside0.mk hAG
          clear hAG
          cases hh : S.has
          · rw [hh] at d8
            by_cases hA : t' < S.at_ - 2000000000
            · have HAE : Aside0 (againF S t' = S.at_ - 2000000000) := ⟨by unfold againF; rw [hh, if_pos hA]; simp⟩
              clear hh
              go_wp2_with fail
              refine (steps_any _ _ _ (H1.out) HV.out).mono ?_
              rintro e w1 ⟨rfl, hb⟩
              have HB1 := Aside0.mk (below_step (HB.out) hb)
              have H2 := Aside0.mk ((H1.out).below hb)
              clear hb
              go_wp2_with fail
              have hhi' : againF S t' ≤ 4614086018427387904 := by exact HAG.out.2
              have hlo' : 0 ≤ againF S t' := by exact HAG.out.1
              go_loopg [2, 49] N (fun k tv jv wr => ∃ t2 j : Int, tv = .int .i64 t2 ∧ jv = .int .i64 j ∧ j + k = N ∧ 0 ≤ j ∧ Below w.heap.size w wr ∧ 0 ≤ t2 ∧ t2 ≤ 4614086018427387904 + 4000000000000 * j ∧ fitsIn S c need k t2 = X)
              case atStart => exact ⟨againF S t', 0, (congrArg (Value.int .i64) HAE.out.symm), rfl, by omega, by omega, HB1.out, hlo', by omega, HX.out⟩
              case round =>
                obtain ⟨t2, j, rfl, rfl, hjk, hj0, hB, hlo2, hhi2, hfit⟩ := hrel
                have HB2 := Aside0.mk hB
                have H3 := Aside0.mk (H.out.below hB)
                have HJK := Aside0.mk hjk
                by_cases hj : j < N
                · obtain ⟨k', hk'⟩ : ∃ k', gk = k' + 1 := ⟨gk - 1, by omega⟩
                  rw [hk'] at hfit
                  simp only [fitsIn] at hfit
                  have HF := Aside0.mk hfit
                  have HK := Aside0.mk hk'
                  have hfr := seekF_in HV.out c true hlo2
                  have HFR := Aside0.mk hfr
                  clear hB hfit hk' hjk hfr
                  go_wp2_with fail
                  refine (from_F _ _ _ _ _ H3.out HV.out hc0 hc1 hlo2 (by omega)).mono ?_
                  rintro e w3 ⟨rfl, hb⟩
                  have HB3 := Aside0.mk (below_step HB2.out hb)
                  have H4 := Aside0.mk (H3.out.below hb)
                  clear hb
                  by_cases hneg : seekF S c true t2 < 0
                  · have hX2 : X = (none, t2) := by have := HF.out; rw [if_pos hneg] at this; exact this.symm
                    have HX2 := Aside0.mk hX2
                    clear hX2
                    go_wp2_with fail
                    go_roundg 1
                    case measure => have := HRK.out; omega
                    case rel => exact ⟨t2, 2, rfl, rfl, by omega, by omega, HB3.out, hlo2, by have := HJK.out; omega, .inr (.inr ⟨rfl, HNEXT.out _ HX2.out⟩)⟩
                  · have hfr0 : 0 ≤ seekF S c true t2 := by omega
                    have hti := seekF_in HV.out c false hfr0
                    have HTI := Aside0.mk hti
                    have hfr1 : seekF S c true t2 ≤ 5000000000000000000 := by have := HFR.out; omega
                    have HF2 : Aside0 ((if seekF S c false (seekF S c true t2) < 0 ∨ need ≤ seekF S c false (seekF S c true t2) - seekF S c true t2 then (some (seekF S c true t2), t2) else fitsIn S c need k' (seekF S c false (seekF S c true t2))) = X) := ⟨by have := HF.out; rw [if_neg hneg] at this; exact this⟩
                    clear hti
                    go_wp2_with fail
                    refine (until_F _ _ _ _ _ H4.out HV.out hc0 hc1 hfr0 hfr1).mono ?_
                    rintro e w4 ⟨rfl, hb⟩
                    have HB4 := Aside0.mk (below_step HB3.out hb)
                    clear hb
                    by_cases ht : seekF S c false (seekF S c true t2) < 0
                    · have hX2 : X.1 = some (seekF S c true t2) := by have := HF2.out; rw [if_pos (.inl ht)] at this; rw [← this]
                      have hE := HEND.out _ hX2
                      have HE := Aside0.mk hE
                      clear hE hX2
                      go_wp2_with fail
                      go_ret
                      exact ⟨congrArg (fun x => Ending.returned (.int .i64 x)) HE.out.symm, HB4.out⟩
                    · have hti0 : 0 ≤ seekF S c false (seekF S c true t2) := by omega
                      have hti1 : seekF S c false (seekF S c true t2) ≤ 5000000000000000000 := by have := HFR.out; have := HTI.out; omega
                      by_cases hnd : need ≤ seekF S c false (seekF S c true t2) - seekF S c true t2
                      · have hX2 : X.1 = some (seekF S c true t2) := by have := HF2.out; rw [if_pos (.inr hnd)] at this; rw [← this]
                        have hE := HEND.out _ hX2
                        have HE := Aside0.mk hE
                        clear hE hX2
                        go_wp2_with fail
                        go_ret
                        exact ⟨congrArg (fun x => Ending.returned (.int .i64 x)) HE.out.symm, HB4.out⟩
                      · have hX2 : fitsIn S c need k' (seekF S c false (seekF S c true t2)) = X := by have := HF2.out; rw [if_neg (fun h => h.elim ht hnd)] at this; exact this
                        have HX2 := Aside0.mk hX2
                        clear hX2
                        go_wp2_with fail
                        go_roundg k'
                        case measure => have := HK.out; omega
                        case rel => exact ⟨_, j + 1, rfl, by go_num, by have := HJK.out; have := HK.out; omega, by omega, HB4.out, hti0, by have := HFR.out; have := HTI.out; omega, HX2.out⟩
                · have hk0 : gk = 0 := by omega
                  rw [hk0] at hfit
                  simp only [fitsIn] at hfit
                  have HX2 : Aside0 (X = (none, t2)) := ⟨hfit.symm⟩
                  clear hB hfit hk0 hjk
                  go_wp2_with fail
                  go_roundg 1
                  case measure => have := HRK.out; omega
                  case rel => exact ⟨t2, 2, rfl, rfl, by omega, by omega, HB2.out, hlo2, by have := HJK.out; omega, .inr (.inr ⟨rfl, HNEXT.out _ HX2.out⟩)⟩
            · have HAE : Aside0 (againF S t' = t') := ⟨by unfold againF; rw [hh, if_neg hA]; simp⟩
              clear hh
              go_wp2_with fail
              refine (steps_any _ _ _ (H1.out) HV.out).mono ?_
              rintro e w1 ⟨rfl, hb⟩
              have HB1 := Aside0.mk (below_step (HB.out) hb)
              have H2 := Aside0.mk ((H1.out).below hb)
              clear hb
              go_wp2_with fail
              have hhi' : againF S t' ≤ 4614086018427387904 := by exact HAG.out.2
              have hlo' : 0 ≤ againF S t' := by exact HAG.out.1
              go_loopg [2, 49] N (fun k tv jv wr => ∃ t2 j : Int, tv = .int .i64 t2 ∧ jv = .int .i64 j ∧ j + k = N ∧ 0 ≤ j ∧ Below w.heap.size w wr ∧ 0 ≤ t2 ∧ t2 ≤ 4614086018427387904 + 4000000000000 * j ∧ fitsIn S c need k t2 = X)
              case atStart => exact ⟨againF S t', 0, (congrArg (Value.int .i64) HAE.out.symm), rfl, by omega, by omega, HB1.out, hlo', by omega, HX.out⟩
              case round =>
                obtain ⟨t2, j, rfl, rfl, hjk, hj0, hB, hlo2, hhi2, hfit⟩ := hrel
                have HB2 := Aside0.mk hB
                have H3 := Aside0.mk (H.out.below hB)
                have HJK := Aside0.mk hjk
                by_cases hj : j < N
                · obtain ⟨k', hk'⟩ : ∃ k', gk = k' + 1 := ⟨gk - 1, by omega⟩
                  rw [hk'] at hfit
                  simp only [fitsIn] at hfit
                  have HF := Aside0.mk hfit
                  have HK := Aside0.mk hk'
                  have hfr := seekF_in HV.out c true hlo2
                  have HFR := Aside0.mk hfr
                  clear hB hfit hk' hjk hfr
                  go_wp2_with fail
                  refine (from_F _ _ _ _ _ H3.out HV.out hc0 hc1 hlo2 (by omega)).mono ?_
                  rintro e w3 ⟨rfl, hb⟩
                  have HB3 := Aside0.mk (below_step HB2.out hb)
                  have H4 := Aside0.mk (H3.out.below hb)
                  clear hb
                  by_cases hneg : seekF S c true t2 < 0
                  · have hX2 : X = (none, t2) := by have := HF.out; rw [if_pos hneg] at this; exact this.symm
                    have HX2 := Aside0.mk hX2
                    clear hX2
                    go_wp2_with fail
                    go_roundg 1
                    case measure => have := HRK.out; omega
                    case rel => exact ⟨t2, 2, rfl, rfl, by omega, by omega, HB3.out, hlo2, by have := HJK.out; omega, .inr (.inr ⟨rfl, HNEXT.out _ HX2.out⟩)⟩
                  · have hfr0 : 0 ≤ seekF S c true t2 := by omega
                    have hti := seekF_in HV.out c false hfr0
                    have HTI := Aside0.mk hti
                    have hfr1 : seekF S c true t2 ≤ 5000000000000000000 := by have := HFR.out; omega
                    have HF2 : Aside0 ((if seekF S c false (seekF S c true t2) < 0 ∨ need ≤ seekF S c false (seekF S c true t2) - seekF S c true t2 then (some (seekF S c true t2), t2) else fitsIn S c need k' (seekF S c false (seekF S c true t2))) = X) := ⟨by have := HF.out; rw [if_neg hneg] at this; exact this⟩
                    clear hti
                    go_wp2_with fail
                    refine (until_F _ _ _ _ _ H4.out HV.out hc0 hc1 hfr0 hfr1).mono ?_
                    rintro e w4 ⟨rfl, hb⟩
                    have HB4 := Aside0.mk (below_step HB3.out hb)
                    clear hb
                    by_cases ht : seekF S c false (seekF S c true t2) < 0
                    · have hX2 : X.1 = some (seekF S c true t2) := by have := HF2.out; rw [if_pos (.inl ht)] at this; rw [← this]
                      have hE := HEND.out _ hX2
                      have HE := Aside0.mk hE
                      clear hE hX2
                      go_wp2_with fail
                      go_ret
                      exact ⟨congrArg (fun x => Ending.returned (.int .i64 x)) HE.out.symm, HB4.out⟩
                    · have hti0 : 0 ≤ seekF S c false (seekF S c true t2) := by omega
                      have hti1 : seekF S c false (seekF S c true t2) ≤ 5000000000000000000 := by have := HFR.out; have := HTI.out; omega
                      by_cases hnd : need ≤ seekF S c false (seekF S c true t2) - seekF S c true t2
                      · have hX2 : X.1 = some (seekF S c true t2) := by have := HF2.out; rw [if_pos (.inr hnd)] at this; rw [← this]
                        have hE := HEND.out _ hX2
                        have HE := Aside0.mk hE
                        clear hE hX2
                        go_wp2_with fail
                        go_ret
                        exact ⟨congrArg (fun x => Ending.returned (.int .i64 x)) HE.out.symm, HB4.out⟩
                      · have hX2 : fitsIn S c need k' (seekF S c false (seekF S c true t2)) = X := by have := HF2.out; rw [if_neg (fun h => h.elim ht hnd)] at this; exact this
                        have HX2 := Aside0.mk hX2
                        clear hX2
                        go_wp2_with fail
                        go_roundg k'
                        case measure => have := HK.out; omega
                        case rel => exact ⟨_, j + 1, rfl, by go_num, by have := HJK.out; have := HK.out; omega, by omega, HB4.out, hti0, by have := HFR.out; have := HTI.out; omega, HX2.out⟩
                · have hk0 : gk = 0 := by omega
                  rw [hk0] at hfit
                  simp only [fitsIn] at hfit
                  have HX2 : Aside0 (X = (none, t2)) := ⟨hfit.symm⟩
                  clear hB hfit hk0 hjk
                  go_wp2_with fail
                  go_roundg 1
                  case measure => have := HRK.out; omega
                  case rel => exact ⟨t2, 2, rfl, rfl, by omega, by omega, HB2.out, hlo2, by have := HJK.out; omega, .inr (.inr ⟨rfl, HNEXT.out _ HX2.out⟩)⟩
          · rw [hh] at d8
            have hvo := HV.out.o hh
            have hc0' := hvo.c0
            have hc1' := hvo.c1
            have e1 : IntKind.i64.wrap (2 * S.o.f1) = 2 * S.o.f1 := IntWalk.i64_in _ (by omega)
            have e2 : IntKind.i64.wrap (S.at_ - 2 * S.o.f1) = S.at_ - 2 * S.o.f1 := IntWalk.i64_in _ (by omega)
            clear hvo
            by_cases hA : t' < S.at_ - 2000000000
            · by_cases hB : S.at_ - 2000000000 < S.at_ - 2 * S.o.f1
              · have HAE : Aside0 (againF S t' = S.at_ - 2 * S.o.f1) := ⟨by unfold againF; rw [hh, if_pos hA, if_pos hB]; simp⟩
                clear hh
                go_wp2_with fail
                go_quiet (fail)
                clear e1 e2
                go_wp2_with fail
                refine (steps_any _ _ _ (H1.out.drewN _ _ _ _) HV.out).mono ?_
                rintro e w1 ⟨rfl, hb⟩
                have HB1 := Aside0.mk (below_step (below_q HB.out _) hb)
                have H2 := Aside0.mk ((H1.out.drewN _ _ _ _).below hb)
                clear hb
                go_wp2_with fail
                have hhi' : againF S t' ≤ 4614086018427387904 := by exact HAG.out.2
                have hlo' : 0 ≤ againF S t' := by exact HAG.out.1
                go_loopg [2, 49] N (fun k tv jv wr => ∃ t2 j : Int, tv = .int .i64 t2 ∧ jv = .int .i64 j ∧ j + k = N ∧ 0 ≤ j ∧ Below w.heap.size w wr ∧ 0 ≤ t2 ∧ t2 ≤ 4614086018427387904 + 4000000000000 * j ∧ fitsIn S c need k t2 = X)
                case atStart => exact ⟨againF S t', 0, (congrArg (Value.int .i64) HAE.out.symm), rfl, by omega, by omega, HB1.out, hlo', by omega, HX.out⟩
                case round =>
                  obtain ⟨t2, j, rfl, rfl, hjk, hj0, hB, hlo2, hhi2, hfit⟩ := hrel
                  have HB2 := Aside0.mk hB
                  have H3 := Aside0.mk (H.out.below hB)
                  have HJK := Aside0.mk hjk
                  by_cases hj : j < N
                  · obtain ⟨k', hk'⟩ : ∃ k', gk = k' + 1 := ⟨gk - 1, by omega⟩
                    rw [hk'] at hfit
                    simp only [fitsIn] at hfit
                    have HF := Aside0.mk hfit
                    have HK := Aside0.mk hk'
                    have hfr := seekF_in HV.out c true hlo2
                    have HFR := Aside0.mk hfr
                    clear hB hfit hk' hjk hfr
                    go_wp2_with fail
                    refine (from_F _ _ _ _ _ H3.out HV.out hc0 hc1 hlo2 (by omega)).mono ?_
                    rintro e w3 ⟨rfl, hb⟩
                    have HB3 := Aside0.mk (below_step HB2.out hb)
                    have H4 := Aside0.mk (H3.out.below hb)
                    clear hb
                    by_cases hneg : seekF S c true t2 < 0
                    · have hX2 : X = (none, t2) := by have := HF.out; rw [if_pos hneg] at this; exact this.symm
                      have HX2 := Aside0.mk hX2
                      clear hX2
                      go_wp2_with fail
                      go_roundg 1
                      case measure => have := HRK.out; omega
                      case rel => exact ⟨t2, 2, rfl, rfl, by omega, by omega, HB3.out, hlo2, by have := HJK.out; omega, .inr (.inr ⟨rfl, HNEXT.out _ HX2.out⟩)⟩
                    · have hfr0 : 0 ≤ seekF S c true t2 := by omega
                      have hti := seekF_in HV.out c false hfr0
                      have HTI := Aside0.mk hti
                      have hfr1 : seekF S c true t2 ≤ 5000000000000000000 := by have := HFR.out; omega
                      have HF2 : Aside0 ((if seekF S c false (seekF S c true t2) < 0 ∨ need ≤ seekF S c false (seekF S c true t2) - seekF S c true t2 then (some (seekF S c true t2), t2) else fitsIn S c need k' (seekF S c false (seekF S c true t2))) = X) := ⟨by have := HF.out; rw [if_neg hneg] at this; exact this⟩
                      clear hti
                      go_wp2_with fail
                      refine (until_F _ _ _ _ _ H4.out HV.out hc0 hc1 hfr0 hfr1).mono ?_
                      rintro e w4 ⟨rfl, hb⟩
                      have HB4 := Aside0.mk (below_step HB3.out hb)
                      clear hb
                      by_cases ht : seekF S c false (seekF S c true t2) < 0
                      · have hX2 : X.1 = some (seekF S c true t2) := by have := HF2.out; rw [if_pos (.inl ht)] at this; rw [← this]
                        have hE := HEND.out _ hX2
                        have HE := Aside0.mk hE
                        clear hE hX2
                        go_wp2_with fail
                        go_ret
                        exact ⟨congrArg (fun x => Ending.returned (.int .i64 x)) HE.out.symm, HB4.out⟩
                      · have hti0 : 0 ≤ seekF S c false (seekF S c true t2) := by omega
                        have hti1 : seekF S c false (seekF S c true t2) ≤ 5000000000000000000 := by have := HFR.out; have := HTI.out; omega
                        by_cases hnd : need ≤ seekF S c false (seekF S c true t2) - seekF S c true t2
                        · have hX2 : X.1 = some (seekF S c true t2) := by have := HF2.out; rw [if_pos (.inr hnd)] at this; rw [← this]
                          have hE := HEND.out _ hX2
                          have HE := Aside0.mk hE
                          clear hE hX2
                          go_wp2_with fail
                          go_ret
                          exact ⟨congrArg (fun x => Ending.returned (.int .i64 x)) HE.out.symm, HB4.out⟩
                        · have hX2 : fitsIn S c need k' (seekF S c false (seekF S c true t2)) = X := by have := HF2.out; rw [if_neg (fun h => h.elim ht hnd)] at this; exact this
                          have HX2 := Aside0.mk hX2
                          clear hX2
                          go_wp2_with fail
                          go_roundg k'
                          case measure => have := HK.out; omega
                          case rel => exact ⟨_, j + 1, rfl, by go_num, by have := HJK.out; have := HK.out; omega, by omega, HB4.out, hti0, by have := HFR.out; have := HTI.out; omega, HX2.out⟩
                  · have hk0 : gk = 0 := by omega
                    rw [hk0] at hfit
                    simp only [fitsIn] at hfit
                    have HX2 : Aside0 (X = (none, t2)) := ⟨hfit.symm⟩
                    clear hB hfit hk0 hjk
                    go_wp2_with fail
                    go_roundg 1
                    case measure => have := HRK.out; omega
                    case rel => exact ⟨t2, 2, rfl, rfl, by omega, by omega, HB2.out, hlo2, by have := HJK.out; omega, .inr (.inr ⟨rfl, HNEXT.out _ HX2.out⟩)⟩
              · have HAE : Aside0 (againF S t' = S.at_ - 2000000000) := ⟨by unfold againF; rw [hh, if_pos hA, if_neg hB]; simp⟩
                clear hh
                go_wp2_with fail
                go_quiet (fail)
                clear e1 e2
                go_wp2_with fail
                refine (steps_any _ _ _ (H1.out.drewN _ _ _ _) HV.out).mono ?_
                rintro e w1 ⟨rfl, hb⟩
                have HB1 := Aside0.mk (below_step (below_q HB.out _) hb)
                have H2 := Aside0.mk ((H1.out.drewN _ _ _ _).below hb)
                clear hb
                go_wp2_with fail
                have hhi' : againF S t' ≤ 4614086018427387904 := by exact HAG.out.2
                have hlo' : 0 ≤ againF S t' := by exact HAG.out.1
                go_loopg [2, 49] N (fun k tv jv wr => ∃ t2 j : Int, tv = .int .i64 t2 ∧ jv = .int .i64 j ∧ j + k = N ∧ 0 ≤ j ∧ Below w.heap.size w wr ∧ 0 ≤ t2 ∧ t2 ≤ 4614086018427387904 + 4000000000000 * j ∧ fitsIn S c need k t2 = X)
                case atStart => exact ⟨againF S t', 0, (congrArg (Value.int .i64) HAE.out.symm), rfl, by omega, by omega, HB1.out, hlo', by omega, HX.out⟩
                case round =>
                  obtain ⟨t2, j, rfl, rfl, hjk, hj0, hB, hlo2, hhi2, hfit⟩ := hrel
                  have HB2 := Aside0.mk hB
                  have H3 := Aside0.mk (H.out.below hB)
                  have HJK := Aside0.mk hjk
                  by_cases hj : j < N
                  · obtain ⟨k', hk'⟩ : ∃ k', gk = k' + 1 := ⟨gk - 1, by omega⟩
                    rw [hk'] at hfit
                    simp only [fitsIn] at hfit
                    have HF := Aside0.mk hfit
                    have HK := Aside0.mk hk'
                    have hfr := seekF_in HV.out c true hlo2
                    have HFR := Aside0.mk hfr
                    clear hB hfit hk' hjk hfr
                    go_wp2_with fail
                    refine (from_F _ _ _ _ _ H3.out HV.out hc0 hc1 hlo2 (by omega)).mono ?_
                    rintro e w3 ⟨rfl, hb⟩
                    have HB3 := Aside0.mk (below_step HB2.out hb)
                    have H4 := Aside0.mk (H3.out.below hb)
                    clear hb
                    by_cases hneg : seekF S c true t2 < 0
                    · have hX2 : X = (none, t2) := by have := HF.out; rw [if_pos hneg] at this; exact this.symm
                      have HX2 := Aside0.mk hX2
                      clear hX2
                      go_wp2_with fail
                      go_roundg 1
                      case measure => have := HRK.out; omega
                      case rel => exact ⟨t2, 2, rfl, rfl, by omega, by omega, HB3.out, hlo2, by have := HJK.out; omega, .inr (.inr ⟨rfl, HNEXT.out _ HX2.out⟩)⟩
                    · have hfr0 : 0 ≤ seekF S c true t2 := by omega
                      have hti := seekF_in HV.out c false hfr0
                      have HTI := Aside0.mk hti
                      have hfr1 : seekF S c true t2 ≤ 5000000000000000000 := by have := HFR.out; omega
                      have HF2 : Aside0 ((if seekF S c false (seekF S c true t2) < 0 ∨ need ≤ seekF S c false (seekF S c true t2) - seekF S c true t2 then (some (seekF S c true t2), t2) else fitsIn S c need k' (seekF S c false (seekF S c true t2))) = X) := ⟨by have := HF.out; rw [if_neg hneg] at this; exact this⟩
                      clear hti
                      go_wp2_with fail
                      refine (until_F _ _ _ _ _ H4.out HV.out hc0 hc1 hfr0 hfr1).mono ?_
                      rintro e w4 ⟨rfl, hb⟩
                      have HB4 := Aside0.mk (below_step HB3.out hb)
                      clear hb
                      by_cases ht : seekF S c false (seekF S c true t2) < 0
                      · have hX2 : X.1 = some (seekF S c true t2) := by have := HF2.out; rw [if_pos (.inl ht)] at this; rw [← this]
                        have hE := HEND.out _ hX2
                        have HE := Aside0.mk hE
                        clear hE hX2
                        go_wp2_with fail
                        go_ret
                        exact ⟨congrArg (fun x => Ending.returned (.int .i64 x)) HE.out.symm, HB4.out⟩
                      · have hti0 : 0 ≤ seekF S c false (seekF S c true t2) := by omega
                        have hti1 : seekF S c false (seekF S c true t2) ≤ 5000000000000000000 := by have := HFR.out; have := HTI.out; omega
                        by_cases hnd : need ≤ seekF S c false (seekF S c true t2) - seekF S c true t2
                        · have hX2 : X.1 = some (seekF S c true t2) := by have := HF2.out; rw [if_pos (.inr hnd)] at this; rw [← this]
                          have hE := HEND.out _ hX2
                          have HE := Aside0.mk hE
                          clear hE hX2
                          go_wp2_with fail
                          go_ret
                          exact ⟨congrArg (fun x => Ending.returned (.int .i64 x)) HE.out.symm, HB4.out⟩
                        · have hX2 : fitsIn S c need k' (seekF S c false (seekF S c true t2)) = X := by have := HF2.out; rw [if_neg (fun h => h.elim ht hnd)] at this; exact this
                          have HX2 := Aside0.mk hX2
                          clear hX2
                          go_wp2_with fail
                          go_roundg k'
                          case measure => have := HK.out; omega
                          case rel => exact ⟨_, j + 1, rfl, by go_num, by have := HJK.out; have := HK.out; omega, by omega, HB4.out, hti0, by have := HFR.out; have := HTI.out; omega, HX2.out⟩
                  · have hk0 : gk = 0 := by omega
                    rw [hk0] at hfit
                    simp only [fitsIn] at hfit
                    have HX2 : Aside0 (X = (none, t2)) := ⟨hfit.symm⟩
                    clear hB hfit hk0 hjk
                    go_wp2_with fail
                    go_roundg 1
                    case measure => have := HRK.out; omega
                    case rel => exact ⟨t2, 2, rfl, rfl, by omega, by omega, HB2.out, hlo2, by have := HJK.out; omega, .inr (.inr ⟨rfl, HNEXT.out _ HX2.out⟩)⟩
            · by_cases hB : t' < S.at_ - 2 * S.o.f1
              · have HAE : Aside0 (againF S t' = S.at_ - 2 * S.o.f1) := ⟨by unfold againF; rw [hh, if_neg hA, if_pos hB]; simp⟩
                clear hh
                go_wp2_with fail
                go_quiet (fail)
                clear e1 e2
                go_wp2_with fail
                refine (steps_any _ _ _ (H1.out.drewN _ _ _ _) HV.out).mono ?_
                rintro e w1 ⟨rfl, hb⟩
                have HB1 := Aside0.mk (below_step (below_q HB.out _) hb)
                have H2 := Aside0.mk ((H1.out.drewN _ _ _ _).below hb)
                clear hb
                go_wp2_with fail
                have hhi' : againF S t' ≤ 4614086018427387904 := by exact HAG.out.2
                have hlo' : 0 ≤ againF S t' := by exact HAG.out.1
                go_loopg [2, 49] N (fun k tv jv wr => ∃ t2 j : Int, tv = .int .i64 t2 ∧ jv = .int .i64 j ∧ j + k = N ∧ 0 ≤ j ∧ Below w.heap.size w wr ∧ 0 ≤ t2 ∧ t2 ≤ 4614086018427387904 + 4000000000000 * j ∧ fitsIn S c need k t2 = X)
                case atStart => exact ⟨againF S t', 0, (congrArg (Value.int .i64) HAE.out.symm), rfl, by omega, by omega, HB1.out, hlo', by omega, HX.out⟩
                case round =>
                  obtain ⟨t2, j, rfl, rfl, hjk, hj0, hB, hlo2, hhi2, hfit⟩ := hrel
                  have HB2 := Aside0.mk hB
                  have H3 := Aside0.mk (H.out.below hB)
                  have HJK := Aside0.mk hjk
                  by_cases hj : j < N
                  · obtain ⟨k', hk'⟩ : ∃ k', gk = k' + 1 := ⟨gk - 1, by omega⟩
                    rw [hk'] at hfit
                    simp only [fitsIn] at hfit
                    have HF := Aside0.mk hfit
                    have HK := Aside0.mk hk'
                    have hfr := seekF_in HV.out c true hlo2
                    have HFR := Aside0.mk hfr
                    clear hB hfit hk' hjk hfr
                    go_wp2_with fail
                    refine (from_F _ _ _ _ _ H3.out HV.out hc0 hc1 hlo2 (by omega)).mono ?_
                    rintro e w3 ⟨rfl, hb⟩
                    have HB3 := Aside0.mk (below_step HB2.out hb)
                    have H4 := Aside0.mk (H3.out.below hb)
                    clear hb
                    by_cases hneg : seekF S c true t2 < 0
                    · have hX2 : X = (none, t2) := by have := HF.out; rw [if_pos hneg] at this; exact this.symm
                      have HX2 := Aside0.mk hX2
                      clear hX2
                      go_wp2_with fail
                      go_roundg 1
                      case measure => have := HRK.out; omega
                      case rel => exact ⟨t2, 2, rfl, rfl, by omega, by omega, HB3.out, hlo2, by have := HJK.out; omega, .inr (.inr ⟨rfl, HNEXT.out _ HX2.out⟩)⟩
                    · have hfr0 : 0 ≤ seekF S c true t2 := by omega
                      have hti := seekF_in HV.out c false hfr0
                      have HTI := Aside0.mk hti
                      have hfr1 : seekF S c true t2 ≤ 5000000000000000000 := by have := HFR.out; omega
                      have HF2 : Aside0 ((if seekF S c false (seekF S c true t2) < 0 ∨ need ≤ seekF S c false (seekF S c true t2) - seekF S c true t2 then (some (seekF S c true t2), t2) else fitsIn S c need k' (seekF S c false (seekF S c true t2))) = X) := ⟨by have := HF.out; rw [if_neg hneg] at this; exact this⟩
                      clear hti
                      go_wp2_with fail
                      refine (until_F _ _ _ _ _ H4.out HV.out hc0 hc1 hfr0 hfr1).mono ?_
                      rintro e w4 ⟨rfl, hb⟩
                      have HB4 := Aside0.mk (below_step HB3.out hb)
                      clear hb
                      by_cases ht : seekF S c false (seekF S c true t2) < 0
                      · have hX2 : X.1 = some (seekF S c true t2) := by have := HF2.out; rw [if_pos (.inl ht)] at this; rw [← this]
                        have hE := HEND.out _ hX2
                        have HE := Aside0.mk hE
                        clear hE hX2
                        go_wp2_with fail
                        go_ret
                        exact ⟨congrArg (fun x => Ending.returned (.int .i64 x)) HE.out.symm, HB4.out⟩
                      · have hti0 : 0 ≤ seekF S c false (seekF S c true t2) := by omega
                        have hti1 : seekF S c false (seekF S c true t2) ≤ 5000000000000000000 := by have := HFR.out; have := HTI.out; omega
                        by_cases hnd : need ≤ seekF S c false (seekF S c true t2) - seekF S c true t2
                        · have hX2 : X.1 = some (seekF S c true t2) := by have := HF2.out; rw [if_pos (.inr hnd)] at this; rw [← this]
                          have hE := HEND.out _ hX2
                          have HE := Aside0.mk hE
                          clear hE hX2
                          go_wp2_with fail
                          go_ret
                          exact ⟨congrArg (fun x => Ending.returned (.int .i64 x)) HE.out.symm, HB4.out⟩
                        · have hX2 : fitsIn S c need k' (seekF S c false (seekF S c true t2)) = X := by have := HF2.out; rw [if_neg (fun h => h.elim ht hnd)] at this; exact this
                          have HX2 := Aside0.mk hX2
                          clear hX2
                          go_wp2_with fail
                          go_roundg k'
                          case measure => have := HK.out; omega
                          case rel => exact ⟨_, j + 1, rfl, by go_num, by have := HJK.out; have := HK.out; omega, by omega, HB4.out, hti0, by have := HFR.out; have := HTI.out; omega, HX2.out⟩
                  · have hk0 : gk = 0 := by omega
                    rw [hk0] at hfit
                    simp only [fitsIn] at hfit
                    have HX2 : Aside0 (X = (none, t2)) := ⟨hfit.symm⟩
                    clear hB hfit hk0 hjk
                    go_wp2_with fail
                    go_roundg 1
                    case measure => have := HRK.out; omega
                    case rel => exact ⟨t2, 2, rfl, rfl, by omega, by omega, HB2.out, hlo2, by have := HJK.out; omega, .inr (.inr ⟨rfl, HNEXT.out _ HX2.out⟩)⟩
              · have HAE : Aside0 (againF S t' = t') := ⟨by unfold againF; rw [hh, if_neg hA, if_neg hB]; simp⟩
                clear hh
                go_wp2_with fail
                go_quiet (fail)
                clear e1 e2
                go_wp2_with fail
                refine (steps_any _ _ _ (H1.out.drewN _ _ _ _) HV.out).mono ?_
                rintro e w1 ⟨rfl, hb⟩
                have HB1 := Aside0.mk (below_step (below_q HB.out _) hb)
                have H2 := Aside0.mk ((H1.out.drewN _ _ _ _).below hb)
                clear hb
                go_wp2_with fail
                have hhi' : againF S t' ≤ 4614086018427387904 := by exact HAG.out.2
                have hlo' : 0 ≤ againF S t' := by exact HAG.out.1
                go_loopg [2, 49] N (fun k tv jv wr => ∃ t2 j : Int, tv = .int .i64 t2 ∧ jv = .int .i64 j ∧ j + k = N ∧ 0 ≤ j ∧ Below w.heap.size w wr ∧ 0 ≤ t2 ∧ t2 ≤ 4614086018427387904 + 4000000000000 * j ∧ fitsIn S c need k t2 = X)
                case atStart => exact ⟨againF S t', 0, (congrArg (Value.int .i64) HAE.out.symm), rfl, by omega, by omega, HB1.out, hlo', by omega, HX.out⟩
                case round =>
                  obtain ⟨t2, j, rfl, rfl, hjk, hj0, hB, hlo2, hhi2, hfit⟩ := hrel
                  have HB2 := Aside0.mk hB
                  have H3 := Aside0.mk (H.out.below hB)
                  have HJK := Aside0.mk hjk
                  by_cases hj : j < N
                  · obtain ⟨k', hk'⟩ : ∃ k', gk = k' + 1 := ⟨gk - 1, by omega⟩
                    rw [hk'] at hfit
                    simp only [fitsIn] at hfit
                    have HF := Aside0.mk hfit
                    have HK := Aside0.mk hk'
                    have hfr := seekF_in HV.out c true hlo2
                    have HFR := Aside0.mk hfr
                    clear hB hfit hk' hjk hfr
                    go_wp2_with fail
                    refine (from_F _ _ _ _ _ H3.out HV.out hc0 hc1 hlo2 (by omega)).mono ?_
                    rintro e w3 ⟨rfl, hb⟩
                    have HB3 := Aside0.mk (below_step HB2.out hb)
                    have H4 := Aside0.mk (H3.out.below hb)
                    clear hb
                    by_cases hneg : seekF S c true t2 < 0
                    · have hX2 : X = (none, t2) := by have := HF.out; rw [if_pos hneg] at this; exact this.symm
                      have HX2 := Aside0.mk hX2
                      clear hX2
                      go_wp2_with fail
                      go_roundg 1
                      case measure => have := HRK.out; omega
                      case rel => exact ⟨t2, 2, rfl, rfl, by omega, by omega, HB3.out, hlo2, by have := HJK.out; omega, .inr (.inr ⟨rfl, HNEXT.out _ HX2.out⟩)⟩
                    · have hfr0 : 0 ≤ seekF S c true t2 := by omega
                      have hti := seekF_in HV.out c false hfr0
                      have HTI := Aside0.mk hti
                      have hfr1 : seekF S c true t2 ≤ 5000000000000000000 := by have := HFR.out; omega
                      have HF2 : Aside0 ((if seekF S c false (seekF S c true t2) < 0 ∨ need ≤ seekF S c false (seekF S c true t2) - seekF S c true t2 then (some (seekF S c true t2), t2) else fitsIn S c need k' (seekF S c false (seekF S c true t2))) = X) := ⟨by have := HF.out; rw [if_neg hneg] at this; exact this⟩
                      clear hti
                      go_wp2_with fail
                      refine (until_F _ _ _ _ _ H4.out HV.out hc0 hc1 hfr0 hfr1).mono ?_
                      rintro e w4 ⟨rfl, hb⟩
                      have HB4 := Aside0.mk (below_step HB3.out hb)
                      clear hb
                      by_cases ht : seekF S c false (seekF S c true t2) < 0
                      · have hX2 : X.1 = some (seekF S c true t2) := by have := HF2.out; rw [if_pos (.inl ht)] at this; rw [← this]
                        have hE := HEND.out _ hX2
                        have HE := Aside0.mk hE
                        clear hE hX2
                        go_wp2_with fail
                        go_ret
                        exact ⟨congrArg (fun x => Ending.returned (.int .i64 x)) HE.out.symm, HB4.out⟩
                      · have hti0 : 0 ≤ seekF S c false (seekF S c true t2) := by omega
                        have hti1 : seekF S c false (seekF S c true t2) ≤ 5000000000000000000 := by have := HFR.out; have := HTI.out; omega
                        by_cases hnd : need ≤ seekF S c false (seekF S c true t2) - seekF S c true t2
                        · have hX2 : X.1 = some (seekF S c true t2) := by have := HF2.out; rw [if_pos (.inr hnd)] at this; rw [← this]
                          have hE := HEND.out _ hX2
                          have HE := Aside0.mk hE
                          clear hE hX2
                          go_wp2_with fail
                          go_ret
                          exact ⟨congrArg (fun x => Ending.returned (.int .i64 x)) HE.out.symm, HB4.out⟩
                        · have hX2 : fitsIn S c need k' (seekF S c false (seekF S c true t2)) = X := by have := HF2.out; rw [if_neg (fun h => h.elim ht hnd)] at this; exact this
                          have HX2 := Aside0.mk hX2
                          clear hX2
                          go_wp2_with fail
                          go_roundg k'
                          case measure => have := HK.out; omega
                          case rel => exact ⟨_, j + 1, rfl, by go_num, by have := HJK.out; have := HK.out; omega, by omega, HB4.out, hti0, by have := HFR.out; have := HTI.out; omega, HX2.out⟩
                  · have hk0 : gk = 0 := by omega
                    rw [hk0] at hfit
                    simp only [fitsIn] at hfit
                    have HX2 : Aside0 (X = (none, t2)) := ⟨hfit.symm⟩
                    clear hB hfit hk0 hjk
                    go_wp2_with fail
                    go_roundg 1
                    case measure => have := HRK.out; omega
                    case rel => exact ⟨t2, 2, rfl, rfl, by omega, by omega, HB2.out, hlo2, by have := HJK.out; omega, .inr (.inr ⟨rfl, HNEXT.out _ HX2.out⟩)⟩
      · obtain rfl : r = 0 := by omega
        have HX : Aside0 (∃ X, fitsIn S c need N t' = X ∧ t' = t) := ⟨⟨_, rfl, by have := HC.out; omega⟩⟩
        obtain ⟨X, hX, htt⟩ := HX.out
        have HEND : Aside0 (∀ x, X.1 = some x → fitsF S c t need = x) := ⟨fun x hx => by
          unfold fitsF; rw [HN.out, ← htt, hX]
          obtain ⟨X1, X2⟩ := X
          simp only at hx; subst hx; rfl⟩
        have HNEXT : Aside0 (∀ t2, X = (none, t2) → fitsIn S c need N t = (none, t2)) := ⟨fun t2 hx => by rw [← htt, hX, hx]⟩
        have HX := Aside0.mk hX
        clear hX htt
        go_wp2_with fail
        refine (steps_any _ _ _ H1.out HV.out).mono ?_
        rintro e w1 ⟨rfl, hb⟩
        have HB1 := Aside0.mk (below_step HB.out hb)
        have H2 := Aside0.mk (H1.out.below hb)
        clear hb
        go_wp2_with fail
        have hhi' : t' ≤ 4611686018427387904 := by omega
        have hlo' : 0 ≤ t' := by omega
        go_loopg [2, 49] N (fun k tv jv wr => ∃ t2 j : Int, tv = .int .i64 t2 ∧ jv = .int .i64 j ∧ j + k = N ∧ 0 ≤ j ∧ Below w.heap.size w wr ∧ 0 ≤ t2 ∧ t2 ≤ 4611686018427387904 + 4000000000000 * j ∧ fitsIn S c need k t2 = X)
        case atStart => exact ⟨t', 0, rfl, rfl, by omega, by omega, HB1.out, hlo', by omega, HX.out⟩
        case round =>
          obtain ⟨t2, j, rfl, rfl, hjk, hj0, hB, hlo2, hhi2, hfit⟩ := hrel
          have HB2 := Aside0.mk hB
          have H3 := Aside0.mk (H.out.below hB)
          have HJK := Aside0.mk hjk
          by_cases hj : j < N
          · obtain ⟨k', hk'⟩ : ∃ k', gk = k' + 1 := ⟨gk - 1, by omega⟩
            rw [hk'] at hfit
            simp only [fitsIn] at hfit
            have HF := Aside0.mk hfit
            have HK := Aside0.mk hk'
            have hfr := seekF_in HV.out c true hlo2
            have HFR := Aside0.mk hfr
            clear hB hfit hk' hjk hfr
            go_wp2_with fail
            refine (from_F _ _ _ _ _ H3.out HV.out hc0 hc1 hlo2 (by omega)).mono ?_
            rintro e w3 ⟨rfl, hb⟩
            have HB3 := Aside0.mk (below_step HB2.out hb)
            have H4 := Aside0.mk (H3.out.below hb)
            clear hb
            by_cases hneg : seekF S c true t2 < 0
            · have hX2 : X = (none, t2) := by have := HF.out; rw [if_pos hneg] at this; exact this.symm
              have HX2 := Aside0.mk hX2
              clear hX2
              go_wp2_with fail
              go_roundg 2
              case measure => have := HRK.out; omega
              case rel => exact ⟨t2, 1, rfl, rfl, by omega, by omega, HB3.out, hlo2, by have := HJK.out; omega, .inr (.inl ⟨rfl, HNEXT.out _ HX2.out⟩)⟩
            · have hfr0 : 0 ≤ seekF S c true t2 := by omega
              have hti := seekF_in HV.out c false hfr0
              have HTI := Aside0.mk hti
              have hfr1 : seekF S c true t2 ≤ 5000000000000000000 := by have := HFR.out; omega
              have HF2 : Aside0 ((if seekF S c false (seekF S c true t2) < 0 ∨ need ≤ seekF S c false (seekF S c true t2) - seekF S c true t2 then (some (seekF S c true t2), t2) else fitsIn S c need k' (seekF S c false (seekF S c true t2))) = X) := ⟨by have := HF.out; rw [if_neg hneg] at this; exact this⟩
              clear hti
              go_wp2_with fail
              refine (until_F _ _ _ _ _ H4.out HV.out hc0 hc1 hfr0 hfr1).mono ?_
              rintro e w4 ⟨rfl, hb⟩
              have HB4 := Aside0.mk (below_step HB3.out hb)
              clear hb
              by_cases ht : seekF S c false (seekF S c true t2) < 0
              · have hX2 : X.1 = some (seekF S c true t2) := by have := HF2.out; rw [if_pos (.inl ht)] at this; rw [← this]
                have hE := HEND.out _ hX2
                have HE := Aside0.mk hE
                clear hE hX2
                go_wp2_with fail
                go_ret
                exact ⟨congrArg (fun x => Ending.returned (.int .i64 x)) HE.out.symm, HB4.out⟩
              · have hti0 : 0 ≤ seekF S c false (seekF S c true t2) := by omega
                have hti1 : seekF S c false (seekF S c true t2) ≤ 5000000000000000000 := by have := HFR.out; have := HTI.out; omega
                by_cases hnd : need ≤ seekF S c false (seekF S c true t2) - seekF S c true t2
                · have hX2 : X.1 = some (seekF S c true t2) := by have := HF2.out; rw [if_pos (.inr hnd)] at this; rw [← this]
                  have hE := HEND.out _ hX2
                  have HE := Aside0.mk hE
                  clear hE hX2
                  go_wp2_with fail
                  go_ret
                  exact ⟨congrArg (fun x => Ending.returned (.int .i64 x)) HE.out.symm, HB4.out⟩
                · have hX2 : fitsIn S c need k' (seekF S c false (seekF S c true t2)) = X := by have := HF2.out; rw [if_neg (fun h => h.elim ht hnd)] at this; exact this
                  have HX2 := Aside0.mk hX2
                  clear hX2
                  go_wp2_with fail
                  go_roundg k'
                  case measure => have := HK.out; omega
                  case rel => exact ⟨_, j + 1, rfl, by go_num, by have := HJK.out; have := HK.out; omega, by omega, HB4.out, hti0, by have := HFR.out; have := HTI.out; omega, HX2.out⟩
          · have hk0 : gk = 0 := by omega
            rw [hk0] at hfit
            simp only [fitsIn] at hfit
            have HX2 : Aside0 (X = (none, t2)) := ⟨hfit.symm⟩
            clear hB hfit hk0 hjk
            go_wp2_with fail
            go_roundg 2
            case measure => have := HRK.out; omega
            case rel => exact ⟨t2, 1, rfl, rfl, by omega, by omega, HB2.out, hlo2, by have := HJK.out; omega, .inr (.inl ⟨rfl, HNEXT.out _ HX2.out⟩)⟩
    · go_wp2_with fail
      go_ret
      have := HC.out
      exact ⟨congrArg (fun x => Ending.returned (.int .i64 x)) (by omega), HB.out⟩
end

end Go.Proofs.Ytkbjelhmmcifhaa.CF
