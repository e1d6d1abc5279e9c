/- The small acts: the printed check answers, and what it lets pass is a list of no more than 30 acts. And how far Fits goes. No condition. -/
import Derived.Test.YtkbjelhmmcifhaaT4
import Derived.Test.YtkbjelhmmcifhaaC5
set_option linter.unusedVariables false
set_option linter.unusedSimpArgs false
namespace Go.Proofs.Ytkbjelhmmcifhaa.CF
open Go.RowKit Go.Proofs.YtkbjelhmmcifhaaW.PrintWords Go.Proofs.YtkbjelhmmcifhaaW.PrintLast Go.Proofs.YtkbjelhmmcifhaaW.PrintMore
open Go.Proofs.Ytkbjelhmmcifhaa.PChangeFits (S71 S33 S91 k71 k33 k91 z71 z33 rd_T71 rd_T91 bargatelaw17_small.l0 bargatelaw17_small.f bargatelaw17_small.calls)

theorem small_loop (l0 : List S91) (hn : (l0.length : Int) ≤ 9223372036854775807) : ∀ (m : Nat) (x : Int), 0 ≤ x → x + m = l0.length →
    ∃ r, bargatelaw17_small.l0 (m + 1) l0 l0 (l0.length : Int) x = some r ∧ (r = true → l0.length ≤ 30)
  | 0, x, h0, hx => by
    refine ⟨decide ((l0.length : Int) ≤ 30), ?_, fun h => ?_⟩
    · have h : ¬ x < (l0.length : Int) := by omega
      simp only [bargatelaw17_small.l0, if_neg h]
    · have := of_decide_eq_true h
      omega
  | m + 1, x, h0, hx => by
    have h : x < (l0.length : Int) := by omega
    by_cases h70 : (((rd_T91 l0 x).f1.f3).length : Int) > 70
    · refine ⟨false, ?_, fun h => by cases h⟩
      simp only [bargatelaw17_small.l0, if_pos h, if_pos h0, if_pos h70]
    · obtain ⟨r, hr, hl⟩ := small_loop l0 hn m (x + 1) (by omega) (by omega)
      refine ⟨r, ?_, hl⟩
      have hw : wrap64 (x + 1) = x + 1 := by unfold wrap64; omega
      rw [bargatelaw17_small.l0]
      simp only [if_pos h, if_pos h0, if_neg h70, hw]
      exact hr

theorem small_any (A0 : Option Addr) (c0 : Nat) (l0 : List S91) (w : World) (hr0 : Kd.C k91 w A0 l0.length l0) (hc0 : l0.length ≤ c0) :
    ∃ r : Bool, Calls Try.prog 10 #[.slice A0 l0.length c0] w (fun e w1 => e = .returned (.bool r) ∧ Below w.heap.size w w1) ∧ (r = true → l0.length ≤ 30) := by
  obtain ⟨r, hr, hl⟩ := small_loop l0 (by have := hr0.2.1; omega) l0.length 0 (by omega) (by omega)
  exact ⟨r, bargatelaw17_small.calls (l0.length + 1) A0 c0 l0 r w hr0 hc0 hr, hl⟩

theorem fitsIn_in {S : Sch} (hv : VS S) {c need : Int} : ∀ (k : Nat) (t X : Int), 0 ≤ t → t ≤ X → 4611686018427387904 ≤ X →
    (∀ r, (fitsIn S c need k t).1 = some r → 0 ≤ r ∧ r ≤ X + 4000000000000 * k) ∧ 0 ≤ (fitsIn S c need k t).2 ∧ (fitsIn S c need k t).2 ≤ X + 4000000000000 * k
  | 0, t, X, h0, hX, hB => by
    refine ⟨fun r hr => ?_, ?_, ?_⟩
    · simp [fitsIn] at hr
    · simpa [fitsIn] using h0
    · simp only [fitsIn]; omega
  | k + 1, t, X, h0, hX, hB => by
    have hfr := seekF_in hv c true h0
    unfold fitsIn
    by_cases h1 : seekF S c true t < 0
    · rw [if_pos h1]
      exact ⟨fun r hr => by simp at hr, h0, by simp only []; omega⟩
    · rw [if_neg h1]
      have hti := seekF_in hv c false (t := seekF S c true t) (by omega)
      by_cases h2 : seekF S c false (seekF S c true t) < 0 ∨ need ≤ seekF S c false (seekF S c true t) - seekF S c true t
      · rw [if_pos h2]
        refine ⟨fun r hr => ?_, h0, by simp only []; omega⟩
        have := Option.some.inj hr
        subst this
        constructor <;> omega
      · rw [if_neg h2]
        have h3 : 0 ≤ seekF S c false (seekF S c true t) := by
          have := not_or.mp h2
          omega
        obtain ⟨i1, i2, i3⟩ := fitsIn_in hv k (seekF S c false (seekF S c true t)) (X + 4000000000000) h3 (by omega) (by omega)
        refine ⟨fun r hr => ?_, i2, by omega⟩
        have := i1 r hr
        constructor <;> omega

theorem fitsF_in {S : Sch} (hv : VS S) {c need t : Int} (h0 : 0 ≤ t) (h1 : t ≤ 4611686018427387904) : fitsF S c t need ≤ 6000000000000000000 := by
  have hsp := steps_pos S
  have hs : stepsF S ≤ 300 := by have := hv.ol; have := hv.al; unfold stepsF; omega
  obtain ⟨N, hN⟩ : ∃ N : Nat, (2 * stepsF S).toNat = N := ⟨_, rfl⟩
  have hNl : N ≤ 600 := by omega
  obtain ⟨i1, i2, i3⟩ := fitsIn_in hv (c := c) (need := need) N t 4611686018427387904 h0 h1 (by omega)
  unfold fitsF
  rw [hN]
  cases hX : fitsIn S c need N t with
  | mk a t' =>
    rw [hX] at i1 i2 i3
    cases a with
    | some r =>
      have := i1 r rfl
      show r ≤ _
      omega
    | none =>
      show (if S.waits = true then _ else _) ≤ _
      by_cases hw : S.waits = true
      · rw [if_pos hw]
        have hag := againF_in hv t'
        have hat := hv.a hw
        simp only [] at i2 i3
        obtain ⟨j1, j2, j3⟩ := fitsIn_in hv (c := c) (need := need) N (againF S t') 5000000000000000000 (by omega) (by omega) (by omega)
        cases hY : (fitsIn S c need N (againF S t')).1 with
        | none => show (-1 : Int) ≤ _; omega
        | some r =>
          have := j1 r hY
          show r ≤ _
          omega
      · rw [if_neg hw]
        omega

end Go.Proofs.Ytkbjelhmmcifhaa.CF
