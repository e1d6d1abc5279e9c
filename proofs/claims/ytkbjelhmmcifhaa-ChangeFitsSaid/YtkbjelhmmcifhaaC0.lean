/- Walks: gate.Check and gate.Clone, with what they call of package slices. No condition but the lists' reading. -/
import Derived.Test.YtkbjelhmmcifhaaS0
import Derived.WalkSpells
set_option linter.unusedVariables false
set_option linter.unusedSimpArgs false
namespace Go.Proofs.Ytkbjelhmmcifhaa.CF
open Go.RowKit Go.Proofs.YtkbjelhmmcifhaaW.PrintWords Go.Proofs.YtkbjelhmmcifhaaW.PrintLast Go.Proofs.YtkbjelhmmcifhaaW.PrintMore
open Go.Proofs.Ytkbjelhmmcifhaa.PChangeFits (S71 S33 k71 k33 z71 z33 rd_T71 at_T71)

def badE (e : S71) : Bool := decide (e.f0 < 0) || decide (255 < e.f0) || decide (e.f1 < 1) || decide (1000000000 < e.f1)

def RB (w : World) (b : Bool) (e : Ending) (w' : World) : Prop := e = .returned (.bool b) ∧ Below w.heap.size w w'

theorem bad_any (x : S71) (w : World) : Calls Try.prog 81 #[.agg #[.int .i64 x.f0, .int .i64 x.f1]] w (RB w (badE x)) := by
  unfold badE
  cases h1 : decide (x.f0 < 0) <;> cases h2 : decide (255 < x.f0) <;> cases h3 : decide (x.f1 < 1) <;> cases h4 : decide (1000000000 < x.f1)
  all_goals
    go_enter Try.func81, Try.ntmps81
    go_wp2
    go_ret
    exact ⟨rfl, below_alloc (Below.refl _ _) _⟩

def RI (w : World) (b : Bool) (e : Ending) (w' : World) : Prop := (∃ r : Int, e = .returned (.int .i64 r) ∧ (0 ≤ r ↔ b = true) ∧ -1 ≤ r) ∧ Below w.heap.size w w'

theorem index_any (A : Option Addr) (c : Nat) (xs : List S71) (w : World) (hr : Kd.C k71 w A xs.length xs) (hn : xs.length ≤ 9000000000000000000) :
    Calls Try.prog 100 #[.slice A xs.length c, .func (.func 81) #[] #[]] w (RI w (xs.any badE)) := by
  have HR := Aside0.mk hr
  clear hr
  go_enter Try.func100, Try.ntmps100
  go_wp2_with fail
  go_loopg [8] xs.length (fun k iv wr => ∃ i : Int, iv = .int .i64 i ∧ 0 ≤ i ∧ i + k = xs.length ∧ Below w.heap.size w wr ∧ (xs.take i.toNat).any badE = false)
  case atStart => exact ⟨0, rfl, by omega, by omega, Below.refl _ _, by simp⟩
  case round =>
    obtain ⟨i, rfl, hi0, hik, hB, hany⟩ := hrel
    have HB := Aside0.mk hB
    have HA := Aside0.mk hany
    have HK := Aside0.mk hik
    by_cases hlt : i < xs.length
    · obtain ⟨ad, had, hc0, hc1⟩ := at_T71 (Kd.C_below HR.out hB) i hi0 hlt
      have hmem : Aside0 (xs.take (i.toNat + 1) = xs.take i.toNat ++ [rd_T71 xs i]) := ⟨by
        rw [List.take_succ_eq_append_getElem (by omega)]
        unfold rd_T71
        rw [List.getD_eq_getElem?_getD, List.getElem?_eq_getElem (by omega)]
        rfl⟩
      cases hb : badE (rd_T71 xs i)
      · have HN : Aside0 ((xs.take (i.toNat + 1)).any badE = false) := ⟨by rw [hmem.out, List.any_append, HA.out]; simp [hb]⟩
        have Hb := Aside0.mk hb
        clear hB hany hik hb
        subst had
        go_wp2_with fail
        refine (bad_any (rd_T71 xs i) _).mono ?_
        rintro e w1 ⟨rfl, hb⟩
        have HB1 := Aside0.mk (below_step HB.out hb)
        clear hb
        have hb := Hb.out
        go_wp2_with fail
        go_roundg (gk - 1)
        case measure => have := HK.out; omega
        case rel => exact ⟨i + 1, by go_num, by omega, by have := HK.out; omega, HB1.out, by rw [show (i + 1).toNat = i.toNat + 1 from by omega]; exact HN.out⟩
      · have HN : Aside0 (xs.any badE = true) := ⟨by
          rw [← List.take_append_drop (i.toNat + 1) xs, List.any_append, hmem.out, List.any_append]
          simp [hb]⟩
        have Hb := Aside0.mk hb
        clear hB hany hik hb
        subst had
        go_wp2_with fail
        refine (bad_any (rd_T71 xs i) _).mono ?_
        rintro e w1 ⟨rfl, hb⟩
        have HB1 := Aside0.mk (below_step HB.out hb)
        clear hb
        have hb := Hb.out
        go_wp2_with fail
        go_ret
        exact ⟨⟨i, rfl, ⟨fun _ => HN.out, fun _ => hi0⟩, by omega⟩, HB1.out⟩
    · have HN : Aside0 (xs.any badE = false) := ⟨by
        have := HA.out
        rwa [List.take_of_length_le (by omega)] at this⟩
      clear hB hany hik
      go_wp2_with fail
      go_ret
      exact ⟨⟨-1, rfl, ⟨fun h => absurd h (by decide), fun h => by rw [HN.out] at h; cases h⟩, by decide⟩, HB.out⟩

theorem contains_any (A : Option Addr) (c : Nat) (xs : List S71) (w : World) (hr : Kd.C k71 w A xs.length xs) (hn : xs.length ≤ 9000000000000000000) :
    Calls Try.prog 82 #[.slice A xs.length c, .func (.func 81) #[] #[]] w (RB w (xs.any badE)) := by
  cases hb : xs.any badE
  all_goals
    have Hb := Aside0.mk hb
    clear hb
    go_enter Try.func82, Try.ntmps82
    go_wp2_with fail
    refine (index_any A c xs _ hr hn).mono ?_
    rintro e w1 ⟨⟨r, rfl, hr0, hr1⟩, hb⟩
    rw [Hb.out] at hr0
    have HB := Aside0.mk hb
    first | (have hd : decide (0 ≤ r) = true := decide_eq_true (hr0.2 rfl)) | (have hd : decide (0 ≤ r) = false := decide_eq_false (fun h => by have := hr0.1 h; cases this))
    clear hb hr0 hr1
    go_wp2
    go_ret
    exact ⟨rfl, HB.out⟩

def badL (l : S33) : Bool := decide (l.f0 < 0) || decide (4611686018427387904 ≤ l.f0) || decide (l.f1 < 1) || decide (1000000000 < l.f1) || decide (l.f2 < 0) || decide (1000000000 < l.f2)
/-- May a list be? 0: yes; else 30. -/
def checkF (l : S33) : Int := if l.f3.length = 0 ∨ 64 < l.f3.length ∨ badL l = true ∨ l.f3.any badE = true then 30 else 0

theorem VL_iff (l : S33) : VL l ↔ checkF l = 0 := by
  unfold checkF
  constructor
  · intro hv
    rw [if_neg]
    rintro (h | h | h | h)
    · have := hv.n0; omega
    · have := hv.n1; omega
    · have h1 := hv.b0; have h2 := hv.b1; have h3 := hv.c0; have h4 := hv.c1; have h5 := hv.x0; have h6 := hv.x1
      unfold badL at h
      simp only [Bool.or_eq_true, decide_eq_true_eq] at h
      omega
    · rw [List.any_eq_true] at h
      obtain ⟨e, he, hb⟩ := h
      have := hv.es e he
      unfold badE at hb
      simp only [Bool.or_eq_true, decide_eq_true_eq] at hb
      omega
  · intro h
    by_cases hc : l.f3.length = 0 ∨ 64 < l.f3.length ∨ badL l = true ∨ l.f3.any badE = true
    · rw [if_pos hc] at h; omega
    · simp only [not_or] at hc
      obtain ⟨h1, h2, h3, h4⟩ := hc
      unfold badL at h3
      simp only [Bool.or_eq_true, decide_eq_true_eq, not_or] at h3
      refine ⟨by omega, by omega, by omega, by omega, by omega, by omega, by omega, by omega, fun e he => ?_⟩
      have hb : ¬ badE e = true := fun hb => h4 (List.any_eq_true.2 ⟨e, he, hb⟩)
      unfold badE at hb
      simp only [Bool.or_eq_true, decide_eq_true_eq, not_or] at hb
      omega

def R1' (w : World) (a : Int) (e : Ending) (w' : World) : Prop := e = .returned (.int .i64 a) ∧ Below w.heap.size w w'

theorem check_bad (l : S33) (A : Option Addr) (c : Nat) (w : World) (h : l.f3.length = 0 ∨ 64 < l.f3.length ∨ badL l = true) :
    Calls Try.prog 45 #[.agg #[.int .i64 l.f0, .int .i64 l.f1, .int .i64 l.f2, .slice A l.f3.length c]] w (R1' w 30) := by
  by_cases h0 : l.f3.length = 0
  · have hd : decide (l.f3.length = 0) = true := decide_eq_true h0
    clear h
    go_enter Try.func45, Try.ntmps45
    go_wp2
    go_ret
    exact ⟨rfl, below_alloc (Below.refl _ _) _⟩
  · by_cases h1 : 64 < l.f3.length
    · clear h
      go_enter Try.func45, Try.ntmps45
      go_wp2
      go_ret
      exact ⟨rfl, below_alloc (Below.refl _ _) _⟩
    · have hb : badL l = true := by rcases h with h | h | h <;> first | exact absurd h h0 | exact absurd h h1 | exact h
      unfold badL at hb
      clear h
      have hp : 0 < l.f3.length := by omega
      have hp1 : l.f3.length ≤ 64 := by omega
      clear h0 h1
      cases g1 : decide (l.f0 < 0)
      cases g2 : decide (4611686018427387904 ≤ l.f0)
      cases g3 : decide (l.f1 < 1)
      cases g4 : decide (1000000000 < l.f1)
      cases g5 : decide (l.f2 < 0)
      cases g6 : decide (1000000000 < l.f2)
      · exfalso; rw [g1, g2, g3, g4, g5, g6] at hb; cases hb
      all_goals
        clear hb
        go_enter Try.func45, Try.ntmps45
        go_wp2
        all_goals
          go_ret
          exact ⟨rfl, below_alloc (Below.refl _ _) _⟩

theorem check_es (l : S33) (A : Option Addr) (c : Nat) (w : World) (hr : Kd.C k71 w A l.f3.length l.f3) (h1 : l.f3.length ≠ 0) (h2 : l.f3.length ≤ 64) (h3 : badL l = false) :
    Calls Try.prog 45 #[.agg #[.int .i64 l.f0, .int .i64 l.f1, .int .i64 l.f2, .slice A l.f3.length c]] w (R1' w (if l.f3.any badE = true then 30 else 0)) := by
  unfold badL at h3
  simp only [Bool.or_eq_false_iff] at h3
  obtain ⟨⟨⟨⟨⟨g1, g2⟩, g3⟩, g4⟩, g5⟩, g6⟩ := h3
  have HR := Aside0.mk hr
  have hp : 0 < l.f3.length := by omega
  have hl : l.f3.length ≤ 9000000000000000000 := by omega
  have hne : ¬ l.f3 = [] := fun h => h1 (by rw [h]; rfl)
  have hz : ((l.f3.length : Int) == 0) = false := beq_eq_false_iff_ne.2 (by omega)
  have h64 : (l.f3.length : Int) ≤ 64 := by omega
  clear hr h1
  cases hb : l.f3.any badE
  all_goals
    have Hb := Aside0.mk hb
    clear hb
    go_enter Try.func45, Try.ntmps45
    go_wp2_with fail
    refine (contains_any _ _ _ _ (by exact Kd.C_below HR.out (below_alloc (Below.refl _ _) _)) hl).mono ?_
    rintro e w1 ⟨rfl, hb⟩
    have HB := Aside0.mk (below_step (below_alloc (Below.refl _ _) _) hb)
    have hb' := Hb.out
    clear hb
    go_wp2
    go_ret
    exact ⟨rfl, HB.out⟩

theorem check_any (l : S33) (A : Option Addr) (c : Nat) (w : World) (hr : Kd.C k71 w A l.f3.length l.f3) :
    Calls Try.prog 45 #[listV l A c] w (R1' w (checkF l)) := by
  unfold checkF
  by_cases h : l.f3.length = 0 ∨ 64 < l.f3.length ∨ badL l = true
  · rw [if_pos (by rcases h with h | h | h; exact .inl h; exact .inr (.inl h); exact .inr (.inr (.inl h)))]
    exact check_bad l A c w h
  · simp only [not_or] at h
    obtain ⟨h1, h2, h3⟩ := h
    have h3' : badL l = false := by cases hb : badL l; rfl; exact absurd hb h3
    have := check_es l A c w hr h1 (by omega) h3'
    by_cases hb : l.f3.any badE = true
    · rw [if_pos hb] at this
      rw [if_pos (.inr (.inr (.inr hb)))]
      exact this
    · rw [if_neg hb] at this
      rw [if_neg]
      · exact this
      · rintro (h | h | h | h)
        · exact h1 h
        · exact h2 h
        · exact h3 h
        · exact hb h

end Go.Proofs.Ytkbjelhmmcifhaa.CF
