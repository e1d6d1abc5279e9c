/- Plain: a schedule's Fits is the first time at which a class is open for so long, or -1; the document's answer is the same, or -1. -/
import Derived.Test.YtkbjelhmmcifhaaT3
set_option linter.unusedVariables false
set_option linter.unusedSimpArgs false
namespace Go.Proofs.Ytkbjelhmmcifhaa.CF
open Go.Proofs.Ytkbjelhmmcifhaa.PChangeFits (S71 S33 k71 k33 z71 z33 rd_T71)

/-- The first fit from t on; or -1, and there is none. -/
def First (S : Sch) (c need t r : Int) : Prop :=
  (0 ≤ r ∧ t ≤ r ∧ Fit S c need r ∧ ∀ u, t ≤ u → u < r → ¬ Fit S c need u) ∨ (r = -1 ∧ ∀ u, t ≤ u → ¬ Fit S c need u)

/-- A round of edges without a fit: up to t' there is none. -/
def Gone (S : Sch) (c need t t' : Int) (k : Nat) : Prop :=
  t ≤ t' ∧ (0 < k → t < t') ∧ (∀ u, t ≤ u → u < t' → ¬ Fit S c need u) ∧ (S.waits = true ∨ S.has = true → pot S t + k ≤ pot S t')

theorem fit_edge {S : Sch} (hv : VS S) {c need t u : Int} (ht : 0 ≤ t) (hn : 1 ≤ need) (h0 : t ≤ u) (h1 : nxF S t = -1 ∨ u < nxF S t) (hf : Fit S c need u) : Fit S c need t := by
  intro v hv1 hv2
  by_cases hu : v < u
  · have h2 := hf u (by omega) (by omega)
    rw [opn_st (stF_const hv ht h0 h1)] at h2
    rw [opn_st (stF_const hv ht hv1 (by rcases h1 with h | h; exact .inl h; exact .inr (by omega)))]
    exact h2
  · exact hf v (by omega) (by omega)

/-- the document's edges. -/
theorem pfits_spec {S : Sch} (hv : VS S) {c need : Int} (hn : 1 ≤ need) {steps : Nat} (hs : need ≤ steps) : ∀ (k : Nat) (t : Int), 0 ≤ t → (S.has = true → S.o.f0 ≤ t) →
    (0 ≤ pfitsL S c need steps k t ∧ First S c need t (pfitsL S c need steps k t)) ∨
    (pfitsL S c need steps k t = -1 ∧ ((∀ u, t ≤ u → ¬ Fit S c need u) ∨ ∃ t', Gone S c need t t' k)) := by
  intro k
  induction k with
  | zero =>
    intro t ht hb
    right
    exact ⟨rfl, .inr ⟨t, by omega, fun h => absurd h (by omega), fun u a b => by omega, fun _ => by omega⟩⟩
  | succ k ih =>
    intro t ht hb
    simp only [pfitsL]
    rw [if_pos ht]
    by_cases hp : popen S c t need steps = true
    · rw [if_pos hp]
      exact .inl ⟨ht, .inl ⟨ht, by omega, (popen_iff hv ht hb hn hs).1 hp, fun u a b => by omega⟩⟩
    · rw [if_neg hp]
      have hnf : ¬ Fit S c need t := fun h => hp ((popen_iff hv ht hb hn hs).2 h)
      by_cases hx : nxF S t < 0
      · right
        have hx1 := nx_neg hv ht hx
        have hnone : ∀ u, t ≤ u → ¬ Fit S c need u := fun u a h => hnf (fit_edge hv ht hn a (.inl hx1) h)
        refine ⟨?_, .inl hnone⟩
        rw [hx1]
        cases k with
        | zero => rfl
        | succ k => simp only [pfitsL]; rw [if_neg (by omega)]
      · have hx0 : 0 ≤ nxF S t := by omega
        have hno : ∀ u, t ≤ u → u < nxF S t → ¬ Fit S c need u := fun u a b h => hnf (fit_edge hv ht hn a (.inr b) h)
        have hgt : t < nxF S t := by
          by_cases hok : S.waits = true ∨ S.has = true
          · exact (pot_next hv hok ht hb hx0).2
          · exfalso
            have hw : S.waits = false := by cases h : S.waits; rfl; exact absurd (.inl h) hok
            have hh : S.has = false := by cases h : S.has; rfl; exact absurd (.inr h) hok
            rw [nx_N ⟨hh, by rw [hw]; simp⟩, hw] at hx0
            simp at hx0
        rcases ih (nxF S t) hx0 (fun hh => by have := hb hh; omega) with ⟨h1, h2⟩ | ⟨h1, h2⟩
        · left
          refine ⟨h1, ?_⟩
          rcases h2 with ⟨a1, a2, a3, a4⟩ | ⟨a1, _⟩
          · exact .inl ⟨a1, by omega, a3, fun u b1 b2 => by
              by_cases hu : u < nxF S t
              · exact hno u b1 hu
              · exact a4 u (by omega) b2⟩
          · omega
        · right
          refine ⟨h1, ?_⟩
          rcases h2 with h2 | ⟨t', g1, g2, g3, g4⟩
          · left
            intro u a
            by_cases hu : u < nxF S t
            · exact hno u a hu
            · exact h2 u (by omega)
          · right
            refine ⟨t', by omega, fun _ => by omega, fun u a b => ?_, fun hok => ?_⟩
            · by_cases hu : u < nxF S t
              · exact hno u a hu
              · exact g3 u (by omega) b
            · have h3 := (pot_next hv hok ht hb hx0).1
              have h4 := g4 hok
              omega

/-- a pause between two openings costs an edge. -/
theorem pot_seek {S : Sch} (hv : VS S) (hok : S.waits = true ∨ S.has = true) {c fr ti : Int} (hf0 : 0 ≤ fr) (hb : S.has = true → S.o.f0 ≤ fr) (hlt : fr < ti) (hof : opn S c fr = true) (hot : opn S c ti = false) : pot S fr + 1 ≤ pot S ti := by
  have hx : 0 ≤ nxF S fr ∧ nxF S fr ≤ ti := by
    apply Classical.byContradiction
    intro h
    have : nxF S fr = -1 ∨ ti < nxF S fr := by
      by_cases hx : nxF S fr < 0
      · exact .inl (nx_neg hv hf0 hx)
      · right; omega
    rw [opn_st (stF_const hv hf0 (by omega) this), hof] at hot
    cases hot
  have h1 := (pot_next hv hok hf0 hb hx.1).1
  have h2 := pot_mono hv hok hx.2
  omega

theorem fitsIn_spec {S : Sch} (hv : VS S) {c need : Int} (hn : 1 ≤ need) : ∀ (k : Nat) (t : Int), 0 ≤ t → (S.has = true → S.o.f0 ≤ t) →
    (∃ r t2, fitsIn S c need k t = (some r, t2) ∧ 0 ≤ r ∧ First S c need t r) ∨
    (∃ t', fitsIn S c need k t = (none, t') ∧ t ≤ t' ∧ ((∀ u, t ≤ u → ¬ Fit S c need u) ∨ Gone S c need t t' k)) := by
  intro k
  induction k with
  | zero =>
    intro t ht hb
    right
    exact ⟨t, rfl, by omega, .inr ⟨by omega, fun h => absurd h (by omega), fun u a b => by omega, fun _ => by omega⟩⟩
  | succ k ih =>
    intro t ht hb
    have hsf := seekF_spec hv c true ht hb
    simp only [fitsIn]
    obtain ⟨fr, hfr⟩ : ∃ fr, seekF S c true t = fr := ⟨_, rfl⟩
    rw [hfr] at hsf ⊢
    rcases hsf with ⟨f0, f1, f2, f3⟩ | ⟨f0, f1⟩
    · have hbf : S.has = true → S.o.f0 ≤ fr := fun hh => by have := hb hh; omega
      have hsu := seekF_spec hv c false f0 hbf
      rw [if_neg (by omega)]
      obtain ⟨ti, hti⟩ : ∃ ti, seekF S c false fr = ti := ⟨_, rfl⟩
      rw [hti] at hsu ⊢
      have hno1 : ∀ u, t ≤ u → u < fr → ¬ Fit S c need u := fun u a b h => f3 u a b (h u (by omega) (by omega))
      rcases hsu with ⟨u0, u1, u2, u3⟩ | ⟨u0, u1⟩
      · have hlt : fr < ti := by
          have : fr ≠ ti := fun h => by rw [h, u2] at f2; cases f2
          omega
        have hop : ∀ u, fr ≤ u → u < ti → opn S c u = true := fun u a b => by have := u3 u a b; cases h : opn S c u; exact absurd h this; rfl
        by_cases hnd : need ≤ ti - fr
        · rw [if_pos (.inr hnd)]
          left
          exact ⟨fr, t, rfl, f0, .inl ⟨f0, f1, fun u a b => hop u a (by omega), hno1⟩⟩
        · rw [if_neg (by omega)]
          have hno2 : ∀ u, t ≤ u → u < ti → ¬ Fit S c need u := fun u a b h => by
            by_cases hu : u < fr
            · exact hno1 u a hu h
            · have := h ti (by omega) (by omega)
              rw [u2] at this; cases this
          rcases ih ti u0 (fun hh => by have := hb hh; omega) with ⟨r, t2, h1, h2, h3⟩ | ⟨t', h1, h2, h3⟩
          · left
            refine ⟨r, t2, h1, h2, ?_⟩
            rcases h3 with ⟨a1, a2, a3, a4⟩ | ⟨a1, _⟩
            · exact .inl ⟨a1, by omega, a3, fun u b1 b2 => by
                by_cases hu : u < ti
                · exact hno2 u b1 hu
                · exact a4 u (by omega) b2⟩
            · omega
          · right
            refine ⟨t', h1, by omega, ?_⟩
            rcases h3 with h3 | ⟨g1, g2, g3, g4⟩
            · left
              intro u a
              by_cases hu : u < ti
              · exact hno2 u a hu
              · exact h3 u (by omega)
            · right
              refine ⟨by omega, fun _ => by omega, fun u a b => ?_, fun hok => ?_⟩
              · by_cases hu : u < ti
                · exact hno2 u a hu
                · exact g3 u (by omega) b
              · have h4 := pot_seek hv hok f0 hbf hlt f2 u2
                have h5 := pot_mono hv hok f1
                have h6 := g4 hok
                omega
      · rw [if_pos (.inl (by omega))]
        left
        exact ⟨fr, t, rfl, f0, .inl ⟨f0, f1, fun u a b => by have := u1 u a; cases h : opn S c u; exact absurd h this; rfl, hno1⟩⟩
    · right
      rw [if_pos (by omega)]
      exact ⟨t, rfl, by omega, .inl (fun u a h => f1 u a (h u (by omega) (by omega)))⟩

/-- Of the list in force, cycle by cycle: what doesn't fit in one doesn't fit up to the last two. -/
theorem none_before {S : Sch} (hv : VS S) {c need t : Int} (hh : S.has = true) (hw : S.waits = true) (hb : S.o.f0 ≤ t) (hno : ∀ u, t ≤ u → u < t + S.o.f1 → ¬ Fit S c need u) :
    ∀ u, t ≤ u → u < S.at_ - 2 * S.o.f1 → ¬ Fit S c need u := by
  intro u hu hlim hfit
  have hvo := hv.o hh
  have hc := hvo.c0
  have htr := tail_rest hvo
  have hm := Int.emod_lt_of_pos (S.at_ - S.o.f0) (show 0 < S.o.f1 by omega)
  have hpo : ∀ v, v < S.at_ - S.o.f1 → PO S v := fun v hv' => ⟨hh, fun _ => by omega, fun h => by omega⟩
  have hk : 0 ≤ (u - t) / S.o.f1 := Int.ediv_nonneg (by omega) (by omega)
  have he := Int.mul_ediv_add_emod (u - t) S.o.f1
  have h0 := Int.emod_nonneg (u - t) (show S.o.f1 ≠ 0 by omega)
  have h1 := Int.emod_lt_of_pos (u - t) (show 0 < S.o.f1 by omega)
  obtain ⟨k, hk'⟩ := Int.eq_ofNat_of_zero_le hk
  rw [hk'] at he
  have hk0 : 0 ≤ S.o.f1 * (k : Int) := Int.mul_nonneg (by omega) (by omega)
  have hper : ∀ v, t ≤ v → v + S.o.f1 * (k : Int) < S.at_ - S.o.f1 → opn S c v = opn S c (v + S.o.f1 * (k : Int)) := by
    intro v a b
    unfold opn
    rw [st_O (hpo v (by omega)), st_O (hpo _ b), gState_period hvo (t := v) (by omega) k]
  refine hno (t + (u - t) % S.o.f1) (by omega) (by omega) (fun v a b => ?_)
  by_cases hn : need ≤ S.o.f1
  · rw [hper v (by omega) (by omega)]
    exact hfit _ (by omega) (by omega)
  · -- open for a whole cycle
    by_cases hvu : v < u
    · have hall := whole_all hvo (s := u) (t := u + S.o.f1) (by omega) (by omega) (fun x => decide (x / 2 ^ c.toNat % 2 = 1) = true) (fun x a1 a2 => by
        have := hfit x a1 (by omega)
        unfold opn at this
        rwa [st_O (hpo x (by omega))] at this)
      -- v, some cycles later, is behind u
      have hone := gState_period hvo (t := v) (by omega) (k + 1)
      have hge : u ≤ v + S.o.f1 * ((k + 1 : Nat) : Int) := by
        rw [Int.natCast_add, Int.mul_add]
        simp only [Int.natCast_one, Int.mul_one]
        omega
      have := hall _ hge
      rw [hone] at this
      unfold opn
      rw [st_O (hpo v (by omega))]
      exact this
    · exact hfit v (by omega) (by omega)

theorem againF_in {S : Sch} (hv : VS S) (t : Int) : t ≤ againF S t ∧ (againF S t = t ∨ againF S t < S.at_) ∧ S.at_ - 2000000000 ≤ againF S t ∧ (S.has = true → S.at_ - 2 * S.o.f1 ≤ againF S t ∧ (t < S.at_ - 2 * S.o.f1 → againF S t = S.at_ - 2 * S.o.f1) ∧ (S.at_ - 2 * S.o.f1 ≤ t → againF S t = t)) := by
  unfold againF
  cases hh : S.has with
  | false =>
    simp only [Bool.false_eq_true, if_false]
    refine ⟨by split <;> omega, by split <;> omega, by split <;> omega, fun h => by cases h⟩
  | true =>
    have h0 := (hv.o hh).c0
    have h1 := (hv.o hh).c1
    simp only [if_true]
    refine ⟨by (repeat' split) <;> omega, by (repeat' split) <;> omega, by (repeat' split) <;> omega, fun _ => ⟨by (repeat' split) <;> omega, fun h => by (repeat' split) <;> omega, fun h => by (repeat' split) <;> omega⟩⟩

theorem fits_spec {S : Sch} (hv : VS S) {c need t : Int} (hc0 : 0 ≤ c) (hc1 : c ≤ 7) (hn : 1 ≤ need) (ht : 0 ≤ t) (hb : S.has = true → S.o.f0 ≤ t) : First S c need t (fitsF S c t need) := by
  obtain ⟨N, hN⟩ : ∃ N : Nat, (2 * stepsF S).toNat = N := ⟨_, rfl⟩
  have hsp := steps_pos S
  have hN' : (N : Int) = 2 * stepsF S := by omega
  have hsd : stepsF S = 2 * ((S.o.f3.length : Int) + S.a.f3.length) + 8 := rfl
  have h1 := fitsIn_spec hv (c := c) hn N t ht hb
  unfold fitsF
  rw [hN]
  rcases h1 with ⟨r, t2, e1, e2, e3⟩ | ⟨t', e1, e2, e3⟩
  · rw [e1]; exact e3
  · rw [e1]
    simp only
    cases hw : S.waits with
    | false =>
      rw [if_neg (by simp)]
      right
      refine ⟨rfl, ?_⟩
      rcases e3 with e3 | ⟨g1, g2, g3, g4⟩
      · exact e3
      · cases hh : S.has with
        | false =>
          exfalso
          have hopn : ∀ u, opn S c u = true := fun u => by
            unfold opn
            rw [st_N ⟨hh, by rw [hw]; simp⟩]
            obtain ⟨n, rfl⟩ := Int.eq_ofNat_of_zero_le hc0
            have hn7 : n ≤ 7 := by omega
            have : ∀ n : Fin 8, decide ((255 : Int) / 2 ^ ((n.val : Nat) : Int).toNat % 2 = 1) = true := by decide +kernel
            exact this ⟨n, by omega⟩
          exact g3 t (by omega) (g2 (by omega)) (fun u _ _ => hopn u)
        | true =>
          have hp := g4 (.inr hh)
          rw [pot_free hw, pot_free hw] at hp
          have hwh := rank_whole (hv.o hh) (s := t) (t := t') (by omega)
          exact none_O hv hh hw (hb hh) (fun u a b => g3 u a (by omega))
    | true =>
      rw [if_pos rfl]
      obtain ⟨hva, ha0, ha1⟩ := hv.a hw
      have hm := hv.moved hw
      have hal : (movedF S).f3.length = S.a.f3.length := rfl
      have hac : (movedF S).f1 = S.a.f1 := rfl
      have hag := againF_in hv t'
      -- up to the second look there is none
      have hno1 : ∀ u, t ≤ u → u < againF S t' → ¬ Fit S c need u := by
        rcases e3 with e3 | ⟨g1, g2, g3, g4⟩
        · exact fun u a _ => e3 u a
        · intro u a b
          by_cases hu : u < t'
          · exact g3 u a hu
          · have hp := g4 (.inl hw)
            cases hh : S.has with
            | true =>
              have hx := hag.2.2.2 hh
              have htt : t' < S.at_ - 2 * S.o.f1 := by
                apply Classical.byContradiction
                intro h
                have := hx.2.2 (by omega)
                omega
              have hc := (hv.o hh).c0
              rw [pot_before hw (by omega), pot_before hw (by omega), if_pos hh, if_pos hh] at hp
              have hwh := rank_whole (hv.o hh) (s := t) (t := t') (by omega)
              exact none_before hv hh hw (hb hh) (fun v a b => g3 v a (by omega)) u a (by have := hx.2.1 htt; omega)
            | false =>
              exfalso
              have hta : t' < S.at_ := by
                rcases hag.2.1 with h | h
                · omega
                · omega
              rw [pot_before hw (by omega), pot_before hw hta, hh] at hp
              simp at hp
              omega
      have hb2 : S.has = true → S.o.f0 ≤ againF S t' := fun hh => by have := hb hh; omega
      rcases fitsIn_spec hv (c := c) hn N (againF S t') (by omega) hb2 with ⟨r, t2, e4, e5, e6⟩ | ⟨t2, e4, e5, e6⟩
      · rw [e4]
        simp only [Option.getD_some]
        left
        rcases e6 with ⟨a1, a2, a3, a4⟩ | ⟨a1, _⟩
        · exact ⟨a1, by omega, a3, fun u b1 b2 => by
            by_cases hu : u < againF S t'
            · exact hno1 u b1 hu
            · exact a4 u (by omega) b2⟩
        · omega
      · rw [e4]
        simp only [Option.getD_none]
        right
        refine ⟨rfl, ?_⟩
        have hno2 : ∀ u, againF S t' ≤ u → ¬ Fit S c need u := by
          rcases e6 with e6 | ⟨g1, g2, g3, g4⟩
          · exact e6
          · have hp := g4 (.inl hw)
            by_cases hta : S.at_ ≤ againF S t'
            · rw [pot_after hw hta, pot_after hw (by omega)] at hp
              have hwh := rank_whole hm (s := againF S t') (t := t2) (by rw [hal]; omega)
              rw [hac] at hwh
              exact none_M hv hw hta (fun u a b => g3 u a (by omega))
            · have hlow : pot0 S ≤ pot S (againF S t') + 3 * (S.o.f3.length : Int) := by
                rw [pot_before hw (by omega)]
                unfold pot0
                cases hh : S.has with
                | false => simp only [Bool.false_eq_true, if_false]; omega
                | true =>
                  simp only [if_true]
                  have := rank_upper (hv.o hh) (s := againF S t') (t := S.at_) (by have := (hag.2.2.2 hh).1; omega)
                  omega
              have ht2 : S.at_ ≤ t2 := by
                apply Classical.byContradiction
                intro h
                have := pot_before_le hv hw (t := t2) (by omega)
                omega
              rw [pot_after hw ht2] at hp
              have hwh := rank_whole hm (s := S.at_) (t := t2) (by rw [hal]; omega)
              rw [hac] at hwh
              have hM := none_M hv (c := c) (need := need) hw (show S.at_ ≤ S.at_ by omega) (fun u a b => g3 u (by omega) (by omega))
              intro u a
              by_cases hu : u < S.at_
              · exact g3 u a (by have := hva.c0; omega)
              · exact hM u (by omega)
        intro u a
        by_cases hu : u < againF S t'
        · exact hno1 u a hu
        · exact hno2 u (by omega)

theorem first_uniq {S : Sch} {c need t r r' : Int} (h : First S c need t r) (h' : First S c need t r') : r = r' := by
  rcases h with ⟨a1, a2, a3, a4⟩ | ⟨a1, a2⟩
  · rcases h' with ⟨b1, b2, b3, b4⟩ | ⟨b1, b2⟩
    · have h1 : ¬ r < r' := fun h => b4 r a2 h a3
      have h2 : ¬ r' < r := fun h => a4 r' b2 h b3
      omega
    · exact absurd a3 (b2 r a2)
  · rcases h' with ⟨b1, b2, b3, b4⟩ | ⟨b1, b2⟩
    · exact absurd b3 (a2 r' b2)
    · omega

/-- The law: the document's answer, or none among its edges: then there is none, or it is behind them. -/
theorem fits_law {S P : Sch} {now : Int} (hP : Plays S P now) {c need : Int} (hc0 : 0 ≤ c) (hc1 : c ≤ 7) (hn0 : 1 ≤ need) (hn1 : need ≤ 500) :
    (0 ≤ pfitsL P c need 600 600 now → fitsF S c now need = pfitsL P c need 600 600 now) ∧
    (pfitsL P c need 600 600 now < 0 → fitsF S c now need < 0 ∨ (P.waits = true ∧ popen P c (fitsF S c now need) need 600 = true)) := by
  have hag := hP.agree
  have hbP : P.has = true → P.o.f0 ≤ now := fun hh => by
    have hh' : S.has = true := by rw [← hag.has]; exact hh
    rw [hag.o hh']; exact hP.base hh'
  have hopn : ∀ u, opn P c u = opn S c u := fun u => by unfold opn; rw [hag.st]
  have hfit : ∀ u, Fit P c need u ↔ Fit S c need u := fun u => by unfold Fit; simp only [hopn]
  have hfirst : ∀ r, First P c need now r ↔ First S c need now r := fun r => by unfold First; simp only [hfit]
  have hS := fits_spec hP.vs (c := c) hc0 hc1 hn0 hP.now0 hP.base
  have hPs := pfits_spec hP.vp (c := c) hn0 (steps := 600) (by omega) 600 now hP.now0 hbP
  constructor
  · intro h
    rcases hPs with ⟨_, h2⟩ | ⟨h1, _⟩
    · exact first_uniq hS ((hfirst _).1 h2)
    · omega
  · intro h
    rcases hPs with ⟨h1, _⟩ | ⟨_, h2⟩
    · omega
    · rcases hS with ⟨a1, a2, a3, a4⟩ | ⟨a1, _⟩
      · right
        have hpo : popen P c (fitsF S c now need) need 600 = true := (popen_iff hP.vp a1 (fun hh => by have := hbP hh; omega) hn0 (steps := 600) (by omega)).2 ((hfit _).2 a3)
        refine ⟨?_, hpo⟩
        cases hw : P.waits with
        | true => rfl
        | false =>
          exfalso
          have hsw : S.waits = false := by rw [← hag.waits]; exact hw
          rcases h2 with h2 | ⟨t', g1, g2, g3, g4⟩
          · exact h2 _ a2 ((hfit _).2 a3)
          · cases hh : P.has with
            | true =>
              have hp := g4 (.inr hh)
              rw [pot_free hw, pot_free hw] at hp
              have hl := (hP.vp.o hh).n1
              have hwh := rank_whole (hP.vp.o hh) (s := now) (t := t') (by omega)
              exact none_O hP.vp hh hw (hbP hh) (fun u a b => g3 u a (by omega)) _ a2 ((hfit _).2 a3)
            | false =>
              have hopn1 : ∀ u, opn P c u = true := fun u => by
                unfold opn
                rw [st_N ⟨hh, by rw [hw]; simp⟩]
                obtain ⟨n, rfl⟩ := Int.eq_ofNat_of_zero_le hc0
                have hn7 : n ≤ 7 := by omega
                have : ∀ n : Fin 8, decide ((255 : Int) / 2 ^ ((n.val : Nat) : Int).toNat % 2 = 1) = true := by decide +kernel
                exact this ⟨n, by omega⟩
              exact g3 now (by omega) (g2 (by omega)) (fun u _ _ => hopn1 u)
      · left; omega

end Go.Proofs.Ytkbjelhmmcifhaa.CF
