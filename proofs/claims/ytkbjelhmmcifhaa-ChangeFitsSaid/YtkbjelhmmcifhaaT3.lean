/- Plain: a schedule's Fits is the first time at which a class is open for so long; the document's, among its first edges. -/
import Derived.Test.YtkbjelhmmcifhaaT2
import Derived.Test.YtkbjelhmmcifhaaS5
import Derived.Test.YtkbjelhmmcifhaaQ3
set_option linter.unusedVariables false
set_option linter.unusedSimpArgs false
namespace Go.Proofs.Ytkbjelhmmcifhaa.CF
open Go.Proofs.Ytkbjelhmmcifhaa.PChangeFits (S71 S33 k71 k33 z71 z33 rd_T71)

/-- A class is open from t on for so long. -/
def Fit (S : Sch) (c need t : Int) : Prop := ∀ u, t ≤ u → u < t + need → opn S c u = true

theorem grem_mono (cyc : Int) {i j : Int} (h : i ≤ j) : ∀ (r : List S71) (e : S71) (acc : Int), grem cyc j e r acc ≤ grem cyc i e r acc := by
  intro r
  induction r with
  | nil => intro e acc; simp [grem]
  | cons e' r ih =>
    intro e acc
    simp only [grem]
    by_cases hc : cyc ≤ acc + e.f1
    · rw [if_pos hc, if_pos hc]; omega
    · rw [if_neg hc, if_neg hc]
      by_cases hj : j < acc + e.f1
      · rw [if_pos hj, if_pos (by omega)]; omega
      · rw [if_neg hj]
        by_cases hi : i < acc + e.f1
        · rw [if_pos hi]
          have := grem_le cyc j r e' (acc + e.f1)
          omega
        · rw [if_neg hi]; exact ih e' _

theorem rank_mono {l : S33} (hv : VL l) {s t : Int} (h : s ≤ t) : rank l s ≤ rank l t := by
  obtain ⟨e, r, he⟩ := hv.cons
  have hc := hv.c0
  have his := into_in hv s
  have hit := into_in hv t
  unfold rank
  rw [he]
  simp only
  have h1 := grem_le l.f1 ((s - l.f0) % l.f1) r e 0
  have h2 := grem_le l.f1 ((t - l.f0) % l.f1) r e 0
  have hqs := qr hv s
  have hqt := qr hv t
  have hm := fun (hh : (s - l.f0) % l.f1 ≤ (t - l.f0) % l.f1) => grem_mono l.f1 hh r e 0
  generalize grem l.f1 ((s - l.f0) % l.f1) e r 0 = gs at *
  generalize grem l.f1 ((t - l.f0) % l.f1) e r 0 = gt at *
  generalize (s - l.f0) / l.f1 = qs at *
  generalize (t - l.f0) / l.f1 = qt at *
  generalize (s - l.f0) % l.f1 = rs at *
  generalize (t - l.f0) % l.f1 = rt at *
  by_cases hq : qs = qt
  · subst hq
    have := hm (by omega)
    omega
  · have hq2 : qs + 1 ≤ qt := by
      apply Classical.byContradiction
      intro hn
      have hle : qt + 1 ≤ qs := by omega
      have := Int.mul_le_mul_of_nonneg_left hle (show (0 : Int) ≤ l.f1 by omega)
      rw [Int.mul_add] at this
      omega
    have := Int.mul_le_mul_of_nonneg_right hq2 (show (0 : Int) ≤ (r.length : Int) + 1 by omega)
    rw [Int.add_mul] at this
    omega

/-- a beginning of a cycle lies behind whatever is ahead of it. -/
theorem rank_begin {l : S33} (hv : VL l) {t q : Int} (h : t < l.f0 + q * l.f1) : rank l t + 1 ≤ rank l (l.f0 + q * l.f1) := by
  obtain ⟨e, r, he⟩ := hv.cons
  have hc := hv.c0
  have hit := into_in hv t
  obtain ⟨hq, hr⟩ := qr_uniq hv (t := l.f0 + q * l.f1) (q := q) (r := 0) (by rw [Int.mul_comm]; omega) (by omega) (by omega)
  unfold rank
  rw [he]
  simp only
  rw [hq, hr]
  have h1 := grem_le l.f1 0 r e 0
  have hqt := qr hv t
  rw [Int.mul_comm] at h
  have h2 : (0 : Int) ≤ (grem l.f1 ((t - l.f0) % l.f1) e r 0 : Int) := by omega
  generalize (grem l.f1 ((t - l.f0) % l.f1) e r 0) = gt at *
  generalize (t - l.f0) / l.f1 = qt at *
  generalize (t - l.f0) % l.f1 = rt at *
  have hq2 : qt + 1 ≤ q := by
    apply Classical.byContradiction
    intro hn
    have hle : q ≤ qt := by omega
    have := Int.mul_le_mul_of_nonneg_left hle (show (0 : Int) ≤ l.f1 by omega)
    omega
  have := Int.mul_le_mul_of_nonneg_right hq2 (show (0 : Int) ≤ (r.length : Int) + 1 by omega)
  rw [Int.add_mul] at this
  omega

/-- How many edges lie behind, at least: it grows by one with each. -/
def pot (S : Sch) (t : Int) : Int :=
  if S.waits = true then
    (if S.at_ ≤ t then (if S.has = true then rank S.o S.at_ else 0) + 1 + (rank (movedF S) t - rank (movedF S) S.at_)
     else if S.has = true then rank S.o t else 0)
  else rank S.o t

/-- what lies behind the change's time, of the list in force. -/
def pot0 (S : Sch) : Int := if S.has = true then rank S.o S.at_ else 0

theorem pot_after {S : Sch} {t : Int} (hw : S.waits = true) (h : S.at_ ≤ t) : pot S t = pot0 S + 1 + (rank (movedF S) t - rank (movedF S) S.at_) := by
  unfold pot pot0
  rw [if_pos hw]
  by_cases hh : S.has = true
  · simp only [hh, if_true]; exact if_pos h
  · simp only [hh, if_false]; exact if_pos h
theorem pot_before {S : Sch} {t : Int} (hw : S.waits = true) (h : t < S.at_) : pot S t = if S.has = true then rank S.o t else 0 := by
  unfold pot
  rw [if_pos hw]
  have hn : ¬ S.at_ ≤ t := by omega
  exact if_neg hn
theorem pot_free {S : Sch} {t : Int} (hw : S.waits = false) : pot S t = rank S.o t := by
  unfold pot
  rw [hw]; simp

theorem pot_before_le {S : Sch} (hv : VS S) {t : Int} (hw : S.waits = true) (h : t < S.at_) : pot S t ≤ pot0 S := by
  rw [pot_before hw h]
  unfold pot0
  by_cases hh : S.has = true
  · rw [if_pos hh, if_pos hh]; exact rank_mono (hv.o hh) (by omega)
  · rw [if_neg hh, if_neg hh]; omega

theorem pot_mono {S : Sch} (hv : VS S) (hok : S.waits = true ∨ S.has = true) {s t : Int} (h : s ≤ t) : pot S s ≤ pot S t := by
  cases hw : S.waits with
  | false =>
    rw [pot_free hw, pot_free hw]
    exact rank_mono (hv.o (hok.resolve_left (by rw [hw]; simp))) h
  | true =>
    have hm := hv.moved hw
    by_cases hs : S.at_ ≤ s
    · have ht : S.at_ ≤ t := by omega
      rw [pot_after hw hs, pot_after hw ht]
      have := rank_mono hm h
      omega
    · by_cases ht : S.at_ ≤ t
      · rw [pot_after hw ht]
        have := pot_before_le hv hw (show s < S.at_ by omega)
        have := rank_mono hm ht
        omega
      · rw [pot_before hw (by omega), pot_before hw (by omega)]
        by_cases hh : S.has = true
        · rw [if_pos hh, if_pos hh]; exact rank_mono (hv.o hh) h
        · rw [if_neg hh, if_neg hh]; omega

theorem pot_next {S : Sch} (hv : VS S) (hok : S.waits = true ∨ S.has = true) {t : Int} (ht : 0 ≤ t) (hb : S.has = true → S.o.f0 ≤ t) (hx : 0 ≤ nxF S t) : pot S t + 1 ≤ pot S (nxF S t) ∧ t < nxF S t := by
  have hatc : S.waits = true → t < S.at_ → pot S t + 1 ≤ pot S S.at_ := by
    intro hw hlt
    rw [pot_after hw (show S.at_ ≤ S.at_ by omega)]
    have := pot_before_le hv hw hlt
    omega
  rcases phases S t with hp | hp | hp | hp
  · rw [nx_M hp] at hx ⊢
    have hm := hv.moved hp.1
    have hgt := gNext_gt hm t
    have h2 := hp.2
    have hrn := rank_next hm (t := t) h2
    have h3 : S.at_ ≤ gNext (movedF S) t := by omega
    refine ⟨?_, hgt⟩
    rw [pot_after hp.1 h2, pot_after hp.1 h3]
    omega
  · rw [nx_T hp] at hx ⊢
    exact ⟨hatc (tailOk_iff hp.1).1 hp.2.2, hp.2.2⟩
  · have hm := hv.o hp.1
    have hgt := gNext_gt hm t
    have hrn := rank_next hm (t := t) (hb hp.1)
    cases hw : S.waits with
    | false =>
      rw [nx_O_free hp hw] at hx ⊢
      refine ⟨?_, hgt⟩
      rw [pot_free hw, pot_free hw]
      exact hrn
    | true =>
      have hlt := hp.2.1 hw
      have hin : ∀ x, t < x → x < S.at_ → rank S.o t + 1 ≤ rank S.o x → pot S t + 1 ≤ pot S x := by
        intro x h1 h2 h3
        rw [pot_before hw hlt, pot_before hw h2, if_pos hp.1, if_pos hp.1]
        exact h3
      cases hf : tailOk S with
      | false =>
        rw [nx_O_waits hv hp ht hw hf] at hx ⊢
        by_cases hl : S.at_ < gNext S.o t
        · rw [if_pos hl]; exact ⟨hatc hw hlt, hlt⟩
        · rw [if_neg hl]
          by_cases heq : gNext S.o t = S.at_
          · rw [heq]; exact ⟨hatc hw hlt, hlt⟩
          · exact ⟨hin _ hgt (by omega) hrn, hgt⟩
      | true =>
        rw [nx_O_tail hv hp ht hf] at hx ⊢
        obtain ⟨_, hh, hlt2, hnb, hne, _⟩ := tailOk_iff hf
        have hfi := from_in (hv.o hh) (by omega)
        have htf := hp.2.2 hf
        by_cases hl : tailFrom S < gNext S.o t
        · rw [if_pos hl]
          exact ⟨hin _ htf (by omega) (rank_begin hm htf), htf⟩
        · rw [if_neg hl]
          exact ⟨hin _ hgt (by omega) hrn, hgt⟩
  · rw [nx_N hp] at hx ⊢
    cases hw : S.waits with
    | false => rw [hw] at hx; simp at hx
    | true =>
      simp only [if_true]
      have hlt := hp.2 hw
      exact ⟨hatc hw hlt, hlt⟩

theorem nx_neg {S : Sch} (hv : VS S) {t : Int} (ht : 0 ≤ t) (h : nxF S t < 0) : nxF S t = -1 := by
  have := (nxF_in hv ht).1; omega

/-- No fit in a whole cycle: never. -/
theorem no_fit {G : Int → Bool} {c need s : Int} (hc : 1 ≤ c) (hp : ∀ x, s ≤ x → ∀ k : Nat, G (x + c * (k : Int)) = G x) (hno : ∀ u, s ≤ u → u < s + c → ¬ (∀ v, u ≤ v → v < u + need → G v = true)) :
    ∀ u, s ≤ u → ¬ (∀ v, u ≤ v → v < u + need → G v = true) := by
  intro u hu hfit
  have hk : 0 ≤ (u - s) / c := Int.ediv_nonneg (by omega) (by omega)
  have he := Int.mul_ediv_add_emod (u - s) c
  have h0 := Int.emod_nonneg (u - s) (show c ≠ 0 by omega)
  have h1 := Int.emod_lt_of_pos (u - s) (show 0 < c by omega)
  obtain ⟨k, hk'⟩ := Int.eq_ofNat_of_zero_le hk
  rw [hk'] at he
  refine hno (s + (u - s) % c) (by omega) (by omega) (fun v hv1 hv2 => ?_)
  rw [← hp v (by omega) k]
  exact hfit _ (by omega) (by omega)

theorem opn_period_M {S : Sch} (hv : VS S) {c : Int} (hw : S.waits = true) : ∀ x, S.at_ ≤ x → ∀ k : Nat, opn S c (x + S.a.f1 * (k : Int)) = opn S c x := by
  intro x hx k
  have hm := hv.moved hw
  have hk : 0 ≤ S.a.f1 * (k : Int) := Int.mul_nonneg (by have := (hv.a hw).1.c0; omega) (by omega)
  unfold opn
  rw [st_M ⟨hw, hx⟩, st_M (t := x + S.a.f1 * (k : Int)) ⟨hw, by omega⟩]
  have := gState_period hm (t := x) hx k
  have e : (movedF S).f1 = S.a.f1 := rfl
  rw [e] at this
  rw [this]

theorem opn_period_O {S : Sch} (hv : VS S) {c : Int} (hh : S.has = true) (hw : S.waits = false) : ∀ x, S.o.f0 ≤ x → ∀ k : Nat, opn S c (x + S.o.f1 * (k : Int)) = opn S c x := by
  intro x hx k
  have hf : tailOk S = false := by unfold tailOk; rw [hw]; simp
  have hpo : ∀ u, PO S u := fun u => ⟨hh, by rw [hw]; simp, by rw [hf]; simp⟩
  unfold opn
  rw [st_O (hpo _), st_O (hpo _), gState_period (hv.o hh) hx k]

theorem none_M {S : Sch} (hv : VS S) {c need s : Int} (hw : S.waits = true) (hs : S.at_ ≤ s) (hno : ∀ u, s ≤ u → u < s + S.a.f1 → ¬ Fit S c need u) : ∀ u, s ≤ u → ¬ Fit S c need u :=
  no_fit (G := opn S c) (hv.a hw).1.c0 (fun x hx k => opn_period_M hv hw x (by omega) k) hno

theorem none_O {S : Sch} (hv : VS S) {c need s : Int} (hh : S.has = true) (hw : S.waits = false) (hs : S.o.f0 ≤ s) (hno : ∀ u, s ≤ u → u < s + S.o.f1 → ¬ Fit S c need u) : ∀ u, s ≤ u → ¬ Fit S c need u :=
  no_fit (G := opn S c) (hv.o hh).c0 (fun x hx k => opn_period_O hv hh hw x (by omega) k) hno

/-! ### the document's Open -/

/-- Open for a whole cycle: it is so up to the change, or for good. -/
theorem whole_open {S : Sch} (hv : VS S) {c begun t : Int} (hb : S.has = true → S.o.f0 ≤ begun) (hbt : begun ≤ t) (hopen : ∀ u, begun ≤ u → u ≤ t → opn S c u = true) (hw : wholeF S begun t = true) :
    ∀ u, t ≤ u → (S.waits = true → t < S.at_ → u < S.at_) → opn S c u = true := by
  intro u hu hlim
  unfold wholeF at hw
  by_cases hm : S.waits = true ∧ S.at_ ≤ t
  · rw [if_pos hm] at hw
    have hw' := of_decide_eq_true hw
    have hvm := hv.moved hm.1
    obtain ⟨s, hs⟩ : ∃ s, (if begun < S.at_ then S.at_ else begun) = s := ⟨_, rfl⟩
    rw [hs] at hw'
    have hs1 : S.at_ ≤ s ∧ begun ≤ s := by rw [← hs]; split <;> omega
    have he : (movedF S).f1 = S.a.f1 := rfl
    have := whole_all hvm (s := s) (t := t) hs1.1 (by rw [he]; omega) (fun x => decide (x / 2 ^ c.toNat % 2 = 1) = true) (fun v a1 a2 => by
      have := hopen v (by omega) (by omega)
      unfold opn at this
      rwa [st_M ⟨hm.1, by omega⟩] at this) u (by have := hvm.c0; omega)
    unfold opn
    rwa [st_M ⟨hm.1, by have := hm.2; omega⟩]
  · rw [if_neg hm] at hw
    by_cases hh : S.has = true
    · rw [if_pos hh] at hw
      have hw' := of_decide_eq_true hw
      have hvo := hv.o hh
      have hc0 := hvo.c0
      rw [if_neg (by have := hb hh; omega)] at hw'
      have hwt : S.waits = true → t < S.at_ := fun h => by
        have : ¬ S.at_ ≤ t := fun hx => hm ⟨h, hx⟩
        omega
      by_cases hT : PT S t
      · -- the longer cycle: nothing changes up to the change
        have := hopen t hbt (by omega)
        unfold opn at this ⊢
        rw [st_T hT] at this
        rw [st_T ⟨hT.1, by have := hT.2.1; omega, hlim (tailOk_iff hT.1).1 hT.2.2⟩]
        exact this
      · have hpo : ∀ v, v ≤ t → PO S v := fun v hv' => ⟨hh, fun h => by have := hwt h; omega, fun h => by
          have h1 : ¬ (tailFrom S ≤ t) := fun hx => hT ⟨h, hx, hwt (tailOk_iff h).1⟩
          omega⟩
        have hall := whole_all hvo (s := begun) (t := t) (hb hh) (by omega) (fun x => decide (x / 2 ^ c.toNat % 2 = 1) = true) (fun v a1 a2 => by
          have := hopen v a1 (by omega)
          unfold opn at this
          rwa [st_O (hpo v (by omega))] at this)
        unfold opn
        by_cases hf : tailOk S = true ∧ tailFrom S ≤ u
        · have h5 := tailOk_iff hf.1
          have htf : t < tailFrom S := (hpo t (by omega)).2.2 hf.1
          rw [st_T ⟨hf.1, hf.2, hlim h5.1 (hwt h5.1)⟩]
          exact hall _ (by omega)
        · have hpu : PO S u := ⟨hh, fun h => hlim h (hwt h), fun h => by
            have : ¬ (tailFrom S ≤ u) := fun hx => hf ⟨h, hx⟩
            omega⟩
          rw [st_O hpu]
          exact hall u (by omega)
    · rw [if_neg hh] at hw; cases hw

theorem openL_spec {S : Sch} (hv : VS S) {c fin t0 : Int} (ht00 : 0 ≤ t0) (hb : S.has = true → S.o.f0 ≤ t0) : ∀ (k : Nat) (t begun : Int), t0 ≤ begun → begun ≤ t → t < fin → fin - t ≤ k → (∀ u, begun ≤ u → u < t → opn S c u = true) →
    (openL S c fin k t begun = true ↔ ∀ u, t ≤ u → u < fin → opn S c u = true) := by
  intro k
  induction k with
  | zero => intro t begun h1 h2 h3 h4; omega
  | succ k ih =>
    intro t begun h1 h2 h3 h4 hop
    have ht0 : 0 ≤ t := by omega
    simp only [openL]
    by_cases ho : opn S c t = false
    · rw [if_pos ho]
      refine ⟨(fun h => by cases h), fun h => ?_⟩
      have := h t (by omega) h3
      rw [ho] at this; cases this
    · have ho' : opn S c t = true := by cases hx : opn S c t; exact absurd hx ho; rfl
      rw [if_neg ho]
      have hop2 : ∀ u, begun ≤ u → u ≤ t → opn S c u = true := fun u a b => by
        by_cases hu : u = t
        · rw [hu]; exact ho'
        · exact hop u a (by omega)
      by_cases hw : wholeF S begun t = true
      · rw [if_pos hw]
        have hwo := whole_open hv (c := c) (fun hh => by have := hb hh; omega) h2 hop2 hw
        by_cases hx : S.waits = false ∨ S.at_ ≤ t ∨ fin ≤ S.at_
        · rw [if_pos hx]
          refine ⟨fun _ u a b => hwo u a (fun hwt hlt => ?_), fun _ => rfl⟩
          rcases hx with hx | hx | hx
          · rw [hx] at hwt; cases hwt
          · omega
          · omega
        · rw [if_neg hx]
          have hwt : S.waits = true := by cases h : S.waits; exact absurd (.inl h) hx; rfl
          have hlt : t < S.at_ := by
            have : ¬ S.at_ ≤ t := fun h => hx (.inr (.inl h))
            omega
          have hfa : S.at_ < fin := by
            have : ¬ fin ≤ S.at_ := fun h => hx (.inr (.inr h))
            omega
          rw [ih S.at_ S.at_ (by omega) (by omega) hfa (by omega) (fun u a b => by omega)]
          refine ⟨fun h u a b => ?_, fun h u a b => h u (by omega) b⟩
          by_cases hu : u < S.at_
          · exact hwo u a (fun _ _ => hu)
          · exact h u (by omega) b
      · rw [if_neg hw]
        by_cases hx : nxF S t < 0 ∨ fin ≤ nxF S t
        · rw [if_pos hx]
          refine ⟨fun _ u a b => ?_, fun _ => rfl⟩
          rw [opn_st (stF_const hv ht0 a (by rcases hx with hx | hx; exact .inl (nx_neg hv ht0 hx); exact .inr (by omega)))]
          exact ho'
        · rw [if_neg hx]
          have hgt : t < nxF S t := by
            rcases phases S t with h | h | h | h
            · rw [nx_M h]; exact gNext_gt (hv.moved h.1) t
            · rw [nx_T h]; exact h.2.2
            · have hgt := gNext_gt (hv.o h.1) t
              cases hw : S.waits with
              | false => rw [nx_O_free h hw]; exact hgt
              | true =>
                have := h.2.1 hw
                cases hf : tailOk S with
                | false => rw [nx_O_waits hv h ht0 hw hf]; split <;> omega
                | true => rw [nx_O_tail hv h ht0 hf]; have := h.2.2 hf; split <;> omega
            · rw [nx_N h] at hx ⊢
              cases hw : S.waits with
              | false => rw [hw] at hx; simp at hx
              | true => simp only [if_true]; exact h.2 hw
          have hcst : ∀ u, t ≤ u → u < nxF S t → opn S c u = true := fun u a b => by
            rw [opn_st (stF_const hv ht0 a (.inr b))]; exact ho'
          rw [ih (nxF S t) begun h1 (by omega) (by omega) (by omega) (fun u a b => by
            by_cases hu : u < t
            · exact hop u a hu
            · exact hcst u (by omega) b)]
          refine ⟨fun h u a b => ?_, fun h u a b => h u (by omega) b⟩
          by_cases hu : u < nxF S t
          · exact hcst u a hu
          · exact h u (by omega) b

theorem popen_iff {S : Sch} (hv : VS S) {c t need : Int} (ht : 0 ≤ t) (hb : S.has = true → S.o.f0 ≤ t) (hn : 1 ≤ need) {steps : Nat} (hs : need ≤ steps) : popen S c t need steps = true ↔ Fit S c need t :=
  openL_spec hv (c := c) (fin := t + need) (t0 := t) ht hb steps t t (by omega) (by omega) (by omega) (by omega) (fun u a b => by omega)

end Go.Proofs.Ytkbjelhmmcifhaa.CF
