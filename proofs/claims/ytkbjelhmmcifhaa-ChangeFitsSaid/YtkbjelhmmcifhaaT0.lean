/- Plain: a list's states are constant between its edges, and the same cycle by cycle; so many edges make a cycle. The lists may be (VL). -/
import Derived.Test.YtkbjelhmmcifhaaS4
set_option linter.unusedVariables false
set_option linter.unusedSimpArgs false
namespace Go.Proofs.Ytkbjelhmmcifhaa.CF
open Go.Proofs.Ytkbjelhmmcifhaa.PChangeFits (S71 S33 k71 k33 z71 z33 rd_T71)

/-- How many entries lie behind the one in force. -/
def grem (cyc into : Int) : S71 → List S71 → Int → Nat
  | _, [], _ => 0
  | e, e' :: r, acc => if cyc ≤ acc + e.f1 then r.length + 1 else if into < acc + e.f1 then r.length + 1 else grem cyc into e' r (acc + e.f1)

theorem grem_le (cyc into : Int) : ∀ (r : List S71) (e : S71) (acc : Int), grem cyc into e r acc ≤ r.length := by
  intro r
  induction r with
  | nil => intro e acc; simp [grem]
  | cons e' r ih =>
    intro e acc
    have := ih e' (acc + e.f1)
    simp only [grem, List.length_cons]
    split
    · omega
    · split <;> omega

theorem gat_const (cyc into u : Int) (h1 : into < cyc) (hu : into ≤ u) : ∀ (r : List S71) (e : S71) (acc : Int), acc ≤ into → u < into + (gat cyc into e r acc).2 → (gat cyc u e r acc).1 = (gat cyc into e r acc).1 := by
  intro r
  induction r with
  | nil => intro e acc ha h; rfl
  | cons e' r ih =>
    intro e acc ha h
    simp only [gat] at h ⊢
    by_cases hc : cyc ≤ acc + e.f1
    · rw [if_pos hc] at h ⊢; rw [if_pos hc]
    · rw [if_neg hc] at h ⊢
      rw [if_neg hc]
      by_cases hx : into < acc + e.f1
      · rw [if_pos hx] at h ⊢
        simp only at h
        rw [if_pos (by omega)]
      · rw [if_neg hx] at h ⊢
        rw [if_neg (by omega)]
        exact ih e' _ (Int.not_lt.1 hx) h

theorem gat_left_pos (cyc into : Int) (h1 : into < cyc) : ∀ (r : List S71) (e : S71) (acc : Int), acc ≤ into → 1 ≤ (gat cyc into e r acc).2 := by
  intro r
  induction r with
  | nil => intro e acc h; simp only [gat]; omega
  | cons e' r ih =>
    intro e acc h
    simp only [gat]
    by_cases hc : cyc ≤ acc + e.f1
    · rw [if_pos hc]; simp only; omega
    · rw [if_neg hc]
      by_cases hx : into < acc + e.f1
      · rw [if_pos hx]; simp only; omega
      · rw [if_neg hx]; exact ih e' _ (Int.not_lt.1 hx)

theorem grem_next (cyc into : Int) (h1 : into < cyc) : ∀ (r : List S71) (e : S71) (acc : Int), acc ≤ into → (gat cyc into e r acc).2 < cyc - into → grem cyc (into + (gat cyc into e r acc).2) e r acc + 1 ≤ grem cyc into e r acc := by
  intro r
  induction r with
  | nil => intro e acc ha h; simp only [gat] at h; omega
  | cons e' r ih =>
    intro e acc ha h
    simp only [gat] at h ⊢
    by_cases hc : cyc ≤ acc + e.f1
    · rw [if_pos hc] at h; simp only at h; omega
    · rw [if_neg hc] at h ⊢
      by_cases hx : into < acc + e.f1
      · rw [if_pos hx] at h ⊢
        have e1 : into + (acc + e.f1 - into) = acc + e.f1 := by omega
        simp only [grem, e1]
        rw [if_neg hc, if_neg hc, if_pos hx, if_neg (by omega)]
        have := grem_le cyc (acc + e.f1) r e' (acc + e.f1)
        omega
      · rw [if_neg hx] at h ⊢
        have hl := gat_left_pos cyc into h1 r e' (acc + e.f1) (Int.not_lt.1 hx)
        have := ih e' _ (Int.not_lt.1 hx) h
        simp only [grem]
        rw [if_neg hc, if_neg hc, if_neg hx, if_neg (by omega)]
        exact this

/-- quotient and rest of a time. -/
theorem qr {l : S33} (hv : VL l) (t : Int) : t = l.f0 + l.f1 * ((t - l.f0) / l.f1) + (t - l.f0) % l.f1 := by
  have := Int.mul_ediv_add_emod (t - l.f0) l.f1
  omega

theorem qr_uniq {l : S33} (hv : VL l) {t q r : Int} (h : t = l.f0 + l.f1 * q + r) (h0 : 0 ≤ r) (h1 : r < l.f1) : (t - l.f0) / l.f1 = q ∧ (t - l.f0) % l.f1 = r := by
  have hc := hv.c0
  have e : t - l.f0 = r + l.f1 * q := by omega
  rw [e]
  constructor
  · rw [Int.add_mul_ediv_left _ _ (by omega), Int.ediv_eq_zero_of_lt h0 h1]; omega
  · rw [Int.add_mul_emod_self_left, Int.emod_eq_of_lt h0 h1]

theorem gState_const {l : S33} (hv : VL l) {t u : Int} (h0 : t ≤ u) (h1 : u < gNext l t) : gState l u = gState l t := by
  unfold gState gNext at *
  by_cases h : t < l.f0
  · rw [if_pos h] at h1 ⊢; rw [if_pos h1]
  · rw [if_neg h] at h1 ⊢
    rw [if_neg (by omega)]
    obtain ⟨e, r, he⟩ := hv.cons
    have hi := into_in hv t
    have hl := gatL_left hv t
    have hg : ∀ t, gatL l t = gat l.f1 ((t - l.f0) % l.f1) e r 0 := fun t => by unfold gatL; rw [he]
    obtain ⟨hq, hr⟩ := qr_uniq hv (t := u) (q := (t - l.f0) / l.f1) (r := (t - l.f0) % l.f1 + (u - t)) (by have := qr hv t; omega) (by omega) (by omega)
    rw [hg, hg, hr]
    exact gat_const _ _ _ hi.2 (by omega) _ _ _ hi.1 (by rw [← hg]; omega)

theorem gState_period {l : S33} (hv : VL l) {t : Int} (h0 : l.f0 ≤ t) (k : Nat) : gState l (t + l.f1 * (k : Int)) = gState l t := by
  have hc := hv.c0
  have hk : 0 ≤ l.f1 * (k : Int) := Int.mul_nonneg (by omega) (by omega)
  obtain ⟨e, r, he⟩ := hv.cons
  have hg : ∀ t, gatL l t = gat l.f1 ((t - l.f0) % l.f1) e r 0 := fun t => by unfold gatL; rw [he]
  unfold gState
  rw [if_neg (by omega), if_neg (by omega), hg, hg]
  have hi := into_in hv t
  obtain ⟨hq, hr⟩ := qr_uniq hv (t := t + l.f1 * (k : Int)) (q := (t - l.f0) / l.f1 + k) (r := (t - l.f0) % l.f1) (by have := qr hv t; rw [Int.mul_add]; omega) hi.1 hi.2
  rw [hr]

/-- Rounds through a list: how many entries' places lie behind a time. -/
def rank (l : S33) (t : Int) : Int :=
  match l.f3 with
  | [] => 0
  | e :: r => ((t - l.f0) / l.f1) * ((r.length : Int) + 1) + ((r.length : Int) - (grem l.f1 ((t - l.f0) % l.f1) e r 0 : Int))

theorem rank_next {l : S33} (hv : VL l) {t : Int} (h0 : l.f0 ≤ t) : rank l t + 1 ≤ rank l (gNext l t) := by
  obtain ⟨e, r, he⟩ := hv.cons
  have hi := into_in hv t
  have hl := gatL_left hv t
  have hc := hv.c0
  have hg : gatL l t = gat l.f1 ((t - l.f0) % l.f1) e r 0 := by unfold gatL; rw [he]
  have hn : gNext l t = t + (gatL l t).2 := by unfold gNext; rw [if_neg (by omega)]
  unfold rank
  rw [he]
  simp only
  have hrem0 := grem_le l.f1 ((t - l.f0) % l.f1) r e 0
  by_cases hlast : (gatL l t).2 < l.f1 - (t - l.f0) % l.f1
  · obtain ⟨hq, hr⟩ := qr_uniq hv (t := gNext l t) (q := (t - l.f0) / l.f1) (r := (t - l.f0) % l.f1 + (gatL l t).2) (by have := qr hv t; omega) (by omega) (by omega)
    rw [hq, hr]
    have := grem_next l.f1 ((t - l.f0) % l.f1) hi.2 r e 0 hi.1 (by rw [← hg]; exact hlast)
    rw [← hg] at this
    omega
  · obtain ⟨hq, hr⟩ := qr_uniq hv (t := gNext l t) (q := (t - l.f0) / l.f1 + 1) (r := 0) (by have := qr hv t; rw [Int.mul_add]; omega) (by omega) (by omega)
    rw [hq, hr, Int.add_mul]
    have := grem_le l.f1 0 r e 0
    omega

theorem rank_whole {l : S33} (hv : VL l) {s t : Int} (h : rank l s + 2 * (l.f3.length : Int) ≤ rank l t) : s + l.f1 ≤ t := by
  obtain ⟨e, r, he⟩ := hv.cons
  have hc := hv.c0
  have his := into_in hv s
  have hit := into_in hv t
  have hlen : (l.f3.length : Int) = (r.length : Int) + 1 := by rw [he]; simp
  unfold rank at h
  rw [hlen] at h
  rw [he] at h
  simp only at h
  have h1 := grem_le l.f1 ((s - l.f0) % l.f1) r e 0
  have h2 : (0 : Int) ≤ (grem l.f1 ((t - l.f0) % l.f1) e r 0 : Int) := by omega
  have hqs := qr hv s
  have hqt := qr hv t
  generalize (s - l.f0) / l.f1 = qs at *
  generalize (t - l.f0) / l.f1 = qt at *
  generalize (s - l.f0) % l.f1 = rs at *
  generalize (t - l.f0) % l.f1 = rt at *
  have hq : qs + 2 ≤ qt := by
    apply Classical.byContradiction
    intro hn
    have hle : qt ≤ qs + 1 := by omega
    have := Int.mul_le_mul_of_nonneg_right hle (show (0 : Int) ≤ (r.length : Int) + 1 by omega)
    rw [Int.add_mul] at this
    omega
  have := Int.mul_le_mul_of_nonneg_left hq (show (0 : Int) ≤ l.f1 by omega)
  rw [Int.mul_add] at this
  omega

theorem rank_upper {l : S33} (hv : VL l) {s t : Int} (h : t ≤ s + 2 * l.f1) : rank l t ≤ rank l s + 3 * (l.f3.length : Int) := by
  obtain ⟨e, r, he⟩ := hv.cons
  have hc := hv.c0
  have his := into_in hv s
  have hit := into_in hv t
  have hlen : (l.f3.length : Int) = (r.length : Int) + 1 := by rw [he]; simp
  unfold rank
  rw [hlen, he]
  simp only
  have h1 := grem_le l.f1 ((s - l.f0) % l.f1) r e 0
  have h2 : (0 : Int) ≤ (grem l.f1 ((t - l.f0) % l.f1) e r 0 : Int) := by omega
  have hqs := qr hv s
  have hqt := qr hv t
  generalize (s - l.f0) / l.f1 = qs at *
  generalize (t - l.f0) / l.f1 = qt at *
  generalize (s - l.f0) % l.f1 = rs at *
  generalize (t - l.f0) % l.f1 = rt at *
  have hq : qt ≤ qs + 2 := by
    apply Classical.byContradiction
    intro hn
    have hle : qs + 3 ≤ qt := by omega
    have := Int.mul_le_mul_of_nonneg_left hle (show (0 : Int) ≤ l.f1 by omega)
    rw [Int.mul_add] at this
    omega
  have := Int.mul_le_mul_of_nonneg_right hq (show (0 : Int) ≤ (r.length : Int) + 1 by omega)
  rw [Int.add_mul] at this
  omega

/-- What holds for a whole cycle holds for good. -/
theorem whole_all {l : S33} (hv : VL l) {s t : Int} (hs : l.f0 ≤ s) (hst : s + l.f1 ≤ t) (P : Int → Prop) (h : ∀ u, s ≤ u → u < t → P (gState l u)) : ∀ u, s ≤ u → P (gState l u) := by
  intro u hu
  have hc := hv.c0
  -- u = v + k * cycle, v within the first cycle
  have hk : 0 ≤ (u - s) / l.f1 := Int.ediv_nonneg (by omega) (by omega)
  have he := Int.mul_ediv_add_emod (u - s) l.f1
  have h0 := Int.emod_nonneg (u - s) (show l.f1 ≠ 0 by omega)
  have h1 := Int.emod_lt_of_pos (u - s) (show 0 < l.f1 by omega)
  obtain ⟨k, hk'⟩ := Int.eq_ofNat_of_zero_le hk
  rw [hk'] at he
  have e : u = (s + (u - s) % l.f1) + l.f1 * (k : Int) := by omega
  rw [e, gState_period hv (by omega)]
  exact h _ (by omega) (by omega)

end Go.Proofs.Ytkbjelhmmcifhaa.CF
