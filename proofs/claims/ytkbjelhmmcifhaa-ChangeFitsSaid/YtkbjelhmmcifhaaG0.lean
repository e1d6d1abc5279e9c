/- What the packages gate and bargateref16 tell, by the plain functions. The lists may be (VL), the times are no later than 2^62 + 2^61. -/
import Derived.Test.YtkbjelhmmcifhaaP0
set_option linter.unusedVariables false
set_option linter.unusedSimpArgs false
namespace Go.Proofs.Ytkbjelhmmcifhaa.CF
open Go.RowKit Go.Proofs.YtkbjelhmmcifhaaW.PrintWords Go.Proofs.YtkbjelhmmcifhaaW.PrintLast Go.Proofs.YtkbjelhmmcifhaaW.PrintMore
open Go.Proofs.Ytkbjelhmmcifhaa.PChangeFits

theorem wrap_in {x : Int} (h0 : -9223372036854775808 ≤ x) (h1 : x ≤ 9223372036854775807) : wrap64 x = x := by
  unfold wrap64; omega


theorem rd_drop {xs : List S71} {i : Nat} {e : S71} {r : List S71} (h : xs.drop i = e :: r) : rd_T71 xs (i : Int) = e ∧ i < xs.length ∧ xs.drop (i + 1) = r ∧ xs.length = i + 1 + r.length := by
  have hl : (xs.drop i).length = r.length + 1 := by rw [h]; simp
  rw [List.length_drop] at hl
  have hi : i < xs.length := by omega
  refine ⟨?_, hi, ?_, by omega⟩
  · unfold rd_T71
    have := List.getElem_drop (xs := xs) (i := i) (j := 0) (h := by rw [List.length_drop]; omega)
    rw [Int.toNat_natCast, List.getD_eq_getElem?_getD, List.getElem?_eq_getElem hi]
    simp only [Option.getD_some]
    have h2 : (xs.drop i)[0]'(by rw [List.length_drop]; omega) = e := by simp [h]
    rw [← h2, this]; simp
  · rw [← List.drop_drop, h]; rfl

theorem gate_at_l0 (l : S33) (hv : VL l) (into : Int) (h0 : 0 ≤ into) (h1 : into < l.f1) : ∀ (r : List S71) (e : S71) (i k : Nat) (acc : Int),
    l.f3.drop i = e :: r → 0 ≤ acc → acc < l.f1 → acc ≤ into → 2 * r.length + 4 ≤ k →
    ∃ idx : Int, gate_at.l0 k into acc l.f3 (l.f3.length : Int) i l.f0 l.f1 l.f2 l.f3 = some (idx, (gat l.f1 into e r acc).2) ∧ 0 ≤ idx ∧ idx < l.f3.length ∧ (rd_T71 l.f3 idx).f0 = (gat l.f1 into e r acc).1 := by
  intro r
  have hc1 := hv.c1
  have hn1 := hv.n1
  induction r with
  | nil =>
    intro e i k acc hd ha0 ha1 hai hk
    obtain ⟨k, rfl⟩ : ∃ m, k = m + 2 := ⟨k - 2, by simp at hk; omega⟩
    obtain ⟨hrd, hi, hd', hlen⟩ := rd_drop hd
    have he := hv.es e (by have : e ∈ l.f3.drop i := by rw [hd]; simp
                           exact List.mem_of_mem_drop this)
    have w1 : wrap64 (acc + e.f1) = acc + e.f1 := wrap_in (by omega) (by omega)
    have w2 : wrap64 ((l.f3.length : Int) - 1) = (l.f3.length : Int) - 1 := wrap_in (by omega) (by omega)
    have w3 : wrap64 (l.f1 - into) = l.f1 - into := wrap_in (by omega) (by omega)
    simp at hlen
    refine ⟨i, ?_, by omega, by omega, by rw [hrd]; rfl⟩
    simp only [gate_at.l0]
    rw [if_pos (by omega), if_pos (by omega), if_pos (by omega), hrd, w1, w2]
    have hj : gate_at.j1 (k + 1) into (acc + e.f1) (i : Int) l.f3 (l.f3.length : Int) (i : Int) false l.f0 l.f1 l.f2 l.f3 = some ((i : Int), (gat l.f1 into e [] acc).2) := by
      simp only [gate_at.j1, gat]
      rw [if_neg (by simp)]
      by_cases h : acc + e.f1 ≥ l.f1
      · rw [if_pos h, w3]
      · rw [if_neg h]
        obtain ⟨k, rfl⟩ : ∃ m, k = m + 1 := ⟨k - 1, by simp at hk; omega⟩
        simp only [gate_at.l0]
        have w4 : wrap64 ((i : Int) + 1) = (i : Int) + 1 := wrap_in (by omega) (by omega)
        rw [w4, if_neg (by omega), w2, w3]
        congr 2; omega
    by_cases hx : into < acc + e.f1
    · rw [if_pos hx, if_neg (by omega)]; exact hj
    · rw [if_neg hx]; exact hj
  | cons e' r ih =>
    intro e i k acc hd ha0 ha1 hai hk
    have hk' : 2 * r.length + 6 ≤ k := by simp only [List.length_cons] at hk; omega
    clear hk
    obtain ⟨k, rfl⟩ : ∃ m, k = m + 2 := ⟨k - 2, by omega⟩
    have hk2 : 2 * r.length + 4 ≤ k := by omega
    clear hk'
    obtain ⟨hrd, hi, hd', hlen⟩ := rd_drop hd
    have he := hv.es e (by have : e ∈ l.f3.drop i := by rw [hd]; simp
                           exact List.mem_of_mem_drop this)
    have hi0 : (0 : Int) ≤ (i : Int) := by omega
    have hi1 : (i : Int) < (l.f3.length : Int) := by omega
    have hi2 : (i : Int) < (l.f3.length : Int) - 1 := by simp at hlen; omega
    have hsum : 0 ≤ acc + e.f1 := by omega
    have w1 : wrap64 (acc + e.f1) = acc + e.f1 := wrap_in (by omega) (by omega)
    have w2 : wrap64 ((l.f3.length : Int) - 1) = (l.f3.length : Int) - 1 := wrap_in (by omega) (by omega)
    have w3 : wrap64 (l.f1 - into) = l.f1 - into := wrap_in (by omega) (by omega)
    have w4 : wrap64 ((i : Int) + 1) = ((i + 1 : Nat) : Int) := by rw [wrap_in (by omega) (by omega)]; omega
    have w5 : wrap64 (acc + e.f1 - into) = acc + e.f1 - into := wrap_in (by omega) (by omega)
    clear hlen hn1 hc1
    simp only [gate_at.l0, gat]
    rw [if_pos hi1, if_pos hi0, if_pos hi1, hrd, w1, w2]
    by_cases hc : l.f1 ≤ acc + e.f1
    · refine ⟨i, ?_, hi0, hi1, by rw [hrd, if_pos hc]⟩
      have hdec : decide (acc + e.f1 < l.f1) = false := decide_eq_false (Int.not_lt.2 hc)
      have hj : gate_at.j1 (k + 1) into (acc + e.f1) (i : Int) l.f3 (l.f3.length : Int) (i : Int) false l.f0 l.f1 l.f2 l.f3 = some ((i : Int), l.f1 - into) := by
        simp only [gate_at.j1]
        rw [if_neg (by simp), if_pos hc, w3]
      rw [if_pos hc, hdec]
      by_cases hx : into < acc + e.f1
      · rw [if_pos hx, if_pos hi2]; exact hj
      · rw [if_neg hx]; exact hj
    · rw [if_neg hc]
      by_cases hx : into < acc + e.f1
      · refine ⟨i, ?_, hi0, hi1, by rw [hrd, if_pos hx]⟩
        have hdec : decide (acc + e.f1 < l.f1) = true := decide_eq_true (Int.not_le.1 hc)
        rw [if_pos hx, if_pos hx, if_pos hi2, hdec]
        simp only [gate_at.j1]
        rw [if_pos trivial, w5]
      · rw [if_neg hx, if_neg hx]
        obtain ⟨idx, h1', h2', h3', h4'⟩ := ih e' (i + 1) k (acc + e.f1) hd' hsum (Int.not_le.1 hc) (Int.not_lt.1 hx) hk2
        refine ⟨idx, ?_, h2', h3', h4'⟩
        simp only [gate_at.j1]
        rw [if_neg (by simp), if_neg hc, w4]
        exact h1'

theorem VL.cons {l : S33} (hv : VL l) : ∃ e r, l.f3 = e :: r := by
  cases h : l.f3 with
  | nil => have := hv.n0; rw [h] at this; simp at this
  | cons e r => exact ⟨e, r, rfl⟩

theorem into_in {l : S33} (hv : VL l) (t : Int) : 0 ≤ (t - l.f0) % l.f1 ∧ (t - l.f0) % l.f1 < l.f1 := by
  have := hv.c0
  exact ⟨Int.emod_nonneg _ (by omega), Int.emod_lt_of_pos _ (by omega)⟩

theorem gat_left (cyc into : Int) (h0 : 0 ≤ into) (h1 : into < cyc) : ∀ (r : List S71) (e : S71) (acc : Int), acc ≤ into → 1 ≤ (gat cyc into e r acc).2 ∧ (gat cyc into e r acc).2 ≤ cyc - into := by
  intro r
  induction r with
  | nil => intro e acc h; simp only [gat]; omega
  | cons e' r ih =>
    intro e acc h
    simp only [gat]
    by_cases hc : cyc ≤ acc + e.f1
    · rw [if_pos hc]; simp only; omega
    · rw [if_neg hc]
      by_cases hx : into < acc + e.f1
      · rw [if_pos hx]; simp only; omega
      · rw [if_neg hx]; exact ih e' _ (Int.not_lt.1 hx)

theorem gate_at_f {l : S33} (hv : VL l) {t : Int} (ht : l.f0 ≤ t) (ht1 : t ≤ 9000000000000000000) :
    wrap64 (t - l.f0) = t - l.f0 ∧ Int.tmod (t - l.f0) l.f1 = (t - l.f0) % l.f1 ∧ ∃ k idx, gate_at.f k l.f0 l.f1 l.f2 l.f3 ((t - l.f0) % l.f1) = some (idx, (gatL l t).2) ∧ 0 ≤ idx ∧ idx < l.f3.length ∧ (rd_T71 l.f3 idx).f0 = (gatL l t).1 := by
  have hb := hv.b0
  refine ⟨wrap_in (by omega) (by omega), Int.tmod_eq_emod_of_nonneg (by omega), 2 * l.f3.length + 4, ?_⟩
  obtain ⟨e, r, he⟩ := hv.cons
  have hi := into_in hv t
  have hlen : l.f3.length = r.length + 1 := by rw [he]; simp
  have hc0 := hv.c0
  obtain ⟨idx, h1, h2, h3, h4⟩ := gate_at_l0 l hv ((t - l.f0) % l.f1) hi.1 hi.2 r e 0 (2 * l.f3.length + 4) 0 (by simpa using he) (by omega) (by omega) hi.1 (by omega)
  have hg : gatL l t = gat l.f1 ((t - l.f0) % l.f1) e r 0 := by unfold gatL; rw [he]
  rw [hg]
  exact ⟨idx, h1, h2, h3, h4⟩

theorem gatL_left {l : S33} (hv : VL l) (t : Int) : 1 ≤ (gatL l t).2 ∧ (gatL l t).2 ≤ l.f1 - (t - l.f0) % l.f1 := by
  obtain ⟨e, r, he⟩ := hv.cons
  have hi := into_in hv t
  have hg : gatL l t = gat l.f1 ((t - l.f0) % l.f1) e r 0 := by unfold gatL; rw [he]
  rw [hg]
  exact gat_left _ _ hi.1 hi.2 _ _ _ hi.1

def listV (l : S33) (A : Option Addr) (c : Nat) : Value := .agg #[.int .i64 l.f0, .int .i64 l.f1, .int .i64 l.f2, .slice A l.f3.length c]

theorem gState_any {l : S33} (hv : VL l) {t : Int} (ht1 : t ≤ 9000000000000000000) (w : World) {A : Option Addr} {c : Nat} (hr : Kd.C k71 w A l.f3.length l.f3) (hc : l.f3.length ≤ c) :
    Calls Try.prog 76 #[listV l A c, .int .i64 t] w fun e w' => e = .returned (.int .i64 (gState l t)) ∧ Below w.heap.size w w' := by
  by_cases h : t < l.f0
  · refine gate_State.calls 0 _ _ _ _ _ _ _ _ w hr hc ?_
    unfold gate_State.f gState
    rw [if_pos h, if_pos h]
  · obtain ⟨h1, h2, k, idx, h3, h4, h5, h6⟩ := gate_at_f hv (Int.not_lt.1 h) ht1
    refine gate_State.calls k _ _ _ _ _ _ _ _ w hr hc ?_
    have := hv.c0
    unfold gate_State.f gState
    rw [if_neg h, if_neg h, if_neg (by omega), h1, h2, h3]
    simp only [Option.bind_some]
    rw [if_pos h4, if_pos h5, h6]

theorem gNext_any {l : S33} (hv : VL l) {t : Int} (ht1 : t ≤ 9000000000000000000) (w : World) {A : Option Addr} {c : Nat} (hr : Kd.C k71 w A l.f3.length l.f3) (hc : l.f3.length ≤ c) :
    Calls Try.prog 79 #[listV l A c, .int .i64 t] w fun e w' => e = .returned (.int .i64 (gNext l t)) ∧ Below w.heap.size w w' := by
  by_cases h : t < l.f0
  · refine gate_Next.calls 0 _ _ _ _ _ _ _ _ w hr hc ?_
    unfold gate_Next.f gNext
    rw [if_pos h, if_pos h]
  · obtain ⟨h1, h2, k, idx, h3, h4, h5, h6⟩ := gate_at_f hv (Int.not_lt.1 h) ht1
    refine gate_Next.calls k _ _ _ _ _ _ _ _ w hr hc ?_
    have := hv.c0
    have hl := gatL_left hv t
    have hi := into_in hv t
    have := hv.b0
    have := hv.c1
    have hw : wrap64 (t + (gatL l t).2) = t + (gatL l t).2 := wrap_in (by omega) (by omega)
    unfold gate_Next.f gNext
    rw [if_neg h, if_neg h, if_neg (by omega), h1, h2, h3]
    simp only [Option.bind_some]
    rw [hw]

theorem gStart_in {l : S33} (hv : VL l) {t : Int} (ht : l.f0 < t) : 0 ≤ (t - l.f0 + l.f1 - 1) / l.f1 * l.f1 ∧ (t - l.f0 + l.f1 - 1) / l.f1 * l.f1 ≤ t - l.f0 + l.f1 - 1 := by
  have := hv.c0
  exact ⟨Int.mul_nonneg (Int.ediv_nonneg (by omega) (by omega)) (by omega), Int.ediv_mul_le _ (by omega)⟩

theorem gStart_any {l : S33} (hv : VL l) {t : Int} (ht1 : t ≤ 4611686018427387904) (w : World) {A : Option Addr} {c : Nat} (hr : Kd.C k71 w A l.f3.length l.f3) (hc : l.f3.length ≤ c) :
    Calls Try.prog 74 #[listV l A c, .int .i64 t] w fun e w' => e = .returned (.int .i64 (gStart l t)) ∧ Below w.heap.size w w' := by
  refine gate_Start.calls _ _ _ _ _ _ _ _ w hr hc ?_
  unfold gate_Start.f gStart
  by_cases h : t ≤ l.f0
  · rw [if_pos h, if_pos h]
  · have := hv.c0
    have := hv.c1
    have := hv.b0
    have := hv.b1
    have hi := gStart_in hv (Int.not_le.1 h)
    have hq : 0 ≤ (t - l.f0 + l.f1 - 1) / l.f1 := Int.ediv_nonneg (by omega) (by omega)
    have hq1 : (t - l.f0 + l.f1 - 1) / l.f1 ≤ t - l.f0 + l.f1 - 1 := Int.ediv_le_self _ (by omega)
    have w1 : wrap64 (t - l.f0) = t - l.f0 := wrap_in (by omega) (by omega)
    have w2 : wrap64 (t - l.f0 + l.f1) = t - l.f0 + l.f1 := wrap_in (by omega) (by omega)
    have w3 : wrap64 (t - l.f0 + l.f1 - 1) = t - l.f0 + l.f1 - 1 := wrap_in (by omega) (by omega)
    have w4 : wrap64 ((t - l.f0 + l.f1 - 1) / l.f1) = (t - l.f0 + l.f1 - 1) / l.f1 := wrap_in (by omega) (by omega)
    have w5 : wrap64 ((t - l.f0 + l.f1 - 1) / l.f1 * l.f1) = (t - l.f0 + l.f1 - 1) / l.f1 * l.f1 := wrap_in (by omega) (by omega)
    have w6 : wrap64 (l.f0 + (t - l.f0 + l.f1 - 1) / l.f1 * l.f1) = l.f0 + (t - l.f0 + l.f1 - 1) / l.f1 * l.f1 := wrap_in (by omega) (by omega)
    have d1 : Int.tdiv (t - l.f0 + l.f1 - 1) l.f1 = (t - l.f0 + l.f1 - 1) / l.f1 := Int.tdiv_eq_ediv_of_nonneg (by omega)
    have hz : ¬ l.f1 = 0 := by omega
    rw [if_neg h, if_neg h, if_neg hz, w1, w2, w3, d1, w4, w5, w6]

theorem rStart_any {l : S33} (hv : VL l) {t : Int} (ht1 : t ≤ 4611686018427387904) (w : World) {A : Option Addr} {c : Nat} (hr : Kd.C k71 w A l.f3.length l.f3) (hc : l.f3.length ≤ c) :
    Calls Try.prog 46 #[listV l A c, .int .i64 t] w fun e w' => e = .returned (.int .i64 (gStart l t)) ∧ Below w.heap.size w w' := by
  refine bargateref17_Start.calls _ _ _ _ _ _ _ _ w hr hc ?_
  unfold bargateref17_Start.f gStart
  by_cases h : t ≤ l.f0
  · rw [if_pos h, if_pos h]
  · have h0 := hv.c0
    have := hv.c1
    have := hv.b0
    have := hv.b1
    have hi := into_in hv t
    have w1 : wrap64 (t - l.f0) = t - l.f0 := wrap_in (by omega) (by omega)
    have d1 : Int.tmod (t - l.f0) l.f1 = (t - l.f0) % l.f1 := Int.tmod_eq_emod_of_nonneg (by omega)
    have w2 : wrap64 (t - (t - l.f0) % l.f1) = t - (t - l.f0) % l.f1 := wrap_in (by omega) (by omega)
    have w3 : wrap64 (t - (t - l.f0) % l.f1 + l.f1) = t - (t - l.f0) % l.f1 + l.f1 := wrap_in (by omega) (by omega)
    have hz : ¬ l.f1 = 0 := by omega
    rw [if_neg h, if_neg h, if_neg hz, w1, d1, w2, w3]
    clear w1 w2 w3 d1
    have hdm := Int.mul_ediv_add_emod (t - l.f0) l.f1
    generalize hq : (t - l.f0) / l.f1 = q at hdm
    by_cases hm : (t - l.f0) % l.f1 = 0
    · rw [if_pos hm]
      have hdiv : (t - l.f0 + l.f1 - 1) / l.f1 = q := by
        have e : t - l.f0 + l.f1 - 1 = (l.f1 - 1) + l.f1 * q := by rw [← hdm, hm]; omega
        rw [e, Int.add_mul_ediv_left _ _ hz, Int.ediv_eq_zero_of_lt (by omega) (by omega)]; omega
      rw [hdiv, Int.mul_comm q]
      congr 1; omega
    · rw [if_neg hm]
      have hdiv : (t - l.f0 + l.f1 - 1) / l.f1 = q + 1 := by
        have e : t - l.f0 + l.f1 - 1 = ((t - l.f0) % l.f1 - 1) + l.f1 * (q + 1) := by
          rw [Int.mul_add]
          omega
        rw [e, Int.add_mul_ediv_left _ _ hz, Int.ediv_eq_zero_of_lt (by omega) (by omega)]; omega
      rw [hdiv, Int.mul_comm, Int.mul_add]
      congr 1; omega

end Go.Proofs.Ytkbjelhmmcifhaa.CF
