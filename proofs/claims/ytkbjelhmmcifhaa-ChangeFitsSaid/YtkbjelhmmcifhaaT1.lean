/- Plain: a schedule's From and Until tell the first time at which a class is open, or isn't. The schedule is one that may be (VS); its list in force has begun. -/
import Derived.Test.YtkbjelhmmcifhaaT0
set_option linter.unusedVariables false
set_option linter.unusedSimpArgs false
namespace Go.Proofs.Ytkbjelhmmcifhaa.CF
open Go.Proofs.Ytkbjelhmmcifhaa.PChangeFits (S71 S33 k71 k33 z71 z33 rd_T71)

def seek (S : Sch) (c : Int) (b : Bool) : Nat → Int → Int → Option Int
  | 0, _, _ => none
  | f + 1, t, n => if 0 < n ∧ 0 ≤ t then (if opn S c t = b then some t else seek S c b f (leapF S t n).1 (leapF S t n).2) else some (-1)

theorem from_seek (S : Sch) (c : Int) : ∀ (f : Nat) (t n : Int), fromL S c f t n = seek S c true f t n := by
  intro f
  induction f with
  | zero => intro t n; rfl
  | succ f ih => intro t n; simp only [fromL, seek, ih]
theorem until_seek (S : Sch) (c : Int) : ∀ (f : Nat) (t n : Int), untilL S c f t n = seek S c false f t n := by
  intro f
  induction f with
  | zero => intro t n; rfl
  | succ f ih => intro t n; simp only [untilL, seek, ih]

section
variable {S : Sch}

/-! the four phases -/
def PM (S : Sch) (t : Int) : Prop := S.waits = true ∧ S.at_ ≤ t
def PT (S : Sch) (t : Int) : Prop := tailOk S = true ∧ tailFrom S ≤ t ∧ t < S.at_
def PO (S : Sch) (t : Int) : Prop := S.has = true ∧ (S.waits = true → t < S.at_) ∧ (tailOk S = true → t < tailFrom S)
def PN (S : Sch) (t : Int) : Prop := S.has = false ∧ (S.waits = true → t < S.at_)

theorem phases (S : Sch) (t : Int) : PM S t ∨ PT S t ∨ PO S t ∨ PN S t := by
  by_cases h1 : S.waits = true ∧ S.at_ ≤ t
  · exact .inl h1
  · have h1' : S.waits = true → t < S.at_ := fun hw => by
      have : ¬ S.at_ ≤ t := fun hx => h1 ⟨hw, hx⟩
      omega
    cases hh : S.has with
    | false => exact .inr (.inr (.inr ⟨hh, h1'⟩))
    | true =>
      by_cases h2 : tailOk S = true ∧ tailFrom S ≤ t
      · exact .inr (.inl ⟨h2.1, h2.2, h1' (tailOk_iff h2.1).1⟩)
      · exact .inr (.inr (.inl ⟨hh, h1', fun ht => by
          have : ¬ tailFrom S ≤ t := fun hx => h2 ⟨ht, hx⟩
          omega⟩))

theorem st_M {t : Int} (h : PM S t) : stF S t = gState (movedF S) t := by unfold stF; exact if_pos h
theorem nx_M {t : Int} (h : PM S t) : nxF S t = gNext (movedF S) t := by unfold nxF; exact if_pos h

theorem not_M {t : Int} (h : S.waits = true → t < S.at_) : ¬ (S.waits = true ∧ S.at_ ≤ t) := fun hx => by
  have := h hx.1
  omega
theorem not_T {t : Int} (h : tailOk S = true → t < tailFrom S) : ¬ (tailOk S = true ∧ tailFrom S ≤ t) := fun hx => by
  have := h hx.1
  omega

theorem st_T {t : Int} (h : PT S t) : stF S t = gState S.o (tailFrom S - 1) := by
  unfold stF
  rw [if_neg (not_M (fun _ => h.2.2)), if_pos ⟨h.1, h.2.1⟩]
theorem nx_T {t : Int} (h : PT S t) : nxF S t = S.at_ := by
  unfold nxF nx0
  rw [if_neg (not_M (fun _ => h.2.2)), if_pos (⟨h.1, h.2.1⟩ : tailOk S = true ∧ tailFrom S ≤ t), if_pos ⟨(tailOk_iff h.1).1, .inl (by omega)⟩]

theorem st_O {t : Int} (h : PO S t) : stF S t = gState S.o t := by
  unfold stF
  rw [if_neg (not_M h.2.1), if_neg (not_T h.2.2), if_pos h.1]

theorem nx_O_free {t : Int} (h : PO S t) (hw : S.waits = false) : nxF S t = gNext S.o t := by
  have hf : tailOk S = false := by unfold tailOk; rw [hw]; simp
  unfold nxF nx0
  simp [hw, hf, h.1]

theorem nx_O_waits {t : Int} (hv : VS S) (h : PO S t) (ht : 0 ≤ t) (hw : S.waits = true) (hf : tailOk S = false) : nxF S t = if S.at_ < gNext S.o t then S.at_ else gNext S.o t := by
  have hgt := gNext_gt (hv.o h.1) t
  have hn : ¬ gNext S.o t < 0 := by omega
  unfold nxF nx0
  rw [if_neg (not_M h.2.1)]
  simp [hw, hf, h.1, hn]

theorem nx_O_tail {t : Int} (hv : VS S) (h : PO S t) (ht : 0 ≤ t) (hf : tailOk S = true) : nxF S t = if tailFrom S < gNext S.o t then tailFrom S else gNext S.o t := by
  obtain ⟨hw, hh, hlt, _, hne, _⟩ := tailOk_iff hf
  have hin := from_in (hv.o hh) (by omega)
  have hb := (hv.o hh).b0
  have hgt := gNext_gt (hv.o h.1) t
  have hn : ¬ gNext S.o t < 0 := by omega
  have hn2 : ¬ tailFrom S < 0 := by omega
  have hn3 : ¬ S.at_ < tailFrom S := by omega
  have hnt := h.2.2 hf
  have hn4 : ¬ tailFrom S ≤ t := by omega
  unfold nxF nx0
  rw [if_neg (not_M h.2.1)]
  simp only [hw, hf, h.1, hn4, true_and, and_false, if_false, if_true]
  by_cases hl : tailFrom S < gNext S.o t
  · simp only [hl, if_true, hn2, hn3, or_self, if_false]
  · simp only [hl, if_false, hn, false_or]
    rw [if_neg (by omega)]

theorem st_N {t : Int} (h : PN S t) : stF S t = 255 := by
  have hf : tailOk S = false := by unfold tailOk; rw [h.1]; simp
  unfold stF
  rw [if_neg (not_M h.2), hf, h.1]
  simp
theorem nx_N {t : Int} (h : PN S t) : nxF S t = if S.waits = true then S.at_ else -1 := by
  have hf : tailOk S = false := by unfold tailOk; rw [h.1]; simp
  unfold nxF nx0
  rw [if_neg (not_M h.2), hf, h.1]
  simp

/-- Up to the next edge nothing changes. -/
theorem stF_const (hv : VS S) {t u : Int} (ht : 0 ≤ t) (h0 : t ≤ u) (h1 : nxF S t = -1 ∨ u < nxF S t) : stF S u = stF S t := by
  rcases phases S t with h | h | h | h
  · rw [nx_M h] at h1
    have hm := hv.moved h.1
    have hgt := gNext_gt hm t
    rw [st_M h, st_M (t := u) ⟨h.1, by have := h.2; omega⟩]
    exact gState_const hm h0 (by omega)
  · rw [nx_T h] at h1
    have ha := (hv.a (tailOk_iff h.1).1).2.1
    rw [st_T h, st_T (t := u) ⟨h.1, by have := h.2.1; omega, by omega⟩]
  · have hgt := gNext_gt (hv.o h.1) t
    cases hw : S.waits with
    | false =>
      rw [nx_O_free h hw] at h1
      have hf : tailOk S = false := by unfold tailOk; rw [hw]; simp
      rw [st_O h, st_O (t := u) ⟨h.1, by rw [hw]; simp, by rw [hf]; simp⟩]
      exact gState_const (hv.o h.1) h0 (by omega)
    | true =>
      have ha := (hv.a hw).2.1
      cases hf : tailOk S with
      | false =>
        rw [nx_O_waits hv h ht hw hf] at h1
        by_cases hl : S.at_ < gNext S.o t
        · rw [if_pos hl] at h1
          rw [st_O h, st_O (t := u) ⟨h.1, fun _ => by omega, by rw [hf]; simp⟩]
          exact gState_const (hv.o h.1) h0 (by omega)
        · rw [if_neg hl] at h1
          rw [st_O h, st_O (t := u) ⟨h.1, fun _ => by omega, by rw [hf]; simp⟩]
          exact gState_const (hv.o h.1) h0 (by omega)
      | true =>
        rw [nx_O_tail hv h ht hf] at h1
        obtain ⟨_, hh, hlt, _, hne, _⟩ := tailOk_iff hf
        have hin := from_in (hv.o hh) (by omega)
        have hb := (hv.o hh).b0
        by_cases hl : tailFrom S < gNext S.o t
        · rw [if_pos hl] at h1
          rw [st_O h, st_O (t := u) ⟨h.1, fun _ => by omega, fun _ => by omega⟩]
          exact gState_const (hv.o h.1) h0 (by omega)
        · rw [if_neg hl] at h1
          rw [st_O h, st_O (t := u) ⟨h.1, fun _ => by omega, fun _ => by omega⟩]
          exact gState_const (hv.o h.1) h0 (by omega)
  · rw [nx_N h] at h1
    cases hw : S.waits with
    | false => rw [st_N h, st_N (t := u) ⟨h.1, by rw [hw]; simp⟩]
    | true =>
      have ha := (hv.a hw).2.1
      rw [hw] at h1
      simp only [if_true] at h1
      rw [st_N h, st_N (t := u) ⟨h.1, fun _ => by omega⟩]

/-- The first time from t0 on at which a class is as b says; -1: there is none. -/
def Spec (S : Sch) (c : Int) (b : Bool) (t0 r : Int) : Prop :=
  (0 ≤ r ∧ t0 ≤ r ∧ opn S c r = b ∧ ∀ u, t0 ≤ u → u < r → opn S c u ≠ b) ∨ (r = -1 ∧ ∀ u, t0 ≤ u → opn S c u ≠ b)

structure Inv (S : Sch) (c : Int) (b : Bool) (t0 t n : Int) : Prop where
  le : t0 ≤ t
  pos : 0 ≤ t
  n0 : 0 ≤ n
  n1 : n ≤ stepsF S
  base : S.has = true → S.o.f0 ≤ t0
  shut : ∀ u, t0 ≤ u → u < t → opn S c u ≠ b
  m : PM S t → ∃ s, S.at_ ≤ s ∧ t0 ≤ s ∧ s ≤ t ∧ rank (movedF S) s + (stepsF S - n) ≤ rank (movedF S) t
  o : PO S t → ∃ s, t0 ≤ s ∧ s ≤ t ∧ rank S.o s + (stepsF S - n) ≤ rank S.o t
  none : n = 0 → PM S t ∨ PO S t ∧ S.waits = false

theorem opn_st {c t u : Int} (h : stF S u = stF S t) : opn S c u = opn S c t := by unfold opn; rw [h]

theorem steps_len (S : Sch) : 2 * (S.o.f3.length : Int) + 8 ≤ stepsF S ∧ 2 * (S.a.f3.length : Int) + 8 ≤ stepsF S := by unfold stepsF; omega

theorem steps_pos (S : Sch) : 0 < stepsF S := by unfold stepsF; omega

/-- Behind so many edges without it, in the list that comes: never. -/
theorem never_M (hv : VS S) {c t0 s t : Int} {b : Bool} (hw : S.waits = true) (hs : S.at_ ≤ s) (hshut : ∀ u, t0 ≤ u → u < t → opn S c u ≠ b) (h0 : t0 ≤ s) (hr : rank (movedF S) s + stepsF S ≤ rank (movedF S) t) : ∀ u, t0 ≤ u → opn S c u ≠ b := by
  intro u hu
  have hm := hv.moved hw
  have hl := (steps_len S).2
  have hlen : (movedF S).f3.length = S.a.f3.length := rfl
  have hwh := rank_whole hm (s := s) (t := t) (by rw [hlen]; omega)
  have hc := hm.c0
  by_cases hus : u < s
  · exact hshut u hu (by omega)
  · have := whole_all hm (s := s) (t := t) hs hwh (fun x => decide (x / 2 ^ c.toNat % 2 = 1) ≠ b) (fun v a1 a2 => by
      have := hshut v (by omega) a2
      unfold opn at this
      rwa [st_M ⟨hw, by omega⟩] at this) u (by omega)
    unfold opn
    rwa [st_M ⟨hw, by omega⟩]

/-- .. in the list in force: never, up to the change. -/
theorem never_O (hv : VS S) {c t0 s t : Int} {b : Bool} (hh : S.has = true) (hb : S.o.f0 ≤ s) (hlim : ∀ u, u < t → PO S u) (hshut : ∀ u, t0 ≤ u → u < t → opn S c u ≠ b) (h0 : t0 ≤ s) (hr : rank S.o s + stepsF S ≤ rank S.o t) : ∀ u, t0 ≤ u → (s ≤ u → PO S u) → opn S c u ≠ b := by
  intro u hu hpo
  have hm := hv.o hh
  have hl := (steps_len S).1
  have hwh := rank_whole hm (s := s) (t := t) (by omega)
  have hc := hm.c0
  by_cases hus : u < s
  · exact hshut u hu (by omega)
  · have := whole_all hm (s := s) (t := t) hb hwh (fun x => decide (x / 2 ^ c.toNat % 2 = 1) ≠ b) (fun v a1 a2 => by
      have := hshut v (by omega) a2
      unfold opn at this
      rwa [st_O (hlim v a2)] at this) u (by omega)
    unfold opn
    rwa [st_O (hpo (by omega))]

theorem Inv.at_change (hv : VS S) {c t0 t : Int} {b : Bool} (hw : S.waits = true) (hle : t0 ≤ S.at_) (hbase : S.has = true → S.o.f0 ≤ t0) (hshut : ∀ u, t0 ≤ u → u < S.at_ → opn S c u ≠ b) : Inv S c b t0 S.at_ (stepsF S) where
  le := hle
  pos := (hv.a hw).2.1
  n0 := by have := steps_pos S; omega
  n1 := by omega
  base := hbase
  shut := hshut
  m := fun h => ⟨S.at_, by omega, hle, by omega, by omega⟩
  o := fun h => by have := h.2.1 hw; omega
  none := fun h => by have := steps_pos S; omega

theorem shut_on (hv : VS S) {c t0 t n nx : Int} {b : Bool} (hI : Inv S c b t0 t n) (ho : opn S c t ≠ b) (hx : nxF S t = nx) (hx0 : 0 ≤ nx) : ∀ u, t0 ≤ u → u < nx → opn S c u ≠ b := by
  intro u h0 h1
  by_cases hu : u < t
  · exact hI.shut u h0 hu
  · rw [opn_st (stF_const hv hI.pos (by omega) (.inr (by rw [hx]; omega)))]
    exact ho

theorem Inv.step (hv : VS S) {c t0 t n : Int} {b : Bool} (hI : Inv S c b t0 t n) (hn : 0 < n) (ho : opn S c t ≠ b) :
    Inv S c b t0 (leapF S t n).1 (leapF S t n).2 ∨ ((leapF S t n).1 = -1 ∧ ∀ u, t0 ≤ u → opn S c u ≠ b) := by
  have hp := hI.pos
  have hle := hI.le
  have hsp := steps_pos S
  rcases phases S t with h | h | h | h
  · -- the list that comes
    left
    have hm := hv.moved h.1
    have hx := nx_M h
    have hgt := gNext_gt hm t
    have h2 := h.2
    have hlp : leapF S t n = (nxF S t, n - 1) := by
      unfold leapF
      rw [if_neg (fun hh => by omega), if_neg (fun hh => by rw [hx] at hh; omega)]
    rw [hlp, hx]
    obtain ⟨s, a1, a2, a3, a4⟩ := hI.m h
    have hrn := rank_next hm (t := t) h2
    exact ⟨by simp only; omega, by simp only; omega, by simp only; omega, by have := hI.n1; simp only; omega, hI.base, shut_on hv hI ho hx (by omega),
      fun _ => ⟨s, a1, a2, by simp only; omega, by simp only; omega⟩, fun hq => by have := hq.2.1 h.1; simp only at this; omega, fun _ => .inl ⟨h.1, by simp only; omega⟩⟩
  · -- the longer cycle
    left
    obtain ⟨hw, hh, hlt, _⟩ := tailOk_iff h.1
    have hx := nx_T h
    have h2 := h.2.2
    have hlp : leapF S t n = (nxF S t, stepsF S) := by
      unfold leapF
      rw [if_pos ⟨hw, h2, hx⟩]
    rw [hlp, hx]
    exact Inv.at_change hv (t := t) hw (by omega) hI.base (shut_on hv hI ho hx (hv.a hw).2.1)
  · -- the list in force
    left
    have hm := hv.o h.1
    have hgt := gNext_gt hm t
    have hbase := hI.base h.1
    obtain ⟨s, a1, a2, a3⟩ := hI.o h
    have hrn := rank_next hm (t := t) (by omega)
    cases hw : S.waits with
    | false =>
      have hf : tailOk S = false := by unfold tailOk; rw [hw]; simp
      have hx := nx_O_free h hw
      have hlp : leapF S t n = (nxF S t, n - 1) := by
        unfold leapF
        rw [hw]; simp
      rw [hlp, hx]
      have hpo : PO S (gNext S.o t) := ⟨h.1, by rw [hw]; simp, by rw [hf]; simp⟩
      exact ⟨by simp only; omega, by simp only; omega, by simp only; omega, by have := hI.n1; simp only; omega, hI.base, shut_on hv hI ho hx (by omega),
        (fun hq => by have := hq.1; rw [hw] at this; cases this), fun _ => ⟨s, a1, by simp only; omega, by simp only; omega⟩, fun _ => .inr ⟨hpo, hw⟩⟩
    | true =>
      have ha := (hv.a hw).2.1
      have hta := h.2.1 hw
      cases hf : tailOk S with
      | false =>
        have hx := nx_O_waits hv h hp hw hf
        by_cases hl : S.at_ < gNext S.o t
        · rw [if_pos hl] at hx
          have hlp : leapF S t n = (nxF S t, stepsF S) := by
            unfold leapF
            rw [if_pos ⟨hw, hta, hx⟩]
          rw [hlp, hx]
          exact Inv.at_change hv (t := t) hw (by omega) hI.base (shut_on hv hI ho hx ha)
        · rw [if_neg hl] at hx
          have hshut := shut_on hv hI ho hx (by omega)
          by_cases heq : gNext S.o t = S.at_
          · have hlp : leapF S t n = (nxF S t, stepsF S) := by
              unfold leapF
              rw [if_pos ⟨hw, hta, by omega⟩]
            rw [hlp, hx, heq]
            exact Inv.at_change hv (t := t) hw (by omega) hI.base (by rw [← heq]; exact hshut)
          · have hpo : ∀ u, u < S.at_ → PO S u := fun u hu => ⟨h.1, fun _ => hu, by rw [hf]; simp⟩
            by_cases hn1 : n = 1
            · have hlp : leapF S t n = (S.at_, stepsF S) := by
                unfold leapF
                rw [if_neg (fun hh => by omega), if_pos ⟨hn1, hw, by omega, by omega⟩, hf]
                simp
              rw [hlp]
              have hnv := never_O hv (t0 := t0) (s := s) (t := gNext S.o t) h.1 (by omega) (fun u hu => hpo u (by omega)) hshut a1 (by omega)
              exact Inv.at_change hv (t := t) hw (by omega) hI.base (fun u b1 b2 => hnv u b1 (fun _ => hpo u b2))
            · have hlp : leapF S t n = (nxF S t, n - 1) := by
                unfold leapF
                rw [if_neg (fun hh => by omega), if_neg (fun hh => hn1 hh.1)]
              rw [hlp, hx]
              exact ⟨by simp only; omega, by simp only; omega, by simp only; omega, by have := hI.n1; simp only; omega, hI.base, hshut,
                fun hq => by have := hq.2; simp only at this; omega, fun _ => ⟨s, a1, by simp only; omega, by simp only; omega⟩, fun hq => by simp only at hq; omega⟩
      | true =>
        have hx := nx_O_tail hv h hp hf
        obtain ⟨_, hh, hlt, hnb, hne, _⟩ := tailOk_iff hf
        have hin := from_in (hv.o hh) (by omega)
        have hb := (hv.o hh).b0
        have htf := h.2.2 hf
        have hpo : ∀ u, u < tailFrom S → PO S u := fun u hu => ⟨h.1, fun _ => by omega, fun _ => hu⟩
        have hpt : ∀ u, tailFrom S ≤ u → u < S.at_ → PT S u := fun u h1 h2 => ⟨hf, h1, h2⟩
        by_cases hl : tailFrom S < gNext S.o t ∨ gNext S.o t = tailFrom S
        · have hx' : nxF S t = tailFrom S := by
            rw [hx]
            rcases hl with hl | hl
            · rw [if_pos hl]
            · rw [if_neg (by omega)]; exact hl
          have hshut := shut_on hv hI ho hx' (by omega)
          by_cases hn1 : n = 1
          · have hlp : leapF S t n = (S.at_, stepsF S) := by
              unfold leapF
              rw [if_neg (fun hh => by omega), if_pos ⟨hn1, hw, by omega, by omega⟩, if_neg (fun hh => by omega)]
            rw [hlp]
            refine Inv.at_change hv (t := t) hw (by omega) hI.base (fun u b1 b2 => ?_)
            by_cases hu : u < tailFrom S
            · exact hshut u b1 hu
            · have hlast := hshut (tailFrom S - 1) (by omega) (by omega)
              unfold opn at hlast ⊢
              rw [st_O (hpo _ (by omega))] at hlast
              rw [st_T (hpt u (by omega) b2)]
              exact hlast
          · have hlp : leapF S t n = (nxF S t, n - 1) := by
              unfold leapF
              rw [if_neg (fun hh => by omega), if_neg (fun hh => hn1 hh.1)]
            rw [hlp, hx']
            exact ⟨by simp only; omega, by simp only; omega, by simp only; omega, by have := hI.n1; simp only; omega, hI.base, hshut,
              fun hq => by have := hq.2; simp only at this; omega, fun hq => by have := hq.2.2 hf; simp only at this; omega, fun hq => by simp only at hq; omega⟩
        · have hx' : nxF S t = gNext S.o t := by rw [hx, if_neg (by omega)]
          have hshut := shut_on hv hI ho hx' (by omega)
          by_cases hn1 : n = 1
          · have hlp : leapF S t n = (tailFrom S, stepsF S) := by
              unfold leapF
              rw [if_neg (fun hh => by omega), if_pos ⟨hn1, hw, by omega, by omega⟩, if_pos ⟨hf, by omega⟩]
            rw [hlp]
            have hnv := never_O hv (t0 := t0) (s := s) (t := gNext S.o t) h.1 (by omega) (fun u hu => hpo u (by omega)) hshut a1 (by omega)
            exact ⟨by simp only; omega, by simp only; omega, by simp only; omega, by simp only; omega, hI.base, fun u b1 b2 => hnv u b1 (fun _ => hpo u b2),
              fun hq => by have := hq.2; simp only at this; omega, fun hq => by have := hq.2.2 hf; simp only at this; omega, fun hq => by simp only at hq; omega⟩
          · have hlp : leapF S t n = (nxF S t, n - 1) := by
              unfold leapF
              rw [if_neg (fun hh => by omega), if_neg (fun hh => hn1 hh.1)]
            rw [hlp, hx']
            exact ⟨by simp only; omega, by simp only; omega, by simp only; omega, by have := hI.n1; simp only; omega, hI.base, hshut,
              fun hq => by have := hq.2; simp only at this; omega, fun _ => ⟨s, a1, by simp only; omega, by simp only; omega⟩, fun hq => by simp only at hq; omega⟩
  · have hx := nx_N h
    cases hw : S.waits with
    | false =>
      right
      rw [hw] at hx
      simp only [Bool.false_eq_true, if_false] at hx
      have hlp : leapF S t n = (nxF S t, n - 1) := by
        unfold leapF
        rw [hw]; simp
      rw [hlp]
      refine ⟨hx, fun u h0 => ?_⟩
      by_cases hu : u < t
      · exact hI.shut u h0 hu
      · rw [opn_st (stF_const hv hp (by omega) (.inl hx))]
        exact ho
    | true =>
      left
      rw [hw] at hx
      simp only [if_true] at hx
      have hta := h.2 hw
      have hlp : leapF S t n = (nxF S t, stepsF S) := by
        unfold leapF
        rw [if_pos ⟨hw, hta, hx⟩]
      rw [hlp, hx]
      exact Inv.at_change hv (t := t) hw (by omega) hI.base (shut_on hv hI ho hx (hv.a hw).2.1)

theorem seek_spec (hv : VS S) {c t0 : Int} {b : Bool} : ∀ (f : Nat) (t n r : Int), Inv S c b t0 t n → seek S c b f t n = some r → Spec S c b t0 r := by
  intro f
  induction f with
  | zero => intro t n r hI h; simp [seek] at h
  | succ f ih =>
    intro t n r hI h
    simp only [seek] at h
    have hp := hI.pos
    have hn0 := hI.n0
    by_cases hn : 0 < n
    · rw [if_pos ⟨hn, hp⟩] at h
      by_cases ho : opn S c t = b
      · rw [if_pos ho] at h
        obtain rfl := Option.some.inj h
        exact .inl ⟨hp, hI.le, ho, hI.shut⟩
      · rw [if_neg ho] at h
        rcases hI.step hv hn ho with hI' | ⟨h1, h2⟩
        · exact ih _ _ _ hI' h
        · right
          refine ⟨?_, h2⟩
          rw [h1] at h
          cases f with
          | zero => simp [seek] at h
          | succ f => simp [seek] at h; omega
    · rw [if_neg (fun hh => hn hh.1)] at h
      obtain rfl := Option.some.inj h
      right
      refine ⟨rfl, ?_⟩
      have hz : n = 0 := by omega
      rcases hI.none hz with hm | ⟨hpo, hw⟩
      · obtain ⟨s, a1, a2, a3, a4⟩ := hI.m hm
        exact never_M hv hm.1 a1 hI.shut a2 (by omega)
      · obtain ⟨s, a1, a2, a3⟩ := hI.o hpo
        have hf : tailOk S = false := by unfold tailOk; rw [hw]; simp
        have hall : ∀ u, PO S u := fun u => ⟨hpo.1, by rw [hw]; simp, by rw [hf]; simp⟩
        have hb := hI.base hpo.1
        exact fun u hu => never_O hv hpo.1 (by omega) (fun u _ => hall u) hI.shut a1 (by omega) u hu (fun _ => hall u)

theorem Inv.start (hv : VS S) {c t : Int} {b : Bool} (ht : 0 ≤ t) (hb : S.has = true → S.o.f0 ≤ t) : Inv S c b t t (stepsF S) where
  le := by omega
  pos := ht
  n0 := by have := steps_pos S; omega
  n1 := by omega
  base := hb
  shut := fun u h0 h1 => by omega
  m := fun h => ⟨t, h.2, by omega, by omega, by omega⟩
  o := fun h => ⟨t, by omega, by omega, by omega⟩
  none := fun h => by have := steps_pos S; omega

/-- There are rounds enough. -/
def left_ (S : Sch) (t n : Int) : Int := n + (if S.waits = true ∧ t < S.at_ then 400 else 0) + (if tailOk S = true ∧ t < tailFrom S then 400 else 0)

theorem leap_left (hv : VS S) {t n : Int} (ht : 0 ≤ t) (hn : 0 < n) : (leapF S t n).1 = -1 ∨ left_ S (leapF S t n).1 (leapF S t n).2 < left_ S t n := by
  have hs : stepsF S ≤ 300 := by have := hv.ol; have := hv.al; unfold stepsF; omega
  have hplain : ∀ x, t ≤ x → left_ S x (n - 1) < left_ S t n := by
    intro x hx
    unfold left_
    have a1 : (if S.waits = true ∧ x < S.at_ then (400 : Int) else 0) ≤ (if S.waits = true ∧ t < S.at_ then 400 else 0) := by
      by_cases h : S.waits = true ∧ x < S.at_
      · rw [if_pos h, if_pos ⟨h.1, by omega⟩]; omega
      · rw [if_neg h]; split <;> omega
    have a2 : (if tailOk S = true ∧ x < tailFrom S then (400 : Int) else 0) ≤ (if tailOk S = true ∧ t < tailFrom S then 400 else 0) := by
      by_cases h : tailOk S = true ∧ x < tailFrom S
      · rw [if_pos h, if_pos ⟨h.1, by omega⟩]; omega
      · rw [if_neg h]; split <;> omega
    omega
  have hat : S.waits = true → t < S.at_ → left_ S S.at_ (stepsF S) < left_ S t n := by
    intro hw hlt
    unfold left_
    rw [if_neg (fun (h : S.waits = true ∧ S.at_ < S.at_) => by omega), if_pos (⟨hw, hlt⟩ : S.waits = true ∧ t < S.at_)]
    have a2 : (if tailOk S = true ∧ S.at_ < tailFrom S then (400 : Int) else 0) ≤ (if tailOk S = true ∧ t < tailFrom S then 400 else 0) := by
      by_cases h : tailOk S = true ∧ S.at_ < tailFrom S
      · rw [if_pos h, if_pos ⟨h.1, by omega⟩]; omega
      · rw [if_neg h]; split <;> omega
    omega
  have hx : nxF S t = -1 ∨ t ≤ nxF S t := by
    rcases phases S t with h | h | h | h
    · rw [nx_M h]; have := gNext_gt (hv.moved h.1) t; omega
    · rw [nx_T h]; have := h.2.2; omega
    · have hgt := gNext_gt (hv.o h.1) t
      cases hw : S.waits with
      | false => rw [nx_O_free h hw]; omega
      | true =>
        have := h.2.1 hw
        cases hf : tailOk S with
        | false => rw [nx_O_waits hv h ht hw hf]; split <;> omega
        | true => rw [nx_O_tail hv h ht hf]; have := h.2.2 hf; split <;> omega
    · rw [nx_N h]
      cases hw : S.waits with
      | false => simp
      | true => simp only [if_true]; have := h.2 hw; omega
  unfold leapF
  split
  · rename_i h
    right
    rw [h.2.2]
    exact hat h.1 h.2.1
  · split
    · rename_i h
      right
      have hlt : t < S.at_ := by omega
      split
      · rename_i h3
        unfold left_
        have h5 := tailOk_iff h3.1
        have hta := from_in (hv.o h5.2.1) (by omega)
        have a1 : (if S.waits = true ∧ tailFrom S < S.at_ then (400 : Int) else 0) ≤ (if S.waits = true ∧ t < S.at_ then 400 else 0) := by
          rw [if_pos (⟨h5.1, hlt⟩ : S.waits = true ∧ t < S.at_)]; split <;> omega
        simp only
        rw [if_neg (fun (h : tailOk S = true ∧ tailFrom S < tailFrom S) => by omega), if_pos (⟨h3.1, by omega⟩ : tailOk S = true ∧ t < tailFrom S)]
        omega
      · exact hat h.2.1 hlt
    · rcases hx with hx | hx
      · left; exact hx
      · right; exact hplain _ hx

theorem seek_some (hv : VS S) (c : Int) (b : Bool) : ∀ (f : Nat) (t n : Int), 0 ≤ n → left_ S t n < f → 1 ≤ f → ∃ r, seek S c b f t n = some r := by
  intro f
  induction f with
  | zero => intro t n h0 h1 h2; omega
  | succ f ih =>
    intro t n h0 h1 h2
    simp only [seek]
    by_cases hgo : 0 < n ∧ 0 ≤ t
    · rw [if_pos hgo]
      by_cases ho : opn S c t = b
      · rw [if_pos ho]; exact ⟨t, rfl⟩
      · rw [if_neg ho]
        have hL0 : n ≤ left_ S t n := by unfold left_; split <;> split <;> omega
        have hf1 : 1 ≤ f := by omega
        have hn2 : 0 ≤ (leapF S t n).2 := by
          have := steps_pos S
          unfold leapF
          split
          · simp only; omega
          · split
            · split <;> (simp only; omega)
            · simp only; omega
        rcases leap_left hv hgo.2 hgo.1 with h | h
        · rw [h]
          obtain ⟨f, rfl⟩ : ∃ m, f = m + 1 := ⟨f - 1, by omega⟩
          exact ⟨-1, by simp only [seek]; rw [if_neg (by omega)]⟩
        · exact ih _ _ hn2 (by omega) hf1
    · rw [if_neg hgo]; exact ⟨-1, rfl⟩

theorem seek_in (hv : VS S) (c : Int) (b : Bool) : ∀ (f : Nat) (t n r : Int), -1 ≤ t → n ≤ 300 → seek S c b f t n = some r → -1 ≤ r ∧ (r ≤ t + 1000000000 * (f : Int) ∨ r ≤ 4611686018427387904 + 1000000000 * (f : Int)) := by
  intro f
  induction f with
  | zero => intro t n r ht hn h; simp [seek] at h
  | succ f ih =>
    intro t n r ht hn h
    simp only [seek] at h
    by_cases hgo : 0 < n ∧ 0 ≤ t
    · rw [if_pos hgo] at h
      by_cases ho : opn S c t = b
      · rw [if_pos ho] at h
        obtain rfl := Option.some.inj h
        omega
      · rw [if_neg ho] at h
        have hl := leapF_in hv hgo.2 hn
        have := ih _ _ _ hl.1 hl.2.2 h
        omega
    · rw [if_neg hgo] at h
      obtain rfl := Option.some.inj h
      omega
end

/-- The first time at which a class is as b says. -/
def seekF (S : Sch) (c : Int) (b : Bool) (t : Int) : Int := (seek S c b 2000 t (stepsF S)).getD 0

theorem seekF_eq {S : Sch} (hv : VS S) (c : Int) (b : Bool) (t : Int) : seek S c b 2000 t (stepsF S) = some (seekF S c b t) := by
  have hs : stepsF S ≤ 300 := by have := hv.ol; have := hv.al; unfold stepsF; omega
  have hsp := steps_pos S
  obtain ⟨r, hr⟩ := seek_some hv c b 2000 t (stepsF S) (by omega) (by unfold left_; split <;> split <;> omega) (by omega)
  unfold seekF
  rw [hr]; rfl

theorem seekF_spec {S : Sch} (hv : VS S) (c : Int) (b : Bool) {t : Int} (ht : 0 ≤ t) (hb : S.has = true → S.o.f0 ≤ t) : Spec S c b t (seekF S c b t) :=
  seek_spec hv 2000 t (stepsF S) _ (Inv.start hv ht hb) (seekF_eq hv c b t)

theorem seekF_in {S : Sch} (hv : VS S) (c : Int) (b : Bool) {t : Int} (ht : 0 ≤ t) : -1 ≤ seekF S c b t ∧ (seekF S c b t ≤ t + 2000000000000 ∨ seekF S c b t ≤ 4611686018427387904 + 2000000000000) := by
  have hs : stepsF S ≤ 300 := by have := hv.ol; have := hv.al; unfold stepsF; omega
  have := seek_in hv c b 2000 t (stepsF S) _ (by omega) hs (seekF_eq hv c b t)
  omega

end Go.Proofs.Ytkbjelhmmcifhaa.CF
