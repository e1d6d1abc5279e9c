/- Walks: a pair's whole, Open and Fits (bargateref17). The pair is one that may be (VS); the times are from 0 on, and no later than 8*10^18. -/
import Derived.Test.YtkbjelhmmcifhaaQ2
set_option linter.unusedVariables false
set_option linter.unusedSimpArgs false
namespace Go.Proofs.Ytkbjelhmmcifhaa.CF
open Go.RowKit Go.Proofs.YtkbjelhmmcifhaaW.PrintWords Go.Proofs.YtkbjelhmmcifhaaW.PrintLast Go.Proofs.YtkbjelhmmcifhaaW.PrintMore
open Go.Proofs.Ytkbjelhmmcifhaa.PChangeFits (S71 S33 k71 k33 z71 z33 rd_T71)

/-- Does a whole cycle lie between? -/
def wholeF (S : Sch) (begun t : Int) : Bool :=
  if S.waits = true ∧ S.at_ ≤ t then decide (S.a.f1 ≤ t - (if begun < S.at_ then S.at_ else begun))
  else if S.has = true then decide (S.o.f1 ≤ t - (if begun < S.o.f0 then S.o.f0 else begun)) else false

def openL (S : Sch) (c fin : Int) : Nat → Int → Int → Bool
  | 0, _, _ => true
  | k + 1, t, begun =>
    if opn S c t = false then false
    else if wholeF S begun t = true then (if S.waits = false ∨ S.at_ ≤ t ∨ fin ≤ S.at_ then true else openL S c fin k S.at_ S.at_)
    else if nxF S t < 0 ∨ fin ≤ nxF S t then true else openL S c fin k (nxF S t) begun

def popen (S : Sch) (c t need : Int) (steps : Nat) : Bool := openL S c (t + need) steps t t

def pfitsL (S : Sch) (c need : Int) (steps : Nat) : Nat → Int → Int
  | 0, _ => -1
  | k + 1, t => if 0 ≤ t then (if popen S c t need steps = true then t else pfitsL S c need steps k (nxF S t)) else -1

theorem opn_mod {S : Sch} (hv : VS S) (c t : Int) : ((stF S t / 2 ^ c.toNat).tmod 2 == 0) = !opn S c t := by
  have h0 := (stF_in hv t).1
  have h1 : 0 ≤ stF S t / 2 ^ c.toNat := Int.ediv_nonneg h0 (Int.le_of_lt (Int.pow_pos (by omega)))
  rw [Int.tmod_eq_emod_of_nonneg h1]
  unfold opn
  generalize stF S t / 2 ^ c.toNat = x
  by_cases hx : x % 2 = 1
  · have : ¬ x % 2 = 0 := by omega
    simp [hx]
  · have : x % 2 = 0 := by omega
    simp [this]

section
variable (w : World) (g : Nat) (S : Sch) {A3 : Option Addr} {c3 : Nat} {A7 : Option Addr} {c7 : Nat} (t : Int)

theorem whole_any (begun : Int) (h : IsPair w g S A3 c3 A7 c7) (hv : VS S) (hb0 : 0 ≤ begun) (hb1 : begun ≤ 9000000000000000000) (ht0 : 0 ≤ t) (ht1 : t ≤ 9000000000000000000) :
    Calls Try.prog 51 #[.pointer (some ⟨g, 0, none⟩), .int .i64 begun, .int .i64 t] w (RB w (wholeF S begun t)) := by
  obtain ⟨c0, c1, c2, c3, c4, c5, c6, c7, c8, c9, c10⟩ := h.cs
  have H := Aside0.mk h
  have hg := blk_lt h.blk
  unfold wholeF
  by_cases hp : S.waits = true ∧ S.at_ ≤ t
  · rw [if_pos hp]
    have hw := hp.1
    obtain ⟨hva, ha0, ha1⟩ := hv.a hw
    have hd : decide (S.at_ ≤ t) = true := decide_eq_true hp.2
    rw [hw] at c9
    have hc0 := hva.c0
    have hc1 := hva.c1
    clear h hv hp hw hva
    by_cases hlt : begun < S.at_
    · have hl' : decide (begun < S.at_) = true := decide_eq_true hlt
      rw [if_pos hlt]
      clear hlt
      go_enter Try.func51, Try.ntmps51
      go_wp2
      go_ret
      exact ⟨rfl, below_alloc (Below.refl _ _) _⟩
    · have hl' : decide (begun < S.at_) = false := decide_eq_false hlt
      rw [if_neg hlt]
      clear hlt
      go_enter Try.func51, Try.ntmps51
      go_wp2
      go_ret
      exact ⟨rfl, below_alloc (Below.refl _ _) _⟩
  · rw [if_neg hp]
    have hwd : S.waits = true → decide (S.at_ ≤ t) = false := fun hw => decide_eq_false (fun h => hp ⟨hw, h⟩)
    cases hh : S.has
    · rw [if_neg (by simp)]
      rw [hh] at c8
      clear h hv hp hh
      cases hw : S.waits
      all_goals
        rw [hw] at c9
        try (have hd := hwd hw)
        clear hwd hw
        go_enter Try.func51, Try.ntmps51
        go_wp2
        go_ret
        exact ⟨rfl, below_alloc (Below.refl _ _) _⟩
    · rw [if_pos rfl]
      have hvo := hv.o hh
      have hc0 := hvo.c0
      have hc1 := hvo.c1
      have ho0 := hvo.b0
      have ho1 := hvo.b1
      rw [hh] at c8
      clear h hv hp hh hvo
      cases hw : S.waits
      all_goals
        rw [hw] at c9
        try (have hd := hwd hw)
        clear hwd hw
        by_cases hlt : begun < S.o.f0
        · have hl' : decide (begun < S.o.f0) = true := decide_eq_true hlt
          rw [if_pos hlt]
          clear hlt
          go_enter Try.func51, Try.ntmps51
          go_wp2
          go_ret
          exact ⟨rfl, below_alloc (Below.refl _ _) _⟩
        · have hl' : decide (begun < S.o.f0) = false := decide_eq_false hlt
          rw [if_neg hlt]
          clear hlt
          go_enter Try.func51, Try.ntmps51
          go_wp2
          go_ret
          exact ⟨rfl, below_alloc (Below.refl _ _) _⟩

set_option maxHeartbeats 2000000 in
set_option maxRecDepth 100000 in
theorem open_any (c need : Int) (steps : Nat) (h : IsPair w g S A3 c3 A7 c7) (hv : VS S) (hc0 : 0 ≤ c) (hc1 : c ≤ 7) (ht0 : 0 ≤ t) (ht1 : t ≤ 6000000000000000000) (hn0 : 0 ≤ need) (hn1 : need ≤ 1000000000000000000) (hs : steps ≤ 100000) :
    Calls Try.prog 14 #[.pointer (some ⟨g, 0, none⟩), .int .i64 c, .int .i64 t, .int .i64 need, .int .i64 (steps : Int)] w (RB w (popen S c t need steps)) := by
  have H := Aside0.mk h
  have HV := Aside0.mk hv
  clear h hv
  go_enter Try.func14, Try.ntmps14
  go_wp2_with fail
  go_loopg [2, 12, 13] steps (fun k tv bv iv wr => ∃ t' b i : Int, tv = .int .i64 t' ∧ bv = .int .i64 b ∧ iv = .int .i64 i ∧ 0 ≤ i ∧ i + k = steps ∧ Below w.heap.size w wr ∧ 0 ≤ t' ∧ t' ≤ 7000000000000000000 ∧ 0 ≤ b ∧ b ≤ 7000000000000000000 ∧ openL S c (t + need) k t' b = popen S c t need steps)
  case atStart => exact ⟨t, t, 0, rfl, rfl, rfl, by omega, by omega, Below.refl _ _, ht0, by omega, ht0, by omega, rfl⟩
  case round =>
    obtain ⟨t', b, i, rfl, rfl, rfl, hi0, hik, hB, ht0', ht1', hb0', hb1', hop⟩ := hrel
    have HB := Aside0.mk hB
    have H1 := Aside0.mk (H.out.below hB)
    have HIK := Aside0.mk hik
    by_cases hlt : i < steps
    · obtain ⟨k', hk'⟩ : ∃ k', gk = k' + 1 := ⟨gk - 1, by omega⟩
      rw [hk'] at hop
      simp only [openL] at hop
      have HO := Aside0.mk hop
      have HK := Aside0.mk hk'
      clear hB hik hop hk'
      have hom := opn_mod HV.out c t'
      cases ho : opn S c t'
      · rw [ho] at hom
        have HR : Aside0 (popen S c t need steps = false) := ⟨by have := HO.out; rw [if_pos ho] at this; exact this.symm⟩
        clear ho
        go_wp2_with fail
        refine (pstate_any _ _ _ _ H1.out HV.out ht0' (by omega)).mono ?_
        rintro e w2 ⟨rfl, hb⟩
        have HB2 := Aside0.mk (below_step HB.out hb)
        have H2 := Aside0.mk (H1.out.below hb)
        clear hb
        go_wp2_with fail
        go_ret
        exact ⟨congrArg (fun x => Ending.returned (.bool x)) HR.out.symm, HB2.out⟩
      · rw [ho] at hom
        have HO2 : Aside0 ((if wholeF S b t' = true then (if S.waits = false ∨ S.at_ ≤ t' ∨ t + need ≤ S.at_ then true else openL S c (t + need) k' S.at_ S.at_) else if nxF S t' < 0 ∨ t + need ≤ nxF S t' then true else openL S c (t + need) k' (nxF S t') b) = popen S c t need steps) := ⟨by
          have := HO.out
          rw [if_neg (by rw [ho]; simp)] at this
          exact this⟩
        clear ho
        cases hwh : wholeF S b t'
        · have HO3 : Aside0 ((if nxF S t' < 0 ∨ t + need ≤ nxF S t' then true else openL S c (t + need) k' (nxF S t') b) = popen S c t need steps) := ⟨by
            have := HO2.out
            rw [if_neg (by rw [hwh]; simp)] at this
            exact this⟩
          have HWH := Aside0.mk hwh
          clear hwh
          go_wp2_with fail
          refine (pstate_any _ _ _ _ H1.out HV.out ht0' (by omega)).mono ?_
          rintro e w2 ⟨rfl, hb⟩
          have HB2 := Aside0.mk (below_step HB.out hb)
          have H2 := Aside0.mk (H1.out.below hb)
          clear hb
          go_wp2_with fail
          refine (whole_any _ _ _ _ _ H2.out HV.out hb0' (by omega) ht0' (by omega)).mono ?_
          rintro e w3 ⟨rfl, hb⟩
          have HB3 := Aside0.mk (below_step HB2.out hb)
          have H3 := Aside0.mk (H2.out.below hb)
          obtain ⟨_, _, _, _, _, _, _, _, _, d9, d10⟩ := H3.out.cs
          clear hb
          rw [HWH.out]
          go_wp2_with fail
          refine (pnext_any _ _ _ _ H3.out HV.out ht0' (by omega)).mono ?_
          rintro e w4 ⟨rfl, hb⟩
          have HB4 := Aside0.mk (below_step HB3.out hb)
          clear hb
          by_cases hx : nxF S t' < 0
          · have HR : Aside0 (popen S c t need steps = true) := ⟨by have := HO3.out; rw [if_pos (.inl hx)] at this; exact this.symm⟩
            go_wp2_with fail
            go_ret
            exact ⟨congrArg (fun x => Ending.returned (.bool x)) HR.out.symm, HB4.out⟩
          · by_cases hy : t + need ≤ nxF S t'
            · have HR : Aside0 (popen S c t need steps = true) := ⟨by have := HO3.out; rw [if_pos (.inr hy)] at this; exact this.symm⟩
              go_wp2_with fail
              go_ret
              exact ⟨congrArg (fun x => Ending.returned (.bool x)) HR.out.symm, HB4.out⟩
            · have HR : Aside0 (openL S c (t + need) k' (nxF S t') b = popen S c t need steps) := ⟨by have := HO3.out; rw [if_neg (fun h => h.elim hx hy)] at this; exact this⟩
              go_wp2_with fail
              go_roundg k'
              case measure => have := HK.out; omega
              case rel => exact ⟨_, b, i + 1, rfl, rfl, by go_num, by omega, by have := HIK.out; have := HK.out; omega, HB4.out, by omega, by omega, hb0', hb1', HR.out⟩
        · have HO3 : Aside0 ((if S.waits = false ∨ S.at_ ≤ t' ∨ t + need ≤ S.at_ then true else openL S c (t + need) k' S.at_ S.at_) = popen S c t need steps) := ⟨by
            have := HO2.out
            rw [if_pos hwh] at this
            exact this⟩
          have HWH := Aside0.mk hwh
          clear hwh
          cases hw : S.waits
          · have HR : Aside0 (popen S c t need steps = true) := ⟨by have := HO3.out; rw [if_pos (.inl hw)] at this; exact this.symm⟩
            have HW := Aside0.mk hw
            clear hw
            go_wp2_with fail
            refine (pstate_any _ _ _ _ H1.out HV.out ht0' (by omega)).mono ?_
            rintro e w2 ⟨rfl, hb⟩
            have HB2 := Aside0.mk (below_step HB.out hb)
            have H2 := Aside0.mk (H1.out.below hb)
            clear hb
            go_wp2_with fail
            refine (whole_any _ _ _ _ _ H2.out HV.out hb0' (by omega) ht0' (by omega)).mono ?_
            rintro e w3 ⟨rfl, hb⟩
            have HB3 := Aside0.mk (below_step HB2.out hb)
            have H3 := Aside0.mk (H2.out.below hb)
            obtain ⟨_, _, _, _, _, _, _, _, _, d9, d10⟩ := H3.out.cs
            clear hb
            rw [HWH.out]
            rw [HW.out] at d9
            go_wp2_with fail
            go_ret
            exact ⟨congrArg (fun x => Ending.returned (.bool x)) HR.out.symm, HB3.out⟩
          · have HW := Aside0.mk hw
            obtain ⟨_, ha0, ha1⟩ := HV.out.a hw
            clear hw
            by_cases hx : S.at_ ≤ t'
            · have HR : Aside0 (popen S c t need steps = true) := ⟨by have := HO3.out; rw [if_pos (.inr (.inl hx))] at this; exact this.symm⟩
              have hx' : decide (S.at_ ≤ t') = true := decide_eq_true hx
              go_wp2_with fail
              refine (pstate_any _ _ _ _ H1.out HV.out ht0' (by omega)).mono ?_
              rintro e w2 ⟨rfl, hb⟩
              have HB2 := Aside0.mk (below_step HB.out hb)
              have H2 := Aside0.mk (H1.out.below hb)
              clear hb
              go_wp2_with fail
              refine (whole_any _ _ _ _ _ H2.out HV.out hb0' (by omega) ht0' (by omega)).mono ?_
              rintro e w3 ⟨rfl, hb⟩
              have HB3 := Aside0.mk (below_step HB2.out hb)
              have H3 := Aside0.mk (H2.out.below hb)
              obtain ⟨_, _, _, _, _, _, _, _, _, d9, d10⟩ := H3.out.cs
              clear hb
              rw [HWH.out]
              rw [HW.out] at d9
              go_wp2_with fail
              go_ret
              exact ⟨congrArg (fun x => Ending.returned (.bool x)) HR.out.symm, HB3.out⟩
            · have hx' : decide (S.at_ ≤ t') = false := decide_eq_false hx
              by_cases hy : t + need ≤ S.at_
              · have HR : Aside0 (popen S c t need steps = true) := ⟨by have := HO3.out; rw [if_pos (.inr (.inr hy))] at this; exact this.symm⟩
                go_wp2_with fail
                refine (pstate_any _ _ _ _ H1.out HV.out ht0' (by omega)).mono ?_
                rintro e w2 ⟨rfl, hb⟩
                have HB2 := Aside0.mk (below_step HB.out hb)
                have H2 := Aside0.mk (H1.out.below hb)
                clear hb
                go_wp2_with fail
                refine (whole_any _ _ _ _ _ H2.out HV.out hb0' (by omega) ht0' (by omega)).mono ?_
                rintro e w3 ⟨rfl, hb⟩
                have HB3 := Aside0.mk (below_step HB2.out hb)
                have H3 := Aside0.mk (H2.out.below hb)
                obtain ⟨_, _, _, _, _, _, _, _, _, d9, d10⟩ := H3.out.cs
                clear hb
                rw [HWH.out]
                rw [HW.out] at d9
                go_wp2_with fail
                go_ret
                exact ⟨congrArg (fun x => Ending.returned (.bool x)) HR.out.symm, HB3.out⟩
              · have HR : Aside0 (openL S c (t + need) k' S.at_ S.at_ = popen S c t need steps) := ⟨by
                  have := HO3.out
                  rw [if_neg (fun h => by rcases h with h | h | h; (rw [HW.out] at h; cases h); exact hx h; exact hy h)] at this
                  exact this⟩
                go_wp2_with fail
                refine (pstate_any _ _ _ _ H1.out HV.out ht0' (by omega)).mono ?_
                rintro e w2 ⟨rfl, hb⟩
                have HB2 := Aside0.mk (below_step HB.out hb)
                have H2 := Aside0.mk (H1.out.below hb)
                clear hb
                go_wp2_with fail
                refine (whole_any _ _ _ _ _ H2.out HV.out hb0' (by omega) ht0' (by omega)).mono ?_
                rintro e w3 ⟨rfl, hb⟩
                have HB3 := Aside0.mk (below_step HB2.out hb)
                have H3 := Aside0.mk (H2.out.below hb)
                obtain ⟨_, _, _, _, _, _, _, _, _, d9, d10⟩ := H3.out.cs
                clear hb
                rw [HWH.out]
                rw [HW.out] at d9
                go_wp2_with fail
                go_quiet (fail)
                go_wp2_with fail
                go_roundg k'
                case measure => have := HK.out; omega
                case rel => exact ⟨_, _, i + 1, rfl, rfl, by go_num, by omega, by have := HIK.out; have := HK.out; omega, below_q HB3.out _, ha0, by omega, ha0, by omega, HR.out⟩
    · have HR : Aside0 (popen S c t need steps = true) := ⟨by
        have hk : gk = 0 := by omega
        rw [hk] at hop
        exact hop.symm⟩
      clear hB hik hop
      go_wp2_with fail
      go_ret
      exact ⟨congrArg (fun x => Ending.returned (.bool x)) HR.out.symm, HB.out⟩

set_option maxHeartbeats 2000000 in
set_option maxRecDepth 100000 in
theorem pfits_any (c need : Int) (steps : Nat) (h : IsPair w g S A3 c3 A7 c7) (hv : VS S) (hc0 : 0 ≤ c) (hc1 : c ≤ 7) (ht0 : 0 ≤ t) (ht1 : t ≤ 5000000000000000000) (hn0 : 0 ≤ need) (hn1 : need ≤ 1000000000000000000) (hs : steps ≤ 100000) :
    Calls Try.prog 13 #[.pointer (some ⟨g, 0, none⟩), .int .i64 c, .int .i64 t, .int .i64 need, .int .i64 (steps : Int)] w (R1 w (pfitsL S c need steps steps t)) := by
  have H := Aside0.mk h
  have HV := Aside0.mk hv
  clear h hv
  go_enter Try.func13, Try.ntmps13
  go_wp2_with fail
  go_loopg [2, 11] steps (fun k tv iv wr => ∃ t' i : Int, tv = .int .i64 t' ∧ iv = .int .i64 i ∧ 0 ≤ i ∧ i + k = steps ∧ Below w.heap.size w wr ∧ -1 ≤ t' ∧ t' ≤ 5000000000000000000 + 1000000000 * i ∧ pfitsL S c need steps k t' = pfitsL S c need steps steps t)
  case atStart => exact ⟨t, 0, rfl, rfl, by omega, by omega, Below.refl _ _, by omega, by omega, rfl⟩
  case round =>
    obtain ⟨t', i, rfl, rfl, hi0, hik, hB, ht0', ht1', hop⟩ := hrel
    have HB := Aside0.mk hB
    have H1 := Aside0.mk (H.out.below hB)
    have HIK := Aside0.mk hik
    by_cases hlt : i < steps
    · obtain ⟨k', hk'⟩ : ∃ k', gk = k' + 1 := ⟨gk - 1, by omega⟩
      rw [hk'] at hop
      simp only [pfitsL] at hop
      have HO := Aside0.mk hop
      have HK := Aside0.mk hk'
      clear hB hik hop hk'
      by_cases hp : 0 ≤ t'
      · have HO2 : Aside0 ((if popen S c t' need steps = true then t' else pfitsL S c need steps k' (nxF S t')) = pfitsL S c need steps steps t) := ⟨by have := HO.out; rw [if_pos hp] at this; exact this⟩
        cases ho : popen S c t' need steps
        · have HR : Aside0 (pfitsL S c need steps k' (nxF S t') = pfitsL S c need steps steps t) := ⟨by have := HO2.out; rw [if_neg (by rw [ho]; simp)] at this; exact this⟩
          have HOP := Aside0.mk ho
          have hnx := nxF_in HV.out hp
          have HNX := Aside0.mk hnx
          clear ho hnx
          go_wp2_with fail
          refine (open_any _ _ _ _ _ _ _ H1.out HV.out hc0 hc1 hp (by omega) hn0 hn1 hs).mono ?_
          rintro e w2 ⟨rfl, hb⟩
          rw [HOP.out]
          have HB2 := Aside0.mk (below_step HB.out hb)
          have H2 := Aside0.mk (H1.out.below hb)
          clear hb
          go_wp2_with fail
          refine (pnext_any _ _ _ _ H2.out HV.out hp (by omega)).mono ?_
          rintro e w3 ⟨rfl, hb⟩
          have HB3 := Aside0.mk (below_step HB2.out hb)
          clear hb
          go_wp2_with fail
          go_roundg k'
          case measure => have := HK.out; omega
          case rel => exact ⟨_, i + 1, rfl, by go_num, by omega, by have := HIK.out; have := HK.out; omega, HB3.out, HNX.out.1, by have := HNX.out.2; omega, HR.out⟩
        · have HR : Aside0 (t' = pfitsL S c need steps steps t) := ⟨by have := HO2.out; rw [if_pos ho] at this; exact this⟩
          have HOP := Aside0.mk ho
          clear ho
          go_wp2_with fail
          refine (open_any _ _ _ _ _ _ _ H1.out HV.out hc0 hc1 hp (by omega) hn0 hn1 hs).mono ?_
          rintro e w2 ⟨rfl, hb⟩
          rw [HOP.out]
          have HB2 := Aside0.mk (below_step HB.out hb)
          clear hb
          go_wp2_with fail
          go_ret
          exact ⟨congrArg (fun x => Ending.returned (.int .i64 x)) HR.out, HB2.out⟩
      · have HR : Aside0 (-1 = pfitsL S c need steps steps t) := ⟨by have := HO.out; rw [if_neg hp] at this; exact this⟩
        go_wp2_with fail
        go_ret
        exact ⟨congrArg (fun x => Ending.returned (.int .i64 x)) HR.out, HB.out⟩
    · have HR : Aside0 (-1 = pfitsL S c need steps steps t) := ⟨by
        have hk : gk = 0 := by omega
        rw [hk] at hop
        exact hop⟩
      clear hB hik hop
      go_wp2_with fail
      go_ret
      exact ⟨congrArg (fun x => Ending.returned (.int .i64 x)) HR.out, HB.out⟩
end

end Go.Proofs.Ytkbjelhmmcifhaa.CF
