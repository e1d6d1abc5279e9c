/- Walks: a schedule's From and Until. The schedule is one that may be (VS); the times are from 0 on, and no later than 8*10^18. -/
import Derived.Test.YtkbjelhmmcifhaaS3
set_option linter.unusedVariables false
set_option linter.unusedSimpArgs false
namespace Go.Proofs.Ytkbjelhmmcifhaa.CF
open Go.RowKit Go.Proofs.YtkbjelhmmcifhaaW.PrintWords Go.Proofs.YtkbjelhmmcifhaaW.PrintLast Go.Proofs.YtkbjelhmmcifhaaW.PrintMore
open Go.Proofs.Ytkbjelhmmcifhaa.PChangeFits (S71 S33 k71 k33 z71 z33 rd_T71)

theorem nxF_in {S : Sch} (hv : VS S) {t : Int} (ht : 0 ≤ t) : -1 ≤ nxF S t ∧ (nxF S t ≤ t + 1000000000 ∨ nxF S t < 4611686018427387904) := by
  have hm : S.waits = true → VL (movedF S) := hv.moved
  have key : ∀ {l : S33}, VL l → 0 ≤ gNext l t ∧ (gNext l t ≤ t + 1000000000 ∨ gNext l t < 4611686018427387904) := by
    intro l hl
    have h1 := gNext_gt hl t
    have h2 := hl.c1
    have h3 := hl.b1
    rcases gNext_le hl t with h | h
    · exact ⟨by omega, .inl (by omega)⟩
    · exact ⟨by omega, .inr (by omega)⟩
  unfold nxF
  by_cases h1 : S.waits = true ∧ S.at_ ≤ t
  · rw [if_pos h1]
    have := key (hm h1.1)
    omega
  · rw [if_neg h1]
    have h0 : -1 ≤ nx0 S t ∧ (nx0 S t ≤ t + 1000000000 ∨ nx0 S t < 4611686018427387904) := by
      unfold nx0
      split
      · omega
      · split
        · rename_i hh
          have hk := key (hv.o hh)
          split
          · rename_i hx
            obtain ⟨hw, hh, hlt, _⟩ := tailOk_iff hx.1
            have hin := from_in (hv.o hh) (by omega)
            have := (hv.o hh).b0
            obtain ⟨_, a0, a1⟩ := hv.a hw
            omega
          · omega
        · omega
    split
    · rename_i h2
      obtain ⟨_, a0, a1⟩ := hv.a h2.1
      omega
    · exact h0

theorem leapF_in {S : Sch} (hv : VS S) {t n : Int} (ht : 0 ≤ t) (hn : n ≤ 300) : -1 ≤ (leapF S t n).1 ∧ ((leapF S t n).1 ≤ t + 1000000000 ∨ (leapF S t n).1 < 4611686018427387904) ∧ (leapF S t n).2 ≤ 300 := by
  have h := nxF_in hv ht
  have hol := hv.ol
  have hal := hv.al
  have hs : stepsF S ≤ 300 := by unfold stepsF; omega
  unfold leapF
  split
  · exact ⟨h.1, h.2, hs⟩
  · split
    · rename_i h2
      obtain ⟨_, a0, a1⟩ := hv.a h2.2.1
      split
      · rename_i hx
        obtain ⟨hw, hh, hlt, _⟩ := tailOk_iff hx.1
        have hin := from_in (hv.o hh) (by omega)
        have := (hv.o hh).b0
        exact ⟨by simp only; omega, by simp only; omega, hs⟩
      · exact ⟨by simp only; omega, by simp only; omega, hs⟩
    · exact ⟨h.1, h.2, by simp only; omega⟩

theorem gat_mem (cyc into : Int) : ∀ (r : List S71) (e : S71) (acc : Int), ∃ x, x ∈ e :: r ∧ (gat cyc into e r acc).1 = x.f0 := by
  intro r
  induction r with
  | nil => intro e acc; exact ⟨e, by simp, rfl⟩
  | cons e' r ih =>
    intro e acc
    simp only [gat]
    by_cases hc : cyc ≤ acc + e.f1
    · rw [if_pos hc]; exact ⟨e, by simp, rfl⟩
    · rw [if_neg hc]
      by_cases hx : into < acc + e.f1
      · rw [if_pos hx]; exact ⟨e, by simp, rfl⟩
      · rw [if_neg hx]
        obtain ⟨x, h1, h2⟩ := ih e' (acc + e.f1)
        exact ⟨x, List.mem_cons_of_mem _ h1, h2⟩

theorem gState_in {l : S33} (hv : VL l) (t : Int) : 0 ≤ gState l t ∧ gState l t ≤ 255 := by
  unfold gState
  split
  · omega
  · obtain ⟨e, r, he⟩ := hv.cons
    have hg : gatL l t = gat l.f1 ((t - l.f0) % l.f1) e r 0 := by unfold gatL; rw [he]
    obtain ⟨x, h1, h2⟩ := gat_mem l.f1 ((t - l.f0) % l.f1) r e 0
    rw [hg, h2]
    have := hv.es x (by rw [he]; exact h1)
    omega

theorem stF_in {S : Sch} (hv : VS S) (t : Int) : 0 ≤ stF S t ∧ stF S t ≤ 255 := by
  unfold stF
  split
  · rename_i h; exact gState_in (hv.moved h.1) t
  · split
    · rename_i h; exact gState_in (hv.o (tailOk_iff h.1).2.1) _
    · split
      · rename_i h; exact gState_in (hv.o h) t
      · omega

theorem bit_all : ∀ x : Fin 256, ∀ c : Fin 8, (bits BinOp.and IntKind.i64 ((x.val : Nat) : Int) (wrap64 (2 ^ c.val)) == 0) = !decide (((x.val : Nat) : Int) / 2 ^ c.val % 2 = 1) := by decide +kernel

theorem bit_is {x c : Int} (h0 : 0 ≤ x) (h1 : x ≤ 255) (hc0 : 0 ≤ c) (hc1 : c ≤ 7) : (bits BinOp.and IntKind.i64 x (wrap64 (2 ^ c.toNat)) == 0) = !decide (x / 2 ^ c.toNat % 2 = 1) := by
  have := bit_all ⟨x.toNat, by omega⟩ ⟨c.toNat, by omega⟩
  simpa [Int.toNat_of_nonneg h0] using this

theorem opn_bit {S : Sch} (hv : VS S) {c : Int} (hc0 : 0 ≤ c) (hc1 : c ≤ 7) (t : Int) : (bits BinOp.and IntKind.i64 (stF S t) (wrap64 (2 ^ c.toNat)) == 0) = !opn S c t :=
  bit_is (stF_in hv t).1 (stF_in hv t).2 hc0 hc1

section
variable (w : World) (g : Nat) (S : Sch) {A3 : Option Addr} {c3 : Nat} {A7 : Option Addr} {c7 : Nat} (t : Int)

theorem from_any (c r : Int) (f : Nat) (h : IsSch w g S A3 c3 A7 c7) (hv : VS S) (hc0 : 0 ≤ c) (hc1 : c ≤ 7) (ht0 : 0 ≤ t) (hf : f ≤ 2000) (ht1 : t + 1000000000 * (f : Int) ≤ 8000000000000000000) (hr : fromL S c f t (stepsF S) = some r) :
    Calls Try.prog 41 #[.pointer (some ⟨g, 0, none⟩), .int .i64 c, .int .i64 t] w (R1 w r) := by
  have H := Aside0.mk h
  have HV := Aside0.mk hv
  have HR := Aside0.mk hr
  have hs : stepsF S ≤ 300 := by have := hv.ol; have := hv.al; unfold stepsF; omega
  have HS := Aside0.mk hs
  obtain ⟨bit, hbit⟩ : ∃ bit : Int, wrap64 (2 ^ c.toNat) = bit := ⟨_, rfl⟩
  have HT := Aside0.mk ht1
  have HF := Aside0.mk hf
  clear h hv hr hs ht1 hf
  go_enter Try.func41, Try.ntmps41
  go_wp2_with fail
  refine (steps_any _ _ _ H.out HV.out).mono ?_
  rintro e w1 ⟨rfl, hb⟩
  have HB := Aside0.mk hb
  clear hb
  have HBIT := Aside0.mk hbit
  clear hbit
  go_wp2_with fail
  go_loopg [2, 8] f (fun k tv nv wr => ∃ t' n' : Int, tv = .int .i64 t' ∧ nv = .int .i64 n' ∧ Below w.heap.size w wr ∧ -1 ≤ t' ∧ t' + 1000000000 * (k : Int) ≤ 8000000000000000000 ∧ n' ≤ 300 ∧ k ≤ 2000 ∧ fromL S c k t' n' = some r)
  case atStart => exact ⟨t, stepsF S, rfl, rfl, HB.out, by omega, HT.out, HS.out, HF.out, HR.out⟩
  case round =>
    obtain ⟨t', n', rfl, rfl, hB, hlo, hhi, hn, hk, hr⟩ := hrel
    have HB' := Aside0.mk hB
    have HR' := Aside0.mk hr
    have H1 := Aside0.mk (H.out.below hB)
    clear hB hr
    obtain ⟨k', hk'⟩ : ∃ k', gk = k' + 1 := by
      cases hg : gk with
      | zero => rw [hg] at HR'; have := HR'.out; simp [fromL] at this
      | succ k' => exact ⟨k', rfl⟩
    have HK := Aside0.mk hk'
    clear hk'
    by_cases hg1 : 0 < n'
    · by_cases hg2 : 0 ≤ t'
      · have hor := (leapF_in HV.out hg2 hn)
        have HL := Aside0.mk hor
        clear hor
        cases ho : opn S c t'
        · have hbt : (bits BinOp.and IntKind.i64 (stF S t') (wrap64 (2 ^ c.toNat)) != 0) = false := by
            have := opn_bit HV.out hc0 hc1 t'
            rw [ho] at this; simpa [bne] using this
          have HN : Aside0 (fromL S c k' (leapF S t' n').1 (leapF S t' n').2 = some r) := by
            have := HR'.out
            rw [HK.out] at this
            simp only [fromL] at this
            rw [if_pos ⟨hg1, hg2⟩, ho] at this
            exact ⟨by simpa using this⟩
          have HH : Aside0 (-1 ≤ (leapF S t' n').1 ∧ (leapF S t' n').1 + 1000000000 * (k' : Int) ≤ 8000000000000000000 ∧ (leapF S t' n').2 ≤ 300 ∧ k' ≤ 2000) := by
            have h1 := HL.out
            have h2 := HK.out
            exact ⟨by omega, by omega, by omega, by omega⟩
          clear ho
          go_wp2_with fail
          refine (state_any _ _ _ _ H1.out HV.out (by omega)).mono ?_
          rintro e w2 ⟨rfl, hb⟩
          have HB2 := Aside0.mk (below_step HB'.out hb)
          have H2 := Aside0.mk (H1.out.below hb)
          clear hb
          go_wp2_with fail
          refine (leap_any _ _ _ _ _ H2.out HV.out hg2 (by omega) hg1 (by omega)).mono ?_
          rintro e w3 ⟨rfl, hb⟩
          have HB3 := Aside0.mk (below_step HB2.out hb)
          clear hb
          go_wp2_with fail
          go_roundg k'
          case measure => have := HK.out; omega
          case rel => exact ⟨_, _, rfl, rfl, HB3.out, HH.out.1, HH.out.2.1, HH.out.2.2.1, HH.out.2.2.2, HN.out⟩
        · have hbt : (bits BinOp.and IntKind.i64 (stF S t') (wrap64 (2 ^ c.toNat)) != 0) = true := by
            have := opn_bit HV.out hc0 hc1 t'
            rw [ho] at this; simpa [bne] using this
          have HN : Aside0 (t' = r) := by
            have := HR'.out
            rw [HK.out] at this
            simp only [fromL] at this
            rw [if_pos ⟨hg1, hg2⟩, ho] at this
            exact ⟨by simpa using this⟩
          clear ho
          go_wp2_with fail
          refine (state_any _ _ _ _ H1.out HV.out (by omega)).mono ?_
          rintro e w2 ⟨rfl, hb⟩
          have HB2 := Aside0.mk (below_step HB'.out hb)
          clear hb
          go_wp2_with fail
          go_ret
          exact ⟨congrArg (fun x => Ending.returned (.int .i64 x)) HN.out, HB2.out⟩
      · have HN : Aside0 (-1 = r) := by
          have := HR'.out
          rw [HK.out] at this
          simp only [fromL] at this
          rw [if_neg (fun h => hg2 h.2)] at this
          exact ⟨by simpa using this⟩
        go_wp2_with fail
        go_ret
        exact ⟨congrArg (fun x => Ending.returned (.int .i64 x)) HN.out, HB'.out⟩
    · have HN : Aside0 (-1 = r) := by
        have := HR'.out
        rw [HK.out] at this
        simp only [fromL] at this
        rw [if_neg (fun h => hg1 h.1)] at this
        exact ⟨by simpa using this⟩
      go_wp2_with fail
      go_ret
      exact ⟨congrArg (fun x => Ending.returned (.int .i64 x)) HN.out, HB'.out⟩

theorem until_any (c r : Int) (f : Nat) (h : IsSch w g S A3 c3 A7 c7) (hv : VS S) (hc0 : 0 ≤ c) (hc1 : c ≤ 7) (ht0 : 0 ≤ t) (hf : f ≤ 2000) (ht1 : t + 1000000000 * (f : Int) ≤ 8000000000000000000) (hr : untilL S c f t (stepsF S) = some r) :
    Calls Try.prog 40 #[.pointer (some ⟨g, 0, none⟩), .int .i64 c, .int .i64 t] w (R1 w r) := by
  have H := Aside0.mk h
  have HV := Aside0.mk hv
  have HR := Aside0.mk hr
  have hs : stepsF S ≤ 300 := by have := hv.ol; have := hv.al; unfold stepsF; omega
  have HS := Aside0.mk hs
  obtain ⟨bit, hbit⟩ : ∃ bit : Int, wrap64 (2 ^ c.toNat) = bit := ⟨_, rfl⟩
  have HT := Aside0.mk ht1
  have HF := Aside0.mk hf
  clear h hv hr hs ht1 hf
  go_enter Try.func40, Try.ntmps40
  go_wp2_with fail
  refine (steps_any _ _ _ H.out HV.out).mono ?_
  rintro e w1 ⟨rfl, hb⟩
  have HB := Aside0.mk hb
  clear hb
  have HBIT := Aside0.mk hbit
  clear hbit
  go_wp2_with fail
  go_loopg [2, 8] f (fun k tv nv wr => ∃ t' n' : Int, tv = .int .i64 t' ∧ nv = .int .i64 n' ∧ Below w.heap.size w wr ∧ -1 ≤ t' ∧ t' + 1000000000 * (k : Int) ≤ 8000000000000000000 ∧ n' ≤ 300 ∧ k ≤ 2000 ∧ untilL S c k t' n' = some r)
  case atStart => exact ⟨t, stepsF S, rfl, rfl, HB.out, by omega, HT.out, HS.out, HF.out, HR.out⟩
  case round =>
    obtain ⟨t', n', rfl, rfl, hB, hlo, hhi, hn, hk, hr⟩ := hrel
    have HB' := Aside0.mk hB
    have HR' := Aside0.mk hr
    have H1 := Aside0.mk (H.out.below hB)
    clear hB hr
    obtain ⟨k', hk'⟩ : ∃ k', gk = k' + 1 := by
      cases hg : gk with
      | zero => rw [hg] at HR'; have := HR'.out; simp [untilL] at this
      | succ k' => exact ⟨k', rfl⟩
    have HK := Aside0.mk hk'
    clear hk'
    by_cases hg1 : 0 < n'
    · by_cases hg2 : 0 ≤ t'
      · have hor := (leapF_in HV.out hg2 hn)
        have HL := Aside0.mk hor
        clear hor
        cases ho : opn S c t'
        rotate_left
        · have hbt : (bits BinOp.and IntKind.i64 (stF S t') (wrap64 (2 ^ c.toNat)) == 0) = false := by
            have := opn_bit HV.out hc0 hc1 t'
            rw [ho] at this; simpa using this
          have HN : Aside0 (untilL S c k' (leapF S t' n').1 (leapF S t' n').2 = some r) := by
            have := HR'.out
            rw [HK.out] at this
            simp only [untilL] at this
            rw [if_pos ⟨hg1, hg2⟩, ho] at this
            exact ⟨by simpa using this⟩
          have HH : Aside0 (-1 ≤ (leapF S t' n').1 ∧ (leapF S t' n').1 + 1000000000 * (k' : Int) ≤ 8000000000000000000 ∧ (leapF S t' n').2 ≤ 300 ∧ k' ≤ 2000) := by
            have h1 := HL.out
            have h2 := HK.out
            exact ⟨by omega, by omega, by omega, by omega⟩
          clear ho
          go_wp2_with fail
          refine (state_any _ _ _ _ H1.out HV.out (by omega)).mono ?_
          rintro e w2 ⟨rfl, hb⟩
          have HB2 := Aside0.mk (below_step HB'.out hb)
          have H2 := Aside0.mk (H1.out.below hb)
          clear hb
          go_wp2_with fail
          refine (leap_any _ _ _ _ _ H2.out HV.out hg2 (by omega) hg1 (by omega)).mono ?_
          rintro e w3 ⟨rfl, hb⟩
          have HB3 := Aside0.mk (below_step HB2.out hb)
          clear hb
          go_wp2_with fail
          go_roundg k'
          case measure => have := HK.out; omega
          case rel => exact ⟨_, _, rfl, rfl, HB3.out, HH.out.1, HH.out.2.1, HH.out.2.2.1, HH.out.2.2.2, HN.out⟩
        · have hbt : (bits BinOp.and IntKind.i64 (stF S t') (wrap64 (2 ^ c.toNat)) == 0) = true := by
            have := opn_bit HV.out hc0 hc1 t'
            rw [ho] at this; simpa using this
          have HN : Aside0 (t' = r) := by
            have := HR'.out
            rw [HK.out] at this
            simp only [untilL] at this
            rw [if_pos ⟨hg1, hg2⟩, ho] at this
            exact ⟨by simpa using this⟩
          clear ho
          go_wp2_with fail
          refine (state_any _ _ _ _ H1.out HV.out (by omega)).mono ?_
          rintro e w2 ⟨rfl, hb⟩
          have HB2 := Aside0.mk (below_step HB'.out hb)
          clear hb
          go_wp2_with fail
          go_ret
          exact ⟨congrArg (fun x => Ending.returned (.int .i64 x)) HN.out, HB2.out⟩
      · have HN : Aside0 (-1 = r) := by
          have := HR'.out
          rw [HK.out] at this
          simp only [untilL] at this
          rw [if_neg (fun h => hg2 h.2)] at this
          exact ⟨by simpa using this⟩
        go_wp2_with fail
        go_ret
        exact ⟨congrArg (fun x => Ending.returned (.int .i64 x)) HN.out, HB'.out⟩
    · have HN : Aside0 (-1 = r) := by
        have := HR'.out
        rw [HK.out] at this
        simp only [untilL] at this
        rw [if_neg (fun h => hg1 h.1)] at this
        exact ⟨by simpa using this⟩
      go_wp2_with fail
      go_ret
      exact ⟨congrArg (fun x => Ending.returned (.int .i64 x)) HN.out, HB'.out⟩
end

end Go.Proofs.Ytkbjelhmmcifhaa.CF
