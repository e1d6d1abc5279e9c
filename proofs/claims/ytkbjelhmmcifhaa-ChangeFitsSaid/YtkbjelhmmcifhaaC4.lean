/- Walks: the law's play: lists are told to a schedule and to a pair. At most 1000 lists. -/
import Derived.Test.YtkbjelhmmcifhaaT2
set_option linter.unusedVariables false
set_option linter.unusedSimpArgs false
namespace Go.Proofs.Ytkbjelhmmcifhaa.CF
open Go.RowKit Go.Proofs.YtkbjelhmmcifhaaW.PrintWords Go.Proofs.YtkbjelhmmcifhaaW.PrintLast Go.Proofs.YtkbjelhmmcifhaaW.PrintMore
open Go.Proofs.Ytkbjelhmmcifhaa.PChangeFits (S71 S33 S91 k71 k33 k91 z71 z33 rd_T71 rd_T91 at_T91)
theorem max2_mx (k k' : IntKind) (x y : Int) : Builtin.max2 (.int k x) (.int k' y) = pure (.int k (mx x y)) := by rw [max2_int]; rfl
theorem min2_mn (k k' : IntKind) (x y : Int) : Builtin.min2 (.int k x) (.int k' y) = pure (.int k (mn x y)) := by rw [min2_int]; rfl
attribute [local go_sem] max2_mx min2_mn max_two min_two

/-- Both are in memory, at blocks of their own. -/
structure Both (w0 w : World) (gs gp : Nat) (S P : Sch) : Prop where
  s : Held w gs S (fun k => k ≠ gs ∧ k ≠ gp)
  p : PHeld w gp P (fun k => k ≠ gs ∧ k ≠ gp)
  b : Below w0.heap.size w0 w
  hs : w0.heap.size ≤ gs
  hp : w0.heap.size ≤ gp
  ne : gs ≠ gp

def RPlay (w0 : World) (e : Ending) (w : World) : Prop :=
  ∃ gs gp S P now, e = .returned (.tuple #[.pointer (some ⟨gs, 0, none⟩), .pointer (some ⟨gp, 0, none⟩), .int .i64 now, .bool true]) ∧ Both w0 w gs gp S P ∧ Plays S P now ∧ now ≤ 1099511627776000

theorem ents_arg {w : World} {A : Option Addr} {c : Nat} {xs : List S71} (h : Kd.C k71 w A xs.length xs) (hn : 1 ≤ xs.length) (hc : xs.length ≤ c) : Ents w A c xs (fun k => k < w.heap.size) := by
  refine ⟨h, hc, fun a e => ?_⟩
  obtain ⟨ad, e2, hcell⟩ := h.2.2 (by omega)
  rw [e] at e2
  obtain rfl := Option.some.inj e2
  obtain ⟨cs, hs, hr, hcl⟩ := hcell 0 (xs[0]'(by omega)) (List.getElem?_eq_getElem (by omega))
  have h2 : k71.sz = 2 := rfl
  have hl : 0 < cs.length := by rw [hs, h2]; omega
  have h1 := hcl 0 (cs[0]'hl) (List.getElem?_eq_getElem hl)
  have hb : (a.add (0 * k71.sz + 0)).block = a.block := by unfold Addr.add; split <;> rfl
  have hlt : a.block < w.heap.size := by
    apply Classical.byContradiction
    intro hn
    have hnone : w.heap[(a.add (0 * k71.sz + 0)).block]? = none := by rw [hb]; exact Array.getElem?_eq_none (by omega)
    rw [World.cell?, hnone] at h1
    simp at h1
  exact ⟨hlt, hlt⟩

theorem Both.below {w0 w w1 : World} {gs gp : Nat} {S P : Sch} (h : Both w0 w gs gp S P) (hb : Below w.heap.size w w1) : Both w0 w1 gs gp S P :=
  ⟨h.s.below hb, h.p.below hb, below_step h.b hb, h.hs, h.hp, h.ne⟩
theorem Both.setS {w0 w w1 : World} {gs gp : Nat} {S P S' : Sch} (h : Both w0 w gs gp S P) (hH : Held w1 gs S' (fun k => k ≠ gs ∧ k ≠ gp)) (hC : Chg (· = gs) w w1) : Both w0 w1 gs gp S' P :=
  ⟨hH, h.p.chg hC (fun k hk => hk.1) (fun e => h.ne e.symm), Chg.since h.b hC (fun k hk => by subst hk; exact h.hs), h.hs, h.hp, h.ne⟩
theorem Both.setP {w0 w w1 : World} {gs gp : Nat} {S P P' : Sch} (h : Both w0 w gs gp S P) (hH : PHeld w1 gp P' (fun k => k ≠ gs ∧ k ≠ gp)) (hC : Chg (· = gp) w w1) : Both w0 w1 gs gp S P' :=
  ⟨h.s.chg hC (fun k hk => hk.2) h.ne, hH, Chg.since h.b hC (fun k hk => by subst hk; exact h.hp), h.hs, h.hp, h.ne⟩

theorem blk_new2 (w : World) (o1 o2 : Obj) : ((w.alloc o1).alloc o2).heap[w.heap.size + 1]? = some o2 := by
  have := blk_new (w.alloc o1) o2
  simpa using this

def box91 (x : S91) (A : Option Addr) (c : Nat) : Obj := .cells #[.int .i64 x.f0, .int .i64 x.f1.f0, .int .i64 x.f1.f1, .int .i64 x.f1.f2, .slice A x.f1.f3.length c] 91
theorem box91_cs {w : World} {b : Nat} {x : S91} {A : Option Addr} {c : Nat} (h : w.heap[b]? = some (box91 x A c)) :
    w.cell? ⟨b, 0, none⟩ = some (.int .i64 x.f0) ∧ w.cell? ⟨b, 1, none⟩ = some (.int .i64 x.f1.f0) ∧ w.cell? ⟨b, 2, none⟩ = some (.int .i64 x.f1.f1) ∧ w.cell? ⟨b, 3, none⟩ = some (.int .i64 x.f1.f2) ∧ w.cell? ⟨b, 4, none⟩ = some (.slice A x.f1.f3.length c) := by
  unfold box91 at h
  refine ⟨?_, ?_, ?_, ?_, ?_⟩ <;> (rw [blk_cell h]; rfl)

set_option maxHeartbeats 4000000 in
set_option maxRecDepth 100000 in
theorem play_any (A0 : Option Addr) (c0 : Nat) (l0 : List S91) (w : World) (hr : Kd.C k91 w A0 l0.length l0) (hn : l0.length ≤ 1000) :
    Calls Try.prog 11 #[.slice A0 l0.length c0] w (RPlay w) := by
  have HR := Aside0.mk hr
  clear hr
  go_enter Try.func11, Try.ntmps11
  go_wp2_with fail
  go_loopg [8, 9, 10, 27] l0.length (fun k nv cv rv iv wr => ∃ (S P : Sch) (now cnt i : Int), nv = .int .i64 now ∧ cv = .int .i64 cnt ∧ rv = .int .i64 S.rep ∧ iv = .int .i64 i ∧ 0 ≤ i ∧ i + k = l0.length ∧ Both w wr w.heap.size (w.heap.size + 1) S P ∧ Plays S P now ∧ now ≤ 1099511627776 * i ∧ 0 ≤ cnt ∧ cnt ≤ i ∧ 0 ≤ S.rep ∧ S.rep ≤ i ∧ 0 ≤ S.chg ∧ S.chg + wN S ≤ cnt)
  case atStart =>
    refine ⟨sch0, sch0, 0, 0, 0, rfl, rfl, rfl, rfl, by omega, by omega, ?_, plays0, by omega, by omega, by omega, by decide, by decide, by decide, by decide⟩
    refine ⟨⟨⟨none, 0, none, 0, ?_, ents_nil _ _, ents_nil _ _⟩, fun k hk => hk.1⟩, ⟨⟨none, 0, none, 0, ?_, ents_nil _ _, ents_nil _ _⟩, fun k hk => hk.2⟩, below_alloc (below_alloc (Below.refl _ _) _) _, by omega, by omega, by omega⟩
    · exact blk_alloc (blk_new _ _) _
    · exact blk_new2 _ _ _
  case round =>
    obtain ⟨S, P, now, cnt, i, rfl, rfl, rfl, rfl, hi0, hik, hB, hP, hnow, hcnt0, hcnt1, hrep0, hrep1, hchg0, hchg1⟩ := hrel
    have HB := Aside0.mk hB
    have HP := Aside0.mk hP
    have HIK := Aside0.mk hik
    have HCH := Aside0.mk hchg1
    clear hchg1
    have hn0 := hP.now0
    by_cases hlt : i < l0.length
    · obtain ⟨ad, A4, c4, had, y0, y1, y2, y3, y4, hlc, hC⟩ := at_T91 HR.out i hi0 hlt
      have x0 := pw_cell_below hB.b y0
      have x1 := pw_cell_below hB.b y1
      have x2 := pw_cell_below hB.b y2
      have x3 := pw_cell_below hB.b y3
      have x4 := pw_cell_below hB.b y4
      clear y0 y1 y2 y3 y4
      obtain ⟨x, hx⟩ : ∃ x, rd_T91 l0 i = x := ⟨_, rfl⟩
      rw [hx] at x0 x1 x2 x3 x4 hC hlc
      obtain ⟨D, hD⟩ : ∃ D, mn (mx x.f0 0) 1099511627776 = D := ⟨_, rfl⟩
      have hD0 : 0 ≤ D := by rw [← hD]; unfold mn mx; split <;> split <;> omega
      have hD1 : D ≤ 1099511627776 := by rw [← hD]; unfold mn mx; split <;> split <;> omega
      obtain ⟨Aa, ca, Ab, cb, hI⟩ := hB.p.is
      obtain ⟨_, _, _, _, _, _, _, _, _, p9, p10⟩ := hI.cs
      have hz1 : w.heap.size + 1 < wr.heap.size := blk_lt hI.blk
      have hz0 : w.heap.size < wr.heap.size := by omega
      have HCW := Aside0.mk hC
      have HLC := Aside0.mk hlc
      subst had
      clear hx hI hC hlc hB hP hik
      have hBb := HB.out.below (below_alloc (Below.refl _ _) (box91 x A4 c4))
      have HBB := Aside0.mk hBb
      have hlate : now + D < 4611686018427387904 := by omega
      have hnd0 : 0 ≤ now + D := by omega
      have hPl := HP.out.later (now' := now + D) (by omega)
      have HPL := Aside0.mk hPl
      have HCb := Aside0.mk (Kd.C_below HCW.out hBb.b)
      have hag := HP.out.agree
      have HAG := Aside0.mk hag
      clear hBb hPl hag
      have hout : checkF x.f1 ≠ 0 ∨ (checkF x.f1 = 0 ∧ 4611686018427387904 ≤ gStart x.f1 (now + D)) ∨ (checkF x.f1 = 0 ∧ gStart x.f1 (now + D) < 4611686018427387904) := by
        by_cases h : checkF x.f1 = 0
        · right
          by_cases h2 : 4611686018427387904 ≤ gStart x.f1 (now + D)
          · exact .inl ⟨h, h2⟩
          · exact .inr ⟨h, by omega⟩
        · exact .inl h
      have hpw : P.waits = false ∨ (P.waits = true ∧ now + D < P.at_) ∨ (P.waits = true ∧ P.at_ ≤ now + D) := by
        cases hw : P.waits
        · exact .inl rfl
        · right
          by_cases h : now + D < P.at_
          · exact .inl ⟨rfl, h⟩
          · exact .inr ⟨rfl, by omega⟩
      rcases hpw with hpw | hpw | hpw
      · have HWAS : Aside0 (¬ (S.waits = true ∧ now + D < S.at_)) := ⟨fun h => by rw [HAG.out.waits] at hpw; rw [hpw] at h; cases h.1⟩
        rw [hpw] at p9
        clear hpw
        rcases hout with hE | hE | hE
        · have hE30 : checkF x.f1 = 30 := by
            unfold checkF at hE ⊢
            by_cases hx : x.f1.f3.length = 0 ∨ 64 < x.f1.f3.length ∨ badL x.f1 = true ∨ x.f1.f3.any badE = true
            · rw [if_pos hx]
            · rw [if_neg hx] at hE; exact absurd rfl hE
          have HE := Aside0.mk hE
          have HE30 := Aside0.mk hE30
          clear hE hE30
          go_wp2_with fail
          refine (set_err _ _ S _ x.f1 A4 c4 _ HBB.out.s HCb.out HE.out).mono ?_
          rintro e w2 ⟨rfl, hH, hC⟩
          have HB2 := Aside0.mk (HBB.out.setS hH hC)
          have hbx : w2.heap[wr.heap.size]? = some (box91 x A4 c4) := (hC.block _ (by simp) (by omega)).trans (blk_new _ _)
          obtain ⟨z0, z1, z2, z3, z4⟩ := box91_cs hbx
          have HBX := Aside0.mk hbx
          clear hbx
          have hzz : wr.heap.size < w2.heap.size := blk_lt HBX.out
          clear hH hC
          go_wp2_with fail
          refine (check_any x.f1 A4 c4 _ (by exact Kd.C_below HCW.out HB2.out.b)).mono ?_
          rintro e w3 ⟨rfl, hb⟩
          rw [HE30.out]
          have HB3 := Aside0.mk (HB2.out.below hb)
          clear hb
          go_wp2_with fail
          go_roundg (gk - 1)
          case measure => have := HIK.out; omega
          case rel => exact ⟨S, P, now + D, cnt, i + 1, rfl, rfl, rfl, by go_num, by omega, by have := HIK.out; omega, HB3.out, HPL.out, by omega, by omega, by omega, by omega, by omega, by omega, HCH.out⟩
        · have HE := Aside0.mk hE.1
          have HG := Aside0.mk hE.2
          have hdl : decide (4611686018427387904 ≤ gStart x.f1 (now + D)) = true := decide_eq_true hE.2
          have HV := Aside0.mk ((VL_iff x.f1).2 hE.1)
          clear hE
          go_wp2_with fail
          refine (set_late _ _ S _ x.f1 A4 c4 _ HBB.out.s HCb.out HE.out HLC.out hnd0 hlate HG.out).mono ?_
          rintro e w2 ⟨rfl, hH, hC⟩
          have HB2 := Aside0.mk (HBB.out.setS hH hC)
          have hbx : w2.heap[wr.heap.size]? = some (box91 x A4 c4) := (hC.block _ (by simp) (by omega)).trans (blk_new _ _)
          obtain ⟨z0, z1, z2, z3, z4⟩ := box91_cs hbx
          have HBX := Aside0.mk hbx
          clear hbx
          have hzz : wr.heap.size < w2.heap.size := blk_lt HBX.out
          clear hH hC
          go_wp2_with fail
          refine (check_any x.f1 A4 c4 _ (by exact Kd.C_below HCW.out HB2.out.b)).mono ?_
          rintro e w3 ⟨rfl, hb⟩
          rw [HE.out]
          have HB3 := Aside0.mk (HB2.out.below hb)
          have HBX3 := Aside0.mk (blk_below HBX.out hb)
          obtain ⟨z0, z1, z2, z3, z4⟩ := box91_cs HBX3.out
          clear hb
          go_wp2_with fail
          refine (rStart_any HV.out (by omega) _ (by exact Kd.C_below HCW.out HB3.out.b) HLC.out).mono ?_
          rintro e w4 ⟨rfl, hb⟩
          have HB4 := Aside0.mk (HB3.out.below hb)
          clear hb
          go_wp2_with fail
          go_roundg (gk - 1)
          case measure => have := HIK.out; omega
          case rel => exact ⟨S, P, now + D, cnt, i + 1, rfl, rfl, rfl, by go_num, by omega, by have := HIK.out; omega, HB4.out, HPL.out, by omega, by omega, by omega, by omega, by omega, by omega, HCH.out⟩
        · have HE := Aside0.mk hE.1
          have HG := Aside0.mk hE.2
          have hdl : decide (4611686018427387904 ≤ gStart x.f1 (now + D)) = false := decide_eq_false (by have := hE.2; omega)
          have HV := Aside0.mk ((VL_iff x.f1).2 hE.1)
          have hEn := ents_arg HCW.out HV.out.n0 HLC.out
          have hEnb : Ents (wr.alloc (box91 x A4 c4)) A4 c4 x.f1.f3 (fun k => k ≠ w.heap.size ∧ k ≠ w.heap.size + 1) := (hEn.move HBB.out.b.size (fun k hk _ => HBB.out.b.block k hk)).mono (fun k hk => ⟨by omega, by omega⟩)
          have HEN := Aside0.mk hEnb
          have hplays := HPL.out.tell HV.out HG.out
          have HPLAYS := Aside0.mk hplays
          have hrep := set_rep S x.f1 (now + D)
          have hchg := set_chg S x.f1 (now + D)
          have hwn := wN_in S
          have hchgb : S.chg ≤ 1000 := by have := HCH.out; omega
          have hrep' : (setF S x.f1 (now + D)).rep = S.rep := by rw [hrep]; rw [if_neg HWAS.out]; omega
          have HREP := Aside0.mk hrep'
          have HCHG := Aside0.mk hchg
          have HWN := Aside0.mk hwn
          clear hE hEn hEnb hplays hrep hchg hrep' hwn
          go_wp2_with fail
          refine (set_on _ _ S _ x.f1 A4 c4 _ HBB.out.s (HEN.out.mono (fun k hk => hk.1)) HE.out hnd0 hlate HG.out (by omega) (by omega) (by omega) (by omega) (fun k hk => by
            have : wr.heap.size ≤ (wr.alloc (box91 x A4 c4)).heap.size := by simp
            have hk' : (wr.alloc (box91 x A4 c4)).heap.size ≤ k := hk
            exact ⟨by omega, by omega⟩)).mono ?_
          rintro e w2 ⟨rfl, hH, hC⟩
          have HB2 := Aside0.mk (HBB.out.setS hH hC)
          have hbx : w2.heap[wr.heap.size]? = some (box91 x A4 c4) := (hC.block _ (by simp) (by omega)).trans (blk_new _ _)
          obtain ⟨z0, z1, z2, z3, z4⟩ := box91_cs hbx
          have HBX := Aside0.mk hbx
          clear hbx
          have hzz : wr.heap.size < w2.heap.size := blk_lt HBX.out
          clear hH hC
          go_wp2_with fail
          refine (check_any x.f1 A4 c4 _ (by exact Kd.C_below HCW.out HB2.out.b)).mono ?_
          rintro e w3 ⟨rfl, hb⟩
          rw [HE.out]
          have HB3 := Aside0.mk (HB2.out.below hb)
          have HBX3 := Aside0.mk (blk_below HBX.out hb)
          obtain ⟨z0, z1, z2, z3, z4⟩ := box91_cs HBX3.out
          clear hb
          go_wp2_with fail
          refine (rStart_any HV.out (by omega) _ (by exact Kd.C_below HCW.out HB3.out.b) HLC.out).mono ?_
          rintro e w4 ⟨rfl, hb⟩
          have HB4 := Aside0.mk (HB3.out.below hb)
          have HBX4 := Aside0.mk (blk_below HBX3.out hb)
          obtain ⟨z0, z1, z2, z3, z4⟩ := box91_cs HBX4.out
          clear hb
          go_wp2_with fail
          refine (pset_any _ _ P _ x.f1 A4 c4 _ HB4.out.p HV.out (by exact (ents_arg HCW.out HV.out.n0 HLC.out).move HB4.out.b.size (fun k hk _ => HB4.out.b.block k hk) |>.mono (fun k hk => ⟨by omega, by omega⟩)) hnd0 hlate).mono ?_
          rintro e w5 ⟨rfl, hH, hC⟩
          have HB5 := Aside0.mk (HB4.out.setP hH hC)
          clear hH hC
          go_wp2_with fail
          obtain ⟨q3, r3, q7, r7, hI5⟩ := HB5.out.s.is
          refine (waits_any _ _ _ hI5).mono ?_
          rintro e w6 ⟨rfl, hb⟩
          have HB6 := Aside0.mk (HB5.out.below hb)
          clear hb hI5
          obtain ⟨q3, r3, q7, r7, hI6⟩ := HB6.out.p.is
          obtain ⟨_, _, _, _, _, _, _, _, _, v9, v10⟩ := hI6.cs
          rw [HPLAYS.out.agree.waits] at v9
          rw [HPLAYS.out.agree.at_] at v10
          clear hI6
          have hfin : Both w w6 w.heap.size (w.heap.size + 1) (setF S x.f1 (now + D)) (psetF P x.f1 (now + D)) := HB6.out
          have HFIN := Aside0.mk hfin
          clear hfin
          obtain ⟨S', hS'⟩ : ∃ S', setF S x.f1 (now + D) = S' := ⟨_, rfl⟩
          rw [hS'] at HREP HCHG HFIN HPLAYS v9 v10
          rw [hS']
          clear hS' HB5 HB6
          cases hy : S'.waits
          all_goals
            rw [hy] at v9
            clear hy
            go_wp2_with fail
            obtain ⟨q3, r3, q7, r7, hI7⟩ := HFIN.out.s.is
            refine (counts_any _ _ _ hI7).mono ?_
            rintro e w7 ⟨rfl, hb⟩
            have HB7 := Aside0.mk (HFIN.out.below hb)
            clear hb hI7
            have hrp := HREP.out
            go_wp2_with fail
            go_roundg (gk - 1)
            case measure => have := HIK.out; omega
            case rel => exact ⟨S', _, now + D, cnt + 1, i + 1, rfl, by go_num, by rw [hrp], by go_num, by omega, by have := HIK.out; omega, HB7.out, HPLAYS.out, by omega, by omega, by omega, by have := HREP.out; omega, by have := HREP.out; omega, by have := HCHG.out; omega, by have := HCHG.out; have := HCH.out; omega⟩
      · have HWAS : Aside0 (S.waits = true ∧ now + D < S.at_) := ⟨by rw [← HAG.out.waits, ← HAG.out.at_]; exact hpw⟩
        rw [hpw.1] at p9
        have hdw : decide (now + D < P.at_) = true := decide_eq_true hpw.2
        clear hpw
        rcases hout with hE | hE | hE
        · have hE30 : checkF x.f1 = 30 := by
            unfold checkF at hE ⊢
            by_cases hx : x.f1.f3.length = 0 ∨ 64 < x.f1.f3.length ∨ badL x.f1 = true ∨ x.f1.f3.any badE = true
            · rw [if_pos hx]
            · rw [if_neg hx] at hE; exact absurd rfl hE
          have HE := Aside0.mk hE
          have HE30 := Aside0.mk hE30
          clear hE hE30
          go_wp2_with fail
          refine (set_err _ _ S _ x.f1 A4 c4 _ HBB.out.s HCb.out HE.out).mono ?_
          rintro e w2 ⟨rfl, hH, hC⟩
          have HB2 := Aside0.mk (HBB.out.setS hH hC)
          have hbx : w2.heap[wr.heap.size]? = some (box91 x A4 c4) := (hC.block _ (by simp) (by omega)).trans (blk_new _ _)
          obtain ⟨z0, z1, z2, z3, z4⟩ := box91_cs hbx
          have HBX := Aside0.mk hbx
          clear hbx
          have hzz : wr.heap.size < w2.heap.size := blk_lt HBX.out
          clear hH hC
          go_wp2_with fail
          refine (check_any x.f1 A4 c4 _ (by exact Kd.C_below HCW.out HB2.out.b)).mono ?_
          rintro e w3 ⟨rfl, hb⟩
          rw [HE30.out]
          have HB3 := Aside0.mk (HB2.out.below hb)
          clear hb
          go_wp2_with fail
          go_roundg (gk - 1)
          case measure => have := HIK.out; omega
          case rel => exact ⟨S, P, now + D, cnt, i + 1, rfl, rfl, rfl, by go_num, by omega, by have := HIK.out; omega, HB3.out, HPL.out, by omega, by omega, by omega, by omega, by omega, by omega, HCH.out⟩
        · have HE := Aside0.mk hE.1
          have HG := Aside0.mk hE.2
          have hdl : decide (4611686018427387904 ≤ gStart x.f1 (now + D)) = true := decide_eq_true hE.2
          have HV := Aside0.mk ((VL_iff x.f1).2 hE.1)
          clear hE
          go_wp2_with fail
          refine (set_late _ _ S _ x.f1 A4 c4 _ HBB.out.s HCb.out HE.out HLC.out hnd0 hlate HG.out).mono ?_
          rintro e w2 ⟨rfl, hH, hC⟩
          have HB2 := Aside0.mk (HBB.out.setS hH hC)
          have hbx : w2.heap[wr.heap.size]? = some (box91 x A4 c4) := (hC.block _ (by simp) (by omega)).trans (blk_new _ _)
          obtain ⟨z0, z1, z2, z3, z4⟩ := box91_cs hbx
          have HBX := Aside0.mk hbx
          clear hbx
          have hzz : wr.heap.size < w2.heap.size := blk_lt HBX.out
          clear hH hC
          go_wp2_with fail
          refine (check_any x.f1 A4 c4 _ (by exact Kd.C_below HCW.out HB2.out.b)).mono ?_
          rintro e w3 ⟨rfl, hb⟩
          rw [HE.out]
          have HB3 := Aside0.mk (HB2.out.below hb)
          have HBX3 := Aside0.mk (blk_below HBX.out hb)
          obtain ⟨z0, z1, z2, z3, z4⟩ := box91_cs HBX3.out
          clear hb
          go_wp2_with fail
          refine (rStart_any HV.out (by omega) _ (by exact Kd.C_below HCW.out HB3.out.b) HLC.out).mono ?_
          rintro e w4 ⟨rfl, hb⟩
          have HB4 := Aside0.mk (HB3.out.below hb)
          clear hb
          go_wp2_with fail
          go_roundg (gk - 1)
          case measure => have := HIK.out; omega
          case rel => exact ⟨S, P, now + D, cnt, i + 1, rfl, rfl, rfl, by go_num, by omega, by have := HIK.out; omega, HB4.out, HPL.out, by omega, by omega, by omega, by omega, by omega, by omega, HCH.out⟩
        · have HE := Aside0.mk hE.1
          have HG := Aside0.mk hE.2
          have hdl : decide (4611686018427387904 ≤ gStart x.f1 (now + D)) = false := decide_eq_false (by have := hE.2; omega)
          have HV := Aside0.mk ((VL_iff x.f1).2 hE.1)
          have hEn := ents_arg HCW.out HV.out.n0 HLC.out
          have hEnb : Ents (wr.alloc (box91 x A4 c4)) A4 c4 x.f1.f3 (fun k => k ≠ w.heap.size ∧ k ≠ w.heap.size + 1) := (hEn.move HBB.out.b.size (fun k hk _ => HBB.out.b.block k hk)).mono (fun k hk => ⟨by omega, by omega⟩)
          have HEN := Aside0.mk hEnb
          have hplays := HPL.out.tell HV.out HG.out
          have HPLAYS := Aside0.mk hplays
          have hrep := set_rep S x.f1 (now + D)
          have hchg := set_chg S x.f1 (now + D)
          have hwn := wN_in S
          have hchgb : S.chg ≤ 1000 := by have := HCH.out; omega
          have hrep' : (setF S x.f1 (now + D)).rep = S.rep + 1 := by rw [hrep]; rw [if_pos HWAS.out]
          have HREP := Aside0.mk hrep'
          have HCHG := Aside0.mk hchg
          have HWN := Aside0.mk hwn
          clear hE hEn hEnb hplays hrep hchg hrep' hwn
          go_wp2_with fail
          refine (set_on _ _ S _ x.f1 A4 c4 _ HBB.out.s (HEN.out.mono (fun k hk => hk.1)) HE.out hnd0 hlate HG.out (by omega) (by omega) (by omega) (by omega) (fun k hk => by
            have : wr.heap.size ≤ (wr.alloc (box91 x A4 c4)).heap.size := by simp
            have hk' : (wr.alloc (box91 x A4 c4)).heap.size ≤ k := hk
            exact ⟨by omega, by omega⟩)).mono ?_
          rintro e w2 ⟨rfl, hH, hC⟩
          have HB2 := Aside0.mk (HBB.out.setS hH hC)
          have hbx : w2.heap[wr.heap.size]? = some (box91 x A4 c4) := (hC.block _ (by simp) (by omega)).trans (blk_new _ _)
          obtain ⟨z0, z1, z2, z3, z4⟩ := box91_cs hbx
          have HBX := Aside0.mk hbx
          clear hbx
          have hzz : wr.heap.size < w2.heap.size := blk_lt HBX.out
          clear hH hC
          go_wp2_with fail
          refine (check_any x.f1 A4 c4 _ (by exact Kd.C_below HCW.out HB2.out.b)).mono ?_
          rintro e w3 ⟨rfl, hb⟩
          rw [HE.out]
          have HB3 := Aside0.mk (HB2.out.below hb)
          have HBX3 := Aside0.mk (blk_below HBX.out hb)
          obtain ⟨z0, z1, z2, z3, z4⟩ := box91_cs HBX3.out
          clear hb
          go_wp2_with fail
          refine (rStart_any HV.out (by omega) _ (by exact Kd.C_below HCW.out HB3.out.b) HLC.out).mono ?_
          rintro e w4 ⟨rfl, hb⟩
          have HB4 := Aside0.mk (HB3.out.below hb)
          have HBX4 := Aside0.mk (blk_below HBX3.out hb)
          obtain ⟨z0, z1, z2, z3, z4⟩ := box91_cs HBX4.out
          clear hb
          go_wp2_with fail
          refine (pset_any _ _ P _ x.f1 A4 c4 _ HB4.out.p HV.out (by exact (ents_arg HCW.out HV.out.n0 HLC.out).move HB4.out.b.size (fun k hk _ => HB4.out.b.block k hk) |>.mono (fun k hk => ⟨by omega, by omega⟩)) hnd0 hlate).mono ?_
          rintro e w5 ⟨rfl, hH, hC⟩
          have HB5 := Aside0.mk (HB4.out.setP hH hC)
          clear hH hC
          go_wp2_with fail
          obtain ⟨q3, r3, q7, r7, hI5⟩ := HB5.out.s.is
          refine (waits_any _ _ _ hI5).mono ?_
          rintro e w6 ⟨rfl, hb⟩
          have HB6 := Aside0.mk (HB5.out.below hb)
          clear hb hI5
          obtain ⟨q3, r3, q7, r7, hI6⟩ := HB6.out.p.is
          obtain ⟨_, _, _, _, _, _, _, _, _, v9, v10⟩ := hI6.cs
          rw [HPLAYS.out.agree.waits] at v9
          rw [HPLAYS.out.agree.at_] at v10
          clear hI6
          have hfin : Both w w6 w.heap.size (w.heap.size + 1) (setF S x.f1 (now + D)) (psetF P x.f1 (now + D)) := HB6.out
          have HFIN := Aside0.mk hfin
          clear hfin
          obtain ⟨S', hS'⟩ : ∃ S', setF S x.f1 (now + D) = S' := ⟨_, rfl⟩
          rw [hS'] at HREP HCHG HFIN HPLAYS v9 v10
          rw [hS']
          clear hS' HB5 HB6
          cases hy : S'.waits
          all_goals
            rw [hy] at v9
            clear hy
            go_wp2_with fail
            obtain ⟨q3, r3, q7, r7, hI7⟩ := HFIN.out.s.is
            refine (counts_any _ _ _ hI7).mono ?_
            rintro e w7 ⟨rfl, hb⟩
            have HB7 := Aside0.mk (HFIN.out.below hb)
            clear hb hI7
            have hrp := HREP.out
            go_wp2_with fail
            go_roundg (gk - 1)
            case measure => have := HIK.out; omega
            case rel => exact ⟨S', _, now + D, cnt + 1, i + 1, rfl, by go_num, by rw [hrp], by go_num, by omega, by have := HIK.out; omega, HB7.out, HPLAYS.out, by omega, by omega, by omega, by have := HREP.out; omega, by have := HREP.out; omega, by have := HCHG.out; omega, by have := HCHG.out; have := HCH.out; omega⟩
      · have HWAS : Aside0 (¬ (S.waits = true ∧ now + D < S.at_)) := ⟨fun h => by rw [← HAG.out.at_] at h; omega⟩
        rw [hpw.1] at p9
        have hdw : decide (now + D < P.at_) = false := decide_eq_false (by omega)
        clear hpw
        rcases hout with hE | hE | hE
        · have hE30 : checkF x.f1 = 30 := by
            unfold checkF at hE ⊢
            by_cases hx : x.f1.f3.length = 0 ∨ 64 < x.f1.f3.length ∨ badL x.f1 = true ∨ x.f1.f3.any badE = true
            · rw [if_pos hx]
            · rw [if_neg hx] at hE; exact absurd rfl hE
          have HE := Aside0.mk hE
          have HE30 := Aside0.mk hE30
          clear hE hE30
          go_wp2_with fail
          refine (set_err _ _ S _ x.f1 A4 c4 _ HBB.out.s HCb.out HE.out).mono ?_
          rintro e w2 ⟨rfl, hH, hC⟩
          have HB2 := Aside0.mk (HBB.out.setS hH hC)
          have hbx : w2.heap[wr.heap.size]? = some (box91 x A4 c4) := (hC.block _ (by simp) (by omega)).trans (blk_new _ _)
          obtain ⟨z0, z1, z2, z3, z4⟩ := box91_cs hbx
          have HBX := Aside0.mk hbx
          clear hbx
          have hzz : wr.heap.size < w2.heap.size := blk_lt HBX.out
          clear hH hC
          go_wp2_with fail
          refine (check_any x.f1 A4 c4 _ (by exact Kd.C_below HCW.out HB2.out.b)).mono ?_
          rintro e w3 ⟨rfl, hb⟩
          rw [HE30.out]
          have HB3 := Aside0.mk (HB2.out.below hb)
          clear hb
          go_wp2_with fail
          go_roundg (gk - 1)
          case measure => have := HIK.out; omega
          case rel => exact ⟨S, P, now + D, cnt, i + 1, rfl, rfl, rfl, by go_num, by omega, by have := HIK.out; omega, HB3.out, HPL.out, by omega, by omega, by omega, by omega, by omega, by omega, HCH.out⟩
        · have HE := Aside0.mk hE.1
          have HG := Aside0.mk hE.2
          have hdl : decide (4611686018427387904 ≤ gStart x.f1 (now + D)) = true := decide_eq_true hE.2
          have HV := Aside0.mk ((VL_iff x.f1).2 hE.1)
          clear hE
          go_wp2_with fail
          refine (set_late _ _ S _ x.f1 A4 c4 _ HBB.out.s HCb.out HE.out HLC.out hnd0 hlate HG.out).mono ?_
          rintro e w2 ⟨rfl, hH, hC⟩
          have HB2 := Aside0.mk (HBB.out.setS hH hC)
          have hbx : w2.heap[wr.heap.size]? = some (box91 x A4 c4) := (hC.block _ (by simp) (by omega)).trans (blk_new _ _)
          obtain ⟨z0, z1, z2, z3, z4⟩ := box91_cs hbx
          have HBX := Aside0.mk hbx
          clear hbx
          have hzz : wr.heap.size < w2.heap.size := blk_lt HBX.out
          clear hH hC
          go_wp2_with fail
          refine (check_any x.f1 A4 c4 _ (by exact Kd.C_below HCW.out HB2.out.b)).mono ?_
          rintro e w3 ⟨rfl, hb⟩
          rw [HE.out]
          have HB3 := Aside0.mk (HB2.out.below hb)
          have HBX3 := Aside0.mk (blk_below HBX.out hb)
          obtain ⟨z0, z1, z2, z3, z4⟩ := box91_cs HBX3.out
          clear hb
          go_wp2_with fail
          refine (rStart_any HV.out (by omega) _ (by exact Kd.C_below HCW.out HB3.out.b) HLC.out).mono ?_
          rintro e w4 ⟨rfl, hb⟩
          have HB4 := Aside0.mk (HB3.out.below hb)
          clear hb
          go_wp2_with fail
          go_roundg (gk - 1)
          case measure => have := HIK.out; omega
          case rel => exact ⟨S, P, now + D, cnt, i + 1, rfl, rfl, rfl, by go_num, by omega, by have := HIK.out; omega, HB4.out, HPL.out, by omega, by omega, by omega, by omega, by omega, by omega, HCH.out⟩
        · have HE := Aside0.mk hE.1
          have HG := Aside0.mk hE.2
          have hdl : decide (4611686018427387904 ≤ gStart x.f1 (now + D)) = false := decide_eq_false (by have := hE.2; omega)
          have HV := Aside0.mk ((VL_iff x.f1).2 hE.1)
          have hEn := ents_arg HCW.out HV.out.n0 HLC.out
          have hEnb : Ents (wr.alloc (box91 x A4 c4)) A4 c4 x.f1.f3 (fun k => k ≠ w.heap.size ∧ k ≠ w.heap.size + 1) := (hEn.move HBB.out.b.size (fun k hk _ => HBB.out.b.block k hk)).mono (fun k hk => ⟨by omega, by omega⟩)
          have HEN := Aside0.mk hEnb
          have hplays := HPL.out.tell HV.out HG.out
          have HPLAYS := Aside0.mk hplays
          have hrep := set_rep S x.f1 (now + D)
          have hchg := set_chg S x.f1 (now + D)
          have hwn := wN_in S
          have hchgb : S.chg ≤ 1000 := by have := HCH.out; omega
          have hrep' : (setF S x.f1 (now + D)).rep = S.rep := by rw [hrep]; rw [if_neg HWAS.out]; omega
          have HREP := Aside0.mk hrep'
          have HCHG := Aside0.mk hchg
          have HWN := Aside0.mk hwn
          clear hE hEn hEnb hplays hrep hchg hrep' hwn
          go_wp2_with fail
          refine (set_on _ _ S _ x.f1 A4 c4 _ HBB.out.s (HEN.out.mono (fun k hk => hk.1)) HE.out hnd0 hlate HG.out (by omega) (by omega) (by omega) (by omega) (fun k hk => by
            have : wr.heap.size ≤ (wr.alloc (box91 x A4 c4)).heap.size := by simp
            have hk' : (wr.alloc (box91 x A4 c4)).heap.size ≤ k := hk
            exact ⟨by omega, by omega⟩)).mono ?_
          rintro e w2 ⟨rfl, hH, hC⟩
          have HB2 := Aside0.mk (HBB.out.setS hH hC)
          have hbx : w2.heap[wr.heap.size]? = some (box91 x A4 c4) := (hC.block _ (by simp) (by omega)).trans (blk_new _ _)
          obtain ⟨z0, z1, z2, z3, z4⟩ := box91_cs hbx
          have HBX := Aside0.mk hbx
          clear hbx
          have hzz : wr.heap.size < w2.heap.size := blk_lt HBX.out
          clear hH hC
          go_wp2_with fail
          refine (check_any x.f1 A4 c4 _ (by exact Kd.C_below HCW.out HB2.out.b)).mono ?_
          rintro e w3 ⟨rfl, hb⟩
          rw [HE.out]
          have HB3 := Aside0.mk (HB2.out.below hb)
          have HBX3 := Aside0.mk (blk_below HBX.out hb)
          obtain ⟨z0, z1, z2, z3, z4⟩ := box91_cs HBX3.out
          clear hb
          go_wp2_with fail
          refine (rStart_any HV.out (by omega) _ (by exact Kd.C_below HCW.out HB3.out.b) HLC.out).mono ?_
          rintro e w4 ⟨rfl, hb⟩
          have HB4 := Aside0.mk (HB3.out.below hb)
          have HBX4 := Aside0.mk (blk_below HBX3.out hb)
          obtain ⟨z0, z1, z2, z3, z4⟩ := box91_cs HBX4.out
          clear hb
          go_wp2_with fail
          refine (pset_any _ _ P _ x.f1 A4 c4 _ HB4.out.p HV.out (by exact (ents_arg HCW.out HV.out.n0 HLC.out).move HB4.out.b.size (fun k hk _ => HB4.out.b.block k hk) |>.mono (fun k hk => ⟨by omega, by omega⟩)) hnd0 hlate).mono ?_
          rintro e w5 ⟨rfl, hH, hC⟩
          have HB5 := Aside0.mk (HB4.out.setP hH hC)
          clear hH hC
          go_wp2_with fail
          obtain ⟨q3, r3, q7, r7, hI5⟩ := HB5.out.s.is
          refine (waits_any _ _ _ hI5).mono ?_
          rintro e w6 ⟨rfl, hb⟩
          have HB6 := Aside0.mk (HB5.out.below hb)
          clear hb hI5
          obtain ⟨q3, r3, q7, r7, hI6⟩ := HB6.out.p.is
          obtain ⟨_, _, _, _, _, _, _, _, _, v9, v10⟩ := hI6.cs
          rw [HPLAYS.out.agree.waits] at v9
          rw [HPLAYS.out.agree.at_] at v10
          clear hI6
          have hfin : Both w w6 w.heap.size (w.heap.size + 1) (setF S x.f1 (now + D)) (psetF P x.f1 (now + D)) := HB6.out
          have HFIN := Aside0.mk hfin
          clear hfin
          obtain ⟨S', hS'⟩ : ∃ S', setF S x.f1 (now + D) = S' := ⟨_, rfl⟩
          rw [hS'] at HREP HCHG HFIN HPLAYS v9 v10
          rw [hS']
          clear hS' HB5 HB6
          cases hy : S'.waits
          all_goals
            rw [hy] at v9
            clear hy
            go_wp2_with fail
            obtain ⟨q3, r3, q7, r7, hI7⟩ := HFIN.out.s.is
            refine (counts_any _ _ _ hI7).mono ?_
            rintro e w7 ⟨rfl, hb⟩
            have HB7 := Aside0.mk (HFIN.out.below hb)
            clear hb hI7
            have hrp := HREP.out
            go_wp2_with fail
            go_roundg (gk - 1)
            case measure => have := HIK.out; omega
            case rel => exact ⟨S', _, now + D, cnt + 1, i + 1, rfl, by go_num, by rw [hrp], by go_num, by omega, by have := HIK.out; omega, HB7.out, HPLAYS.out, by omega, by omega, by omega, by have := HREP.out; omega, by have := HREP.out; omega, by have := HCHG.out; omega, by have := HCHG.out; have := HCH.out; omega⟩
    · have HCH' := HCH.out
      have hcd : S.chg ≤ cnt := by have := wN_in S; have := HCH.out; omega
      go_wp2_with fail
      obtain ⟨q3, r3, q7, r7, hI7⟩ := HB.out.s.is
      refine (counts_any _ _ _ hI7).mono ?_
      rintro e w7 ⟨rfl, hb⟩
      have HB7 := Aside0.mk (HB.out.below hb)
      clear hb hI7
      have hcd' : decide (S.chg ≤ cnt) = true := decide_eq_true hcd
      go_wp2
      exact bodyPost_ret (v := .tuple #[.pointer (some ⟨w.heap.size, 0, none⟩), .pointer (some ⟨w.heap.size + 1, 0, none⟩), .int .i64 now, .bool true]) (by simp [results, Try.results11, go_sem]) rfl ⟨_, _, S, P, now, rfl, HB7.out, HP.out, by omega⟩

end Go.Proofs.Ytkbjelhmmcifhaa.CF
