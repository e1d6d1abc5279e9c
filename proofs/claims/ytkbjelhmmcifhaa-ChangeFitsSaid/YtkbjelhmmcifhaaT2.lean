/- Plain: a schedule and a pair to which the same lists are told stay alike. The times are from 0 on, and earlier than 2^62. -/
import Derived.Test.YtkbjelhmmcifhaaQ4
import Derived.Test.YtkbjelhmmcifhaaT1
set_option linter.unusedVariables false
set_option linter.unusedSimpArgs false
namespace Go.Proofs.Ytkbjelhmmcifhaa.CF
open Go.Proofs.Ytkbjelhmmcifhaa.PChangeFits (S71 S33 k71 k33 z71 z33 rd_T71)

/-- A schedule and a pair, alike in all that may be asked. -/
structure Agree (S P : Sch) : Prop where
  has : P.has = S.has
  waits : P.waits = S.waits
  at_ : P.at_ = S.at_
  o : S.has = true → P.o = S.o
  a : S.waits = true → P.a = S.a

theorem gStart_ge {l : S33} (hv : VL l) (t : Int) : t ≤ gStart l t := by
  unfold gStart
  have := hv.c0
  split
  · assumption
  · have h1 := Int.mul_ediv_add_emod (t - l.f0 + l.f1 - 1) l.f1
    have h2 := Int.emod_lt_of_pos (t - l.f0 + l.f1 - 1) (show 0 < l.f1 by omega)
    rw [Int.mul_comm] at h1
    omega

/-- What holds between two acts. -/
structure Plays (S P : Sch) (now : Int) : Prop where
  agree : Agree S P
  vs : VS S
  vp : VS P
  base : S.has = true → S.o.f0 ≤ now
  now0 : 0 ≤ now

theorem pass_vs {S : Sch} (h : VS S) (now : Int) (hb : S.has = true → S.o.f0 ≤ now) : VS (passF S now) ∧ ((passF S now).has = true → (passF S now).o.f0 ≤ now) := by
  unfold passF
  by_cases hx : S.waits = true ∧ S.at_ ≤ now
  · rw [if_pos hx]
    refine ⟨⟨fun _ => h.moved hx.1, fun hw => by simp at hw, fun _ hw => by simp at hw, ?_, by simp⟩, fun _ => hx.2⟩
    exact h.al
  · rw [if_neg hx]; exact ⟨h, hb⟩

theorem ppass_vs {S : Sch} (h : VS S) (now : Int) (hb : S.has = true → S.o.f0 ≤ now) : VS (ppassF S now) ∧ ((ppassF S now).has = true → (ppassF S now).o.f0 ≤ now) := by
  unfold ppassF
  by_cases hx : S.waits = true ∧ S.at_ ≤ now
  · rw [if_pos hx]
    refine ⟨⟨fun _ => h.moved hx.1, fun hw => by simp at hw, fun _ hw => by simp at hw, ?_, h.al⟩, fun _ => hx.2⟩
    exact h.al
  · rw [if_neg hx]; exact ⟨h, hb⟩

theorem pass_agree {S P : Sch} (h : Agree S P) (now : Int) : Agree (passF S now) (ppassF P now) := by
  unfold passF ppassF
  by_cases hx : S.waits = true ∧ S.at_ ≤ now
  · rw [if_pos hx, if_pos (by rw [h.waits, h.at_]; exact hx)]
    refine ⟨rfl, rfl, h.at_, fun _ => ?_, fun hw => by simp at hw⟩
    unfold movedF
    rw [h.a hx.1, h.at_]
  · rw [if_neg hx, if_neg (by rw [h.waits, h.at_]; exact hx)]; exact h

theorem told_vs {S : Sch} (h : VS S) {l : S33} (hl : VL l) {now : Int} (hn : 0 ≤ now) (hb : S.has = true → S.o.f0 ≤ now) (hs : gStart l now < 4611686018427387904) (c r : Int) :
    VS { o := S.o, a := l, has := S.has, waits := true, at_ := gStart l now, chg := c, rep := r } := by
  have hg := gStart_ge hl now
  exact ⟨h.o, fun _ => ⟨hl, by show 0 ≤ gStart l now; omega, hs⟩, fun hh _ => by have := hb hh; show S.o.f0 ≤ gStart l now; omega, h.ol, hl.n1⟩

theorem Plays.tell {S P : Sch} {now : Int} (h : Plays S P now) {l : S33} (hl : VL l) (hs : gStart l now < 4611686018427387904) : Plays (setF S l now) (psetF P l now) now := by
  have hbP : P.has = true → P.o.f0 ≤ now := fun hh => by
    have hh' : S.has = true := by rw [← h.agree.has]; exact hh
    rw [h.agree.o hh']; exact h.base hh'
  obtain ⟨s1, s2⟩ := pass_vs h.vs now h.base
  obtain ⟨p1, p2⟩ := ppass_vs h.vp now hbP
  have ag := pass_agree h.agree now
  unfold setF psetF
  have ag2 : Agree { o := (passF S now).o, a := l, has := (passF S now).has, waits := true, at_ := gStart l now, chg := (passF S now).chg, rep := (passF S now).rep + (if (passF S now).waits = true then 1 else 0) }
      { o := (ppassF P now).o, a := l, has := (ppassF P now).has, waits := true, at_ := gStart l now, chg := 0, rep := 0 } := ⟨ag.has, rfl, rfl, ag.o, fun _ => rfl⟩
  have v1 := told_vs s1 hl h.now0 s2 hs (passF S now).chg ((passF S now).rep + (if (passF S now).waits = true then 1 else 0))
  have v2 := told_vs p1 hl h.now0 p2 hs 0 0
  obtain ⟨t1, t2⟩ := pass_vs v1 now s2
  obtain ⟨u1, u2⟩ := ppass_vs v2 now p2
  exact ⟨pass_agree ag2 now, t1, u1, t2, h.now0⟩

theorem Plays.later {S P : Sch} {now now' : Int} (h : Plays S P now) (hn : now ≤ now') : Plays S P now' :=
  ⟨h.agree, h.vs, h.vp, fun hh => by have := h.base hh; omega, by have := h.now0; omega⟩

theorem set_rep (S : Sch) (l : S33) (now : Int) : (setF S l now).rep = S.rep + (if S.waits = true ∧ now < S.at_ then 1 else 0) := by
  have h1 : ∀ S : Sch, (passF S now).rep = S.rep := fun S => by unfold passF; split <;> rfl
  unfold setF
  rw [h1]
  show (passF S now).rep + (if (passF S now).waits = true then 1 else 0) = _
  rw [h1]
  congr 1
  unfold passF
  by_cases hx : S.waits = true ∧ S.at_ ≤ now
  · rw [if_pos hx, if_neg (by simp), if_neg (by omega)]
  · rw [if_neg hx]
    by_cases hw : S.waits = true
    · have : ¬ S.at_ ≤ now := fun h => hx ⟨hw, h⟩
      rw [if_pos hw, if_pos ⟨hw, by omega⟩]
    · rw [if_neg hw, if_neg (fun h => hw h.1)]

def wN (S : Sch) : Int := if S.waits = true then 1 else 0

theorem pass_chg (S : Sch) (now : Int) : (passF S now).chg + wN (passF S now) = S.chg + wN S := by
  unfold passF wN
  by_cases hx : S.waits = true ∧ S.at_ ≤ now
  · rw [if_pos hx, if_pos hx.1, if_neg (by simp)]; show S.chg + 1 + 0 = _; omega
  · rw [if_neg hx]

theorem wN_in (S : Sch) : 0 ≤ wN S ∧ wN S ≤ 1 := by unfold wN; split <;> omega

theorem pass_chg_ge (S : Sch) (now : Int) : S.chg ≤ (passF S now).chg := by
  unfold passF; split
  · show S.chg ≤ S.chg + 1; omega
  · omega

theorem set_chg (S : Sch) (l : S33) (now : Int) : S.chg ≤ (setF S l now).chg ∧ (setF S l now).chg + wN (setF S l now) ≤ S.chg + wN S + 1 := by
  have h1 := pass_chg S now
  have h2 := wN_in (passF S now)
  have h3 := pass_chg_ge S now
  unfold setF
  rw [pass_chg]
  refine ⟨Int.le_trans h3 (pass_chg_ge { o := (passF S now).o, a := l, has := (passF S now).has, waits := true, at_ := gStart l now, chg := (passF S now).chg, rep := (passF S now).rep + (if (passF S now).waits = true then 1 else 0) } now), ?_⟩
  have h4 : wN { o := (passF S now).o, a := l, has := (passF S now).has, waits := true, at_ := gStart l now, chg := (passF S now).chg, rep := (passF S now).rep + (if (passF S now).waits = true then 1 else 0) } = 1 := rfl
  rw [h4]
  show (passF S now).chg + 1 ≤ _
  omega

/-- At the start nothing is told. -/
def sch0 : Sch := ⟨⟨0, 0, 0, []⟩, ⟨0, 0, 0, []⟩, false, false, 0, 0, 0⟩
theorem plays0 : Plays sch0 sch0 0 := by
  have v : VS sch0 := ⟨fun h => by simp [sch0] at h, fun h => by simp [sch0] at h, fun h => by simp [sch0] at h, by simp [sch0], by simp [sch0]⟩
  exact ⟨⟨rfl, rfl, rfl, fun _ => rfl, fun _ => rfl⟩, v, v, fun h => by simp [sch0] at h, by omega⟩

theorem Agree.st {S P : Sch} (h : Agree S P) (t : Int) : stF P t = stF S t := by
  have hm : S.waits = true → movedF P = movedF S := fun hw => by unfold movedF; rw [h.a hw, h.at_]
  have ht : tailOk P = tailOk S ∧ (tailOk S = true → tailFrom P = tailFrom S) := by
    cases hw : S.waits with
    | false => exact ⟨by unfold tailOk; rw [h.waits, hw]; simp, fun hx => by have := (tailOk_iff hx).1; rw [hw] at this; cases this⟩
    | true =>
      cases hh : S.has with
      | false => exact ⟨by unfold tailOk; rw [h.has, hh]; simp, fun hx => by have := (tailOk_iff hx).2.1; rw [hh] at this; cases this⟩
      | true => exact ⟨by unfold tailOk tailFrom; rw [h.waits, h.has, h.o hh, h.at_], fun _ => by unfold tailFrom; rw [h.o hh, h.at_]⟩
  unfold stF
  rw [h.waits, h.at_, h.has, ht.1]
  by_cases h1 : S.waits = true ∧ S.at_ ≤ t
  · rw [if_pos h1, if_pos h1, hm h1.1]
  · rw [if_neg h1, if_neg h1]
    by_cases h2 : tailOk S = true
    · rw [ht.2 h2, h.o (tailOk_iff h2).2.1]
    · have h2' : tailOk S = false := by cases hx : tailOk S; rfl; exact absurd hx h2
      rw [h2']
      by_cases h3 : S.has = true
      · rw [h.o h3]; simp [h3]
      · simp [h3]

end Go.Proofs.Ytkbjelhmmcifhaa.CF
