/- Walks: a pair's Longer, State and Next (bargateref17). The pair is one that may be (VS); the time is from 0 on, and no later than 9*10^18. -/
import Derived.Test.YtkbjelhmmcifhaaC2
import Derived.Test.YtkbjelhmmcifhaaT1
set_option linter.unusedVariables false
set_option linter.unusedSimpArgs false
namespace Go.Proofs.Ytkbjelhmmcifhaa.CF
open Go.RowKit Go.Proofs.YtkbjelhmmcifhaaW.PrintWords Go.Proofs.YtkbjelhmmcifhaaW.PrintLast Go.Proofs.YtkbjelhmmcifhaaW.PrintMore
open Go.Proofs.Ytkbjelhmmcifhaa.PChangeFits (S71 S33 k71 k33 z71 z33 rd_T71)

def pairCells (S : Sch) (A3 : Option Addr) (c3 : Nat) (A7 : Option Addr) (c7 : Nat) : Array Value :=
  #[.int .i64 S.o.f0, .int .i64 S.o.f1, .int .i64 S.o.f2, .slice A3 S.o.f3.length c3, .int .i64 S.a.f0, .int .i64 S.a.f1, .int .i64 S.a.f2, .slice A7 S.a.f3.length c7, .bool S.has, .bool S.waits, .int .i64 S.at_]

structure IsPair (w : World) (g : Nat) (S : Sch) (A3 : Option Addr) (c3 : Nat) (A7 : Option Addr) (c7 : Nat) : Prop where
  blk : w.heap[g]? = some (.cells (pairCells S A3 c3 A7 c7) 35 (0, 0))
  oe : Ents w A3 c3 S.o.f3 (· ≠ g)
  ae : Ents w A7 c7 S.a.f3 (· ≠ g)

section
variable {w : World} {g : Nat} {S : Sch} {A3 : Option Addr} {c3 : Nat} {A7 : Option Addr} {c7 : Nat}
theorem IsPair.cs (h : IsPair w g S A3 c3 A7 c7) : w.cell? ⟨g, 0, none⟩ = some (.int .i64 S.o.f0) ∧ w.cell? ⟨g, 1, none⟩ = some (.int .i64 S.o.f1) ∧ w.cell? ⟨g, 2, none⟩ = some (.int .i64 S.o.f2) ∧ w.cell? ⟨g, 3, none⟩ = some (.slice A3 S.o.f3.length c3) ∧
    w.cell? ⟨g, 4, none⟩ = some (.int .i64 S.a.f0) ∧ w.cell? ⟨g, 5, none⟩ = some (.int .i64 S.a.f1) ∧ w.cell? ⟨g, 6, none⟩ = some (.int .i64 S.a.f2) ∧ w.cell? ⟨g, 7, none⟩ = some (.slice A7 S.a.f3.length c7) ∧
    w.cell? ⟨g, 8, none⟩ = some (.bool S.has) ∧ w.cell? ⟨g, 9, none⟩ = some (.bool S.waits) ∧ w.cell? ⟨g, 10, none⟩ = some (.int .i64 S.at_) := by
  have hb := h.blk
  refine ⟨?_, ?_, ?_, ?_, ?_, ?_, ?_, ?_, ?_, ?_, ?_⟩ <;> (rw [blk_cell hb]; rfl)
theorem IsPair.below {w1 : World} (h : IsPair w g S A3 c3 A7 c7) (hb : Below w.heap.size w w1) : IsPair w1 g S A3 c3 A7 c7 :=
  ⟨blk_below h.blk hb, h.oe.move hb.size (fun k _ hk => hb.block k hk), h.ae.move hb.size (fun k _ hk => hb.block k hk)⟩
theorem IsPair.drewN (h : IsPair w g S A3 c3 A7 c7) (m : Nat) : IsPair (w.drewN m) g S A3 c3 A7 c7 := h.below (below_q (Below.refl _ _) _)
end

theorem tail_rest {S : Sch} (hv : VL S.o) : tailFrom S = S.at_ - (S.at_ - S.o.f0) % S.o.f1 := by
  unfold tailFrom
  have := Int.mul_ediv_add_emod (S.at_ - S.o.f0) S.o.f1
  rw [Int.mul_comm] at this
  omega

def longF (S : Sch) : Int := if tailOk S = true then tailFrom S else -1

section
variable (w : World) (g : Nat) (S : Sch) {A3 : Option Addr} {c3 : Nat} {A7 : Option Addr} {c7 : Nat} (t : Int)

theorem long_any (h : IsPair w g S A3 c3 A7 c7) (hv : VS S) : Calls Try.prog 84 #[.pointer (some ⟨g, 0, none⟩)] w (R1 w (longF S)) := by
  obtain ⟨c0, c1, c2, c3, c4, c5, c6, c7, c8, c9, c10⟩ := h.cs
  clear c3 c4 c5 c6 c7 h
  cases hh : S.has with
  | false =>
    have hl : longF S = -1 := by unfold longF tailOk; rw [hh]; simp
    rw [hl]
    rw [hh] at c8
    clear hv hh hl
    go_enter Try.func84, Try.ntmps84
    go_wp2
    go_ret
    exact ⟨rfl, Below.refl _ _⟩
  | true =>
    rw [hh] at c8
    cases hw : S.waits with
    | false =>
      have hl : longF S = -1 := by unfold longF tailOk; rw [hw]; simp
      rw [hl]
      rw [hw] at c9
      clear hv hh hl hw
      go_enter Try.func84, Try.ntmps84
      go_wp2
      go_ret
      exact ⟨rfl, Below.refl _ _⟩
    | true =>
      rw [hw] at c9
      have hvo := hv.o hh
      obtain ⟨_, ha0, ha1⟩ := hv.a hw
      have hob := hv.ob hh hw
      have hb0 := hvo.b0
      have hcy0 := hvo.c0
      have hcy1 := hvo.c1
      have hin := from_in hvo hob
      have hm0 := Int.emod_nonneg (S.at_ - S.o.f0) (show S.o.f1 ≠ 0 by omega)
      have htr := tail_rest hvo
      obtain ⟨rest, hrest⟩ : ∃ rest, (S.at_ - S.o.f0) % S.o.f1 = rest := ⟨_, rfl⟩
      rw [hrest] at hm0 htr
      have e1 : IntKind.i64.wrap (S.at_ - S.o.f0) = S.at_ - S.o.f0 := IntWalk.i64_in _ (by omega)
      have e2 : (S.at_ - S.o.f0).tmod S.o.f1 = rest := by rw [← hrest]; exact Int.tmod_eq_emod_of_nonneg (by omega)
      have z : (S.o.f1 == 0) = false := beq_eq_false_iff_ne.2 (by omega)
      have hra : rest ≤ S.at_ := by omega
      have hlong : longF S = if rest = 0 ∨ S.o.f2 < rest ∨ S.at_ - rest ≤ S.o.f0 then -1 else S.at_ - rest := by
        unfold longF tailOk
        rw [hw, hh]
        simp only [Bool.and_true, Bool.true_and, Bool.and_eq_true, decide_eq_true_eq]
        by_cases hx : rest = 0 ∨ S.o.f2 < rest ∨ S.at_ - rest ≤ S.o.f0
        · rw [if_pos hx, if_neg (by omega)]
        · rw [if_neg hx, if_pos (by omega)]; exact htr
      rw [hlong]
      clear hlong hrest htr hin hv hvo
      by_cases h0 : rest = 0
      · rw [if_pos (.inl h0)]
        have h0' : (rest == 0) = true := beq_iff_eq.2 h0
        clear h0
        go_enter Try.func84, Try.ntmps84
        go_wp2
        go_quiet (fail)
        go_wp2
        go_ret
        exact ⟨rfl, below_q (Below.refl _ _) _⟩
      · have h0' : (rest == 0) = false := beq_eq_false_iff_ne.2 h0
        by_cases h1 : S.o.f2 < rest
        · rw [if_pos (.inr (.inl h1))]
          clear h0
          go_enter Try.func84, Try.ntmps84
          go_wp2
          go_quiet (fail)
          go_wp2
          go_ret
          exact ⟨rfl, below_q (Below.refl _ _) _⟩
        · by_cases h2 : S.at_ - rest ≤ S.o.f0
          · rw [if_pos (.inr (.inr h2))]
            clear h0
            go_enter Try.func84, Try.ntmps84
            go_wp2
            go_quiet (fail)
            go_wp2
            go_ret
            exact ⟨rfl, below_q (Below.refl _ _) _⟩
          · rw [if_neg (fun h => by rcases h with h | h | h; exact h0 h; exact h1 h; exact h2 h)]
            clear h0
            go_enter Try.func84, Try.ntmps84
            go_wp2
            go_quiet (fail)
            go_wp2
            go_ret
            exact ⟨rfl, below_q (Below.refl _ _) _⟩
end

end Go.Proofs.Ytkbjelhmmcifhaa.CF
