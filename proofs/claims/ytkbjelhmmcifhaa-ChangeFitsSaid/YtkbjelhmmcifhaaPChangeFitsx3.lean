-- PRINTED BY print.sh 35421559b90ae4d0a3588c463048766b98c2df88dd9212a6774a882060cdf62d: not written by this session
import Derived.Test.YtkbjelhmmcifhaaPChangeFitsx0
namespace Go.Proofs.Ytkbjelhmmcifhaa.PChangeFits
open Go.RowKit Go.Proofs.YtkbjelhmmcifhaaW.PrintWords Go.Proofs.YtkbjelhmmcifhaaW.PrintLast Go.Proofs.YtkbjelhmmcifhaaW.PrintMore
attribute [local go_sem] max2_int min2_int max_two min_two max_three min_three max_four min_four   -- for this text's walks alone
set_option linter.unusedVariables false
set_option linter.unusedSimpArgs false

/-- A state of type 35 at block g of W; what its slices lead to came in by w0. -/
def IsS35 (w0 W : World) (g : Nat) (f0 : Int) (f1 : Int) (f2 : Int) (f3 : List (S71)) (f4 : Int) (f5 : Int) (f6 : Int) (f7 : List (S71)) (f8 : Bool) (f9 : Bool) (f10 : Int) : Prop := ∃ A3 c3, ∃ A7 c7, W.heap[g]? = some (.cells #[.int .i64 f0, .int .i64 f1, .int .i64 f2, .slice A3 f3.length c3, .int .i64 f4, .int .i64 f5, .int .i64 f6, .slice A7 f7.length c7, .bool f8, .bool f9, .int .i64 f10] 35 (0, 0)) ∧ w0.heap.size ≤ g ∧ Kd.C k71 w0 A3 f3.length f3 ∧ Kd.C k71 w0 A7 f7.length f7
theorem IsS35.grown {w0 W : World} {g : Nat} {f0 : Int} {f1 : Int} {f2 : Int} {f3 : List (S71)} {f4 : Int} {f5 : Int} {f6 : Int} {f7 : List (S71)} {f8 : Bool} {f9 : Bool} {f10 : Int} {W1 : World} {row : Option Nat} (h : IsS35 w0 W g f0 f1 f2 f3 f4 f5 f6 f7 f8 f9 f10) (hw : W.grownBy W1 row) (hne : some g ≠ row) : IsS35 w0 W1 g f0 f1 f2 f3 f4 f5 f6 f7 f8 f9 f10 := by
  obtain ⟨A3, c3, A7, c7, hb, hg, hr3, hr7⟩ := h
  exact ⟨A3, c3, A7, c7, blk_grown hb hw hne, hg, hr3, hr7⟩
theorem IsS35.own_neN {w0 W : World} {g : Nat} {f0 : Int} {f1 : Int} {f2 : Int} {f3 : List (S71)} {f4 : Int} {f5 : Int} {f6 : Int} {f7 : List (S71)} {f8 : Bool} {f9 : Bool} {f10 : Int} {α : Type} {d : Kd α} {e : Nat} {base : Nat} {ok : Nat → Prop} {v : Value} {xs : List α} (h : IsS35 w0 W g f0 f1 f2 f3 f4 f5 f6 f7 f8 f9 f10) (ho : Kd.N d e W base ok v xs) (ht : e ≠ 35) : some g ≠ v.ownBlock := by
  obtain ⟨A3, c3, A7, c7, hb, hg, hr3, hr7⟩ := h
  exact Kd.N_ne ho hb ht
theorem IsS35.fresh {w0 W : World} {g : Nat} {f0 : Int} {f1 : Int} {f2 : Int} {f3 : List (S71)} {f4 : Int} {f5 : Int} {f6 : Int} {f7 : List (S71)} {f8 : Bool} {f9 : Bool} {f10 : Int} (h : IsS35 w0 W g f0 f1 f2 f3 f4 f5 f6 f7 f8 f9 f10) : ∀ k, W.heap.size ≤ k → k ≠ g := by
  obtain ⟨A3, c3, A7, c7, hb, hg, hr3, hr7⟩ := h
  exact Kd.freshB hb
theorem IsS35.kept {w0 W : World} {g : Nat} {f0 : Int} {f1 : Int} {f2 : Int} {f3 : List (S71)} {f4 : Int} {f5 : Int} {f6 : Int} {f7 : List (S71)} {f8 : Bool} {f9 : Bool} {f10 : Int} {W1 : World} {S : Nat → Prop} (h : IsS35 w0 W g f0 f1 f2 f3 f4 f5 f6 f7 f8 f9 f10) (hk : Kept W W1 S) (hne : ¬ S g) : IsS35 w0 W1 g f0 f1 f2 f3 f4 f5 f6 f7 f8 f9 f10 := by
  obtain ⟨A3, c3, A7, c7, hb, hg, hr3, hr7⟩ := h
  exact ⟨A3, c3, A7, c7, blk_kept hb hk hne, hg, hr3, hr7⟩
theorem IsS35.below {w0 W : World} {g : Nat} {f0 : Int} {f1 : Int} {f2 : Int} {f3 : List (S71)} {f4 : Int} {f5 : Int} {f6 : Int} {f7 : List (S71)} {f8 : Bool} {f9 : Bool} {f10 : Int} {W1 : World} (h : IsS35 w0 W g f0 f1 f2 f3 f4 f5 f6 f7 f8 f9 f10) (hw : Below W.heap.size W W1) : IsS35 w0 W1 g f0 f1 f2 f3 f4 f5 f6 f7 f8 f9 f10 := h.grown (grown_of_below hw none) (by simp)
theorem IsS35.alloc {w0 W : World} {g : Nat} {f0 : Int} {f1 : Int} {f2 : Int} {f3 : List (S71)} {f4 : Int} {f5 : Int} {f6 : Int} {f7 : List (S71)} {f8 : Bool} {f9 : Bool} {f10 : Int} (h : IsS35 w0 W g f0 f1 f2 f3 f4 f5 f6 f7 f8 f9 f10) (o : Obj) : IsS35 w0 (W.alloc o) g f0 f1 f2 f3 f4 f5 f6 f7 f8 f9 f10 := h.below (below_alloc (Below.refl _ _) o)
theorem IsS35.drewN {w0 W : World} {g : Nat} {f0 : Int} {f1 : Int} {f2 : Int} {f3 : List (S71)} {f4 : Int} {f5 : Int} {f6 : Int} {f7 : List (S71)} {f8 : Bool} {f9 : Bool} {f10 : Int} (h : IsS35 w0 W g f0 f1 f2 f3 f4 f5 f6 f7 f8 f9 f10) (m : Nat) : IsS35 w0 (W.drewN m) g f0 f1 f2 f3 f4 f5 f6 f7 f8 f9 f10 := h
theorem IsS35.drew {w0 W : World} {g : Nat} {f0 : Int} {f1 : Int} {f2 : Int} {f3 : List (S71)} {f4 : Int} {f5 : Int} {f6 : Int} {f7 : List (S71)} {f8 : Bool} {f9 : Bool} {f10 : Int} (h : IsS35 w0 W g f0 f1 f2 f3 f4 f5 f6 f7 f8 f9 f10) : IsS35 w0 W.drew g f0 f1 f2 f3 f4 f5 f6 f7 f8 f9 f10 := h
theorem IsS35.at_ {w0 W : World} {g : Nat} {f0 : Int} {f1 : Int} {f2 : Int} {f3 : List (S71)} {f4 : Int} {f5 : Int} {f6 : Int} {f7 : List (S71)} {f8 : Bool} {f9 : Bool} {f10 : Int} {w' : World} {m : Nat} (hq : W.drewN m = w') (h : IsS35 w0 W g f0 f1 f2 f3 f4 f5 f6 f7 f8 f9 f10) : IsS35 w0 w' g f0 f1 f2 f3 f4 f5 f6 f7 f8 f9 f10 := by subst hq; exact IsS35.drewN h m
theorem IsS35.apart {w0 W : World} {g : Nat} {f0 : Int} {f1 : Int} {f2 : Int} {f3 : List (S71)} {f4 : Int} {f5 : Int} {f6 : Int} {f7 : List (S71)} {f8 : Bool} {f9 : Bool} {f10 : Int} {α : Type} {d : Kd α} {e : Nat} {base : Nat} {ok : Nat → Prop} {v : Value} {xs : List α} (h : IsS35 w0 W g f0 f1 f2 f3 f4 f5 f6 f7 f8 f9 f10) (ho : d.R e W base ok v xs) (ht : ∀ q, q ∈ e :: d.E → q ≠ 35) : d.R e W base (fun k => ok k ∧ k ≠ g) v xs := by
  obtain ⟨A3, c3, A7, c7, hb, hg, hr3, hr7⟩ := h
  exact Kd.R_types ho hb ht
theorem IsS35.own_ne {w0 W : World} {g : Nat} {f0 : Int} {f1 : Int} {f2 : Int} {f3 : List (S71)} {f4 : Int} {f5 : Int} {f6 : Int} {f7 : List (S71)} {f8 : Bool} {f9 : Bool} {f10 : Int} {α : Type} {d : Kd α} {e : Nat} {base : Nat} {ok : Nat → Prop} {v : Value} {xs : List α} (h : IsS35 w0 W g f0 f1 f2 f3 f4 f5 f6 f7 f8 f9 f10) (ho : d.R e W base ok v xs) (ht : e ≠ 35) : some g ≠ v.ownBlock := by
  obtain ⟨A3, c3, A7, c7, hb, hg, hr3, hr7⟩ := h
  exact Kd.R_ne ho hb ht
theorem IsS35.apartQ {w0 W : World} {g : Nat} {f0 : Int} {f1 : Int} {f2 : Int} {f3 : List (S71)} {f4 : Int} {f5 : Int} {f6 : Int} {f7 : List (S71)} {f8 : Bool} {f9 : Bool} {f10 : Int} {α : Type} {d : Kd α} {e : Nat} {base : Nat} {ok : Nat → Prop} {v : Value} {xs : List α} (h : IsS35 w0 W g f0 f1 f2 f3 f4 f5 f6 f7 f8 f9 f10) (ho : d.Q e W base ok v xs) (ht : ∀ q, q ∈ e :: d.E → q ≠ 35) : d.Q e W base (fun k => ok k ∧ k ≠ g) v xs := by
  obtain ⟨A3, c3, A7, c7, hb, hg, hr3, hr7⟩ := h
  exact Kd.Q_types ho hb ht
theorem IsS35.own_neQ {w0 W : World} {g : Nat} {f0 : Int} {f1 : Int} {f2 : Int} {f3 : List (S71)} {f4 : Int} {f5 : Int} {f6 : Int} {f7 : List (S71)} {f8 : Bool} {f9 : Bool} {f10 : Int} {α : Type} {d : Kd α} {e : Nat} {base : Nat} {ok : Nat → Prop} {v : Value} {xs : List α} (h : IsS35 w0 W g f0 f1 f2 f3 f4 f5 f6 f7 f8 f9 f10) (ho : d.Q e W base ok v xs) (ht : e ≠ 35) : some g ≠ v.ownBlock := by
  obtain ⟨A3, c3, A7, c7, hb, hg, hr3, hr7⟩ := h
  exact Kd.Q_ne ho hb ht
theorem IsS35.apartS {w0 W : World} {g : Nat} {f0 : Int} {f1 : Int} {f2 : Int} {f3 : List (S71)} {f4 : Int} {f5 : Int} {f6 : Int} {f7 : List (S71)} {f8 : Bool} {f9 : Bool} {f10 : Int} {α : Type} {d : Kd α} {e : Nat} {base : Nat} {ok : Nat → Prop} {v : Value} {xs : List α} (h : IsS35 w0 W g f0 f1 f2 f3 f4 f5 f6 f7 f8 f9 f10) (ho : d.S e W base ok v xs) (ht : ∀ q, q ∈ e :: d.E → q ≠ 35) : d.S e W base (fun k => ok k ∧ k ≠ g) v xs := by
  obtain ⟨A3, c3, A7, c7, hb, hg, hr3, hr7⟩ := h
  exact Kd.S_types ho hb ht
theorem IsS35.own_neS {w0 W : World} {g : Nat} {f0 : Int} {f1 : Int} {f2 : Int} {f3 : List (S71)} {f4 : Int} {f5 : Int} {f6 : Int} {f7 : List (S71)} {f8 : Bool} {f9 : Bool} {f10 : Int} {α : Type} {d : Kd α} {e : Nat} {base : Nat} {ok : Nat → Prop} {v : Value} {xs : List α} (h : IsS35 w0 W g f0 f1 f2 f3 f4 f5 f6 f7 f8 f9 f10) (ho : d.S e W base ok v xs) (ht : e ≠ 35) : some g ≠ v.ownBlock := by
  obtain ⟨A3, c3, A7, c7, hb, hg, hr3, hr7⟩ := h
  exact Kd.S_ne ho hb ht
theorem IsS35.lt {w0 W : World} {g : Nat} {f0 : Int} {f1 : Int} {f2 : Int} {f3 : List (S71)} {f4 : Int} {f5 : Int} {f6 : Int} {f7 : List (S71)} {f8 : Bool} {f9 : Bool} {f10 : Int} (h : IsS35 w0 W g f0 f1 f2 f3 f4 f5 f6 f7 f8 f9 f10) : g < W.heap.size := by
  obtain ⟨A3, c3, A7, c7, hb, hg, hr3, hr7⟩ := h
  exact blk_lt hb
theorem IsS35.ge {w0 W : World} {g : Nat} {f0 : Int} {f1 : Int} {f2 : Int} {f3 : List (S71)} {f4 : Int} {f5 : Int} {f6 : Int} {f7 : List (S71)} {f8 : Bool} {f9 : Bool} {f10 : Int} (h : IsS35 w0 W g f0 f1 f2 f3 f4 f5 f6 f7 f8 f9 f10) : w0.heap.size ≤ g := by
  obtain ⟨A3, c3, A7, c7, hb, hg, hr3, hr7⟩ := h
  exact hg
theorem IsS35.ne_blk {w0 W : World} {g : Nat} {f0 : Int} {f1 : Int} {f2 : Int} {f3 : List (S71)} {f4 : Int} {f5 : Int} {f6 : Int} {f7 : List (S71)} {f8 : Bool} {f9 : Bool} {f10 : Int} {a : Nat} {cs : Array Value} {t : TypeId} {fr : Nat × Nat} (h : IsS35 w0 W g f0 f1 f2 f3 f4 f5 f6 f7 f8 f9 f10) (hb2 : W.heap[a]? = some (.cells cs t fr)) (ht : t ≠ 35) : g ≠ a := by
  obtain ⟨A3, c3, A7, c7, hb, hg, hr3, hr7⟩ := h
  rintro rfl
  rw [hb] at hb2
  injection hb2 with hb2
  injection hb2 with _ ht2
  exact ht ht2.symm
theorem IsS35.far {w0 W : World} {g : Nat} {f0 : Int} {f1 : Int} {f2 : Int} {f3 : List (S71)} {f4 : Int} {f5 : Int} {f6 : Int} {f7 : List (S71)} {f8 : Bool} {f9 : Bool} {f10 : Int} {p : Addr} (h : IsS35 w0 W g f0 f1 f2 f3 f4 f5 f6 f7 f8 f9 f10) (hne : g ≠ p.block) (u : Value) : IsS35 w0 (W.setCell p u) g f0 f1 f2 f3 f4 f5 f6 f7 f8 f9 f10 := by
  obtain ⟨A3, c3, A7, c7, hb, hg, hr3, hr7⟩ := h
  exact ⟨A3, c3, A7, c7, blk_far hb hne u, hg, hr3, hr7⟩
theorem cellS35_0 {W : World} {g : Nat} {A3 : Option Addr} {c3 : Nat} {A7 : Option Addr} {c7 : Nat} {f0 : Int} {f1 : Int} {f2 : Int} {f3 : List (S71)} {f4 : Int} {f5 : Int} {f6 : Int} {f7 : List (S71)} {f8 : Bool} {f9 : Bool} {f10 : Int} (h : W.heap[g]? = some (.cells #[.int .i64 f0, .int .i64 f1, .int .i64 f2, .slice A3 f3.length c3, .int .i64 f4, .int .i64 f5, .int .i64 f6, .slice A7 f7.length c7, .bool f8, .bool f9, .int .i64 f10] 35 (0, 0))) : W.cell? ⟨g, 0, none⟩ = some (.int .i64 f0) := (blk_cell h 0).trans rfl
theorem IsS35.set_0 {w0 W : World} {g : Nat} {f0 : Int} {f1 : Int} {f2 : Int} {f3 : List (S71)} {f4 : Int} {f5 : Int} {f6 : Int} {f7 : List (S71)} {f8 : Bool} {f9 : Bool} {f10 : Int} (h : IsS35 w0 W g f0 f1 f2 f3 f4 f5 f6 f7 f8 f9 f10) (x : Int) : IsS35 w0 (W.setCell ⟨g, 0, none⟩ (.int .i64 x)) g x f1 f2 f3 f4 f5 f6 f7 f8 f9 f10 := by
  obtain ⟨A3, c3, A7, c7, hb, hg, hr3, hr7⟩ := h
  exact ⟨A3, c3, A7, c7, by simpa using blk_set hb 0 (.int .i64 x), hg, hr3, hr7⟩
theorem cellS35_1 {W : World} {g : Nat} {A3 : Option Addr} {c3 : Nat} {A7 : Option Addr} {c7 : Nat} {f0 : Int} {f1 : Int} {f2 : Int} {f3 : List (S71)} {f4 : Int} {f5 : Int} {f6 : Int} {f7 : List (S71)} {f8 : Bool} {f9 : Bool} {f10 : Int} (h : W.heap[g]? = some (.cells #[.int .i64 f0, .int .i64 f1, .int .i64 f2, .slice A3 f3.length c3, .int .i64 f4, .int .i64 f5, .int .i64 f6, .slice A7 f7.length c7, .bool f8, .bool f9, .int .i64 f10] 35 (0, 0))) : W.cell? ⟨g, 1, none⟩ = some (.int .i64 f1) := (blk_cell h 1).trans rfl
theorem IsS35.set_1 {w0 W : World} {g : Nat} {f0 : Int} {f1 : Int} {f2 : Int} {f3 : List (S71)} {f4 : Int} {f5 : Int} {f6 : Int} {f7 : List (S71)} {f8 : Bool} {f9 : Bool} {f10 : Int} (h : IsS35 w0 W g f0 f1 f2 f3 f4 f5 f6 f7 f8 f9 f10) (x : Int) : IsS35 w0 (W.setCell ⟨g, 1, none⟩ (.int .i64 x)) g f0 x f2 f3 f4 f5 f6 f7 f8 f9 f10 := by
  obtain ⟨A3, c3, A7, c7, hb, hg, hr3, hr7⟩ := h
  exact ⟨A3, c3, A7, c7, by simpa using blk_set hb 1 (.int .i64 x), hg, hr3, hr7⟩
theorem cellS35_2 {W : World} {g : Nat} {A3 : Option Addr} {c3 : Nat} {A7 : Option Addr} {c7 : Nat} {f0 : Int} {f1 : Int} {f2 : Int} {f3 : List (S71)} {f4 : Int} {f5 : Int} {f6 : Int} {f7 : List (S71)} {f8 : Bool} {f9 : Bool} {f10 : Int} (h : W.heap[g]? = some (.cells #[.int .i64 f0, .int .i64 f1, .int .i64 f2, .slice A3 f3.length c3, .int .i64 f4, .int .i64 f5, .int .i64 f6, .slice A7 f7.length c7, .bool f8, .bool f9, .int .i64 f10] 35 (0, 0))) : W.cell? ⟨g, 2, none⟩ = some (.int .i64 f2) := (blk_cell h 2).trans rfl
theorem IsS35.set_2 {w0 W : World} {g : Nat} {f0 : Int} {f1 : Int} {f2 : Int} {f3 : List (S71)} {f4 : Int} {f5 : Int} {f6 : Int} {f7 : List (S71)} {f8 : Bool} {f9 : Bool} {f10 : Int} (h : IsS35 w0 W g f0 f1 f2 f3 f4 f5 f6 f7 f8 f9 f10) (x : Int) : IsS35 w0 (W.setCell ⟨g, 2, none⟩ (.int .i64 x)) g f0 f1 x f3 f4 f5 f6 f7 f8 f9 f10 := by
  obtain ⟨A3, c3, A7, c7, hb, hg, hr3, hr7⟩ := h
  exact ⟨A3, c3, A7, c7, by simpa using blk_set hb 2 (.int .i64 x), hg, hr3, hr7⟩
theorem cellS35_3 {W : World} {g : Nat} {A3 : Option Addr} {c3 : Nat} {A7 : Option Addr} {c7 : Nat} {f0 : Int} {f1 : Int} {f2 : Int} {f3 : List (S71)} {f4 : Int} {f5 : Int} {f6 : Int} {f7 : List (S71)} {f8 : Bool} {f9 : Bool} {f10 : Int} (h : W.heap[g]? = some (.cells #[.int .i64 f0, .int .i64 f1, .int .i64 f2, .slice A3 f3.length c3, .int .i64 f4, .int .i64 f5, .int .i64 f6, .slice A7 f7.length c7, .bool f8, .bool f9, .int .i64 f10] 35 (0, 0))) : W.cell? ⟨g, 3, none⟩ = some (.slice A3 f3.length c3) := (blk_cell h 3).trans rfl
theorem cellS35_4 {W : World} {g : Nat} {A3 : Option Addr} {c3 : Nat} {A7 : Option Addr} {c7 : Nat} {f0 : Int} {f1 : Int} {f2 : Int} {f3 : List (S71)} {f4 : Int} {f5 : Int} {f6 : Int} {f7 : List (S71)} {f8 : Bool} {f9 : Bool} {f10 : Int} (h : W.heap[g]? = some (.cells #[.int .i64 f0, .int .i64 f1, .int .i64 f2, .slice A3 f3.length c3, .int .i64 f4, .int .i64 f5, .int .i64 f6, .slice A7 f7.length c7, .bool f8, .bool f9, .int .i64 f10] 35 (0, 0))) : W.cell? ⟨g, 4, none⟩ = some (.int .i64 f4) := (blk_cell h 4).trans rfl
theorem IsS35.set_4 {w0 W : World} {g : Nat} {f0 : Int} {f1 : Int} {f2 : Int} {f3 : List (S71)} {f4 : Int} {f5 : Int} {f6 : Int} {f7 : List (S71)} {f8 : Bool} {f9 : Bool} {f10 : Int} (h : IsS35 w0 W g f0 f1 f2 f3 f4 f5 f6 f7 f8 f9 f10) (x : Int) : IsS35 w0 (W.setCell ⟨g, 4, none⟩ (.int .i64 x)) g f0 f1 f2 f3 x f5 f6 f7 f8 f9 f10 := by
  obtain ⟨A3, c3, A7, c7, hb, hg, hr3, hr7⟩ := h
  exact ⟨A3, c3, A7, c7, by simpa using blk_set hb 4 (.int .i64 x), hg, hr3, hr7⟩
theorem cellS35_5 {W : World} {g : Nat} {A3 : Option Addr} {c3 : Nat} {A7 : Option Addr} {c7 : Nat} {f0 : Int} {f1 : Int} {f2 : Int} {f3 : List (S71)} {f4 : Int} {f5 : Int} {f6 : Int} {f7 : List (S71)} {f8 : Bool} {f9 : Bool} {f10 : Int} (h : W.heap[g]? = some (.cells #[.int .i64 f0, .int .i64 f1, .int .i64 f2, .slice A3 f3.length c3, .int .i64 f4, .int .i64 f5, .int .i64 f6, .slice A7 f7.length c7, .bool f8, .bool f9, .int .i64 f10] 35 (0, 0))) : W.cell? ⟨g, 5, none⟩ = some (.int .i64 f5) := (blk_cell h 5).trans rfl
theorem IsS35.set_5 {w0 W : World} {g : Nat} {f0 : Int} {f1 : Int} {f2 : Int} {f3 : List (S71)} {f4 : Int} {f5 : Int} {f6 : Int} {f7 : List (S71)} {f8 : Bool} {f9 : Bool} {f10 : Int} (h : IsS35 w0 W g f0 f1 f2 f3 f4 f5 f6 f7 f8 f9 f10) (x : Int) : IsS35 w0 (W.setCell ⟨g, 5, none⟩ (.int .i64 x)) g f0 f1 f2 f3 f4 x f6 f7 f8 f9 f10 := by
  obtain ⟨A3, c3, A7, c7, hb, hg, hr3, hr7⟩ := h
  exact ⟨A3, c3, A7, c7, by simpa using blk_set hb 5 (.int .i64 x), hg, hr3, hr7⟩
theorem cellS35_6 {W : World} {g : Nat} {A3 : Option Addr} {c3 : Nat} {A7 : Option Addr} {c7 : Nat} {f0 : Int} {f1 : Int} {f2 : Int} {f3 : List (S71)} {f4 : Int} {f5 : Int} {f6 : Int} {f7 : List (S71)} {f8 : Bool} {f9 : Bool} {f10 : Int} (h : W.heap[g]? = some (.cells #[.int .i64 f0, .int .i64 f1, .int .i64 f2, .slice A3 f3.length c3, .int .i64 f4, .int .i64 f5, .int .i64 f6, .slice A7 f7.length c7, .bool f8, .bool f9, .int .i64 f10] 35 (0, 0))) : W.cell? ⟨g, 6, none⟩ = some (.int .i64 f6) := (blk_cell h 6).trans rfl
theorem IsS35.set_6 {w0 W : World} {g : Nat} {f0 : Int} {f1 : Int} {f2 : Int} {f3 : List (S71)} {f4 : Int} {f5 : Int} {f6 : Int} {f7 : List (S71)} {f8 : Bool} {f9 : Bool} {f10 : Int} (h : IsS35 w0 W g f0 f1 f2 f3 f4 f5 f6 f7 f8 f9 f10) (x : Int) : IsS35 w0 (W.setCell ⟨g, 6, none⟩ (.int .i64 x)) g f0 f1 f2 f3 f4 f5 x f7 f8 f9 f10 := by
  obtain ⟨A3, c3, A7, c7, hb, hg, hr3, hr7⟩ := h
  exact ⟨A3, c3, A7, c7, by simpa using blk_set hb 6 (.int .i64 x), hg, hr3, hr7⟩
theorem cellS35_7 {W : World} {g : Nat} {A3 : Option Addr} {c3 : Nat} {A7 : Option Addr} {c7 : Nat} {f0 : Int} {f1 : Int} {f2 : Int} {f3 : List (S71)} {f4 : Int} {f5 : Int} {f6 : Int} {f7 : List (S71)} {f8 : Bool} {f9 : Bool} {f10 : Int} (h : W.heap[g]? = some (.cells #[.int .i64 f0, .int .i64 f1, .int .i64 f2, .slice A3 f3.length c3, .int .i64 f4, .int .i64 f5, .int .i64 f6, .slice A7 f7.length c7, .bool f8, .bool f9, .int .i64 f10] 35 (0, 0))) : W.cell? ⟨g, 7, none⟩ = some (.slice A7 f7.length c7) := (blk_cell h 7).trans rfl
theorem cellS35_8 {W : World} {g : Nat} {A3 : Option Addr} {c3 : Nat} {A7 : Option Addr} {c7 : Nat} {f0 : Int} {f1 : Int} {f2 : Int} {f3 : List (S71)} {f4 : Int} {f5 : Int} {f6 : Int} {f7 : List (S71)} {f8 : Bool} {f9 : Bool} {f10 : Int} (h : W.heap[g]? = some (.cells #[.int .i64 f0, .int .i64 f1, .int .i64 f2, .slice A3 f3.length c3, .int .i64 f4, .int .i64 f5, .int .i64 f6, .slice A7 f7.length c7, .bool f8, .bool f9, .int .i64 f10] 35 (0, 0))) : W.cell? ⟨g, 8, none⟩ = some (.bool f8) := (blk_cell h 8).trans rfl
theorem IsS35.set_8 {w0 W : World} {g : Nat} {f0 : Int} {f1 : Int} {f2 : Int} {f3 : List (S71)} {f4 : Int} {f5 : Int} {f6 : Int} {f7 : List (S71)} {f8 : Bool} {f9 : Bool} {f10 : Int} (h : IsS35 w0 W g f0 f1 f2 f3 f4 f5 f6 f7 f8 f9 f10) (x : Bool) : IsS35 w0 (W.setCell ⟨g, 8, none⟩ (.bool x)) g f0 f1 f2 f3 f4 f5 f6 f7 x f9 f10 := by
  obtain ⟨A3, c3, A7, c7, hb, hg, hr3, hr7⟩ := h
  exact ⟨A3, c3, A7, c7, by simpa using blk_set hb 8 (.bool x), hg, hr3, hr7⟩
theorem cellS35_9 {W : World} {g : Nat} {A3 : Option Addr} {c3 : Nat} {A7 : Option Addr} {c7 : Nat} {f0 : Int} {f1 : Int} {f2 : Int} {f3 : List (S71)} {f4 : Int} {f5 : Int} {f6 : Int} {f7 : List (S71)} {f8 : Bool} {f9 : Bool} {f10 : Int} (h : W.heap[g]? = some (.cells #[.int .i64 f0, .int .i64 f1, .int .i64 f2, .slice A3 f3.length c3, .int .i64 f4, .int .i64 f5, .int .i64 f6, .slice A7 f7.length c7, .bool f8, .bool f9, .int .i64 f10] 35 (0, 0))) : W.cell? ⟨g, 9, none⟩ = some (.bool f9) := (blk_cell h 9).trans rfl
theorem IsS35.set_9 {w0 W : World} {g : Nat} {f0 : Int} {f1 : Int} {f2 : Int} {f3 : List (S71)} {f4 : Int} {f5 : Int} {f6 : Int} {f7 : List (S71)} {f8 : Bool} {f9 : Bool} {f10 : Int} (h : IsS35 w0 W g f0 f1 f2 f3 f4 f5 f6 f7 f8 f9 f10) (x : Bool) : IsS35 w0 (W.setCell ⟨g, 9, none⟩ (.bool x)) g f0 f1 f2 f3 f4 f5 f6 f7 f8 x f10 := by
  obtain ⟨A3, c3, A7, c7, hb, hg, hr3, hr7⟩ := h
  exact ⟨A3, c3, A7, c7, by simpa using blk_set hb 9 (.bool x), hg, hr3, hr7⟩
theorem cellS35_10 {W : World} {g : Nat} {A3 : Option Addr} {c3 : Nat} {A7 : Option Addr} {c7 : Nat} {f0 : Int} {f1 : Int} {f2 : Int} {f3 : List (S71)} {f4 : Int} {f5 : Int} {f6 : Int} {f7 : List (S71)} {f8 : Bool} {f9 : Bool} {f10 : Int} (h : W.heap[g]? = some (.cells #[.int .i64 f0, .int .i64 f1, .int .i64 f2, .slice A3 f3.length c3, .int .i64 f4, .int .i64 f5, .int .i64 f6, .slice A7 f7.length c7, .bool f8, .bool f9, .int .i64 f10] 35 (0, 0))) : W.cell? ⟨g, 10, none⟩ = some (.int .i64 f10) := (blk_cell h 10).trans rfl
theorem IsS35.set_10 {w0 W : World} {g : Nat} {f0 : Int} {f1 : Int} {f2 : Int} {f3 : List (S71)} {f4 : Int} {f5 : Int} {f6 : Int} {f7 : List (S71)} {f8 : Bool} {f9 : Bool} {f10 : Int} (h : IsS35 w0 W g f0 f1 f2 f3 f4 f5 f6 f7 f8 f9 f10) (x : Int) : IsS35 w0 (W.setCell ⟨g, 10, none⟩ (.int .i64 x)) g f0 f1 f2 f3 f4 f5 f6 f7 f8 f9 x := by
  obtain ⟨A3, c3, A7, c7, hb, hg, hr3, hr7⟩ := h
  exact ⟨A3, c3, A7, c7, by simpa using blk_set hb 10 (.int .i64 x), hg, hr3, hr7⟩
theorem IsS35.new (w0 W : World) (A3 : Option Addr) (c3 : Nat) (A7 : Option Addr) (c7 : Nat) (f0 : Int) (f1 : Int) (f2 : Int) (f3 : List (S71)) (f4 : Int) (f5 : Int) (f6 : Int) (f7 : List (S71)) (f8 : Bool) (f9 : Bool) (f10 : Int) (hB : Below w0.heap.size w0 W) (hr3 : Kd.C k71 w0 A3 f3.length f3) (hr7 : Kd.C k71 w0 A7 f7.length f7) : IsS35 w0 (W.alloc (.cells #[.int .i64 f0, .int .i64 f1, .int .i64 f2, .slice A3 f3.length c3, .int .i64 f4, .int .i64 f5, .int .i64 f6, .slice A7 f7.length c7, .bool f8, .bool f9, .int .i64 f10] 35)) W.heap.size f0 f1 f2 f3 f4 f5 f6 f7 f8 f9 f10 := ⟨A3, c3, A7, c7, by simpa using heap_alloc_new W _, hB.size, hr3, hr7⟩

/-! ### bargateref17_Pair_Longer: function 84 -/
def bargateref17_Pair_Longer.j0 : Nat → Bool → Int → Int → Int → List (S71) → Int → Int → Int → List (S71) → Bool → Bool → Int → Option (Int × Int × Int × Int × Int × Int × Int × Bool × Bool × Int)
  | 0, _, _, _, _, _, _, _, _, _, _, _, _ => none
  | k + 1, x16, x1000, x1001, x1002, x1003, x1004, x1005, x1006, x1007, x1008, x1009, x1010 => if x16 = true then (some ((-1), x1000, x1001, x1002, x1004, x1005, x1006, x1008, x1009, x1010)) else (if x1001 = 0 then (none) else (if (Int.tmod (wrap64 (x1010 - x1000)) x1001) = 0 then (some ((-1), x1000, x1001, x1002, x1004, x1005, x1006, x1008, x1009, x1010)) else (if (Int.tmod (wrap64 (x1010 - x1000)) x1001) > x1002 then (some ((-1), x1000, x1001, x1002, x1004, x1005, x1006, x1008, x1009, x1010)) else (if (wrap64 (x1010 - (Int.tmod (wrap64 (x1010 - x1000)) x1001))) ≤ x1000 then (some ((-1), x1000, x1001, x1002, x1004, x1005, x1006, x1008, x1009, x1010)) else (some (wrap64 (x1010 - (Int.tmod (wrap64 (x1010 - x1000)) x1001)), x1000, x1001, x1002, x1004, x1005, x1006, x1008, x1009, x1010))))))
def bargateref17_Pair_Longer.f (k : Nat) (s0_0 : Int) (s0_1 : Int) (s0_2 : Int) (s0_3 : List (S71)) (s0_4 : Int) (s0_5 : Int) (s0_6 : Int) (s0_7 : List (S71)) (s0_8 : Bool) (s0_9 : Bool) (s0_10 : Int) : Option (Int × Int × Int × Int × Int × Int × Int × Bool × Bool × Int) := if s0_8 = true then (bargateref17_Pair_Longer.j0 k (!s0_9) s0_0 s0_1 s0_2 s0_3 s0_4 s0_5 s0_6 s0_7 s0_8 s0_9 s0_10) else (bargateref17_Pair_Longer.j0 k true s0_0 s0_1 s0_2 s0_3 s0_4 s0_5 s0_6 s0_7 s0_8 s0_9 s0_10)
theorem bargateref17_Pair_Longer.mono_l : ∀ k, (∀ y0 y1 y2 y3 y4 y5 y6 y7 y8 y9 y10 y11, LeO (bargateref17_Pair_Longer.j0 k y0 y1 y2 y3 y4 y5 y6 y7 y8 y9 y10 y11) (bargateref17_Pair_Longer.j0 (k + 1) y0 y1 y2 y3 y4 y5 y6 y7 y8 y9 y10 y11))
  | 0 => fun _ _ _ _ _ _ _ _ _ _ _ _ r h => by simp [bargateref17_Pair_Longer.j0] at h
  | k + 1 => by
    have ih0 := bargateref17_Pair_Longer.mono_l k
    · intro y0 y1 y2 y3 y4 y5 y6 y7 y8 y9 y10 y11
      unfold bargateref17_Pair_Longer.j0
      repeat' first
      | (with_reducible exact ih0 _ _ _ _ _ _ _ _ _ _ _ _)
      | (with_reducible exact LeO.refl _)
      | (with_reducible exact LeO.none _)
      | (with_reducible refine LeO.ite ?_ ?_)
      | (with_reducible refine LeO.bind ?_ (fun _ => ?_))
      | exact ih0 _ _ _ _ _ _ _ _ _ _ _ _
      | exact LeO.none _
      | refine LeO.ite ?_ ?_
      | refine LeO.bind ?_ (fun _ => ?_)
theorem bargateref17_Pair_Longer.mono : ∀ a0 a1 a2 a3 a4 a5 a6 a7 a8 a9 a10 k, LeO (bargateref17_Pair_Longer.f k a0 a1 a2 a3 a4 a5 a6 a7 a8 a9 a10) (bargateref17_Pair_Longer.f (k + 1) a0 a1 a2 a3 a4 a5 a6 a7 a8 a9 a10) := by
  intro a0 a1 a2 a3 a4 a5 a6 a7 a8 a9 a10 k
  have ih0 := bargateref17_Pair_Longer.mono_l k
  unfold bargateref17_Pair_Longer.f
  repeat' first
      | (with_reducible exact ih0 _ _ _ _ _ _ _ _ _ _ _ _)
      | (with_reducible exact LeO.refl _)
      | (with_reducible exact LeO.none _)
      | (with_reducible refine LeO.ite ?_ ?_)
      | (with_reducible refine LeO.bind ?_ (fun _ => ?_))
      | exact ih0 _ _ _ _ _ _ _ _ _ _ _ _
      | exact LeO.none _
      | refine LeO.ite ?_ ?_
      | refine LeO.bind ?_ (fun _ => ?_)
set_option maxHeartbeats 8000000 in
set_option maxRecDepth 100000 in
theorem bargateref17_Pair_Longer.calls (k : Nat) (g : Nat) (s0_0 : Int) (s0_1 : Int) (s0_2 : Int) (s0_3 : List (S71)) (s0_4 : Int) (s0_5 : Int) (s0_6 : Int) (s0_7 : List (S71)) (s0_8 : Bool) (s0_9 : Bool) (s0_10 : Int) (r1 : Int) (r2 : Int) (r3 : Int) (r4 : Int) (r5 : Int) (r6 : Int) (r7 : Int) (r8 : Bool) (r9 : Bool) (r10 : Int) (w0 w : World) (hI : IsS35 w0 w g s0_0 s0_1 s0_2 s0_3 s0_4 s0_5 s0_6 s0_7 s0_8 s0_9 s0_10) (hB : Below w0.heap.size w0 w) (h : bargateref17_Pair_Longer.f k s0_0 s0_1 s0_2 s0_3 s0_4 s0_5 s0_6 s0_7 s0_8 s0_9 s0_10 = some (r1, r2, r3, r4, r5, r6, r7, r8, r9, r10)) :
    Calls Try.prog 84 #[.pointer (some ⟨g, 0, none⟩)] w fun e w' => e = .returned (.int .i64 r1) ∧ IsS35 w0 w' g r2 r3 r4 s0_3 r5 r6 r7 s0_7 r8 r9 r10 ∧ Below w0.heap.size w0 w' ∧ KeepBut w w' g none := by
  have HI0 := Aside0.mk hI
  have HK := Aside0.mk (KeepBut.refl w g none)
  have HL := Aside0.mk hB.size
  clear hI
  have HW0 := Aside0.mk hB.size
  have HB := Aside0.mk hB
  clear hB
  have H : (if s0_8 = true then (bargateref17_Pair_Longer.j0 k (!s0_9) s0_0 s0_1 s0_2 s0_3 s0_4 s0_5 s0_6 s0_7 s0_8 s0_9 s0_10) else (bargateref17_Pair_Longer.j0 k true s0_0 s0_1 s0_2 s0_3 s0_4 s0_5 s0_6 s0_7 s0_8 s0_9 s0_10)) = some (r1, r2, r3, r4, r5, r6, r7, r8, r9, r10) := h
  clear h
  have HC2 := Aside0.mk H
  clear H
  go_enter Try.func84, Try.ntmps84
  go_upto_region 1 with (fail)
  repeat (go_quiet (fail); go_upto_region 1 with (fail))
  go_cut [16] (fun v16 wc => ∃ (kq : Nat) (x16_1 : Bool), v16 = .bool x16_1 ∧ Aside0 (bargateref17_Pair_Longer.j0 kq x16_1 s0_0 s0_1 s0_2 s0_3 s0_4 s0_5 s0_6 s0_7 s0_8 s0_9 s0_10 = some (r1, r2, r3, r4, r5, r6, r7, r8, r9, r10)) ∧ Aside0 (kq ≤ k) ∧ Aside0 (IsS35 w0 wc g s0_0 s0_1 s0_2 s0_3 s0_4 s0_5 s0_6 s0_7 s0_8 s0_9 s0_10) ∧ Aside0 (KeepBut w wc g none) ∧ Aside0 (Below w0.heap.size w0 wc))
  case first =>
    have H := HC2.out
    clear HC2
    by_cases c3 : s0_8 = true
    · subst c3
      have H1 : (bargateref17_Pair_Longer.j0 k (!s0_9) s0_0 s0_1 s0_2 s0_3 s0_4 s0_5 s0_6 s0_7 true s0_9 s0_10) = some (r1, r2, r3, r4, r5, r6, r7, r8, r9, r10) := by rw [if_pos rfl] at H; exact H
      clear H
      have H := H1
      clear H1
      have H' := Aside0.mk H
      clear H
      obtain ⟨ASz4_3, cSz4_3, ASz4_7, cSz4_7, HGz4, hgz4, HSz4_3, HSz4_7⟩ := HI0.out
      have hcz4_0 := cellS35_0 HGz4
      have hcz4_1 := cellS35_1 HGz4
      have hcz4_2 := cellS35_2 HGz4
      have hcz4_3 := cellS35_3 HGz4
      have hcz4_4 := cellS35_4 HGz4
      have hcz4_5 := cellS35_5 HGz4
      have hcz4_6 := cellS35_6 HGz4
      have hcz4_7 := cellS35_7 HGz4
      have hcz4_8 := cellS35_8 HGz4
      have hcz4_9 := cellS35_9 HGz4
      have hcz4_10 := cellS35_10 HGz4
      have hfz4_0 := blk_frozen HGz4 0
      have hfz4_1 := blk_frozen HGz4 1
      have hfz4_2 := blk_frozen HGz4 2
      have hfz4_4 := blk_frozen HGz4 4
      have hfz4_5 := blk_frozen HGz4 5
      have hfz4_6 := blk_frozen HGz4 6
      have hfz4_8 := blk_frozen HGz4 8
      have hfz4_9 := blk_frozen HGz4 9
      have hfz4_10 := blk_frozen HGz4 10
      clear HGz4 hgz4
      go_wp2
      repeat (go_quiet (fail); try go_wp2)
      go_meet
      case rel => exact ⟨_, (!s0_9), (by first | rfl | (simp; done) | (simp [*]; done)), H', ⟨by first | omega | exact Nat.le_refl _⟩, ⟨by repeat (first | (with_reducible first | exact HI0.out | apply IsS35.alloc | apply IsS35.drewN | apply IsS35.drew | apply IsS35.set_0 | apply IsS35.set_1 | apply IsS35.set_2 | apply IsS35.set_4 | apply IsS35.set_5 | apply IsS35.set_6 | apply IsS35.set_8 | apply IsS35.set_9 | apply IsS35.set_10) | exact HI0.out)⟩, ⟨by repeat (first | (with_reducible first | exact HK.out | apply KeepBut.set_ | apply keep_drewN | apply keep_drew | apply keep_alloc) | exact HK.out)⟩, ⟨by repeat (first | (with_reducible first | exact HB.out | apply below_alloc | apply pw_below_drewN | apply below_drew1 | refine below_set ?_ (IsS35.ge HI0.out)) | exact HB.out)⟩⟩
    · replace c3 := Bool.eq_false_iff.mpr c3
      subst c3
      have H1 : (bargateref17_Pair_Longer.j0 k true s0_0 s0_1 s0_2 s0_3 s0_4 s0_5 s0_6 s0_7 false s0_9 s0_10) = some (r1, r2, r3, r4, r5, r6, r7, r8, r9, r10) := by rw [if_neg (show ¬ (false = true) by decide)] at H; exact H
      clear H
      have H := H1
      clear H1
      have H' := Aside0.mk H
      clear H
      obtain ⟨ASz5_3, cSz5_3, ASz5_7, cSz5_7, HGz5, hgz5, HSz5_3, HSz5_7⟩ := HI0.out
      have hcz5_0 := cellS35_0 HGz5
      have hcz5_1 := cellS35_1 HGz5
      have hcz5_2 := cellS35_2 HGz5
      have hcz5_3 := cellS35_3 HGz5
      have hcz5_4 := cellS35_4 HGz5
      have hcz5_5 := cellS35_5 HGz5
      have hcz5_6 := cellS35_6 HGz5
      have hcz5_7 := cellS35_7 HGz5
      have hcz5_8 := cellS35_8 HGz5
      have hcz5_9 := cellS35_9 HGz5
      have hcz5_10 := cellS35_10 HGz5
      have hfz5_0 := blk_frozen HGz5 0
      have hfz5_1 := blk_frozen HGz5 1
      have hfz5_2 := blk_frozen HGz5 2
      have hfz5_4 := blk_frozen HGz5 4
      have hfz5_5 := blk_frozen HGz5 5
      have hfz5_6 := blk_frozen HGz5 6
      have hfz5_8 := blk_frozen HGz5 8
      have hfz5_9 := blk_frozen HGz5 9
      have hfz5_10 := blk_frozen HGz5 10
      clear HGz5 hgz5
      go_wp2
      repeat (go_quiet (fail); try go_wp2)
      go_meet
      case rel => exact ⟨_, (true), (by first | rfl | (simp; done) | (simp [*]; done)), H', ⟨by first | omega | exact Nat.le_refl _⟩, ⟨by repeat (first | (with_reducible first | exact HI0.out | apply IsS35.alloc | apply IsS35.drewN | apply IsS35.drew | apply IsS35.set_0 | apply IsS35.set_1 | apply IsS35.set_2 | apply IsS35.set_4 | apply IsS35.set_5 | apply IsS35.set_6 | apply IsS35.set_8 | apply IsS35.set_9 | apply IsS35.set_10) | exact HI0.out)⟩, ⟨by repeat (first | (with_reducible first | exact HK.out | apply KeepBut.set_ | apply keep_drewN | apply keep_drew | apply keep_alloc) | exact HK.out)⟩, ⟨by repeat (first | (with_reducible first | exact HB.out | apply below_alloc | apply pw_below_drewN | apply below_drew1 | refine below_set ?_ (IsS35.ge HI0.out)) | exact HB.out)⟩⟩
  case rest =>
    clear HC2
    try clear p2
    try clear c3
    try clear hcz4_0
    try clear hcz4_1
    try clear hcz4_10
    try clear hcz4_2
    try clear hcz4_3
    try clear hcz4_4
    try clear hcz4_5
    try clear hcz4_6
    try clear hcz4_7
    try clear hcz4_8
    try clear hcz4_9
    try clear hcz5_0
    try clear hcz5_1
    try clear hcz5_10
    try clear hcz5_2
    try clear hcz5_3
    try clear hcz5_4
    try clear hcz5_5
    try clear hcz5_6
    try clear hcz5_7
    try clear hcz5_8
    try clear hcz5_9
    try clear hfz4_0
    try clear hfz4_1
    try clear hfz4_10
    try clear hfz4_2
    try clear hfz4_4
    try clear hfz4_5
    try clear hfz4_6
    try clear hfz4_8
    try clear hfz4_9
    try clear hfz5_0
    try clear hfz5_1
    try clear hfz5_10
    try clear hfz5_2
    try clear hfz5_4
    try clear hfz5_5
    try clear hfz5_6
    try clear hfz5_8
    try clear hfz5_9
    obtain ⟨kq, x16_1, rfl, HA, HJ1, HI0, HK, HB⟩ := hcut
    cases kq with
    | zero => exact absurd HA.out (by simp [bargateref17_Pair_Longer.j0])
    | succ kj1 =>
      have H := HA.out
      clear HA
      simp only [bargateref17_Pair_Longer.j0] at H
      by_cases c6 : x16_1 = true
      · subst c6
        have H1 : (some ((-1), s0_0, s0_1, s0_2, s0_4, s0_5, s0_6, s0_8, s0_9, s0_10)) = some (r1, r2, r3, r4, r5, r6, r7, r8, r9, r10) := by rw [if_pos rfl] at H; exact H
        clear H
        have H := H1
        clear H1
        simp only [Option.some.injEq, Prod.mk.injEq] at H
        obtain ⟨rfl, rfl, rfl, rfl, rfl, rfl, rfl, rfl, rfl, rfl⟩ := H
        go_wp2
        repeat (go_quiet (fail); try go_wp2)
        go_ret
        exact ⟨by first | rfl | (simp [errW_none, errW_some] <;> rfl) | (simp [*, errW_none, errW_some] <;> rfl), by repeat (first | (with_reducible first | exact HI0.out | apply IsS35.alloc | apply IsS35.drewN | apply IsS35.drew | apply IsS35.set_0 | apply IsS35.set_1 | apply IsS35.set_2 | apply IsS35.set_4 | apply IsS35.set_5 | apply IsS35.set_6 | apply IsS35.set_8 | apply IsS35.set_9 | apply IsS35.set_10) | exact HI0.out), by repeat (first | (with_reducible first | exact HB.out | apply below_alloc | apply pw_below_drewN | apply below_drew1 | refine below_set ?_ (IsS35.ge HI0.out)) | exact HB.out), by repeat (first | (with_reducible first | exact HK.out | apply KeepBut.set_ | apply keep_drewN | apply keep_drew | apply keep_alloc) | exact HK.out)⟩
      · replace c6 := Bool.eq_false_iff.mpr c6
        subst c6
        have H1 : (if s0_1 = 0 then (none) else (if (Int.tmod (wrap64 (s0_10 - s0_0)) s0_1) = 0 then (some ((-1), s0_0, s0_1, s0_2, s0_4, s0_5, s0_6, s0_8, s0_9, s0_10)) else (if (Int.tmod (wrap64 (s0_10 - s0_0)) s0_1) > s0_2 then (some ((-1), s0_0, s0_1, s0_2, s0_4, s0_5, s0_6, s0_8, s0_9, s0_10)) else (if (wrap64 (s0_10 - (Int.tmod (wrap64 (s0_10 - s0_0)) s0_1))) ≤ s0_0 then (some ((-1), s0_0, s0_1, s0_2, s0_4, s0_5, s0_6, s0_8, s0_9, s0_10)) else (some (wrap64 (s0_10 - (Int.tmod (wrap64 (s0_10 - s0_0)) s0_1)), s0_0, s0_1, s0_2, s0_4, s0_5, s0_6, s0_8, s0_9, s0_10)))))) = some (r1, r2, r3, r4, r5, r6, r7, r8, r9, r10) := by rw [if_neg (show ¬ (false = true) by decide)] at H; exact H
        clear H
        have H := H1
        clear H1
        by_cases c7 : s0_1 = 0
        · rw [if_pos c7] at H
          exact absurd H (by simp)
        · rw [if_neg c7] at H
          have c7b0 : (s0_1 == 0) = false := beq_eq_false_iff_ne.mpr c7
          have c7b1 : (s0_1 != 0) = true := bne_iff_ne.mpr c7
          by_cases c8 : (Int.tmod (wrap64 (s0_10 - s0_0)) s0_1) = 0
          · rw [if_pos c8] at H
            have c8b0 : ((Int.tmod (wrap64 (s0_10 - s0_0)) s0_1) == 0) = true := beq_iff_eq.mpr c8
            have c8b1 : ((Int.tmod (wrap64 (s0_10 - s0_0)) s0_1) != 0) = false := bne_eq_false_iff_eq.mpr c8
            clear c8
            simp only [Option.some.injEq, Prod.mk.injEq] at H
            obtain ⟨rfl, rfl, rfl, rfl, rfl, rfl, rfl, rfl, rfl, rfl⟩ := H
            obtain ⟨ASz9_3, cSz9_3, ASz9_7, cSz9_7, HGz9, hgz9, HSz9_3, HSz9_7⟩ := HI0.out
            have hcz9_0 := cellS35_0 HGz9
            have hcz9_1 := cellS35_1 HGz9
            have hcz9_2 := cellS35_2 HGz9
            have hcz9_3 := cellS35_3 HGz9
            have hcz9_4 := cellS35_4 HGz9
            have hcz9_5 := cellS35_5 HGz9
            have hcz9_6 := cellS35_6 HGz9
            have hcz9_7 := cellS35_7 HGz9
            have hcz9_8 := cellS35_8 HGz9
            have hcz9_9 := cellS35_9 HGz9
            have hcz9_10 := cellS35_10 HGz9
            have hfz9_0 := blk_frozen HGz9 0
            have hfz9_1 := blk_frozen HGz9 1
            have hfz9_2 := blk_frozen HGz9 2
            have hfz9_4 := blk_frozen HGz9 4
            have hfz9_5 := blk_frozen HGz9 5
            have hfz9_6 := blk_frozen HGz9 6
            have hfz9_8 := blk_frozen HGz9 8
            have hfz9_9 := blk_frozen HGz9 9
            have hfz9_10 := blk_frozen HGz9 10
            clear HGz9 hgz9
            go_wp2
            repeat (go_quiet (fail); try go_wp2)
            go_ret
            exact ⟨by first | rfl | (simp [errW_none, errW_some] <;> rfl) | (simp [*, errW_none, errW_some] <;> rfl), by repeat (first | (with_reducible first | exact HI0.out | apply IsS35.alloc | apply IsS35.drewN | apply IsS35.drew | apply IsS35.set_0 | apply IsS35.set_1 | apply IsS35.set_2 | apply IsS35.set_4 | apply IsS35.set_5 | apply IsS35.set_6 | apply IsS35.set_8 | apply IsS35.set_9 | apply IsS35.set_10) | exact HI0.out), by repeat (first | (with_reducible first | exact HB.out | apply below_alloc | apply pw_below_drewN | apply below_drew1 | refine below_set ?_ (IsS35.ge HI0.out)) | exact HB.out), by repeat (first | (with_reducible first | exact HK.out | apply KeepBut.set_ | apply keep_drewN | apply keep_drew | apply keep_alloc) | exact HK.out)⟩
          · rw [if_neg c8] at H
            have c8b0 : ((Int.tmod (wrap64 (s0_10 - s0_0)) s0_1) == 0) = false := beq_eq_false_iff_ne.mpr c8
            have c8b1 : ((Int.tmod (wrap64 (s0_10 - s0_0)) s0_1) != 0) = true := bne_iff_ne.mpr c8
            by_cases c10 : (Int.tmod (wrap64 (s0_10 - s0_0)) s0_1) > s0_2
            · rw [if_pos c10] at H
              have c10b0 : decide (s0_2 < (Int.tmod (wrap64 (s0_10 - s0_0)) s0_1)) = true := decide_eq_true c10
              clear c10
              simp only [Option.some.injEq, Prod.mk.injEq] at H
              obtain ⟨rfl, rfl, rfl, rfl, rfl, rfl, rfl, rfl, rfl, rfl⟩ := H
              obtain ⟨ASz11_3, cSz11_3, ASz11_7, cSz11_7, HGz11, hgz11, HSz11_3, HSz11_7⟩ := HI0.out
              have hcz11_0 := cellS35_0 HGz11
              have hcz11_1 := cellS35_1 HGz11
              have hcz11_2 := cellS35_2 HGz11
              have hcz11_3 := cellS35_3 HGz11
              have hcz11_4 := cellS35_4 HGz11
              have hcz11_5 := cellS35_5 HGz11
              have hcz11_6 := cellS35_6 HGz11
              have hcz11_7 := cellS35_7 HGz11
              have hcz11_8 := cellS35_8 HGz11
              have hcz11_9 := cellS35_9 HGz11
              have hcz11_10 := cellS35_10 HGz11
              have hfz11_0 := blk_frozen HGz11 0
              have hfz11_1 := blk_frozen HGz11 1
              have hfz11_2 := blk_frozen HGz11 2
              have hfz11_4 := blk_frozen HGz11 4
              have hfz11_5 := blk_frozen HGz11 5
              have hfz11_6 := blk_frozen HGz11 6
              have hfz11_8 := blk_frozen HGz11 8
              have hfz11_9 := blk_frozen HGz11 9
              have hfz11_10 := blk_frozen HGz11 10
              clear HGz11 hgz11
              go_wp2
              repeat (go_quiet (fail); try go_wp2)
              go_ret
              exact ⟨by first | rfl | (simp [errW_none, errW_some] <;> rfl) | (simp [*, errW_none, errW_some] <;> rfl), by repeat (first | (with_reducible first | exact HI0.out | apply IsS35.alloc | apply IsS35.drewN | apply IsS35.drew | apply IsS35.set_0 | apply IsS35.set_1 | apply IsS35.set_2 | apply IsS35.set_4 | apply IsS35.set_5 | apply IsS35.set_6 | apply IsS35.set_8 | apply IsS35.set_9 | apply IsS35.set_10) | exact HI0.out), by repeat (first | (with_reducible first | exact HB.out | apply below_alloc | apply pw_below_drewN | apply below_drew1 | refine below_set ?_ (IsS35.ge HI0.out)) | exact HB.out), by repeat (first | (with_reducible first | exact HK.out | apply KeepBut.set_ | apply keep_drewN | apply keep_drew | apply keep_alloc) | exact HK.out)⟩
            · rw [if_neg c10] at H
              have c10b0 : decide (s0_2 < (Int.tmod (wrap64 (s0_10 - s0_0)) s0_1)) = false := decide_eq_false c10
              clear c10
              by_cases c12 : (wrap64 (s0_10 - (Int.tmod (wrap64 (s0_10 - s0_0)) s0_1))) ≤ s0_0
              · rw [if_pos c12] at H
                have c12b0 : decide ((wrap64 (s0_10 - (Int.tmod (wrap64 (s0_10 - s0_0)) s0_1))) ≤ s0_0) = true := decide_eq_true c12
                clear c12
                simp only [Option.some.injEq, Prod.mk.injEq] at H
                obtain ⟨rfl, rfl, rfl, rfl, rfl, rfl, rfl, rfl, rfl, rfl⟩ := H
                obtain ⟨ASz13_3, cSz13_3, ASz13_7, cSz13_7, HGz13, hgz13, HSz13_3, HSz13_7⟩ := HI0.out
                have hcz13_0 := cellS35_0 HGz13
                have hcz13_1 := cellS35_1 HGz13
                have hcz13_2 := cellS35_2 HGz13
                have hcz13_3 := cellS35_3 HGz13
                have hcz13_4 := cellS35_4 HGz13
                have hcz13_5 := cellS35_5 HGz13
                have hcz13_6 := cellS35_6 HGz13
                have hcz13_7 := cellS35_7 HGz13
                have hcz13_8 := cellS35_8 HGz13
                have hcz13_9 := cellS35_9 HGz13
                have hcz13_10 := cellS35_10 HGz13
                have hfz13_0 := blk_frozen HGz13 0
                have hfz13_1 := blk_frozen HGz13 1
                have hfz13_2 := blk_frozen HGz13 2
                have hfz13_4 := blk_frozen HGz13 4
                have hfz13_5 := blk_frozen HGz13 5
                have hfz13_6 := blk_frozen HGz13 6
                have hfz13_8 := blk_frozen HGz13 8
                have hfz13_9 := blk_frozen HGz13 9
                have hfz13_10 := blk_frozen HGz13 10
                clear HGz13 hgz13
                go_wp2
                repeat (go_quiet (fail); try go_wp2)
                go_ret
                exact ⟨by first | rfl | (simp [errW_none, errW_some] <;> rfl) | (simp [*, errW_none, errW_some] <;> rfl), by repeat (first | (with_reducible first | exact HI0.out | apply IsS35.alloc | apply IsS35.drewN | apply IsS35.drew | apply IsS35.set_0 | apply IsS35.set_1 | apply IsS35.set_2 | apply IsS35.set_4 | apply IsS35.set_5 | apply IsS35.set_6 | apply IsS35.set_8 | apply IsS35.set_9 | apply IsS35.set_10) | exact HI0.out), by repeat (first | (with_reducible first | exact HB.out | apply below_alloc | apply pw_below_drewN | apply below_drew1 | refine below_set ?_ (IsS35.ge HI0.out)) | exact HB.out), by repeat (first | (with_reducible first | exact HK.out | apply KeepBut.set_ | apply keep_drewN | apply keep_drew | apply keep_alloc) | exact HK.out)⟩
              · rw [if_neg c12] at H
                have c12b0 : decide ((wrap64 (s0_10 - (Int.tmod (wrap64 (s0_10 - s0_0)) s0_1))) ≤ s0_0) = false := decide_eq_false c12
                clear c12
                simp only [Option.some.injEq, Prod.mk.injEq] at H
                obtain ⟨rfl, rfl, rfl, rfl, rfl, rfl, rfl, rfl, rfl, rfl⟩ := H
                obtain ⟨ASz14_3, cSz14_3, ASz14_7, cSz14_7, HGz14, hgz14, HSz14_3, HSz14_7⟩ := HI0.out
                have hcz14_0 := cellS35_0 HGz14
                have hcz14_1 := cellS35_1 HGz14
                have hcz14_2 := cellS35_2 HGz14
                have hcz14_3 := cellS35_3 HGz14
                have hcz14_4 := cellS35_4 HGz14
                have hcz14_5 := cellS35_5 HGz14
                have hcz14_6 := cellS35_6 HGz14
                have hcz14_7 := cellS35_7 HGz14
                have hcz14_8 := cellS35_8 HGz14
                have hcz14_9 := cellS35_9 HGz14
                have hcz14_10 := cellS35_10 HGz14
                have hfz14_0 := blk_frozen HGz14 0
                have hfz14_1 := blk_frozen HGz14 1
                have hfz14_2 := blk_frozen HGz14 2
                have hfz14_4 := blk_frozen HGz14 4
                have hfz14_5 := blk_frozen HGz14 5
                have hfz14_6 := blk_frozen HGz14 6
                have hfz14_8 := blk_frozen HGz14 8
                have hfz14_9 := blk_frozen HGz14 9
                have hfz14_10 := blk_frozen HGz14 10
                clear HGz14 hgz14
                go_wp2
                repeat (go_quiet (fail); try go_wp2)
                go_ret
                exact ⟨by first | rfl | (simp [errW_none, errW_some] <;> rfl) | (simp [*, errW_none, errW_some] <;> rfl), by repeat (first | (with_reducible first | exact HI0.out | apply IsS35.alloc | apply IsS35.drewN | apply IsS35.drew | apply IsS35.set_0 | apply IsS35.set_1 | apply IsS35.set_2 | apply IsS35.set_4 | apply IsS35.set_5 | apply IsS35.set_6 | apply IsS35.set_8 | apply IsS35.set_9 | apply IsS35.set_10) | exact HI0.out), by repeat (first | (with_reducible first | exact HB.out | apply below_alloc | apply pw_below_drewN | apply below_drew1 | refine below_set ?_ (IsS35.ge HI0.out)) | exact HB.out), by repeat (first | (with_reducible first | exact HK.out | apply KeepBut.set_ | apply keep_drewN | apply keep_drew | apply keep_alloc) | exact HK.out)⟩

-- NOT PRINTED: function 49 (bargateref17_Pair_Next)

/-! ### bargateref16_State: function 85 -/
mutual
def bargateref16_State.l0 : Nat → Int → Int → Int → Int → Int → Int → List (S71) → Option (Int)
  | 0, _, _, _, _, _, _, _ => none
  | k + 1, x5, x6, x7, x196000, x196001, x196002, x196003 => if x7 ≥ 0 then (bargateref16_State.l1 k x5 x6 x7 0 0 x196000 x196001 x196002 x196003) else (some x6)
def bargateref16_State.l1 : Nat → Int → Int → Int → Int → Int → Int → Int → Int → List (S71) → Option (Int)
  | 0, _, _, _, _, _, _, _, _, _ => none
  | k + 1, x5, x6, x7, x8, x9, x196000, x196001, x196002, x196003 => if x9 < x7 then (if 0 ≤ x9 then (if x9 < (x196003.length : Int) then (bargateref16_State.l1 k x5 x6 x7 (wrap64 (x8 + ((rd_T71 x196003 x9).f1))) (wrap64 (x9 + 1)) x196000 x196001 x196002 x196003) else (none)) else (none)) else (if x5 ≥ x8 then (if 0 ≤ x7 then (if x7 < (x196003.length : Int) then (some ((rd_T71 x196003 x7).f0)) else (none)) else (none)) else (bargateref16_State.l0 k x5 x6 (wrap64 (x7 - 1)) x196000 x196001 x196002 x196003))
end
def bargateref16_State.f (k : Nat) (a0_0 : Int) (a0_1 : Int) (a0_2 : Int) (l0_3 : List (S71)) (a1 : Int) : Option (Int) := if a1 < a0_0 then (some 255) else (if a0_1 = 0 then (none) else (if 0 ≤ (wrap64 ((l0_3.length : Int) - 1)) then (if (wrap64 ((l0_3.length : Int) - 1)) < (l0_3.length : Int) then (bargateref16_State.l0 k (Int.tmod (wrap64 (a1 - a0_0)) a0_1) ((rd_T71 l0_3 (wrap64 ((l0_3.length : Int) - 1))).f0) (wrap64 ((l0_3.length : Int) - 1)) a0_0 a0_1 a0_2 l0_3) else (none)) else (none)))
theorem bargateref16_State.mono_l : ∀ k, (∀ y0 y1 y2 y3 y4 y5 y6, LeO (bargateref16_State.l0 k y0 y1 y2 y3 y4 y5 y6) (bargateref16_State.l0 (k + 1) y0 y1 y2 y3 y4 y5 y6)) ∧ (∀ y0 y1 y2 y3 y4 y5 y6 y7 y8, LeO (bargateref16_State.l1 k y0 y1 y2 y3 y4 y5 y6 y7 y8) (bargateref16_State.l1 (k + 1) y0 y1 y2 y3 y4 y5 y6 y7 y8))
  | 0 => ⟨fun _ _ _ _ _ _ _ r h => by simp [bargateref16_State.l0] at h, fun _ _ _ _ _ _ _ _ _ r h => by simp [bargateref16_State.l1] at h⟩
  | k + 1 => by
    obtain ⟨ih0, ih1⟩ := bargateref16_State.mono_l k
    refine ⟨?_, ?_⟩
    · intro y0 y1 y2 y3 y4 y5 y6
      unfold bargateref16_State.l0
      repeat' first
      | (with_reducible exact ih0 _ _ _ _ _ _ _)
      | (with_reducible exact ih1 _ _ _ _ _ _ _ _ _)
      | (with_reducible exact LeO.refl _)
      | (with_reducible exact LeO.none _)
      | (with_reducible refine LeO.ite ?_ ?_)
      | (with_reducible refine LeO.bind ?_ (fun _ => ?_))
      | exact ih0 _ _ _ _ _ _ _
      | exact ih1 _ _ _ _ _ _ _ _ _
      | exact LeO.none _
      | refine LeO.ite ?_ ?_
      | refine LeO.bind ?_ (fun _ => ?_)
    · intro y0 y1 y2 y3 y4 y5 y6 y7 y8
      unfold bargateref16_State.l1
      repeat' first
      | (with_reducible exact ih0 _ _ _ _ _ _ _)
      | (with_reducible exact ih1 _ _ _ _ _ _ _ _ _)
      | (with_reducible exact LeO.refl _)
      | (with_reducible exact LeO.none _)
      | (with_reducible refine LeO.ite ?_ ?_)
      | (with_reducible refine LeO.bind ?_ (fun _ => ?_))
      | exact ih0 _ _ _ _ _ _ _
      | exact ih1 _ _ _ _ _ _ _ _ _
      | exact LeO.none _
      | refine LeO.ite ?_ ?_
      | refine LeO.bind ?_ (fun _ => ?_)
theorem bargateref16_State.mono : ∀ a0 a1 a2 a3 a4 k, LeO (bargateref16_State.f k a0 a1 a2 a3 a4) (bargateref16_State.f (k + 1) a0 a1 a2 a3 a4) := by
  intro a0 a1 a2 a3 a4 k
  obtain ⟨ih0, ih1⟩ := bargateref16_State.mono_l k
  unfold bargateref16_State.f
  repeat' first
      | (with_reducible exact ih0 _ _ _ _ _ _ _)
      | (with_reducible exact ih1 _ _ _ _ _ _ _ _ _)
      | (with_reducible exact LeO.refl _)
      | (with_reducible exact LeO.none _)
      | (with_reducible refine LeO.ite ?_ ?_)
      | (with_reducible refine LeO.bind ?_ (fun _ => ?_))
      | exact ih0 _ _ _ _ _ _ _
      | exact ih1 _ _ _ _ _ _ _ _ _
      | exact LeO.none _
      | refine LeO.ite ?_ ?_
      | refine LeO.bind ?_ (fun _ => ?_)
set_option maxHeartbeats 8000000 in
set_option maxRecDepth 100000 in
theorem bargateref16_State.calls (k : Nat) (a0_0 : Int) (a0_1 : Int) (a0_2 : Int) (A0_3 : Option Addr) (c0_3 : Nat) (l0_3 : List (S71)) (a1 : Int) (r : Int) (w : World) (hr0_3 : Kd.C k71 w A0_3 l0_3.length l0_3) (hc0_3 : l0_3.length ≤ c0_3) (h : bargateref16_State.f k a0_0 a0_1 a0_2 l0_3 a1 = some r) :
    Calls Try.prog 85 #[.agg #[.int .i64 a0_0, .int .i64 a0_1, .int .i64 a0_2, .slice A0_3 l0_3.length c0_3], .int .i64 a1] w fun e w' => e = .returned (.int .i64 r) ∧ Below w.heap.size w w' := by
  have hu33 := Try.underlying33
  have HR0_3 := Aside0.mk hr0_3
  have HC0_3 := Aside0.mk hc0_3
  clear hr0_3 hc0_3
  have HB := Aside0.mk (Below.refl w.heap.size w)
  have H : (if a1 < a0_0 then (some 255) else (if a0_1 = 0 then (none) else (if 0 ≤ (wrap64 ((l0_3.length : Int) - 1)) then (if (wrap64 ((l0_3.length : Int) - 1)) < (l0_3.length : Int) then (bargateref16_State.l0 k (Int.tmod (wrap64 (a1 - a0_0)) a0_1) ((rd_T71 l0_3 (wrap64 ((l0_3.length : Int) - 1))).f0) (wrap64 ((l0_3.length : Int) - 1)) a0_0 a0_1 a0_2 l0_3) else (none)) else (none)))) = some r := h
  clear h
  by_cases c3 : a1 < a0_0
  · rw [if_pos c3] at H
    have c3b0 : decide (a1 < a0_0) = true := decide_eq_true c3
    clear c3
    obtain rfl := Option.some.inj H
    go_enter Try.func85, Try.ntmps85
    go_wp2_with (first | ((with_reducible refine gate_dst (N := 2) rfl ?_); refine box_event ?hg (N := 2) ?hd (cs := #[.int .i64 a0_0, .int .i64 a0_1, .int .i64 a0_2, .slice A0_3 l0_3.length c0_3]) (t := 33) ?hr ?_; (case hd => rfl); (case hg => rfl); (case hr => first | (go_simp; done) | (go_simp; rfl)); intro gb195 hg w4 hbox hb; have n0_ := Aside0.mk (below_step (by repeat (first | (with_reducible first | exact HB.out | apply below_alloc | apply pw_below_drewN | apply below_drew1) | exact HB.out)) hb); have n1_ := Aside0.mk (hbox); have n2_ := Aside0.mk ((by rw [hg]; exact (below_size (by repeat (first | (with_reducible first | exact HB.out | apply below_alloc | apply pw_below_drewN | apply below_drew1) | exact HB.out))) : w.heap.size ≤ gb195)); have n3_ := Aside0.mk ((by rw [hg]; exact (below_size (by repeat (first | (with_reducible first | exact HB.out | apply below_alloc | apply pw_below_drewN | apply below_drew1) | exact HB.out))) : w.heap.size ≤ gb195)); clear HB; have HB := n0_; have BK195 := n1_; have GW195 := n2_; have GE195 := n3_; clear n0_ n1_ n2_ n3_; clear hb hbox hg; have hcz5_0 : w4.cell? ⟨gb195, 0, none⟩ = some (.int .i64 a0_0) := (blk_cell BK195.out 0).trans rfl; have hcz5_1 : w4.cell? ⟨gb195, 1, none⟩ = some (.int .i64 a0_1) := (blk_cell BK195.out 1).trans rfl; have hcz5_2 : w4.cell? ⟨gb195, 2, none⟩ = some (.int .i64 a0_2) := (blk_cell BK195.out 2).trans rfl; have hcz5_3 : w4.cell? ⟨gb195, 3, none⟩ = some (.slice A0_3 l0_3.length c0_3) := (blk_cell BK195.out 3).trans rfl; have hfz5_0 := blk_frozen BK195.out 0; have hfz5_1 := blk_frozen BK195.out 1; have hfz5_2 := blk_frozen BK195.out 2; have hfz5_3 := blk_frozen BK195.out 3))
    go_ret
    exact ⟨by first | rfl | (simp [errW_none, errW_some] <;> rfl) | (simp [*, errW_none, errW_some] <;> rfl), by repeat (first | (with_reducible first | exact HB.out | apply below_alloc | apply pw_below_drewN | apply below_drew1 | refine below_set ?_ GE195.out) | exact HB.out)⟩
  · rw [if_neg c3] at H
    have c3b0 : decide (a1 < a0_0) = false := decide_eq_false c3
    clear c3
    by_cases c6 : a0_1 = 0
    · rw [if_pos c6] at H
      exact absurd H (by simp)
    · rw [if_neg c6] at H
      have c6b0 : (a0_1 == 0) = false := beq_eq_false_iff_ne.mpr c6
      have c6b1 : (a0_1 != 0) = true := bne_iff_ne.mpr c6
      obtain ⟨ji7, hji7⟩ : ∃ j_ : Int, (wrap64 ((l0_3.length : Int) - 1)) = j_ := ⟨_, rfl⟩
      replace H : (if 0 ≤ (ji7) then (if (ji7) < (l0_3.length : Int) then (bargateref16_State.l0 k (Int.tmod (wrap64 (a1 - a0_0)) a0_1) ((rd_T71 l0_3 (ji7)).f0) ji7 a0_0 a0_1 a0_2 l0_3) else (none)) else (none)) = some r := by first | (rw [hji7] at H; exact H) | (simp only [hji7] at H ⊢; exact H)
      have hji7w : (IntKind.i64.wrap ((l0_3.length : Int) - 1)) = ji7 := (i64_w _).trans hji7
      by_cases c8 : 0 ≤ (ji7)
      · rw [if_pos c8] at H
        have c8b0 : decide (0 ≤ (ji7)) = true := decide_eq_true c8
        clear c8
        by_cases c9 : (ji7) < (l0_3.length : Int)
        · rw [if_pos c9] at H
          have c9b0 : decide ((ji7) < (l0_3.length : Int)) = true := decide_eq_true c9
          clear c9
          have H' := Aside0.mk H
          clear H
          go_enter Try.func85, Try.ntmps85
          go_wp2_with (first | ((with_reducible refine gate_dst (N := 2) rfl ?_); refine box_event ?hg (N := 2) ?hd (cs := #[.int .i64 a0_0, .int .i64 a0_1, .int .i64 a0_2, .slice A0_3 l0_3.length c0_3]) (t := 33) ?hr ?_; (case hd => rfl); (case hg => rfl); (case hr => first | (go_simp; done) | (go_simp; rfl)); intro gb195 hg w10 hbox hb; have n0_ := Aside0.mk (below_step (by repeat (first | (with_reducible first | exact HB.out | apply below_alloc | apply pw_below_drewN | apply below_drew1) | exact HB.out)) hb); have n1_ := Aside0.mk (hbox); have n2_ := Aside0.mk ((by rw [hg]; exact (below_size (by repeat (first | (with_reducible first | exact HB.out | apply below_alloc | apply pw_below_drewN | apply below_drew1) | exact HB.out))) : w.heap.size ≤ gb195)); have n3_ := Aside0.mk ((by rw [hg]; exact (below_size (by repeat (first | (with_reducible first | exact HB.out | apply below_alloc | apply pw_below_drewN | apply below_drew1) | exact HB.out))) : w.heap.size ≤ gb195)); clear HB; have HB := n0_; have BK195 := n1_; have GW195 := n2_; have GE195 := n3_; clear n0_ n1_ n2_ n3_; clear hb hbox hg; have hcz11_0 : w10.cell? ⟨gb195, 0, none⟩ = some (.int .i64 a0_0) := (blk_cell BK195.out 0).trans rfl; have hcz11_1 : w10.cell? ⟨gb195, 1, none⟩ = some (.int .i64 a0_1) := (blk_cell BK195.out 1).trans rfl; have hcz11_2 : w10.cell? ⟨gb195, 2, none⟩ = some (.int .i64 a0_2) := (blk_cell BK195.out 2).trans rfl; have hcz11_3 : w10.cell? ⟨gb195, 3, none⟩ = some (.slice A0_3 l0_3.length c0_3) := (blk_cell BK195.out 3).trans rfl; have hfz11_0 := blk_frozen BK195.out 0; have hfz11_1 := blk_frozen BK195.out 1; have hfz11_2 := blk_frozen BK195.out 2; have hfz11_3 := blk_frozen BK195.out 3; have p196 : 0 ≤ ((ji7) : Int) := of_decide_eq_true (by first | (with_reducible assumption) | assumption); have q196 : (ji7) < (l0_3.length : Int) := of_decide_eq_true (by first | (with_reducible assumption) | assumption); obtain ⟨ad196, e196, hx196_0, hx196_1⟩ := at_T71 HR0_3.out (ji7) p196 q196; cases e196; replace hx196_0 := (HB.out.cell (World.block_lt_of_cell? w _ hx196_0)).trans hx196_0; replace hx196_1 := (HB.out.cell (World.block_lt_of_cell? w _ hx196_1)).trans hx196_1; replace p196 := eq_true p196; replace q196 := eq_true q196))
          go_loopg [7] k (fun kq v7 w' => ∃ (x7_1 : Int), v7 = .int .i64 x7_1 ∧ Aside0 (bargateref16_State.l0 kq (Int.tmod (wrap64 (a1 - a0_0)) a0_1) ((rd_T71 l0_3 (ji7)).f0) x7_1 a0_0 a0_1 a0_2 l0_3 = some r) ∧ Aside0 (kq ≤ k) ∧ Aside0 (w'.heap[gb195]? = some (.cells #[.int .i64 a0_0, .int .i64 a0_1, .int .i64 a0_2, (.slice (some ad196) l0_3.length c0_3)] 33 (0, 0))) ∧ Aside0 (Below w.heap.size w w'))
          case atStart => exact ⟨(ji7), (by first | rfl | (simp; done) | (simp only [← hji7] <;> (first | rfl | simp)) | (simp [*]; done)), H', ⟨Nat.le_refl _⟩, ⟨by (with_reducible repeat (first | refine blk_drewN ?_ _ | refine blk_drew ?_ | refine blk_alloc ?_ _)); exact BK195.out⟩, ⟨by repeat (first | (with_reducible first | exact HB.out | apply below_alloc | apply pw_below_drewN | apply below_drew1 | refine below_set ?_ GE195.out) | exact HB.out)⟩⟩
          case round =>
            clear H'
            try clear p1
            try clear q1
            try clear hx1
            try clear p2
            try clear c3
            try clear c3b0
            try clear c6
            try clear c6b0
            try clear c6b1
            try clear p6
            try clear c8
            try clear c8b0
            try clear c9
            try clear c9b0
            try clear hcz11_0
            try clear hcz11_1
            try clear hcz11_2
            try clear hcz11_3
            try clear hcz5_0
            try clear hcz5_1
            try clear hcz5_2
            try clear hcz5_3
            try clear hfz11_0
            try clear hfz11_1
            try clear hfz11_2
            try clear hfz11_3
            try clear hfz5_0
            try clear hfz5_1
            try clear hfz5_2
            try clear hfz5_3
            try clear hx196_0
            try clear hx196_1
            try clear p196
            try clear q196
            obtain ⟨x7_1, rfl, HA, HK1, BK195, HB⟩ := hrel
            cases gk with
            | zero => exact absurd HA.out (by simp [bargateref16_State.l0])
            | succ k1 =>
              have H := HA.out
              clear HA
              simp only [bargateref16_State.l0] at H
              by_cases c12 : x7_1 ≥ 0
              · rw [if_pos c12] at H
                have c12b0 : decide (0 ≤ x7_1) = true := decide_eq_true c12
                clear c12
                have H' := Aside0.mk H
                clear H
                go_wp2
                go_loopg [8, 9] k1 (fun kq v8 v9 w' => ∃ (x8_2 : Int) (x9_2 : Int), v8 = .int .i64 x8_2 ∧ v9 = .int .i64 x9_2 ∧ Aside0 (bargateref16_State.l1 kq (Int.tmod (wrap64 (a1 - a0_0)) a0_1) ((rd_T71 l0_3 (ji7)).f0) x7_1 x8_2 x9_2 a0_0 a0_1 a0_2 l0_3 = some r) ∧ Aside0 (kq ≤ k1) ∧ Aside0 (w'.heap[gb195]? = some (.cells #[.int .i64 a0_0, .int .i64 a0_1, .int .i64 a0_2, (.slice (some ad196) l0_3.length c0_3)] 33 (0, 0))) ∧ Aside0 (Below w.heap.size w w'))
                case atStart => exact ⟨(0), (0), (by first | rfl | (simp; done) | (simp [*]; done)), (by first | rfl | (simp; done) | (simp [*]; done)), H', ⟨Nat.le_refl _⟩, ⟨by (with_reducible repeat (first | refine blk_drewN ?_ _ | refine blk_drew ?_ | refine blk_alloc ?_ _)); exact BK195.out⟩, ⟨by repeat (first | (with_reducible first | exact HB.out | apply below_alloc | apply pw_below_drewN | apply below_drew1 | refine below_set ?_ GE195.out) | exact HB.out)⟩⟩
                case round =>
                  clear H'
                  try clear c1
                  try clear p1
                  try clear q1
                  try clear hx1
                  try clear p2
                  try clear c3
                  try clear c3b0
                  try clear c6
                  try clear c6b0
                  try clear c6b1
                  try clear p6
                  try clear c8
                  try clear c8b0
                  try clear c9
                  try clear c9b0
                  try clear c12
                  try clear c12b0
                  try clear hcz11_0
                  try clear hcz11_1
                  try clear hcz11_2
                  try clear hcz11_3
                  try clear hcz5_0
                  try clear hcz5_1
                  try clear hcz5_2
                  try clear hcz5_3
                  try clear hfz11_0
                  try clear hfz11_1
                  try clear hfz11_2
                  try clear hfz11_3
                  try clear hfz5_0
                  try clear hfz5_1
                  try clear hfz5_2
                  try clear hfz5_3
                  try clear hx196_0
                  try clear hx196_1
                  try clear p1
                  try clear p196
                  try clear p2
                  try clear p6
                  try clear q1
                  try clear q196
                  obtain ⟨x8_2, x9_2, rfl, rfl, HA, HK2, BK195, HB⟩ := hrel
                  cases gk with
                  | zero => exact absurd HA.out (by simp [bargateref16_State.l1])
                  | succ k2 =>
                    have H := HA.out
                    clear HA
                    simp only [bargateref16_State.l1] at H
                    by_cases c13 : x9_2 < x7_1
                    · rw [if_pos c13] at H
                      have c13b0 : decide (x9_2 < x7_1) = true := decide_eq_true c13
                      clear c13
                      by_cases c14 : 0 ≤ x9_2
                      · rw [if_pos c14] at H
                        have c14b0 : decide (0 ≤ x9_2) = true := decide_eq_true c14
                        clear c14
                        by_cases c15 : x9_2 < (l0_3.length : Int)
                        · rw [if_pos c15] at H
                          have c15b0 : decide (x9_2 < (l0_3.length : Int)) = true := decide_eq_true c15
                          clear c15
                          have H' := Aside0.mk H
                          clear H
                          have hcz16_0 : wr.cell? ⟨gb195, 0, none⟩ = some (.int .i64 a0_0) := (blk_cell BK195.out 0).trans rfl
                          have hcz16_1 : wr.cell? ⟨gb195, 1, none⟩ = some (.int .i64 a0_1) := (blk_cell BK195.out 1).trans rfl
                          have hcz16_2 : wr.cell? ⟨gb195, 2, none⟩ = some (.int .i64 a0_2) := (blk_cell BK195.out 2).trans rfl
                          have hcz16_3 : wr.cell? ⟨gb195, 3, none⟩ = some (.slice (some ad196) l0_3.length c0_3) := (blk_cell BK195.out 3).trans rfl
                          have hfz16_0 := blk_frozen BK195.out 0
                          have hfz16_1 := blk_frozen BK195.out 1
                          have hfz16_2 := blk_frozen BK195.out 2
                          have hfz16_3 := blk_frozen BK195.out 3
                          have p197 : 0 ≤ (x9_2 : Int) := of_decide_eq_true (by first | (with_reducible assumption) | assumption)
                          have q197 : x9_2 < (l0_3.length : Int) := of_decide_eq_true (by first | (with_reducible assumption) | assumption)
                          obtain ⟨ad197, e197, hx197_0, hx197_1⟩ := at_T71 HR0_3.out x9_2 p197 q197
                          obtain rfl : ad196 = ad197 := (by injection e197)
                          replace hx197_0 := (HB.out.cell (World.block_lt_of_cell? w _ hx197_0)).trans hx197_0
                          replace hx197_1 := (HB.out.cell (World.block_lt_of_cell? w _ hx197_1)).trans hx197_1
                          replace p197 := eq_true p197
                          replace q197 := eq_true q197
                          go_wp2
                          go_roundg k2
                          case measure => have := HK1.out; have := HK2.out; omega
                          case rel => exact ⟨(wrap64 (x8_2 + ((rd_T71 l0_3 x9_2).f1))), (wrap64 (x9_2 + 1)), (by first | rfl | (simp; done) | (simp [*]; done)), (by first | rfl | (simp; done) | (simp [*]; done)), H', ⟨by have := HK1.out; have := HK2.out; omega⟩, ⟨by (with_reducible repeat (first | refine blk_drewN ?_ _ | refine blk_drew ?_ | refine blk_alloc ?_ _)); exact BK195.out⟩, ⟨by repeat (first | (with_reducible first | exact HB.out | apply below_alloc | apply pw_below_drewN | apply below_drew1 | refine below_set ?_ GE195.out) | exact HB.out)⟩⟩
                        · rw [if_neg c15] at H
                          exact absurd H (by simp)
                      · rw [if_neg c14] at H
                        exact absurd H (by simp)
                    · rw [if_neg c13] at H
                      have c13b0 : decide (x9_2 < x7_1) = false := decide_eq_false c13
                      clear c13
                      by_cases c17 : (Int.tmod (wrap64 (a1 - a0_0)) a0_1) ≥ x8_2
                      · rw [if_pos c17] at H
                        have c17b0 : decide (x8_2 ≤ (Int.tmod (wrap64 (a1 - a0_0)) a0_1)) = true := decide_eq_true c17
                        clear c17
                        by_cases c18 : 0 ≤ x7_1
                        · rw [if_pos c18] at H
                          have c18b0 : decide (0 ≤ x7_1) = true := decide_eq_true c18
                          clear c18
                          by_cases c19 : x7_1 < (l0_3.length : Int)
                          · rw [if_pos c19] at H
                            have c19b0 : decide (x7_1 < (l0_3.length : Int)) = true := decide_eq_true c19
                            clear c19
                            obtain rfl := Option.some.inj H
                            have hcz20_0 : wr.cell? ⟨gb195, 0, none⟩ = some (.int .i64 a0_0) := (blk_cell BK195.out 0).trans rfl
                            have hcz20_1 : wr.cell? ⟨gb195, 1, none⟩ = some (.int .i64 a0_1) := (blk_cell BK195.out 1).trans rfl
                            have hcz20_2 : wr.cell? ⟨gb195, 2, none⟩ = some (.int .i64 a0_2) := (blk_cell BK195.out 2).trans rfl
                            have hcz20_3 : wr.cell? ⟨gb195, 3, none⟩ = some (.slice (some ad196) l0_3.length c0_3) := (blk_cell BK195.out 3).trans rfl
                            have hfz20_0 := blk_frozen BK195.out 0
                            have hfz20_1 := blk_frozen BK195.out 1
                            have hfz20_2 := blk_frozen BK195.out 2
                            have hfz20_3 := blk_frozen BK195.out 3
                            have p198 : 0 ≤ (x7_1 : Int) := of_decide_eq_true (by first | (with_reducible assumption) | assumption)
                            have q198 : x7_1 < (l0_3.length : Int) := of_decide_eq_true (by first | (with_reducible assumption) | assumption)
                            obtain ⟨ad198, e198, hx198_0, hx198_1⟩ := at_T71 HR0_3.out x7_1 p198 q198
                            obtain rfl : ad196 = ad198 := (by injection e198)
                            replace hx198_0 := (HB.out.cell (World.block_lt_of_cell? w _ hx198_0)).trans hx198_0
                            replace hx198_1 := (HB.out.cell (World.block_lt_of_cell? w _ hx198_1)).trans hx198_1
                            replace p198 := eq_true p198
                            replace q198 := eq_true q198
                            go_wp2
                            go_ret
                            exact ⟨by first | rfl | (simp [errW_none, errW_some] <;> rfl) | (simp only [← hji7]; first | rfl | (simp [errW_none, errW_some] <;> rfl)) | (simp [*, errW_none, errW_some] <;> rfl), by repeat (first | (with_reducible first | exact HB.out | apply below_alloc | apply pw_below_drewN | apply below_drew1 | refine below_set ?_ GE195.out) | exact HB.out)⟩
                          · rw [if_neg c19] at H
                            exact absurd H (by simp)
                        · rw [if_neg c18] at H
                          exact absurd H (by simp)
                      · rw [if_neg c17] at H
                        have c17b0 : decide (x8_2 ≤ (Int.tmod (wrap64 (a1 - a0_0)) a0_1)) = false := decide_eq_false c17
                        clear c17
                        have H' := Aside0.mk H
                        clear H
                        go_wp2
                        go_roundg k2
                        case measure => have := HK1.out; have := HK2.out; omega
                        case rel => exact ⟨(wrap64 (x7_1 - 1)), (by first | rfl | (simp; done) | (simp [*]; done)), H', ⟨by have := HK1.out; have := HK2.out; omega⟩, ⟨by (with_reducible repeat (first | refine blk_drewN ?_ _ | refine blk_drew ?_ | refine blk_alloc ?_ _)); exact BK195.out⟩, ⟨by repeat (first | (with_reducible first | exact HB.out | apply below_alloc | apply pw_below_drewN | apply below_drew1 | refine below_set ?_ GE195.out) | exact HB.out)⟩⟩
              · rw [if_neg c12] at H
                have c12b0 : decide (0 ≤ x7_1) = false := decide_eq_false c12
                clear c12
                obtain rfl := Option.some.inj H
                go_wp2
                go_ret
                exact ⟨by first | rfl | (simp [errW_none, errW_some] <;> rfl) | (simp only [← hji7]; first | rfl | (simp [errW_none, errW_some] <;> rfl)) | (simp [*, errW_none, errW_some] <;> rfl), by repeat (first | (with_reducible first | exact HB.out | apply below_alloc | apply pw_below_drewN | apply below_drew1 | refine below_set ?_ GE195.out) | exact HB.out)⟩
        · rw [if_neg c9] at H
          exact absurd H (by simp)
      · rw [if_neg c8] at H
        exact absurd H (by simp)

-- NOT PRINTED: function 50 (bargateref17_Pair_State)

-- NOT PRINTED: function 51 (bargateref17_Pair_whole)

-- NOT PRINTED: function 14 (bargateref17_Pair_Open)

-- NOT PRINTED: function 13 (bargateref17_Pair_Fits)

-- NOT PRINTED: function 3 (bargatelaw17_ChangeFits)

end Go.Proofs.Ytkbjelhmmcifhaa.PChangeFits
