/- The argument of the law, opened: a slice of acts that is read is a list of acts. No condition. -/
import Derived.Test.YtkbjelhmmcifhaaPChangeFitsx0
import Derived.Deep.Slices
import Derived.Lib.SmallJoins
import Derived.WalkKit
import Derived.ProofKit
import Derived.OpenShut
import Derived.ChangeOld
import Derived.Below
import Derived.SizedLaws
set_option linter.unusedVariables false
namespace Go.Proofs.Ytkbjelhmmcifhaa.CF
open Go.RowKit Go.ChangeShapes Go.Proofs.YtkbjelhmmcifhaaW.PrintWords
open Go.Proofs.Ytkbjelhmmcifhaa.PChangeFits (S71 S33 S91 k71 k33 k91 k71_mk k33_mk k91_mk)

theorem c71 : Try.prog.cellsOf 71 = 2 := by kernel_rfl
theorem c33 : Try.prog.cellsOf 33 = 4 := by kernel_rfl
theorem c31 : Try.prog.cellsOf 31 = 1 := by kernel_rfl
theorem c91 : Try.prog.cellsOf 91 = 5 := by kernel_rfl
theorem c2 : Try.prog.cellsOf 2 = 1 := by kernel_rfl
theorem c3 : Try.prog.cellsOf 3 = 1 := by kernel_rfl

theorem len2 {α : Type} : ∀ {l : List α}, l.length = 2 → ∃ a b, l = [a, b]
  | [a, b], _ => ⟨a, b, rfl⟩
theorem len4 {α : Type} : ∀ {l : List α}, l.length = 4 → ∃ a b c d, l = [a, b, c, d]
  | [a, b, c, d], _ => ⟨a, b, c, d, rfl⟩
theorem len5 {α : Type} : ∀ {l : List α}, l.length = 5 → ∃ a b c d e, l = [a, b, c, d, e]
  | [a, b, c, d, e], _ => ⟨a, b, c, d, e, rfl⟩

section
variable {H : Type} {enc : TypeId × Value → H} {W : World} {base : Nat} {spare : Nat → Bool} {held : Bool} {fuel : Nat} {cs : List Value} {x : DataW H × List MemPlace}

theorem row_open {α : Type} [Inhabited α] (kd : Kd α) {t e : TypeId} (ht : Try.prog.underlying t = some (.slice e)) (hsz : Try.prog.cellsOf e = kd.sz)
    (hel : ∀ n cs y, DataW.trod enc Try.prog W base spare held n e cs = some y → ∃ v, kd.K W v cs)
    (h : DataW.trod enc Try.prog W base spare held fuel t cs = some x) :
    ∃ (A : Option Addr) (c : Nat) (l : List α), cs = [.slice A l.length c] ∧ l.length ≤ c ∧ Kd.C kd W A l.length l := by
  rcases Go.Deep.open_slice ht h with ⟨rfl, _⟩ | ⟨a, len, cap, m, n, D, Pl, rfl, _, hl, hm, hmm, _, hx⟩
  · exact ⟨none, 0, [], rfl, Nat.le_refl _, rfl, Nat.zero_le _, fun h => absurd h (Nat.lt_irrefl 0)⟩
  · have hlm : len ≤ m := by rw [hmm]; split <;> omega
    obtain ⟨V, hV⟩ := Go.Deep.choose_lt (α := α) (n := len) (p := fun i v => ∃ cs', kd.K W v cs' ∧ W.cells? base (a.add (i * Try.prog.cellsOf e)) (Try.prog.cellsOf e) = some cs') (fun i hi => by
      obtain ⟨cs', h1, h2⟩ := hx i (by omega)
      obtain ⟨v, hv⟩ := hel _ _ _ h2
      exact ⟨v, cs', hv, h1⟩)
    have hlen : ((List.range len).map V).length = len := by simp
    refine ⟨some a, cap, (List.range len).map V, by rw [hlen], by omega, rfl, ?_, fun _ => ⟨a, rfl, fun j p hj => ?_⟩⟩
    · have : maxLen = 9223372036854775807 := rfl
      omega
    · have hjl : j < len := by have := (List.getElem?_eq_some_iff.1 hj).1; omega
      have hp : p = V j := by
        rw [List.getElem?_map, List.getElem?_range hjl] at hj
        exact (Option.some.inj hj).symm
      subst hp
      obtain ⟨cs', hk, hc⟩ := hV j hjl
      obtain ⟨_, hcl, hcell⟩ := World.cells?_some hc
      refine ⟨cs', kd.K_len hk, hk, fun i u hu => ?_⟩
      have hi : i < cs'.length := (List.getElem?_eq_some_iff.1 hu).1
      have h1 := hcell i (by omega)
      rw [hu] at h1
      rw [← h1, ← hsz]
      unfold Addr.add
      by_cases z1 : j * Try.prog.cellsOf e = 0
      · by_cases z2 : i = 0
        · subst z2; simp [z1]
        · simp [z1, z2]
      · by_cases z2 : i = 0
        · subst z2; simp [z1]
        · simp [z1, z2, Nat.add_assoc]

theorem el71 : ∀ n cs y, DataW.trod enc Try.prog W base spare held n 71 cs = some y → ∃ v, k71.K W v cs := by
  intro n cs y h
  obtain ⟨y0, y1, m, _, hlen, h0, h1⟩ := trod_struct2 Try.underlying71 h
  rw [c71] at hlen
  obtain ⟨a, b, rfl⟩ : ∃ a b, cs = [a, b] := len2 hlen
  rw [show Try.prog.cellsOf 3 = 1 from c3] at h0
  rw [show Try.prog.cellsOf 2 = 1 from c2] at h1
  obtain ⟨i, e0, _, _⟩ := DataW.trod_int Try.underlying3 h0
  obtain ⟨j, e1, _, _⟩ := DataW.trod_int Try.underlying2 h1
  simp at e0 e1
  subst e0 e1
  exact ⟨⟨i, j⟩, k71_mk W ⟨i, j⟩⟩

theorem el33 : ∀ n cs y, DataW.trod enc Try.prog W base spare held n 33 cs = some y → ∃ v, k33.K W v cs := by
  intro n cs y h
  obtain ⟨y0, y1, y2, y3, m, _, hlen, h0, h1, h2, h3⟩ := Go.Joins.trod_struct4 Try.underlying33 h
  rw [c33] at hlen
  obtain ⟨a, b, c, d, rfl⟩ : ∃ a b c d, cs = [a, b, c, d] := len4 hlen
  rw [show Try.prog.cellsOf 2 = 1 from c2] at h0 h1 h2
  rw [show Try.prog.cellsOf 31 = 1 from c31] at h3
  obtain ⟨i, e0, _, _⟩ := DataW.trod_int Try.underlying2 h0
  obtain ⟨j, e1, _, _⟩ := DataW.trod_int Try.underlying2 h1
  obtain ⟨k, e2, _, _⟩ := DataW.trod_int Try.underlying2 h2
  haveI : Inhabited S71 := ⟨⟨0, 0⟩⟩
  obtain ⟨A, cp, l, e3, hl, hC⟩ := row_open k71 Try.underlying31 c71 el71 h3
  simp at e0 e1 e2 e3
  subst e0 e1 e2 e3
  exact ⟨⟨i, j, k, l⟩, k33_mk W ⟨i, j, k, l⟩ hl hC⟩

theorem el91 : ∀ n cs y, DataW.trod enc Try.prog W base spare held n 91 cs = some y → ∃ v, k91.K W v cs := by
  intro n cs y h
  obtain ⟨y0, y1, m, _, hlen, h0, h1⟩ := trod_struct2 Try.underlying91 h
  rw [c91] at hlen
  obtain ⟨a, b, c, d, e, rfl⟩ : ∃ a b c d e, cs = [a, b, c, d, e] := len5 hlen
  rw [show Try.prog.cellsOf 2 = 1 from c2] at h0
  rw [show Try.prog.cellsOf 33 = 4 from c33] at h1
  obtain ⟨i, e0, _, _⟩ := DataW.trod_int Try.underlying2 h0
  obtain ⟨v, hv⟩ := el33 _ _ _ h1
  simp at e0
  subst e0
  obtain ⟨A4, c4, e4, hl, hC⟩ := Go.Proofs.Ytkbjelhmmcifhaa.PChangeFits.k33_open hv
  simp at e4
  obtain ⟨rfl, rfl, rfl, rfl⟩ := e4
  exact ⟨⟨i, v⟩, k91_mk W ⟨i, v⟩ hl hC⟩

theorem open_acts {v : Value} {d : DataW H} {p : List MemPlace} (hv : ∃ a l c, v = .slice a l c) (h : DataW.Trod enc Try.prog W base spare held 22 v d p) :
    ∃ (A : Option Addr) (c : Nat) (l : List S91), v = .slice A l.length c ∧ l.length ≤ c ∧ Kd.C k91 W A l.length l := by
  obtain ⟨fuel, hf⟩ := h
  obtain ⟨a, l, c, rfl⟩ := hv
  haveI : Inhabited S91 := ⟨⟨0, ⟨0, 0, 0, []⟩⟩⟩
  obtain ⟨A, cp, xs, e, hl, hC⟩ := row_open k91 Try.underlying22 c91 el91 hf
  refine ⟨A, cp, xs, ?_, hl, hC⟩
  simpa [Value.cells] using e
end

end Go.Proofs.Ytkbjelhmmcifhaa.CF
