/- What the package bargateref16 tells, by the plain functions: the same as the package gate. The lists may be (VL), the times are no later than 9*10^18. -/
import Derived.Test.YtkbjelhmmcifhaaG0
set_option linter.unusedVariables false
set_option linter.unusedSimpArgs false
namespace Go.Proofs.Ytkbjelhmmcifhaa.CF
open Go.RowKit Go.Proofs.YtkbjelhmmcifhaaW.PrintWords Go.Proofs.YtkbjelhmmcifhaaW.PrintLast Go.Proofs.YtkbjelhmmcifhaaW.PrintMore
open Go.Proofs.Ytkbjelhmmcifhaa.PChangeFits

def psum (xs : List S71) : Nat → Int
  | 0 => 0
  | i + 1 => psum xs i + (rd_T71 xs (i : Int)).f1

theorem rd_mem {xs : List S71} {i : Nat} (h : i < xs.length) : rd_T71 xs (i : Int) ∈ xs := by
  unfold rd_T71
  rw [Int.toNat_natCast, List.getD_eq_getElem?_getD, List.getElem?_eq_getElem h]
  exact List.getElem_mem h

theorem psum_in {l : S33} (hv : VL l) : ∀ i, i ≤ l.f3.length → (i : Int) ≤ psum l.f3 i ∧ psum l.f3 i ≤ 1000000000 * (i : Int) := by
  intro i
  induction i with
  | zero => intro _; simp [psum]
  | succ i ih =>
    intro h
    have h1 := ih (by omega)
    have h2 := hv.es _ (rd_mem (xs := l.f3) (i := i) (by omega))
    simp only [psum]
    omega

theorem psum_mono {l : S33} (hv : VL l) (i : Nat) : ∀ d, i + d ≤ l.f3.length → psum l.f3 i + (d : Int) ≤ psum l.f3 (i + d) := by
  intro d
  induction d with
  | zero => intro _; simp
  | succ d ih =>
    intro h
    have h1 := ih (by omega)
    have h2 := hv.es _ (rd_mem (xs := l.f3) (i := i + d) (by omega))
    rw [← Nat.add_assoc]
    simp only [psum]
    omega

theorem gat_idx {l : S33} (hv : VL l) (into : Int) (h1 : into < l.f1) : ∀ (r : List S71) (e : S71) (i : Nat),
    l.f3.drop i = e :: r → psum l.f3 i ≤ into →
    ∃ m : Nat, i ≤ m ∧ m < l.f3.length ∧ psum l.f3 m ≤ into ∧ (∀ j : Nat, m < j → j < l.f3.length → into < psum l.f3 j) ∧ (gat l.f1 into e r (psum l.f3 i)).1 = (rd_T71 l.f3 (m : Int)).f0 := by
  intro r
  induction r with
  | nil =>
    intro e i hd hp
    obtain ⟨hrd, hi, hd', hlen⟩ := rd_drop hd
    exact ⟨i, by omega, hi, hp, fun j a b => by simp at hlen; omega, by rw [hrd]; rfl⟩
  | cons e' r ih =>
    intro e i hd hp
    obtain ⟨hrd, hi, hd', hlen⟩ := rd_drop hd
    have hps : psum l.f3 (i + 1) = psum l.f3 i + e.f1 := by simp only [psum]; rw [hrd]
    have hstop : into < psum l.f3 (i + 1) → ∀ j : Nat, i < j → j < l.f3.length → into < psum l.f3 j := by
      intro hx j hj hj2
      have := psum_mono hv (i + 1) (j - (i + 1)) (by omega)
      rw [show i + 1 + (j - (i + 1)) = j from by omega] at this
      omega
    simp only [gat]
    by_cases hc : l.f1 ≤ psum l.f3 i + e.f1
    · rw [if_pos hc]
      exact ⟨i, by omega, hi, hp, hstop (by omega), by rw [hrd]⟩
    · rw [if_neg hc]
      by_cases hx : into < psum l.f3 i + e.f1
      · rw [if_pos hx]
        exact ⟨i, by omega, hi, hp, hstop (by omega), by rw [hrd]⟩
      · rw [if_neg hx, ← hps]
        obtain ⟨m, a1, a2, a3, a4, a5⟩ := ih e' (i + 1) hd' (by omega)
        exact ⟨m, by omega, a2, a3, a4, a5⟩

/-- the inner loop of bargateref16.State: the sum of the first i, then the test. -/
theorem ref_l1 {l : S33} (hv : VL l) (into x6 : Int) (i : Nat) (hi : i < l.f3.length) : ∀ (d j k : Nat), j + d = i → d < k →
    ∃ k', k' + d + 1 = k ∧ bargateref16_State.l1 k into x6 (i : Int) (psum l.f3 j) (j : Int) l.f0 l.f1 l.f2 l.f3 =
      if into ≥ psum l.f3 i then some (rd_T71 l.f3 (i : Int)).f0 else bargateref16_State.l0 k' into x6 (wrap64 ((i : Int) - 1)) l.f0 l.f1 l.f2 l.f3 := by
  intro d
  have hn := hv.n1
  induction d with
  | zero =>
    intro j k hj hk
    obtain ⟨k, rfl⟩ : ∃ m, k = m + 1 := ⟨k - 1, by omega⟩
    obtain rfl : j = i := by omega
    refine ⟨k, by omega, ?_⟩
    have a1 : ¬ ((j : Int) < (j : Int)) := by omega
    have a2 : (0 : Int) ≤ (j : Int) := by omega
    have a3 : (j : Int) < (l.f3.length : Int) := by omega
    simp only [bargateref16_State.l1]
    rw [if_neg a1, if_pos a2, if_pos a3]
  | succ d ih =>
    intro j k hj hk
    obtain ⟨k, rfl⟩ : ∃ m, k = m + 1 := ⟨k - 1, by omega⟩
    obtain ⟨k', h1, h2⟩ := ih (j + 1) k (by omega) (by omega)
    refine ⟨k', by omega, ?_⟩
    have a1 : (j : Int) < (i : Int) := by omega
    have a2 : (0 : Int) ≤ (j : Int) := by omega
    have a3 : (j : Int) < (l.f3.length : Int) := by omega
    have hp := psum_in hv (j + 1) (by omega)
    have w1 : wrap64 ((j : Int) + 1) = ((j + 1 : Nat) : Int) := by rw [wrap_in (by omega) (by omega)]; omega
    have w2 : wrap64 (psum l.f3 j + (rd_T71 l.f3 (j : Int)).f1) = psum l.f3 (j + 1) := wrap_in (by simp only [psum] at hp; omega) (by simp only [psum] at hp; omega)
    rw [← h2]
    conv => lhs; unfold bargateref16_State.l1
    rw [if_pos a1, if_pos a2, if_pos a3, w1, w2]

theorem ref_l0 {l : S33} (hv : VL l) (into x6 : Int) (m : Nat) (hm : m < l.f3.length) (hp : psum l.f3 m ≤ into) (hq : ∀ j : Nat, m < j → j < l.f3.length → into < psum l.f3 j) : ∀ (d i k : Nat), m + d = i → i < l.f3.length → 70 * d + 70 ≤ k →
    bargateref16_State.l0 k into x6 (i : Int) l.f0 l.f1 l.f2 l.f3 = some (rd_T71 l.f3 (m : Int)).f0 := by
  intro d
  have hn := hv.n1
  induction d with
  | zero =>
    intro i k hi hl hk
    obtain ⟨k, rfl⟩ : ∃ m, k = m + 1 := ⟨k - 1, by omega⟩
    obtain rfl : m = i := by omega
    have a1 : (m : Int) ≥ 0 := by omega
    obtain ⟨k', h1, h2⟩ := ref_l1 hv into x6 m hl m 0 k (by omega) (by omega)
    simp only [bargateref16_State.l0]
    rw [if_pos a1]
    refine Eq.trans h2 ?_
    rw [if_pos hp]
  | succ d ih =>
    intro i k hi hl hk
    obtain ⟨k, rfl⟩ : ∃ m, k = m + 1 := ⟨k - 1, by omega⟩
    have a1 : (i : Int) ≥ 0 := by omega
    have a2 : ¬ (into ≥ psum l.f3 i) := by have := hq i (by omega) hl; omega
    obtain ⟨k', h1, h2⟩ := ref_l1 hv into x6 i hl i 0 k (by omega) (by omega)
    have hih := ih (i - 1) k' (by omega) (by omega) (by omega)
    have hw : wrap64 ((i : Int) - 1) = ((i - 1 : Nat) : Int) := by rw [wrap_in (by omega) (by omega)]; omega
    simp only [bargateref16_State.l0]
    rw [if_pos a1]
    refine Eq.trans h2 ?_
    rw [if_neg a2, hw]
    exact hih

theorem rState_any {l : S33} (hv : VL l) {t : Int} (ht1 : t ≤ 9000000000000000000) (w : World) {A : Option Addr} {c : Nat} (hr : Kd.C k71 w A l.f3.length l.f3) (hc : l.f3.length ≤ c) :
    Calls Try.prog 85 #[listV l A c, .int .i64 t] w fun e w' => e = .returned (.int .i64 (gState l t)) ∧ Below w.heap.size w w' := by
  obtain ⟨k, hk⟩ : ∃ k : Nat, k = 5000 := ⟨_, rfl⟩
  refine bargateref16_State.calls k _ _ _ _ _ _ _ _ w hr hc ?_
  by_cases h : t < l.f0
  · unfold bargateref16_State.f gState
    rw [if_pos h, if_pos h]
  · obtain ⟨e, r, he⟩ := hv.cons
    have hi := into_in hv t
    have h0 := hv.c0
    have hb := hv.b0
    have hn := hv.n1
    have hlen : l.f3.length = r.length + 1 := by rw [he]; simp
    obtain ⟨m, b1, b2, b3, b4, b5⟩ := gat_idx hv ((t - l.f0) % l.f1) hi.2 r e 0 (by simpa using he) (by simpa [psum] using hi.1)
    have hg : gatL l t = gat l.f1 ((t - l.f0) % l.f1) e r 0 := by unfold gatL; rw [he]
    have hz : ¬ l.f1 = 0 := by omega
    have a1 : (0 : Int) ≤ ((l.f3.length - 1 : Nat) : Int) := by omega
    have a2 : ((l.f3.length - 1 : Nat) : Int) < (l.f3.length : Int) := by omega
    have hl0 := ref_l0 hv ((t - l.f0) % l.f1) ((rd_T71 l.f3 ((l.f3.length - 1 : Nat) : Int)).f0) m b2 b3 b4 (l.f3.length - 1 - m) (l.f3.length - 1) k (by omega) (by omega) (by omega)
    have w1 : wrap64 (t - l.f0) = t - l.f0 := wrap_in (by omega) (by omega)
    have d1 : Int.tmod (t - l.f0) l.f1 = (t - l.f0) % l.f1 := Int.tmod_eq_emod_of_nonneg (by omega)
    have w2 : wrap64 ((l.f3.length : Int) - 1) = ((l.f3.length - 1 : Nat) : Int) := by rw [wrap_in (by omega) (by omega)]; omega
    unfold bargateref16_State.f gState
    rw [if_neg h, if_neg h, if_neg hz, w1, d1, w2, if_pos a1, if_pos a2, hl0, hg]
    exact congrArg some b5.symm

/-- Where the entries behind acc begin, ahead of a cycle's end; and that end. -/
def edg (cyc : Int) : S71 → List S71 → Int → List Int
  | _, [], _ => [cyc]
  | e, e' :: r, acc => if acc + e.f1 < cyc then (acc + e.f1) :: edg cyc e' r (acc + e.f1) else edg cyc e' r (acc + e.f1)

theorem edg_len (cyc : Int) : ∀ (r : List S71) (e : S71) (acc : Int), (edg cyc e r acc).length ≤ r.length + 1 := by
  intro r
  induction r with
  | nil => intro e acc; simp [edg]
  | cons e' r ih =>
    intro e acc
    have := ih e' (acc + e.f1)
    simp only [edg]
    split
    · simp only [List.length_cons]; omega
    · simp only [List.length_cons]; omega

theorem edg_in {l : S33} (hv : VL l) : ∀ (r : List S71) (e : S71) (acc : Int), 0 ≤ acc → (∀ x, x ∈ e :: r → 1 ≤ x.f1) → ∀ y, y ∈ edg l.f1 e r acc → 1 ≤ y ∧ y ≤ l.f1 := by
  intro r
  have := hv.c0
  induction r with
  | nil => intro e acc h0 hx y hy; simp [edg] at hy; omega
  | cons e' r ih =>
    intro e acc h0 hx y hy
    have h1 := hx e (by simp)
    have hx' : ∀ x, x ∈ e' :: r → 1 ≤ x.f1 := fun x hm => hx x (List.mem_cons_of_mem _ hm)
    simp only [edg] at hy
    by_cases hc : acc + e.f1 < l.f1
    · rw [if_pos hc] at hy
      rcases List.mem_cons.1 hy with rfl | hy
      · omega
      · exact ih e' _ (by omega) hx' y hy
    · rw [if_neg hc] at hy
      exact ih e' _ (by omega) hx' y hy

theorem edges_l0 {l : S33} (hv : VL l) : ∀ (r : List S71) (e : S71) (i k : Nat) (out : List Int), l.f3.drop i = e :: r → out.length ≤ i + 1 → r.length < k →
    bargateref16_Edges.l0 k out (psum l.f3 i) (i : Int) l.f0 l.f1 l.f2 l.f3 = some (out ++ edg l.f1 e r (psum l.f3 i)) := by
  intro r
  have hn := hv.n1
  induction r with
  | nil =>
    intro e i k out hd ho hk
    obtain ⟨k, rfl⟩ : ∃ m, k = m + 1 := ⟨k - 1, by omega⟩
    obtain ⟨hrd, hi, hd', hlen⟩ := rd_drop hd
    simp only [List.length_nil] at hlen
    have a1 : ¬ (((i + 1 : Nat) : Int) < (l.f3.length : Int)) := by omega
    have a2 : out.length < 17592186044416 := by omega
    have w1 : wrap64 ((i : Int) + 1) = ((i + 1 : Nat) : Int) := by rw [wrap_in (by omega) (by omega)]; omega
    simp only [bargateref16_Edges.l0]
    rw [w1, if_neg a1, if_pos a2]
    rfl
  | cons e' r ih =>
    intro e i k out hd ho hk
    obtain ⟨k, rfl⟩ : ∃ m, k = m + 1 := ⟨k - 1, by omega⟩
    obtain ⟨hrd, hi, hd', hlen⟩ := rd_drop hd
    simp only [List.length_cons] at hlen hk
    have hps : psum l.f3 (i + 1) = psum l.f3 i + e.f1 := by simp only [psum]; rw [hrd]
    have hp := psum_in hv (i + 1) (by omega)
    have a1 : ((i + 1 : Nat) : Int) < (l.f3.length : Int) := by omega
    have a2 : out.length < 17592186044416 := by omega
    have a3 : (0 : Int) ≤ (i : Int) := by omega
    have a4 : (i : Int) < (l.f3.length : Int) := by omega
    have ih1 := ih e' (i + 1) k (out ++ [psum l.f3 (i + 1)]) hd' (by simp; omega) (by omega)
    have ih2 := ih e' (i + 1) k out hd' (by omega) (by omega)
    have w2 : wrap64 (psum l.f3 i + e.f1) = psum l.f3 (i + 1) := by rw [hps]; exact wrap_in (by omega) (by omega)
    have w1 : wrap64 ((i : Int) + 1) = ((i + 1 : Nat) : Int) := by rw [wrap_in (by omega) (by omega)]; omega
    simp only [bargateref16_Edges.l0, edg]
    rw [w1, if_pos a1, if_pos a3, if_pos a4, hrd, w2, ← hps]
    by_cases hc : psum l.f3 (i + 1) < l.f1
    · rw [if_pos hc, if_pos hc, if_pos a2, ih1]; simp
    · rw [if_neg hc, if_neg hc, ih2]

def firstGt (into : Int) : List Int → Option Int
  | [] => none
  | x :: r => if x > into then some x else firstGt into r

theorem edg_late {l : S33} : ∀ (r : List S71) (e : S71) (acc : Int), (∀ x, x ∈ e :: r → 1 ≤ x.f1) → l.f1 ≤ acc + e.f1 → edg l.f1 e r acc = [l.f1] := by
  intro r
  induction r with
  | nil => intro e acc hx h; rfl
  | cons e' r ih =>
    intro e acc hx h
    have hx' : ∀ x, x ∈ e' :: r → 1 ≤ x.f1 := fun x hm => hx x (List.mem_cons_of_mem _ hm)
    have h1 := hx' e' (by simp)
    have hc : ¬ (acc + e.f1 < l.f1) := by omega
    simp only [edg]
    rw [if_neg hc]
    exact ih e' _ hx' (by omega)

theorem first_edg {l : S33} (into : Int) (h1 : into < l.f1) : ∀ (r : List S71) (e : S71) (acc : Int), (∀ x, x ∈ e :: r → 1 ≤ x.f1) → acc ≤ into →
    firstGt into (edg l.f1 e r acc) = some (into + (gat l.f1 into e r acc).2) := by
  intro r
  induction r with
  | nil =>
    intro e acc hx ha
    simp only [edg, gat, firstGt]
    rw [if_pos h1]; congr 1; omega
  | cons e' r ih =>
    intro e acc hx ha
    have hx' : ∀ x, x ∈ e' :: r → 1 ≤ x.f1 := fun x hm => hx x (List.mem_cons_of_mem _ hm)
    by_cases hc : l.f1 ≤ acc + e.f1
    · rw [edg_late _ _ _ hx hc]
      simp only [gat, firstGt]
      rw [if_pos hc, if_pos h1]; congr 1; simp only; omega
    · simp only [edg, gat]
      rw [if_pos (Int.not_le.1 hc), if_neg hc]
      by_cases hi : into < acc + e.f1
      · simp only [firstGt]
        rw [if_pos hi, if_pos hi]; congr 1; simp only; omega
      · simp only [firstGt]
        rw [if_neg hi, if_neg hi]
        exact ih e' _ hx' (Int.not_lt.1 hi)

theorem next_l0 (t into : Int) (h0 : 0 ≤ into) (hti : into ≤ t) (ht : t ≤ 9000000000000000000) (y : Int) : ∀ (pre xs edges : List Int) (k : Nat), edges = pre ++ xs → firstGt into xs = some y → (∀ z, z ∈ xs → 0 ≤ z ∧ z ≤ 1000000000) → edges.length < 1000 → xs.length < k →
    bargateref16_Next.l0 k t into edges (pre.length : Int) = some (t - into + y) := by
  intro pre xs
  induction xs generalizing pre with
  | nil => intro edges k he hf; simp [firstGt] at hf
  | cons x xs ih =>
    intro edges k he hf hz hl hk
    obtain ⟨k, rfl⟩ : ∃ m, k = m + 1 := ⟨k - 1, by omega⟩
    have hx := hz x (by simp)
    have hlen : edges.length = pre.length + (xs.length + 1) := by rw [he]; simp
    have a1 : (pre.length : Int) < (edges.length : Int) := by omega
    have a2 : (0 : Int) ≤ (pre.length : Int) := by omega
    have hrd : rd edges (pre.length : Int) = x := by rw [he]; simp [rd]
    simp only [bargateref16_Next.l0]
    rw [if_pos a1, if_pos a2, hrd]
    simp only [firstGt] at hf
    by_cases hc : x > into
    · rw [if_pos hc] at hf
      obtain rfl := Option.some.inj hf
      have w1 : wrap64 (t - into) = t - into := wrap_in (by omega) (by omega)
      have w2 : wrap64 (t - into + x) = t - into + x := wrap_in (by omega) (by omega)
      rw [if_pos hc, w1, w2]
    · rw [if_neg hc] at hf
      simp only [List.length_cons] at hk
      have hih := ih (pre ++ [x]) edges k (by rw [he]; simp) hf (fun z hm => hz z (List.mem_cons_of_mem _ hm)) hl (by omega)
      have w1 : wrap64 ((pre.length : Int) + 1) = ((pre ++ [x]).length : Int) := by rw [wrap_in (by omega) (by omega)]; simp
      rw [if_neg hc, w1]
      exact hih

theorem rNext_any {l : S33} (hv : VL l) {t : Int} (ht1 : t ≤ 9000000000000000000) (w : World) {A : Option Addr} {c : Nat} (hr : Kd.C k71 w A l.f3.length l.f3) (hc : l.f3.length ≤ c) :
    Calls Try.prog 83 #[listV l A c, .int .i64 t] w fun e w' => e = .returned (.int .i64 (gNext l t)) ∧ Below w.heap.size w w' := by
  obtain ⟨k, hk⟩ : ∃ k : Nat, k = 5000 := ⟨_, rfl⟩
  refine bargateref16_Next.calls k _ _ _ _ _ _ _ _ w hr hc ?_
  by_cases h : t < l.f0
  · unfold bargateref16_Next.f gNext
    rw [if_pos h, if_pos h]
  · obtain ⟨e, r, he⟩ := hv.cons
    have hi := into_in hv t
    have h0 := hv.c0
    have h1 := hv.c1
    have hb := hv.b0
    have hn := hv.n1
    have hlen : l.f3.length = r.length + 1 := by rw [he]; simp
    have hes : ∀ x, x ∈ e :: r → 1 ≤ x.f1 := fun x hx => (hv.es x (by rw [he]; exact hx)).2.2.1
    have hg : gatL l t = gat l.f1 ((t - l.f0) % l.f1) e r 0 := by unfold gatL; rw [he]
    have hz : ¬ l.f1 = 0 := by omega
    have hle : (t - l.f0) % l.f1 ≤ t - l.f0 := by
      have e1 := Int.mul_ediv_add_emod (t - l.f0) l.f1
      have e2 : 0 ≤ l.f1 * ((t - l.f0) / l.f1) := Int.mul_nonneg (by omega) (Int.ediv_nonneg (by omega) (by omega))
      omega
    have hed := edges_l0 hv r e 0 k [0] (by simpa using he) (by simp) (by omega)
    have hf : firstGt ((t - l.f0) % l.f1) ([0] ++ edg l.f1 e r 0) = some ((t - l.f0) % l.f1 + (gatL l t).2) := by
      rw [hg]
      have hng : ¬ ((0 : Int) > (t - l.f0) % l.f1) := by omega
      simp only [List.cons_append, List.nil_append, firstGt]
      rw [if_neg hng]
      exact first_edg _ hi.2 _ _ _ hes hi.1
    have hll := edg_len l.f1 r e 0
    have hne := next_l0 t ((t - l.f0) % l.f1) hi.1 (by omega) ht1 _ [] ([0] ++ edg l.f1 e r 0) ([0] ++ edg l.f1 e r 0) k rfl hf (by
      intro z hz
      rcases List.mem_cons.1 hz with rfl | hz
      · omega
      · have := edg_in hv r e 0 (by omega) hes z hz; omega) (by simp; omega) (by simp; omega)
    have w1 : wrap64 (t - l.f0) = t - l.f0 := wrap_in (by omega) (by omega)
    have d1 : Int.tmod (t - l.f0) l.f1 = (t - l.f0) % l.f1 := Int.tmod_eq_emod_of_nonneg (by omega)
    unfold bargateref16_Next.f gNext bargateref16_Edges.f
    have hed' : bargateref16_Edges.l0 k ([0] : List Int) 0 0 l.f0 l.f1 l.f2 l.f3 = some ([0] ++ edg l.f1 e r 0) := hed
    have hne' : bargateref16_Next.l0 k t ((t - l.f0) % l.f1) ([0] ++ edg l.f1 e r 0) 0 = some (t - (t - l.f0) % l.f1 + ((t - l.f0) % l.f1 + (gatL l t).2)) := hne
    rw [if_neg h, if_neg h, if_neg hz, w1, d1, hed']
    simp only [Option.bind_some]
    rw [hne']
    clear w1 d1 hed hed' hne hne'
    congr 1; omega

end Go.Proofs.Ytkbjelhmmcifhaa.CF
