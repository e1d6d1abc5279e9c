/- Walks: gate.Clone, with what it calls of package slices. The lists are not empty, and no longer than 10^6. -/
import Derived.Test.YtkbjelhmmcifhaaC0
import Derived.Lib.SliceRun
set_option linter.unusedVariables false
set_option linter.unusedSimpArgs false
namespace Go.Proofs.Ytkbjelhmmcifhaa.CF
open Go.RowKit Go.Proofs.YtkbjelhmmcifhaaW.PrintWords Go.Proofs.YtkbjelhmmcifhaaW.PrintLast Go.Proofs.YtkbjelhmmcifhaaW.PrintMore
open Go.Proofs.Ytkbjelhmmcifhaa.PChangeFits (S71 S33 k71 k33 z71 z33 rd_T71 at_T71 k71_open k71_mkM)

theorem info71 : (Try.prog.info? 71).map (fun i => (i.zero, i.size, i.bytes)) = some (some (.agg #[.int .i64 0, .int .i64 0]), 2, 16) := by kernel_rfl

def RC (w : World) (xs : List S71) (e : Ending) (w' : World) : Prop := (∃ A c, e = .returned (.slice A xs.length c) ∧ Ents w' A c xs (fun k => w.heap.size ≤ k)) ∧ Below w.heap.size w w'

theorem ents_of_R {w w0 : World} {v : Value} {xs : List S71} {ok : Nat → Prop} (h : k71.R 71 w w0.heap.size ok v xs) : ∃ A c, v = .slice A xs.length c ∧ Ents w A c xs (fun k => w0.heap.size ≤ k) := by
  obtain ⟨A, c, rfl, hl, hC⟩ := Kd.R_reads h
  obtain ⟨_, inner, ho, _⟩ := h
  refine ⟨A, c, rfl, hC, hl, fun a e => ?_⟩
  subst e
  have hb : (Value.slice (some a) xs.length c).ownBlock = some a.block := rfl
  exact ⟨own_base ho _ hb, own_lt ho _ hb⟩

theorem R_made (w : World) : k71.R 71 (w.alloc (.cells #[] 71)) w.heap.size (fun _ => True) (.slice (some ⟨w.heap.size, 0, none⟩) 0 0) [] :=
  ⟨fun _ _ => trivial, [], ⟨rfl, .inr ⟨w.heap.size, 0, #[], rfl, Nat.le_refl _, heap_alloc_new w _, Nat.le_refl _, by unfold maxLen; omega, rfl, rfl⟩⟩, Reps.none _ _⟩

theorem sclone_any (a : Addr) (c : Nat) (xs : List S71) (w : World) (hr : Kd.C k71 w (some a) xs.length xs) (hn : xs.length ≤ 1000000) :
    Calls Try.prog 98 #[.slice (some a) xs.length c] w (RC w xs) := by
  have HR := Aside0.mk hr
  have hq := fun (W : World) => Lib.run_eql_slice_nil (P := Try.prog) W 31 71 (some a) xs.length c 0 0 Try.underlying31
  clear hr
  go_enter Try.func98, Try.ntmps98
  go_wp2_with (at_builtin; refine Kd.R_append_rows (w0 := w) (W := w.alloc (.cells #[] 71)) (Rr := k71.K (w.alloc (.cells #[] 71))) k71 w.heap.size rfl (.tmp 5) (.tmp 6) 31 71 (.agg #[.int .i64 0, .int .i64 0]) 16 rfl Try.underlying31 info71 rfl (by decide) (by decide) (.slice (some ⟨w.heap.size, 0, none⟩) 0 0) [] xs (some a) xs.length c (fun _ => True) (fun _ => False) rfl rfl (R_made w) (Kd.C_below HR.out (below_alloc (Below.refl _ _) _)) (fun x cs h => by rw [k71_open h]; exact k71_mkM _ _ _ _) (fun _ h => h.elim) (fun _ _ => trivial) (below_alloc (Below.refl _ _) _) (by simp) (by simp; omega) ?_; intro v1 w1 hR1 hB1 hG1 hO1)
  obtain ⟨A', c', rfl, hE⟩ := ents_of_R (w0 := w) hR1
  have HE := Aside0.mk hE
  have HB := Aside0.mk hB1
  clear hR1 hE hB1 hG1 hO1
  go_wp2
  go_ret
  exact ⟨⟨A', c', rfl, HE.out⟩, HB.out⟩

def RL (w : World) (l : S33) (e : Ending) (w' : World) : Prop := (∃ A c, e = .returned (.agg #[.int .i64 l.f0, .int .i64 l.f1, .int .i64 l.f2, .slice A l.f3.length c]) ∧ Ents w' A c l.f3 (fun k => w.heap.size ≤ k)) ∧ Below w.heap.size w w'

theorem clone_any (l : S33) (a : Addr) (c : Nat) (w : World) (hr : Kd.C k71 w (some a) l.f3.length l.f3) (hn : l.f3.length ≤ 1000000) :
    Calls Try.prog 75 #[listV l (some a) c] w (RL w l) := by
  have HR := Aside0.mk hr
  clear hr
  unfold listV
  go_enter Try.func75, Try.ntmps75
  go_wp2_with fail
  refine (sclone_any a c l.f3 _ (by exact Kd.C_below HR.out (below_alloc (below_alloc (Below.refl _ _) _) _)) hn).mono ?_
  rintro e w1 ⟨⟨A', c', rfl, hE⟩, hb⟩
  have k0 := blk_below (blk_alloc (blk_new _ _) _) hb
  have k1 := blk_below (blk_new _ _) hb
  have hs : w.heap.size + 1 < w1.heap.size := by have := hb.size; simp at this; omega
  have c0 := blk_cell k0 0
  have c1 := blk_cell k0 1
  have c2 := blk_cell k0 2
  have c3 := blk_cell k0 3
  have f3 := blk_frozen k0 3
  have d0 := blk_cell k1 0
  have d1 := blk_cell k1 1
  have d2 := blk_cell k1 2
  have d3 := blk_cell k1 3
  have g0 := blk_frozen k1 0
  have g1 := blk_frozen k1 1
  have g2 := blk_frozen k1 2
  have g3 := blk_frozen k1 3
  simp at c0 c1 c2 c3 d0 d1 d2 d3 f3 g0 g1 g2 g3
  have HE := Aside0.mk hE
  have HB := Aside0.mk (below_step (below_alloc (below_alloc (Below.refl _ _) _) _) hb)
  clear hE hb k0 k1 hs
  go_wp2
  refine bodyPost_ret (v := .agg #[.int .i64 l.f0, .int .i64 l.f1, .int .i64 l.f2, .slice A' l.f3.length c']) (by simp [results, Try.results75, go_sem, c0, c1, c2, c3, d0, d1, d2, d3]) rfl ⟨⟨A', c', rfl, ?_⟩, ?_⟩
  · have hE := HE.out
    have hsz : ∀ o1 o2 : Obj, ((w.alloc o1).alloc o2).heap.size = w.heap.size + 2 := fun o1 o2 => by simp
    simp only [hsz] at hE
    exact ⟨row_move hE.row (fun a e => by
        have := (hE.lies a e).1
        rw [Below.heap_setCell _ _ _ _ (by simp; omega), Below.heap_setCell _ _ _ _ (by simp; omega), Below.heap_setCell _ _ _ _ (by simp; omega), Below.heap_setCell _ _ _ _ (by simp; omega), Below.heap_setCell _ _ _ _ (by simp; omega)]),
      hE.cap, fun a e => ⟨by have := (hE.lies a e).1; omega, by have := (hE.lies a e).2; simpa [World.setCell] using this⟩⟩
  · exact ((((HB.out.setCell (by simp) _).setCell (by simp) _).setCell (by simp) _).setCell (by simp) _).setCell (by simp) _

end Go.Proofs.Ytkbjelhmmcifhaa.CF
