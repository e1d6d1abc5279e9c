/- Words for the walks over a schedule: the cells of a schedule and of a pair, and lists of entries that are read. No condition. -/
import Derived.Test.YtkbjelhmmcifhaaPChangeFitsx2
import Derived.Test.YtkbjelhmmcifhaaPChangeFitsx3
namespace Go.Proofs.Ytkbjelhmmcifhaa.CF
open Go.RowKit Go.Proofs.YtkbjelhmmcifhaaW.PrintWords Go.Proofs.YtkbjelhmmcifhaaW.PrintLast Go.Proofs.YtkbjelhmmcifhaaW.PrintMore
open Go.Proofs.Ytkbjelhmmcifhaa.PChangeFits (S71 S33 k71 k33 z71 z33 rd_T71)

/-- A slice of entries that reads as xs; its array is no block that is not ok. -/
structure Ents (w : World) (A : Option Addr) (c : Nat) (xs : List S71) (ok : Nat → Prop) : Prop where
  row : Kd.C k71 w A xs.length xs
  cap : xs.length ≤ c
  lies : ∀ a, A = some a → ok a.block ∧ a.block < w.heap.size

theorem k71_any {w w1 : World} {x : S71} {cs : List Value} (h : k71.K w x cs) : k71.K w1 x cs := h

theorem row_move {w w1 : World} {A : Option Addr} {n : Nat} {xs : List S71} (h : Kd.C k71 w A n xs) (hm : ∀ a, A = some a → w1.heap[a.block]? = w.heap[a.block]?) : Kd.C k71 w1 A n xs :=
  ⟨h.1, h.2.1, fun hn => by
    obtain ⟨ad, e, hc⟩ := h.2.2 hn
    refine ⟨ad, e, fun j p hj => ?_⟩
    obtain ⟨c, hs, hr, hcell⟩ := hc j p hj
    refine ⟨c, hs, hr, fun i u hu => ?_⟩
    have hb : (ad.add (j * k71.sz + i)).block = ad.block := by unfold Addr.add; split <;> rfl
    rw [World.cell?_of_block (w := w) (by rw [hb]; exact hm ad e)]
    exact hcell i u hu⟩

theorem Ents.move {w w1 : World} {A : Option Addr} {c : Nat} {xs : List S71} {ok : Nat → Prop} (h : Ents w A c xs ok) (hs : w.heap.size ≤ w1.heap.size) (hm : ∀ k, ok k → k < w.heap.size → w1.heap[k]? = w.heap[k]?) : Ents w1 A c xs ok :=
  ⟨row_move h.row (fun a e => hm _ (h.lies a e).1 (h.lies a e).2), h.cap, fun a e => ⟨(h.lies a e).1, Nat.lt_of_lt_of_le (h.lies a e).2 hs⟩⟩

structure Sch where
  o : S33
  a : S33
  has : Bool
  waits : Bool
  at_ : Int
  chg : Int
  rep : Int

def schCells (S : Sch) (A3 : Option Addr) (c3 : Nat) (A7 : Option Addr) (c7 : Nat) : Array Value :=
  #[.int .i64 S.o.f0, .int .i64 S.o.f1, .int .i64 S.o.f2, .slice A3 S.o.f3.length c3, .int .i64 S.a.f0, .int .i64 S.a.f1, .int .i64 S.a.f2, .slice A7 S.a.f3.length c7, .bool S.has, .bool S.waits, .int .i64 S.at_, .int .i64 S.chg, .int .i64 S.rep]

/-- A schedule's state at block g of w. -/
structure IsSch (w : World) (g : Nat) (S : Sch) (A3 : Option Addr) (c3 : Nat) (A7 : Option Addr) (c7 : Nat) : Prop where
  blk : w.heap[g]? = some (.cells (schCells S A3 c3 A7 c7) 80 (0, 0))
  oe : Ents w A3 c3 S.o.f3 (· ≠ g)
  ae : Ents w A7 c7 S.a.f3 (· ≠ g)

theorem moved_any (w : World) (g : Nat) (S : Sch) (A3 : Option Addr) (c3 : Nat) (A7 : Option Addr) (c7 : Nat) (h : IsSch w g S A3 c3 A7 c7) :
    Calls Try.prog 77 #[.pointer (some ⟨g, 0, none⟩)] w fun e w' => e = .returned (.agg #[.int .i64 S.at_, .int .i64 S.a.f1, .int .i64 S.a.f2, .slice A7 S.a.f3.length c7]) ∧ Below w.heap.size w w' := by
  have hb := h.blk
  have c4 := blk_cell hb 4
  have c5 := blk_cell hb 5
  have c6 := blk_cell hb 6
  have c7' := blk_cell hb 7
  have c10 := blk_cell hb 10
  have hg := blk_lt hb
  simp [schCells] at c4 c5 c6 c7' c10
  clear hb h
  go_enter Try.func77, Try.ntmps77
  go_wp2
  refine bodyPost_ret (v := .agg #[.int .i64 S.at_, .int .i64 S.a.f1, .int .i64 S.a.f2, .slice A7 S.a.f3.length c7]) (by simp [results, Try.results77, go_sem]) rfl ⟨rfl, ?_⟩
  exact below_alloc (below_alloc (Below.refl _ _) _) _

end Go.Proofs.Ytkbjelhmmcifhaa.CF
