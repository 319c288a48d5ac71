/- Package head: the deferred closure of Get: the walk in both modes. -/
import Derived.Test.YtdnpgloacdhliaaDoorHeadF
namespace Go.Proofs.YtdnpgloacdhliaaDoor
open Go.RowKit

def zeroHd : Hd := ⟨[], 0, 0, 0, 0, 0, 0, [], [], [], 0, 0, []⟩

/-- The blocks of Get that it hands back. -/
structure GD (b : Nat) (w0 : World) (cs : Array Value) (e : Int) (w : World) : Prop where
  box : w.heap[b]? = some (.cells cs 26 (0, 0))
  err : w.heap[b + 1]? = some (.cells #[.int .i64 e] 29 (0, 0))
  below : Below b w0 w
theorem GS.toGD {b : Nat} {s : List UInt8} {w0 w : World} {at_ : Nat} {cs : Array Value} (h : GS b s w0 at_ cs w) : GD b w0 cs 0 w := ⟨h.box, h.err, h.below⟩

theorem GD.store {b : Nat} {w0 w : World} {cs : Array Value} {e : Int} (h : GD b w0 cs e w) (j : Nat) (v : Value) : GD b w0 (cs.setIfInBounds j v) e (w.setCell ⟨b, j, none⟩ v) :=
  ⟨row_setCell h.box v, (Below.heap_setCell _ _ _ _ (by simp)).trans h.err, h.below.setCell (Nat.le_refl _) _⟩
theorem GD.say {b : Nat} {w0 w : World} {cs : Array Value} {e : Int} (h : GD b w0 cs e w) (n : Int) : GD b w0 cs n (w.setCell ⟨b + 1, 0, none⟩ (.int .i64 n)) :=
  ⟨(Below.heap_setCell _ _ _ _ (by show b ≠ b + 1; omega)).trans h.box, row_setCell h.err _, h.below.setCell (by show b ≤ b + 1; omega) _⟩
theorem GD.lt {b : Nat} {w0 w : World} {cs : Array Value} {e : Int} (h : GD b w0 cs e w) : b + 1 < w.heap.size := (Array.getElem?_eq_some_iff.1 h.err).1
theorem GD.alloc {b : Nat} {w0 w : World} {cs : Array Value} {e : Int} (h : GD b w0 cs e w) (o : Obj) : GD b w0 cs e (w.alloc o) :=
  have := h.lt
  ⟨(Below.heap_alloc _ _ _ (by omega)).trans h.box, (Below.heap_alloc _ _ _ (by omega)).trans h.err, h.below.alloc (by omega) _⟩
theorem GD.drew {b : Nat} {w0 w : World} {cs : Array Value} {e : Int} (h : GD b w0 cs e w) : GD b w0 cs e w.drew := ⟨h.box, h.err, h.below.drew⟩
theorem size13 {cs : Array Value} (h : cs.size = 13) : ∃ x0 x1 x2 x3 x4 x5 x6 x7 x8 x9 x10 x11 x12, cs = #[x0, x1, x2, x3, x4, x5, x6, x7, x8, x9, x10, x11, x12] := by
  rcases cs with ⟨l⟩
  simp only [List.size_toArray] at h
  iterate 13 (rcases l with _ | ⟨_, l⟩; · simp at h)
  obtain rfl : l = [] := by
    cases l with
    | nil => rfl
    | cons _ _ => simp at h
  exact ⟨_, _, _, _, _, _, _, _, _, _, _, _, _, rfl⟩

theorem assert_noHeader (v : Value) (w : World) : (Instr.typeAssert (.iface 51 v) 20 51 true).run Tryd.prog w = .ok (.tuple #[v, .bool true]) w := by kernel_rfl

set_option maxHeartbeats 1600000 in
set_option maxRecDepth 20000 in
theorem Get1_caught (b : Nat) (at_ : Int) (w0 : World) (cs : Array Value) (w : World) (h : GD b w0 cs 0 w) (hs : cs.size = 13) :
    CallsD Tryd.prog 22 #[.pointer (some ⟨b, 0, none⟩), .pointer (some ⟨b + 1, 0, none⟩)] (.panicking [{ v := noHeader at_, recovered := false }]) w fun e u' w' =>
      e = .returned (.tuple #[]) ∧ u' = .panicking [{ v := noHeader at_, recovered := true }] ∧ GD b w0 (hcells zeroHd) 4 w' := by
  refine callsD_of_wpS Tryd.func22 rfl fun c₀ cs' hu => ?_
  apply wpS_seq
  apply wpS_region
  simp [wpOpsS, go_sem, recoverD, hu, Tryd.ntmps22, Exit.thenS]
  have hfr : (#[Value.pointer (some ⟨b, 0, none⟩), Value.pointer (some ⟨b + 1, 0, none⟩)] ++ ((Array.replicate 15 undef).setIfInBounds 3 (noHeader at_)).setIfInBounds 0 (noHeader at_) : Array Value) =
      #[.pointer (some ⟨b, 0, none⟩), .pointer (some ⟨b + 1, 0, none⟩), noHeader at_, undef, undef, noHeader at_, undef, undef, undef, undef, undef, undef, undef, undef, undef, undef, undef] := rfl
  rw [hfr]
  clear hfr
  refine wpS_of_wp ?_
  have h1 := neq_held
  have h2 := assert_noHeader
  obtain ⟨x0, x1, x2, x3, x4, x5, x6, x7, x8, x9, x10, x11, x12, rfl⟩ := size13 hs
  have Hh := Lib.hid h
  have q := fun j => cell_of_row w b j _ _ _ h.box
  have hb1 : b + 1 < w.heap.size := (Array.getElem?_eq_some_iff.1 h.err).1
  have hfree : ∀ j, w.frozen? ⟨b, j, none⟩ = false := fun j => frozen_of_row w b j _ _ h.box
  have a0 := cell_alloc (show w.cell? ⟨b, 0, none⟩ = some x0 from q 0)
  have g0 := free_alloc (by omega) (hfree 0)
  have a1 := cell_alloc (show w.cell? ⟨b, 1, none⟩ = some x1 from q 1)
  have g1 := free_alloc (by omega) (hfree 1)
  have a2 := cell_alloc (show w.cell? ⟨b, 2, none⟩ = some x2 from q 2)
  have g2 := free_alloc (by omega) (hfree 2)
  have a3 := cell_alloc (show w.cell? ⟨b, 3, none⟩ = some x3 from q 3)
  have g3 := free_alloc (by omega) (hfree 3)
  have a4 := cell_alloc (show w.cell? ⟨b, 4, none⟩ = some x4 from q 4)
  have g4 := free_alloc (by omega) (hfree 4)
  have a5 := cell_alloc (show w.cell? ⟨b, 5, none⟩ = some x5 from q 5)
  have g5 := free_alloc (by omega) (hfree 5)
  have a6 := cell_alloc (show w.cell? ⟨b, 6, none⟩ = some x6 from q 6)
  have g6 := free_alloc (by omega) (hfree 6)
  have a7 := cell_alloc (show w.cell? ⟨b, 7, none⟩ = some x7 from q 7)
  have g7 := free_alloc (by omega) (hfree 7)
  have a8 := cell_alloc (show w.cell? ⟨b, 8, none⟩ = some x8 from q 8)
  have g8 := free_alloc (by omega) (hfree 8)
  have a9 := cell_alloc (show w.cell? ⟨b, 9, none⟩ = some x9 from q 9)
  have g9 := free_alloc (by omega) (hfree 9)
  have a10 := cell_alloc (show w.cell? ⟨b, 10, none⟩ = some x10 from q 10)
  have g10 := free_alloc (by omega) (hfree 10)
  have a11 := cell_alloc (show w.cell? ⟨b, 11, none⟩ = some x11 from q 11)
  have g11 := free_alloc (by omega) (hfree 11)
  have a12 := cell_alloc (show w.cell? ⟨b, 12, none⟩ = some x12 from q 12)
  have g12 := free_alloc (by omega) (hfree 12)
  have a' := cell_alloc (show w.cell? ⟨b + 1, 0, none⟩ = some (.int .i64 0) from cell_of_row w (b + 1) 0 _ _ _ h.err)
  have g' := free_alloc (by omega) (frozen_of_row w (b + 1) 0 _ _ h.err)
  clear q hfree h hs
  unfold noHeader
  go_wp2
  have hG := ((((((((((((((Hh.out.alloc (.cells #[.int .i64 at_] 51)).store 0 (.string ⟨#[]⟩)).store 1 (.int .i64 0)).store 2 (.int .i64 0)).store 3 (.int .i64 0)).store 4 (.int .i64 0)).store 5 (.int .i64 0)).store 6 (.int .u8 0)).store 7 (.string ⟨#[]⟩)).store 8 (.string ⟨#[]⟩)).store 9 (.string ⟨#[]⟩)).store 10 (.int .i64 0)).store 11 (.int .i64 0)).store 12 (.string ⟨#[]⟩)).say 4
  simp only [List.setIfInBounds_toArray, List.set_cons_zero, List.set_cons_succ] at hG
  clear a0 a1 a2 a3 a4 a5 a6 a7 a8 a9 a10 a11 a12 g0 g1 g2 g3 g4 g5 g6 g7 g8 g9 g10 g11 g12
  exact ⟨rfl, _, rfl, _, by simp [results, Tryd.results22, go_sem], rfl, rfl, hG⟩

theorem Get1_idle (p q : Addr) (w : World) :
    CallsD Tryd.prog 22 #[.pointer (some p), .pointer (some q)] .returning w fun e u' w' => e = .returned (.tuple #[]) ∧ u' = .returning ∧ w' = w := by
  refine callsD_of_wpS Tryd.func22 rfl fun c₀ cs hu => ?_
  apply wpS_seq
  apply wpS_region
  simp [wpOpsS, go_sem, recoverD, hu, Tryd.ntmps22, Exit.thenS]
  have hfr : (#[Value.pointer (some p), Value.pointer (some q)] ++ ((Array.replicate 15 undef).setIfInBounds 3 Value.nilIface).setIfInBounds 0 Value.nilIface : Array Value) =
      #[.pointer (some p), .pointer (some q), .nilIface, undef, undef, .nilIface, undef, undef, undef, undef, undef, undef, undef, undef, undef, undef, undef] := rfl
  rw [hfr]
  clear hfr
  refine wpS_of_wp ?_
  have h1 := neq_nil
  go_wp2
  refine ⟨rfl, .returning, ?_, _, by simp [results, Tryd.results22, go_sem], rfl, rfl, rfl⟩
  cases c₀
  simp_all
end Go.Proofs.YtdnpgloacdhliaaDoor
