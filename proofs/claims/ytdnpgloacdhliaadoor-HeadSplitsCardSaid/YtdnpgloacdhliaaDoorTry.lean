/- Package num: try over a string and over an int, over whatever closure keeps its contract. -/
import Derived.Test.YtdnpgloacdhliaaDoorTryA
namespace Go.Proofs.YtdnpgloacdhliaaDoor
open Go.RowKit

set_option maxRecDepth 20000 in
/-- try, where the closure returns. -/
theorem tryS_yes (f : Nat) (cap : Array Value) (l : List UInt8) (w : World) (hent : ∀ W, (callFunc f cap).run Tryd.prog W = .ok (.enter f cap) W)
    (hcall : ∀ w1, Below w.heap.size w w1 → Calls Tryd.prog f cap w1 (Ret (str l) w1)) :
    Calls Tryd.prog 62 #[.func (.func f) #[] cap] w (Ret (.tuple #[(str l), .bool true]) w) := by
  have hmf := make_func
  have Hc := Lib.hid hcall
  clear hcall
  go_enter_defers Tryd.func62, Tryd.ntmps62
  go_wp2_with fail
  refine (Hc.out _ ((Below.refl _ _).alloc (Nat.le_refl _) _ |>.alloc (by simp) _)).mono ?_
  rintro e w1 ⟨rfl, hb⟩
  obtain ⟨c0, f0, c1, f1, hsz, hbl⟩ := two_new hb
  have c00 := c0 0
  have c10 := c1 0
  have f00 := f0 0
  have f10 := f1 0
  clear hb c0 c1 f0 f1
  go_wp2
  refine leaves_cons (f := 89) (args := #[.pointer (some ⟨w.heap.size, 0, none⟩), .pointer (some ⟨w.heap.size + 1, 0, none⟩)]) (by simp) (by simp [go_sem]) ?_
  refine (tryS1_idle _ _ _).mono ?_
  rintro e u' w'' ⟨rfl, rfl, rfl⟩
  have d0 : ((w1.setCell ⟨w.heap.size, 0, none⟩ (str l)).setCell ⟨w.heap.size + 1, 0, none⟩ (.bool true)).cell? ⟨w.heap.size, 0, none⟩ = some (str l) := by
    rw [World.cell?_setCell_other _ _ _ _ (by simp), World.cell?_setCell_same _ _ _ c00]
  have d1 : ((w1.setCell ⟨w.heap.size, 0, none⟩ (str l)).setCell ⟨w.heap.size + 1, 0, none⟩ (.bool true)).cell? ⟨w.heap.size + 1, 0, none⟩ = some (.bool true) :=
    World.cell?_setCell_same _ _ _ ((World.cell?_setCell_other _ _ _ _ (by simp)).trans c10)
  simp [Leaves, settle, results, Tryd.results62, go_sem, d0, d1]
  exact ⟨rfl, (hbl.setCell (by simp) _).setCell (by simp) _⟩

set_option maxRecDepth 20000 in
/-- try, where the closure ends in the package's own panic. -/
theorem tryS_no (f : Nat) (cap : Array Value) (w : World) (hent : ∀ W, (callFunc f cap).run Tryd.prog W = .ok (.enter f cap) W)
    (hcall : ∀ w1, Below w.heap.size w w1 → Calls Tryd.prog f cap w1 (Pan noField w1)) :
    Calls Tryd.prog 62 #[.func (.func f) #[] cap] w (Ret (.tuple #[(str []), .bool false]) w) := by
  have hmf := make_func
  have Hc := Lib.hid hcall
  clear hcall
  go_enter_defers Tryd.func62, Tryd.ntmps62
  go_wp2_with fail
  refine (Hc.out _ ((Below.refl _ _).alloc (Nat.le_refl _) _ |>.alloc (by simp) _)).mono ?_
  rintro e w1 ⟨rfl, hb⟩
  obtain ⟨c0, f0, c1, f1, hsz, hbl⟩ := two_new hb
  have c00 := c0 0
  have c10 := c1 0
  have f00 := f0 0
  have f10 := f1 0
  clear hb c0 c1 f0 f1
  refine leaves_cons (f := 89) (args := #[.pointer (some ⟨w.heap.size, 0, none⟩), .pointer (some ⟨w.heap.size + 1, 0, none⟩)]) (by simp) (by simp [go_sem]) ?_
  refine (tryS1_caught w.heap.size _ _ w1 c00 f00 c10 f10 hsz).mono ?_
  rintro e u' w'' ⟨rfl, rfl, o, rfl⟩
  have d0 : (((w1.alloc o).setCell ⟨w.heap.size, 0, none⟩ (str [])).setCell ⟨w.heap.size + 1, 0, none⟩ (.bool false)).cell? ⟨w.heap.size, 0, none⟩ = some (str []) := by
    rw [World.cell?_setCell_other _ _ _ _ (by simp), World.cell?_setCell_same _ _ _ (cell_alloc c00 o)]
  have d1 : (((w1.alloc o).setCell ⟨w.heap.size, 0, none⟩ (str [])).setCell ⟨w.heap.size + 1, 0, none⟩ (.bool false)).cell? ⟨w.heap.size + 1, 0, none⟩ = some (.bool false) :=
    World.cell?_setCell_same _ _ _ ((World.cell?_setCell_other _ _ _ _ (by simp)).trans (cell_alloc c10 o))
  simp [Leaves, settle, results, Tryd.results62, go_sem, d0, d1]
  exact ⟨rfl, ((hbl.alloc (by omega) _).setCell (by simp) _).setCell (by simp) _⟩

set_option maxRecDepth 20000 in
/-- try, where the closure returns. -/
theorem tryI_yes (f : Nat) (cap : Array Value) (l : Int) (w : World) (hent : ∀ W, (callFunc f cap).run Tryd.prog W = .ok (.enter f cap) W)
    (hcall : ∀ w1, Below w.heap.size w w1 → Calls Tryd.prog f cap w1 (Ret (.int .i64 l) w1)) :
    Calls Tryd.prog 80 #[.func (.func f) #[] cap] w (Ret (.tuple #[(.int .i64 l), .bool true]) w) := by
  have hmf := make_func
  have Hc := Lib.hid hcall
  clear hcall
  go_enter_defers Tryd.func80, Tryd.ntmps80
  go_wp2_with fail
  refine (Hc.out _ ((Below.refl _ _).alloc (Nat.le_refl _) _ |>.alloc (by simp) _)).mono ?_
  rintro e w1 ⟨rfl, hb⟩
  obtain ⟨c0, f0, c1, f1, hsz, hbl⟩ := two_new hb
  have c00 := c0 0
  have c10 := c1 0
  have f00 := f0 0
  have f10 := f1 0
  clear hb c0 c1 f0 f1
  go_wp2
  refine leaves_cons (f := 99) (args := #[.pointer (some ⟨w.heap.size, 0, none⟩), .pointer (some ⟨w.heap.size + 1, 0, none⟩)]) (by simp) (by simp [go_sem]) ?_
  refine (tryI1_idle _ _ _).mono ?_
  rintro e u' w'' ⟨rfl, rfl, rfl⟩
  have d0 : ((w1.setCell ⟨w.heap.size, 0, none⟩ (.int .i64 l)).setCell ⟨w.heap.size + 1, 0, none⟩ (.bool true)).cell? ⟨w.heap.size, 0, none⟩ = some (.int .i64 l) := by
    rw [World.cell?_setCell_other _ _ _ _ (by simp), World.cell?_setCell_same _ _ _ c00]
  have d1 : ((w1.setCell ⟨w.heap.size, 0, none⟩ (.int .i64 l)).setCell ⟨w.heap.size + 1, 0, none⟩ (.bool true)).cell? ⟨w.heap.size + 1, 0, none⟩ = some (.bool true) :=
    World.cell?_setCell_same _ _ _ ((World.cell?_setCell_other _ _ _ _ (by simp)).trans c10)
  simp [Leaves, settle, results, Tryd.results80, go_sem, d0, d1]
  exact ⟨rfl, (hbl.setCell (by simp) _).setCell (by simp) _⟩

set_option maxRecDepth 20000 in
/-- try, where the closure ends in the package's own panic. -/
theorem tryI_no (f : Nat) (cap : Array Value) (w : World) (hent : ∀ W, (callFunc f cap).run Tryd.prog W = .ok (.enter f cap) W)
    (hcall : ∀ w1, Below w.heap.size w w1 → Calls Tryd.prog f cap w1 (Pan noField w1)) :
    Calls Tryd.prog 80 #[.func (.func f) #[] cap] w (Ret (.tuple #[(.int .i64 0), .bool false]) w) := by
  have hmf := make_func
  have Hc := Lib.hid hcall
  clear hcall
  go_enter_defers Tryd.func80, Tryd.ntmps80
  go_wp2_with fail
  refine (Hc.out _ ((Below.refl _ _).alloc (Nat.le_refl _) _ |>.alloc (by simp) _)).mono ?_
  rintro e w1 ⟨rfl, hb⟩
  obtain ⟨c0, f0, c1, f1, hsz, hbl⟩ := two_new hb
  have c00 := c0 0
  have c10 := c1 0
  have f00 := f0 0
  have f10 := f1 0
  clear hb c0 c1 f0 f1
  refine leaves_cons (f := 99) (args := #[.pointer (some ⟨w.heap.size, 0, none⟩), .pointer (some ⟨w.heap.size + 1, 0, none⟩)]) (by simp) (by simp [go_sem]) ?_
  refine (tryI1_caught w.heap.size _ _ w1 c00 f00 c10 f10 hsz).mono ?_
  rintro e u' w'' ⟨rfl, rfl, o, rfl⟩
  have d0 : (((w1.alloc o).setCell ⟨w.heap.size, 0, none⟩ (.int .i64 0)).setCell ⟨w.heap.size + 1, 0, none⟩ (.bool false)).cell? ⟨w.heap.size, 0, none⟩ = some (.int .i64 0) := by
    rw [World.cell?_setCell_other _ _ _ _ (by simp), World.cell?_setCell_same _ _ _ (cell_alloc c00 o)]
  have d1 : (((w1.alloc o).setCell ⟨w.heap.size, 0, none⟩ (.int .i64 0)).setCell ⟨w.heap.size + 1, 0, none⟩ (.bool false)).cell? ⟨w.heap.size + 1, 0, none⟩ = some (.bool false) :=
    World.cell?_setCell_same _ _ _ ((World.cell?_setCell_other _ _ _ _ (by simp)).trans (cell_alloc c10 o))
  simp [Leaves, settle, results, Tryd.results80, go_sem, d0, d1]
  exact ⟨rfl, ((hbl.alloc (by omega) _).setCell (by simp) _).setCell (by simp) _⟩

end Go.Proofs.YtdnpgloacdhliaaDoor
