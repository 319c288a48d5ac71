/- Package num: try over a string and over an int: the deferred closure in both modes, and try itself, over whatever closure keeps its contract. -/
import Derived.Test.YtdnpgloacdhliaaDoorNumA
import Derived.WideLaws
namespace Go.Proofs.YtdnpgloacdhliaaDoor
open Go.RowKit

theorem any_is : Tryd.prog.underlying 20 = some (.interface (Tryd.prog.methodsAt 20)) := by kernel_rfl
theorem neq_held (u : TypeId) (v : Value) (w : World) : (binOp .neq 20 (.iface u v) .nilIface).run Tryd.prog w = .ok (.bool true) w := run_neq_held_nil w 20 u v any_is
theorem neq_nil (w : World) : (binOp .neq 20 .nilIface .nilIface).run Tryd.prog w = .ok (.bool false) w := run_neq_nil_nil w 20 any_is
theorem assert_noField (v : Value) (w : World) : (Instr.typeAssert (.iface 110 v) 20 110 true).run Tryd.prog w = .ok (.tuple #[v, .bool true]) w := by kernel_rfl
theorem make_func : ∀ (fn : Fn) (first cap : Array Value) (w : World), (Instr.makeFunc fn first cap).run Tryd.prog w = .ok (.func fn first cap) w := fun _ _ _ _ => rfl

theorem cell_alloc {w : World} {b j : Nat} {x : Value} (hc : w.cell? ⟨b, j, none⟩ = some x) : ∀ o, (w.alloc o).cell? ⟨b, j, none⟩ = some x := fun o =>
  (World.cell?_alloc_lt w o ⟨b, j, none⟩ (World.block_lt_of_cell? w _ hc)).trans hc
theorem free_alloc {w : World} {b j : Nat} (hb : b < w.heap.size) (hc : w.frozen? ⟨b, j, none⟩ = false) : ∀ o, (w.alloc o).frozen? ⟨b, j, none⟩ = false := fun o =>
  (World.frozen?_of_block (w := w) (Below.heap_alloc w o b hb)).trans hc

set_option maxHeartbeats 400000 in
theorem tryS1_caught (b : Nat) (x y : Value) (w : World) (hc : w.cell? ⟨b, 0, none⟩ = some x) (hz : w.frozen? ⟨b, 0, none⟩ = false) (hc2 : w.cell? ⟨b + 1, 0, none⟩ = some y) (hz2 : w.frozen? ⟨b + 1, 0, none⟩ = false) (hb : b + 1 < w.heap.size) :
    CallsD Tryd.prog 89 #[.pointer (some ⟨b, 0, none⟩), .pointer (some ⟨b + 1, 0, none⟩)] (.panicking [{ v := noField, recovered := false }]) w fun e u' w' =>
      e = .returned (.tuple #[]) ∧ u' = .panicking [{ v := noField, recovered := true }] ∧ ∃ o, w' = ((w.alloc o).setCell ⟨b, 0, none⟩ (str [])).setCell ⟨b + 1, 0, none⟩ (.bool false) := by
  refine callsD_of_wpS Tryd.func89 rfl fun c₀ cs hu => ?_
  apply wpS_seq
  apply wpS_region
  simp [wpOpsS, go_sem, recoverD, hu, Tryd.ntmps89, Exit.thenS]
  have hfr : (#[Value.pointer (some ⟨b, 0, none⟩), Value.pointer (some ⟨b + 1, 0, none⟩)] ++ ((Array.replicate 16 undef).setIfInBounds 4 noField).setIfInBounds 0 noField : Array Value) =
      #[.pointer (some ⟨b, 0, none⟩), .pointer (some ⟨b + 1, 0, none⟩), noField, undef, undef, undef, noField, undef, undef, undef, undef, undef, undef, undef, undef, undef, undef, undef] := rfl
  rw [hfr]
  clear hfr
  refine wpS_of_wp ?_
  have h1 := neq_held
  have h2 := assert_noField
  have ha := cell_alloc hc
  have hb1 := free_alloc (by omega) hz
  have ha2 := cell_alloc hc2
  have hb2 := free_alloc hb hz2
  go_wp2
  exact ⟨rfl, _, rfl, _, by simp [results, Tryd.results89, go_sem], rfl, rfl, _, rfl⟩

theorem tryS1_idle (p q : Addr) (w : World) :
    CallsD Tryd.prog 89 #[.pointer (some p), .pointer (some q)] .returning w fun e u' w' => e = .returned (.tuple #[]) ∧ u' = .returning ∧ w' = w := by
  refine callsD_of_wpS Tryd.func89 rfl fun c₀ cs hu => ?_
  apply wpS_seq
  apply wpS_region
  simp [wpOpsS, go_sem, recoverD, hu, Tryd.ntmps89, Exit.thenS]
  have hfr : (#[Value.pointer (some p), Value.pointer (some q)] ++ ((Array.replicate 16 undef).setIfInBounds 4 Value.nilIface).setIfInBounds 0 Value.nilIface : Array Value) =
      #[.pointer (some p), .pointer (some q), .nilIface, undef, undef, undef, .nilIface, undef, undef, undef, undef, undef, undef, undef, undef, undef, undef, undef] := rfl
  rw [hfr]
  clear hfr
  refine wpS_of_wp ?_
  have h1 := neq_nil
  go_wp2
  refine ⟨rfl, .returning, ?_, _, by simp [results, Tryd.results89, go_sem], rfl, rfl, rfl⟩
  cases c₀
  simp_all


set_option maxHeartbeats 400000 in
theorem tryI1_caught (b : Nat) (x y : Value) (w : World) (hc : w.cell? ⟨b, 0, none⟩ = some x) (hz : w.frozen? ⟨b, 0, none⟩ = false) (hc2 : w.cell? ⟨b + 1, 0, none⟩ = some y) (hz2 : w.frozen? ⟨b + 1, 0, none⟩ = false) (hb : b + 1 < w.heap.size) :
    CallsD Tryd.prog 99 #[.pointer (some ⟨b, 0, none⟩), .pointer (some ⟨b + 1, 0, none⟩)] (.panicking [{ v := noField, recovered := false }]) w fun e u' w' =>
      e = .returned (.tuple #[]) ∧ u' = .panicking [{ v := noField, recovered := true }] ∧ ∃ o, w' = ((w.alloc o).setCell ⟨b, 0, none⟩ (.int .i64 0)).setCell ⟨b + 1, 0, none⟩ (.bool false) := by
  refine callsD_of_wpS Tryd.func99 rfl fun c₀ cs hu => ?_
  apply wpS_seq
  apply wpS_region
  simp [wpOpsS, go_sem, recoverD, hu, Tryd.ntmps99, Exit.thenS]
  have hfr : (#[Value.pointer (some ⟨b, 0, none⟩), Value.pointer (some ⟨b + 1, 0, none⟩)] ++ ((Array.replicate 16 undef).setIfInBounds 4 noField).setIfInBounds 0 noField : Array Value) =
      #[.pointer (some ⟨b, 0, none⟩), .pointer (some ⟨b + 1, 0, none⟩), noField, undef, undef, undef, noField, undef, undef, undef, undef, undef, undef, undef, undef, undef, undef, undef] := rfl
  rw [hfr]
  clear hfr
  refine wpS_of_wp ?_
  have h1 := neq_held
  have h2 := assert_noField
  have ha := cell_alloc hc
  have hb1 := free_alloc (by omega) hz
  have ha2 := cell_alloc hc2
  have hb2 := free_alloc hb hz2
  go_wp2
  exact ⟨rfl, _, rfl, _, by simp [results, Tryd.results99, go_sem], rfl, rfl, _, rfl⟩

theorem tryI1_idle (p q : Addr) (w : World) :
    CallsD Tryd.prog 99 #[.pointer (some p), .pointer (some q)] .returning w fun e u' w' => e = .returned (.tuple #[]) ∧ u' = .returning ∧ w' = w := by
  refine callsD_of_wpS Tryd.func99 rfl fun c₀ cs hu => ?_
  apply wpS_seq
  apply wpS_region
  simp [wpOpsS, go_sem, recoverD, hu, Tryd.ntmps99, Exit.thenS]
  have hfr : (#[Value.pointer (some p), Value.pointer (some q)] ++ ((Array.replicate 16 undef).setIfInBounds 4 Value.nilIface).setIfInBounds 0 Value.nilIface : Array Value) =
      #[.pointer (some p), .pointer (some q), .nilIface, undef, undef, undef, .nilIface, undef, undef, undef, undef, undef, undef, undef, undef, undef, undef, undef] := rfl
  rw [hfr]
  clear hfr
  refine wpS_of_wp ?_
  have h1 := neq_nil
  go_wp2
  refine ⟨rfl, .returning, ?_, _, by simp [results, Tryd.results99, go_sem], rfl, rfl, rfl⟩
  cases c₀
  simp_all

end Go.Proofs.YtdnpgloacdhliaaDoor
