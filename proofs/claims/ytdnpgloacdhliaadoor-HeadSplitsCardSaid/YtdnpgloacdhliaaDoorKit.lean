/- Small words that the walks of this seat share: hiding, worlds below, rows of the call's own. -/
import Derived.Test.YtdnpgloacdhliaaDoorProg
import Derived.WalkKit
import Derived.WalkLawsBesides
import Derived.WalkSpells
import Derived.KernelRfl
import Derived.Lib.Hide
import Derived.Deep.Draws
import Derived.Deep.LoopGhost
import Derived.Laws.MakeOwn
import Derived.Laws.OwnMore
import Derived.Maps.AppendAt
namespace Go.Proofs.YtdnpgloacdhliaaDoor
open Go.RowKit

/-- The text of a list of bytes. -/
abbrev str (l : List UInt8) : Value := .string ⟨l.toArray⟩

theorem blw_drewN {B : Nat} {a w : World} (h : Below B a w) (n : Nat) : Below B a (w.drewN n) := ⟨h.os, h.tape, h.output, h.size, h.block⟩

/-- What a call that makes memory and returns leaves: a value, and a world that is as it was below the caller's heap. -/
def Ret (v : Value) (w : World) : Ending → World → Prop := fun e w' => e = .returned v ∧ Below w.heap.size w w'
/-- The same for a call that ends in a panic of this text's own. -/
def Pan (v : Value) (w : World) : Ending → World → Prop := fun e w' => e = .panicked [{ v, recovered := false }] ∧ Below w.heap.size w w'

/-- What a call leaves that returns a value or ends in the panic 'p'. -/
def RP (p : Value) (o : Option Value) (w : World) : Ending → World → Prop := match o with
  | some v => Ret v w
  | none => Pan p w

theorem Ret.from {v : Value} {w w1 : World} {e : Ending} {w' : World} (h : Ret v w1 e w') (hb : Below w.heap.size w w1) : Ret v w e w' :=
  ⟨h.1, hb.trans (h.2.mono hb.size)⟩
theorem Pan.from {v : Value} {w w1 : World} {e : Ending} {w' : World} (h : Pan v w1 e w') (hb : Below w.heap.size w w1) : Pan v w e w' :=
  ⟨h.1, hb.trans (h.2.mono hb.size)⟩
theorem RP.from {p : Value} {o : Option Value} {w w1 : World} {e : Ending} {w' : World} (h : RP p o w1 e w') (hb : Below w.heap.size w w1) : RP p o w e w' := by
  cases o with
  | some v => exact Ret.from h hb
  | none => exact Pan.from h hb

theorem bcell {W w1 : World} (hb : Below W.heap.size W w1) : (∀ b o, b < W.heap.size → w1.cell? ⟨b, o, none⟩ = W.cell? ⟨b, o, none⟩) ∧ (∀ b o, b < W.heap.size → w1.frozen? ⟨b, o, none⟩ = W.frozen? ⟨b, o, none⟩) :=
  ⟨fun b o h => hb.cell (p := ⟨b, o, none⟩) h, fun b o h => hb.frozen (p := ⟨b, o, none⟩) h⟩

/-! ### New blocks -/
theorem cell_new (w : World) (cs : Array Value) (t : TypeId) (i : Nat) : (w.alloc (.cells cs t)).cell? ⟨w.heap.size, i, none⟩ = cs[i]? :=
  cell_of_row _ _ i cs t (0, 0) (heap_alloc_new w _)
theorem frozen_new (w : World) (cs : Array Value) (t : TypeId) (i : Nat) : (w.alloc (.cells cs t)).frozen? ⟨w.heap.size, i, none⟩ = false := by
  have h := heap_alloc_new w (.cells cs t)
  unfold World.frozen?
  rw [h]
  simp
theorem one_new {w w1 : World} {cs : Array Value} {t : TypeId} (hb : Below (w.alloc (.cells cs t)).heap.size (w.alloc (.cells cs t)) w1) :
    (∀ i, w1.cell? ⟨w.heap.size, i, none⟩ = cs[i]?) ∧ (∀ i, w1.frozen? ⟨w.heap.size, i, none⟩ = false) ∧ w.heap.size < w1.heap.size ∧ Below w.heap.size w w1 := by
  have hz : (w.alloc (.cells cs t)).heap.size = w.heap.size + 1 := by simp
  have hs := hb.size
  refine ⟨fun i => ?_, fun i => ?_, by omega, ((Below.refl _ _).alloc (Nat.le_refl _) _).trans (hb.mono (by omega))⟩
  · rw [hb.cell (p := ⟨w.heap.size, i, none⟩) (by rw [hz]; exact Nat.lt_succ_self _), cell_new]
  · rw [hb.frozen (p := ⟨w.heap.size, i, none⟩) (by rw [hz]; exact Nat.lt_succ_self _), frozen_new]
theorem two_new {w w1 : World} {cs ds : Array Value} {t s : TypeId} (hb : Below ((w.alloc (.cells cs t)).alloc (.cells ds s)).heap.size ((w.alloc (.cells cs t)).alloc (.cells ds s)) w1) :
    (∀ i, w1.cell? ⟨w.heap.size, i, none⟩ = cs[i]?) ∧ (∀ i, w1.frozen? ⟨w.heap.size, i, none⟩ = false) ∧
    (∀ i, w1.cell? ⟨w.heap.size + 1, i, none⟩ = ds[i]?) ∧ (∀ i, w1.frozen? ⟨w.heap.size + 1, i, none⟩ = false) ∧ w.heap.size + 1 < w1.heap.size ∧ Below w.heap.size w w1 := by
  have hz : (w.alloc (.cells cs t)).heap.size = w.heap.size + 1 := by simp
  obtain ⟨a, b, c, d⟩ := one_new hb
  obtain ⟨a', b', c', d'⟩ := one_new (d.mono (Nat.le_refl _))
  rw [hz] at a b c
  exact ⟨a', b', a, b, c, d'⟩

/-! ### Bits -/
theorem ofInt_i64 (a : Nat) (ha : a < 9223372036854775808) : (BitVec.ofInt 64 (a : Int)).toNat = a := by
  rw [BitVec.ofInt_natCast, BitVec.toNat_ofNat]; exact Nat.mod_eq_of_lt (by omega)
theorem i64_and_nat (a b : Nat) (ha : a < 9223372036854775808) (hb : b < 9223372036854775808) : bits .and .i64 (a : Int) (b : Int) = ((a &&& b : Nat) : Int) := by
  have hx : a &&& b < 2 ^ 63 := Nat.and_lt_two_pow _ (by omega)
  show IntKind.i64.wrap ((BitVec.ofInt 64 (a : Int) &&& BitVec.ofInt 64 (b : Int)).toNat : Int) = _
  rw [BitVec.toNat_and, ofInt_i64 a ha, ofInt_i64 b hb, IntKind.wrap_i64]
  omega
theorem i64_and7 (a : Nat) (ha : a < 9223372036854775808) : bits .and .i64 (a : Int) 7 = ((a % 8 : Nat) : Int) := by
  have h := i64_and_nat a 7 ha (by omega)
  rw [show ((7 : Nat) : Int) = 7 from rfl] at h
  rw [h, show (7 : Nat) = 2 ^ 3 - 1 from rfl, Nat.and_two_pow_sub_one_eq_mod]

/-! ### Rows of bytes of the call's own -/
/-- Bytes as cells. -/
def bv (l : List UInt8) : List Value := l.map fun b => .int .u8 b.toNat
theorem bv_length (l : List UInt8) : (bv l).length = l.length := by simp [bv]
theorem bv_append (l m : List UInt8) : bv (l ++ m) = bv l ++ bv m := by simp [bv]
theorem bv_set (l : List UInt8) (i : Nat) (b : UInt8) : (bv l).set i (.int .u8 b.toNat) = bv (l.set i b) := by simp [bv, List.map_set]
theorem bv_made (n : Nat) : (madeCells (Value.int IntKind.u8 0).cells (n * 1)).toList = bv (List.replicate n 0) := by
  rw [Nat.mul_one]
  show (madeCells #[Value.int IntKind.u8 0] n).toList = _
  rw [toList_madeCells_one]
  simp [bv]
theorem bv_at (l : List UInt8) (i : Nat) (h : i < l.length) : (bv l)[i]? = some (.int .u8 (l[i].toNat : Int)) := by
  simp [bv, List.getElem?_eq_getElem h]

/-- A row of bytes of the call's own, in block g. -/
abbrev OwnB (w : World) (base g n cap : Nat) (l : List UInt8) : Prop := w.ownsRow base 5 1 (.slice (some ⟨g, 0, none⟩) n cap) n (bv l)

theorem OwnB.len {w : World} {base g n cap : Nat} {l : List UInt8} (h : OwnB w base g n cap l) : l.length = n := by
  have := h.1
  rw [bv_length] at this
  omega
theorem OwnB.cell {w : World} {base g n cap : Nat} {l : List UInt8} (h : OwnB w base g n cap l) (i : Nat) (hi : i < l.length) :
    w.cell? ⟨g, i, none⟩ = some (.int .u8 (l[i].toNat : Int)) ∧ w.frozen? ⟨g, i, none⟩ = false := by
  have hl := h.len
  refine ⟨?_, World.ownsRow.frozenAt h i⟩
  rw [World.ownsRow.cellAt h i (by omega)]
  exact bv_at l i hi
/-- Enough for a store. -/
theorem OwnB.there {w : World} {base g n cap : Nat} {l : List UInt8} (h : OwnB w base g n cap l) (i : Nat) (hi : i < n) :
    ∃ v, w.cell? ⟨g, i, none⟩ = some v ∧ w.frozen? ⟨g, i, none⟩ = false := by
  have hl := h.len
  exact ⟨_, h.cell i (by omega)⟩
theorem OwnB.store {w : World} {base g n cap : Nat} {l : List UInt8} (h : OwnB w base g n cap l) (i : Nat) (b : UInt8) :
    OwnB (w.setCell ⟨g, i, none⟩ (.int .u8 b.toNat)) base g n cap (l.set i b) := by
  have hs := (World.ownsRow.stored h i (.int .u8 b.toNat)).1
  rwa [bv_set] at hs
theorem OwnB.base_le {w : World} {base g n cap : Nat} {l : List UInt8} (h : OwnB w base g n cap l) : base ≤ g := (h.lt g rfl).1
theorem OwnB.block_lt {w : World} {base g n cap : Nat} {l : List UInt8} (h : OwnB w base g n cap l) : g < w.heap.size := (h.lt g rfl).2
theorem strOf_bv (l : List UInt8) : strOfNums (l.map fun b => (b.toNat : Int)) = ⟨l.toArray⟩ := by
  unfold strOfNums
  congr 2
  rw [List.map_map]
  conv => rhs; rw [← List.map_id l]
  apply List.map_congr_left
  intro b _
  simp
theorem add_plain (g j : Nat) : (⟨g, 0, none⟩ : Addr).add j = ⟨g, j, none⟩ := by unfold Addr.add; split <;> simp_all
/-- 'string(b)' of such a row. -/
theorem OwnB.toStr {w : World} {base g n cap : Nat} {l : List UInt8} (h : OwnB w base g n cap l) :
    (convert 34 9 (.slice (some ⟨g, 0, none⟩) n cap)).run Tryd.prog w = .ok (str l) w := by
  have hl := h.len
  have hr := run_convert_bytes_arg (P := Tryd.prog) w 34 5 Tryd.underlying34 Tryd.underlying5 g 0 n cap (l.map fun b => (b.toNat : Int)) (by simpa using hl)
    (fun i hi => by
      have hc := (h.cell i (by omega)).1
      rw [Nat.zero_add, hc]
      simp [List.getD_eq_getElem?_getD, List.getElem?_eq_getElem (show i < l.length by omega)]) 9 Tryd.underlying9
  rw [strOf_bv] at hr
  exact hr

theorem info_u8 : (Tryd.prog.info? 5).map (fun i => (i.zero, i.size, i.bytes)) = some (some (.int .u8 0), 1, 1) := by kernel_rfl

/-- 'append(b, y)' within the capacity of such a row; the byte lies in a box of its own. -/
theorem wpList_push {ops : Array Oper} {rest : List Oper} {o : Oper} {a : Act} {Q : Exit → Act → World → Prop} {W : World} (hgd : o.guard = none) (s x : Operand)
    (ho : o.op = .call { callee := .builtin .append, args := #[s, x], argTypes := #[34, 34] }) (base g n cap : Nat) (l : List UInt8) (b : UInt8)
    (hs : a.eval s = .slice (some ⟨g, 0, none⟩) n cap) (hx : a.eval x = .slice (some ⟨W.heap.size, 0, none⟩) 1 1) (HO : OwnB W base g n cap l) (hc : n < cap) (y : Int) (hy : y = (b.toNat : Int))
    (h : ∀ w', OwnB w' base g (n + 1) cap (l ++ [b]) → W.grownBy w' (some g) → wpList Tryd.prog ops Q rest (a.put o.dst (.slice (some ⟨g, 0, none⟩) (n + 1) cap)) w') :
    wpList Tryd.prog ops Q (o :: rest) a (W.alloc (.cells #[.int .u8 y] 5)) := by
  subst hy
  obtain ⟨i0, hi, hz0, hz1, hz2⟩ := info_parts info_u8
  refine wpList_append_fits _ hgd s x 34 ho base 5 i0 1 Tryd.underlying34 hi hz1 g n cap (bv l) hs (World.ownsRow.alloc HO _) ⟨W.heap.size, 0, none⟩ 1 1 [.int .u8 (b.toNat : Int)] hx rfl
    (cell_one_new W _ _) (by simp [Value.oneCell']) (by omega) ?_
  intro w' hown hg
  refine h w' ?_ (World.grownBy.trans (World.grownBy_alloc W _ _) hg)
  rw [show bv l ++ [.int .u8 (b.toNat : Int)] = bv (l ++ [b]) from by simp [bv]] at hown
  exact hown

/-- The panic's value of package num. -/
abbrev noField : Value := .iface 110 (.agg #[.int .i64 4])
end Go.Proofs.YtdnpgloacdhliaaDoor
