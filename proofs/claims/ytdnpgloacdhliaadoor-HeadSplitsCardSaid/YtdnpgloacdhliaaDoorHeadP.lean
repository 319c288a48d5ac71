/- Package head: Put: what a block is; the callees' contracts. -/
import Derived.Test.YtdnpgloacdhliaaDoorHeadD
import Derived.Test.YtdnpgloacdhliaaDoorHeadB
import Derived.Deep.DeepFit
namespace Go.Proofs.YtdnpgloacdhliaaDoor
open Go.RowKit

/-- The box of a header, and all else as it was. -/
def Box (b : Nat) (h : Hd) (w0 w : World) : Prop := w.heap[b]? = some (.cells (hcells h) 26 (0, 0)) ∧ Below b w0 w
def BoxC (b : Nat) (h : Hd) (w : World) : Prop :=
  w.cell? ⟨b, 0, none⟩ = some (str h.name) ∧ w.cell? ⟨b, 1, none⟩ = some (.int .i64 h.mode) ∧ w.cell? ⟨b, 2, none⟩ = some (.int .i64 h.uid) ∧ w.cell? ⟨b, 3, none⟩ = some (.int .i64 h.gid) ∧
  w.cell? ⟨b, 4, none⟩ = some (.int .i64 h.size) ∧ w.cell? ⟨b, 5, none⟩ = some (.int .i64 h.mtime) ∧ w.cell? ⟨b, 6, none⟩ = some (.int .u8 (h.type.toNat : Int)) ∧ w.cell? ⟨b, 7, none⟩ = some (str h.link) ∧
  w.cell? ⟨b, 8, none⟩ = some (str h.uname) ∧ w.cell? ⟨b, 9, none⟩ = some (str h.gname) ∧ w.cell? ⟨b, 10, none⟩ = some (.int .i64 h.major) ∧ w.cell? ⟨b, 11, none⟩ = some (.int .i64 h.minor) ∧ w.cell? ⟨b, 12, none⟩ = some (str h.pref)
theorem Box.cells {b : Nat} {h : Hd} {w0 w : World} (hb : Box b h w0 w) : BoxC b h w :=
  have q := fun i => cell_of_row w b i _ 26 (0, 0) hb.1
  ⟨q 0, q 1, q 2, q 3, q 4, q 5, q 6, q 7, q 8, q 9, q 10, q 11, q 12⟩
theorem Box.lt {b : Nat} {h : Hd} {w0 w : World} (hb : Box b h w0 w) : b < w.heap.size := (Array.getElem?_eq_some_iff.1 hb.1).1
theorem Box.call {b : Nat} {h : Hd} {w0 w w' : World} (hl : Below w.heap.size w w') (hb : Box b h w0 w) : Box b h w0 w' :=
  ⟨(hl.block _ hb.lt).trans hb.1, hb.2.trans (hl.mono (Nat.le_of_lt hb.lt))⟩
theorem Box.alloc {b : Nat} {h : Hd} {w0 w : World} (hb : Box b h w0 w) (o : Obj) : Box b h w0 (w.alloc o) :=
  ⟨(Below.heap_alloc _ _ _ hb.lt).trans hb.1, hb.2.alloc (Nat.le_of_lt hb.lt) _⟩
theorem Box.drew {b : Nat} {h : Hd} {w0 w : World} (hb : Box b h w0 w) : Box b h w0 w.drew := ⟨hb.1, hb.2.drew⟩
theorem Box.made {h : Hd} (w : World) : Box w.heap.size h w (w.alloc (.cells (hcells h) 26)) := ⟨heap_alloc_new w _, (Below.refl _ w).alloc (Nat.le_refl _) _⟩

/-- A field's text. -/
def fld (n W : Int) : List UInt8 := (fieldS n W).getD []
/-- What stands ahead of the sum. -/
def preH (h : Hd) : List UInt8 := padZ h.name 100 ++ fld h.mode 8 ++ fld h.uid 8 ++ fld h.gid 8 ++ fld h.size 12 ++ fld h.mtime 12
/-- What stands behind it. -/
def postH (h : Hd) : List UInt8 := [h.type] ++ padZ h.link 100 ++ [117, 115, 116, 97, 114, 0, 48, 48] ++ padZ h.uname 32 ++ padZ h.gname 32 ++ fld h.major 8 ++ fld h.minor 8 ++ padZ h.pref 155 ++ List.replicate 12 0
def midH (h : Hd) : List UInt8 := List.replicate 8 0 ++ [h.type] ++ padZ h.link 100 ++ [117, 115, 116, 97, 114, 0, 48, 48] ++ padZ h.uname 32 ++ padZ h.gname 32
def tailH (h : Hd) : List UInt8 := fld h.major 8 ++ fld h.minor 8 ++ padZ h.pref 155 ++ List.replicate 12 0
def sumF (h : Hd) : List UInt8 := octD 6 (256 + bsum (preH h ++ postH h)) ++ [0, 32]
/-- A header's block. -/
def putS (h : Hd) : List UInt8 := if mayH h then preH h ++ sumF h ++ postH h else []

theorem textP {l T : List UInt8} {n : Nat} {N : Int} (hT : padZ l n = T) (hN : N = n) (hl : l.length ≤ n) (hn : n ≤ 1000000) (w : World) : Calls Tryd.prog 18 #[str l, .int .i64 N] w (Ret (str T) w) := by
  subst hN
  have := text_walk ⟨l.toArray⟩ n (by rw [size_str]; exact hl) hn w
  rw [← hT]
  exact this
theorem fieldP {n W : Int} {T : List UInt8} (hT : fld n W = T) (hn : I64 n) (w : World) : Calls Tryd.prog 19 #[.int .i64 n, .int .i64 W] w (Ret (str T) w) := by
  rw [← hT]
  exact field_walk n W hn.1 hn.2 w

theorem Box.six {b : Nat} {h : Hd} {w0 w : World} (hb : Box b h w0 w) : w.cell? ⟨b, 0, none⟩ = some (str h.name) ∧ w.cell? ⟨b, 1, none⟩ = some (.int .i64 h.mode) ∧ w.cell? ⟨b, 2, none⟩ = some (.int .i64 h.uid) ∧ w.cell? ⟨b, 3, none⟩ = some (.int .i64 h.gid) ∧
    w.cell? ⟨b, 4, none⟩ = some (.int .i64 h.size) ∧ w.cell? ⟨b, 5, none⟩ = some (.int .i64 h.mtime) ∧ Box b h w0 w :=
  have q := hb.cells
  ⟨q.1, q.2.1, q.2.2.1, q.2.2.2.1, q.2.2.2.2.1, q.2.2.2.2.2.1, hb⟩

theorem Box.of6 {b : Nat} {h : Hd} {w0 w : World} (hb : w.cell? ⟨b, 0, none⟩ = some (str h.name) ∧ w.cell? ⟨b, 1, none⟩ = some (.int .i64 h.mode) ∧ w.cell? ⟨b, 2, none⟩ = some (.int .i64 h.uid) ∧ w.cell? ⟨b, 3, none⟩ = some (.int .i64 h.gid) ∧
    w.cell? ⟨b, 4, none⟩ = some (.int .i64 h.size) ∧ w.cell? ⟨b, 5, none⟩ = some (.int .i64 h.mtime) ∧ Box b h w0 w) : Box b h w0 w := hb.2.2.2.2.2.2

theorem Box.four {b : Nat} {h : Hd} {w0 w : World} (hb : Box b h w0 w) : w.cell? ⟨b, 6, none⟩ = some (.int .u8 (h.type.toNat : Int)) ∧ w.cell? ⟨b, 7, none⟩ = some (str h.link) ∧ w.cell? ⟨b, 8, none⟩ = some (str h.uname) ∧ w.cell? ⟨b, 9, none⟩ = some (str h.gname) ∧ Box b h w0 w :=
  have q := hb.cells.2.2.2.2.2.2
  ⟨q.1, q.2.1, q.2.2.1, q.2.2.2.1, hb⟩
theorem Box.of4 {b : Nat} {h : Hd} {w0 w : World} (hb : w.cell? ⟨b, 6, none⟩ = some (.int .u8 (h.type.toNat : Int)) ∧ w.cell? ⟨b, 7, none⟩ = some (str h.link) ∧ w.cell? ⟨b, 8, none⟩ = some (str h.uname) ∧ w.cell? ⟨b, 9, none⟩ = some (str h.gname) ∧ Box b h w0 w) : Box b h w0 w := hb.2.2.2.2
theorem cellKeep {w w' : World} {g : Nat} {c : Int} (hb : Below w.heap.size w w') (hc : w.cell? ⟨g, 0, none⟩ = some (.int .u8 c)) : w'.cell? ⟨g, 0, none⟩ = some (.int .u8 c) :=
  (hb.cell (World.block_lt_of_cell? w _ hc)).trans hc
theorem cellNew (w : World) (c : Int) : (w.alloc (.cells #[.int .u8 c] 5)).cell? ⟨w.heap.size, 0, none⟩ = some (.int .u8 c) := cell_of_row _ _ 0 _ _ _ (heap_alloc_new w _)
theorem conv_one {w : World} {g : Nat} {c : UInt8} (h : w.cell? ⟨g, 0, none⟩ = some (.int .u8 (c.toNat : Int))) : (convert 34 9 (.slice (some ⟨g, 0, none⟩) 1 1)).run Tryd.prog w = .ok (str [c]) w := by
  have hr := run_convert_bytes_arg (P := Tryd.prog) w 34 5 Tryd.underlying34 Tryd.underlying5 g 0 1 1 ([c].map fun b => (b.toNat : Int)) (by simp)
    (fun i hi => by obtain rfl : i = 0 := by omega
                    exact h) 9 Tryd.underlying9
  rw [strOf_bv] at hr
  exact hr
theorem vstr {s : ByteArray} {l : List UInt8} (h : s.data.toList = l) : Value.string s = str l := by rw [of_data h]

theorem may_parts {h : Hd} (hm : mayH h = true) : (∀ p ∈ textsOf h, okText p = true) ∧ (∀ n ∈ fives h, okNum n = true) ∧ (fieldS h.size 12).isSome = true ∧ (fieldS h.mtime 12).isSome = true ∧ 0 ≤ h.size := by
  unfold mayH at hm
  simp only [Bool.and_eq_true, decide_eq_true_eq] at hm
  exact ⟨fun p hp => List.all_eq_true.1 hm.1.1.1.1 p hp, fun p hp => List.all_eq_true.1 hm.1.1.1.2 p hp, hm.1.1.2, hm.1.2, hm.2⟩
theorem may_len {h : Hd} (hm : mayH h = true) {c : UInt8} {l : List UInt8} {n : Nat} {N : Int} (hN : N = n) (hp : (c :: l, N) ∈ textsOf h) : l.length ≤ n := by
  have := (may_parts hm).1 _ hp
  simp only [okText, Bool.and_eq_true, decide_eq_true_eq, List.length_cons] at this
  omega
theorem pad_len {l : List UInt8} {n : Nat} (hl : l.length ≤ n) : (padZ l n).length = n := by
  simp [padZ]
  omega
theorem fld_len {n : Int} {W : Nat} (hf : (fieldS n W).isSome = true) : (fld n W).length = W := by
  obtain ⟨l, hl⟩ := Option.isSome_iff_exists.1 hf
  have := (fieldS_len hl).1
  rw [fld, hl]
  simpa using this
theorem may_flds {h : Hd} (hm : mayH h = true) : (fld h.mode 8).length = 8 ∧ (fld h.uid 8).length = 8 ∧ (fld h.gid 8).length = 8 ∧ (fld h.size 12).length = 12 ∧ (fld h.mtime 12).length = 12 ∧ (fld h.major 8).length = 8 ∧ (fld h.minor 8).length = 8 := by
  obtain ⟨_, h5, hs, ht, _⟩ := may_parts hm
  have hn : ∀ n ∈ fives h, (fld n 8).length = 8 := fun n hn => fld_len (W := 8) (by have := h5 n hn; simp only [okNum, Bool.and_eq_true] at this; exact this.1)
  exact ⟨hn _ (by simp [fives]), hn _ (by simp [fives]), hn _ (by simp [fives]), fld_len (W := 12) hs, fld_len (W := 12) ht, hn _ (by simp [fives]), hn _ (by simp [fives])⟩

theorem Box.three {b : Nat} {h : Hd} {w0 w : World} (hb : Box b h w0 w) : w.cell? ⟨b, 10, none⟩ = some (.int .i64 h.major) ∧ w.cell? ⟨b, 11, none⟩ = some (.int .i64 h.minor) ∧ w.cell? ⟨b, 12, none⟩ = some (str h.pref) ∧ Box b h w0 w :=
  have q := hb.cells.2.2.2.2.2.2.2.2.2.2
  ⟨q.1, q.2.1, q.2.2, hb⟩
theorem Box.of3 {b : Nat} {h : Hd} {w0 w : World} (hb : w.cell? ⟨b, 10, none⟩ = some (.int .i64 h.major) ∧ w.cell? ⟨b, 11, none⟩ = some (.int .i64 h.minor) ∧ w.cell? ⟨b, 12, none⟩ = some (str h.pref) ∧ Box b h w0 w) : Box b h w0 w := hb.2.2.2
theorem preH_len {h : Hd} (hm : mayH h = true) : (preH h).length = 148 := by
  obtain ⟨h1, h2, h3, h4, h5, h6, h7⟩ := may_flds hm
  have := pad_len (may_len hm (c := 110) (l := h.name) (n := 100) rfl (by simp [textsOf]))
  simp only [preH, List.length_append]
  omega
theorem midH_len {h : Hd} (hm : mayH h = true) : (midH h).length = 181 := by
  have h1 := pad_len (may_len hm (c := 108) (l := h.link) (n := 100) rfl (by simp [textsOf]))
  have h2 := pad_len (may_len hm (c := 117) (l := h.uname) (n := 32) rfl (by simp [textsOf]))
  have h3 := pad_len (may_len hm (c := 103) (l := h.gname) (n := 32) rfl (by simp [textsOf]))
  simp only [midH, List.length_append, List.length_replicate, List.length_cons, List.length_nil]
  omega
theorem tailH_len {h : Hd} (hm : mayH h = true) : (tailH h).length = 183 := by
  obtain ⟨h1, h2, h3, h4, h5, h6, h7⟩ := may_flds hm
  have h8 := pad_len (may_len hm (c := 112) (l := h.pref) (n := 155) rfl (by simp [textsOf]))
  simp only [tailH, List.length_append, List.length_replicate]
  omega

theorem blk_parts {h : Hd} (hm : mayH h = true) {S : List UInt8} (hS : S = preH h ++ midH h ++ tailH h) : sumS S = sumF h ∧ S.take 148 = preH h ∧ S.drop 156 = postH h := by
  have hp := preH_len hm
  have h1 : S.take 148 = preH h := by
    rw [hS, List.append_assoc, List.take_append_of_le_length (by omega), List.take_of_length_le (by omega)]
  have h2 : S.drop 156 = postH h := by
    rw [hS, List.append_assoc, List.drop_append, List.drop_eq_nil_of_le (by omega), hp]
    simp [midH, tailH, postH, List.append_assoc]
  refine ⟨?_, h1, h2⟩
  rw [sumS, h1, h2]
  rfl

end Go.Proofs.YtdnpgloacdhliaaDoor
