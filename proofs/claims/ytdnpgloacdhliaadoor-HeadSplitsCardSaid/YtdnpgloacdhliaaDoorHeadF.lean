/- Package head: the reader's methods: the walks. -/
import Derived.Test.YtdnpgloacdhliaaDoorHeadD
import Derived.Test.YtdnpgloacdhliaaDoorTryA
import Derived.Test.YtdnpgloacdhliaaDoorFmt
import Derived.Deep.DeepFit
namespace Go.Proofs.YtdnpgloacdhliaaDoor
open Go.RowKit

/-- The blocks of Get: the header's box, the error's, the reader. -/
structure GS (b : Nat) (s : List UInt8) (w0 : World) (at_ : Nat) (cs : Array Value) (w : World) : Prop where
  box : w.heap[b]? = some (.cells cs 26 (0, 0))
  err : w.heap[b + 1]? = some (.cells #[.int .i64 0] 29 (0, 0))
  rd : w.heap[b + 2]? = some (.cells #[str s, .int .i64 (at_ : Int)] 55 (0, 0))
  below : Below b w0 w

theorem row_setCell {w : World} {b j : Nat} {cs : Array Value} {t : TypeId} {fr : Nat × Nat} (h : w.heap[b]? = some (.cells cs t fr)) (v : Value) :
    (w.setCell ⟨b, j, none⟩ v).heap[b]? = some (.cells (cs.setIfInBounds j v) t fr) := by
  simp only [World.setCell, Array.getElem?_modify, if_pos, h, Option.map_some]
  rfl

section
variable {b : Nat} {s : List UInt8} {w0 w : World} {at_ : Nat} {cs : Array Value}
theorem GS.lt (h : GS b s w0 at_ cs w) : b + 2 < w.heap.size := (Array.getElem?_eq_some_iff.1 h.rd).1
theorem GS.call (h : GS b s w0 at_ cs w) {w' : World} (hl : Below w.heap.size w w') : GS b s w0 at_ cs w' :=
  have hlt := h.lt
  ⟨(hl.block _ (by omega)).trans h.box, (hl.block _ (by omega)).trans h.err, (hl.block _ (by omega)).trans h.rd, h.below.trans (hl.mono (by omega))⟩
theorem GS.drewN (h : GS b s w0 at_ cs w) (n : Nat) : GS b s w0 at_ cs (w.drewN n) := ⟨h.box, h.err, h.rd, blw_drewN h.below n⟩
theorem GS.store (h : GS b s w0 at_ cs w) (j : Nat) (v : Value) : GS b s w0 at_ (cs.setIfInBounds j v) (w.setCell ⟨b, j, none⟩ v) :=
  ⟨row_setCell h.box v, (Below.heap_setCell _ _ _ _ (by simp)).trans h.err, (Below.heap_setCell _ _ _ _ (by simp)).trans h.rd, h.below.setCell (Nat.le_refl _) _⟩
theorem GS.seek (h : GS b s w0 at_ cs w) (n : Nat) : GS b s w0 n cs (w.setCell ⟨b + 2, 1, none⟩ (.int .i64 (n : Int))) :=
  ⟨(Below.heap_setCell _ _ _ _ (by show b ≠ b + 2; omega)).trans h.box, (Below.heap_setCell _ _ _ _ (by show b + 1 ≠ b + 2; omega)).trans h.err, row_setCell h.rd _, h.below.setCell (by show b ≤ b + 2; omega) _⟩
theorem GS.cell (h : GS b s w0 at_ cs w) (j : Nat) : w.cell? ⟨b, j, none⟩ = cs[j]? := cell_of_row w b j _ _ _ h.box
theorem GS.free (h : GS b s w0 at_ cs w) (j : Nat) : w.frozen? ⟨b, j, none⟩ = false := frozen_of_row w b j _ _ h.box
theorem GS.txt (h : GS b s w0 at_ cs w) : w.cell? ⟨b + 2, 0, none⟩ = some (str s) := cell_of_row w (b + 2) 0 _ _ _ h.rd
theorem GS.pos (h : GS b s w0 at_ cs w) : w.cell? ⟨b + 2, 1, none⟩ = some (.int .i64 (at_ : Int)) := cell_of_row w (b + 2) 1 _ _ _ h.rd
theorem GS.rfree (h : GS b s w0 at_ cs w) (j : Nat) : w.frozen? ⟨b + 2, j, none⟩ = false := frozen_of_row w (b + 2) j _ _ h.rd
end

/-- A piece of a block. -/
def piece (s : List UInt8) (a n : Nat) : List UInt8 := (s.drop a).take n
theorem piece_len {s : List UInt8} {a n : Nat} (h : a + n ≤ s.length) : (piece s a n).length = n := by
  simp [piece]
  omega
theorem extract_piece (s : List UInt8) (a n : Nat) : ((⟨s.toArray⟩ : ByteArray).extract a (a + n)) = ⟨(piece s a n).toArray⟩ :=
  of_data (by simp [piece, ByteArray.data_extract])

set_option maxRecDepth 20000 in
theorem take_walk (b : Nat) (s : List UInt8) (w0 : World) (at_ n : Nat) (cs : Array Value) (w : World) (h : GS b s w0 at_ cs w) (hn : at_ + n ≤ s.length) (hs : s.length ≤ 512) :
    Calls Tryd.prog 25 #[.pointer (some ⟨b + 2, 0, none⟩), .int .i64 n] w fun e w' => e = .returned (str (piece s at_ n)) ∧ GS b s w0 (at_ + n) cs w' := by
  have c0 := h.txt
  have c1 := h.pos
  have f1 := h.rfree 1
  have H := Lib.hid h
  clear h
  have hex := extract_piece s at_ n
  have hss := size_str s
  go_enter Tryd.func25, Tryd.ntmps25
  go_wp2_with fail
  go_region
  go_wp2_with fail
  go_ret
  rw [hex]
  exact ⟨rfl, (show ((at_ : Int) + (n : Int)) = ((at_ + n : Nat) : Int) from by omega) ▸ (H.out.seek (at_ + n)).drewN 1⟩

/-- A text ends at its first byte 0. -/
def txt (l : List UInt8) : List UInt8 := (Lib.cut l [0]).1

set_option maxRecDepth 20000 in
theorem rtext_walk (b : Nat) (s : List UInt8) (w0 : World) (at_ n : Nat) (cs : Array Value) (w : World) (h : GS b s w0 at_ cs w) (hn : at_ + n ≤ s.length) (hs : s.length ≤ 512) (hl : Laid w) (hgb : 0 < b) :
    Calls Tryd.prog 23 #[.pointer (some ⟨b + 2, 0, none⟩), .int .i64 n] w fun e w' => e = .returned (str (txt (piece s at_ n))) ∧ GS b s w0 (at_ + n) cs w' := by
  have H := Lib.hid h
  obtain ⟨hl1, m, hl2⟩ := hl
  have hp0 : ∀ k, k < b → w.heap[k]? = w0.heap[k]? := fun k hk => h.below.block k hk
  clear h
  have hpl := piece_len hn
  go_enter Tryd.func23, Tryd.ntmps23
  go_wp2_with fail
  go_fit (take_walk b s w0 at_ n cs _ H.out hn hs)
  rintro e w1 ⟨rfl, h1⟩
  go_wp2_with fail
  have hm : w1.cell? ⟨0, 0, none⟩ = some (.int .i64 m) := (World.cell?_of_block (w := w) ((h1.below.block _ hgb).trans (hp0 _ hgb).symm)).trans hl2
  go_fit (Tryd.strings_Cut ⟨(piece s at_ n).toArray⟩ ⟨#[0]⟩ m w1 (by rw [size_str, hpl]; omega) hm)
  rintro e w2 ⟨rfl, k, rfl⟩
  go_wp2
  go_ret
  exact ⟨rfl, h1.drewN k⟩

/-- The panic of the reader. -/
def noHeader (at_ : Int) : Value := .iface 51 (.agg #[.int .i64 at_])

/-- A number's piece. -/
def numAt (s : List UInt8) (a n : Nat) : Option Int := readFieldS (piece s a n)

set_option maxRecDepth 20000 in
theorem rfield_walk (b : Nat) (s : List UInt8) (w0 : World) (at_ n : Nat) (cs : Array Value) (w : World) (h : GS b s w0 at_ cs w) (hn : at_ + n ≤ s.length) (hs : s.length ≤ 512) (hn12 : n ≤ 12) :
    Calls Tryd.prog 24 #[.pointer (some ⟨b + 2, 0, none⟩), .int .i64 n] w fun e w' => GS b s w0 (at_ + n) cs w' ∧ match numAt s at_ n with
      | some v => e = .returned (.int .i64 v)
      | none => e = .panicked [{ v := noHeader ((at_ : Int) + n), recovered := false }] := by
  have H := Lib.hid h
  clear h
  have hpl := piece_len hn
  cases hr : numAt s at_ n with
  | some v =>
    have Hr := Lib.hid hr
    clear hr
    go_enter Tryd.func24, Tryd.ntmps24
    go_wp2_with fail
    go_fit (take_walk b s w0 at_ n cs _ H.out hn hs)
    rintro e w1 ⟨rfl, h1⟩
    go_wp2_with fail
    refine (ReadField_walk ⟨(piece s at_ n).toArray⟩ (by rw [size_str, hpl]; omega) _).mono ?_
    rintro e w2 ⟨rfl, hb⟩
    rw [show readFieldS (⟨(piece s at_ n).toArray⟩ : ByteArray).data.toList = some v from Hr.out]
    unfold optInt
    go_wp2
    go_ret
    exact ⟨h1.call hb, rfl⟩
  | none =>
    have Hr := Lib.hid hr
    clear hr
    go_enter Tryd.func24, Tryd.ntmps24
    go_wp2_with fail
    go_fit (take_walk b s w0 at_ n cs _ H.out hn hs)
    rintro e w1 ⟨rfl, h1⟩
    go_wp2_with fail
    refine (ReadField_walk ⟨(piece s at_ n).toArray⟩ (by rw [size_str, hpl]; omega) _).mono ?_
    rintro e w2 ⟨rfl, hb⟩
    rw [show readFieldS (⟨(piece s at_ n).toArray⟩ : ByteArray).data.toList = none from Hr.out]
    unfold optInt
    have h2 := h1.call hb
    have hp := h2.pos
    have H2 := Lib.hid h2
    clear h2
    go_wp2
    exact ⟨rfl, H2.out, rfl⟩
end Go.Proofs.YtdnpgloacdhliaaDoor
