/- More words: strings made bytes, bits of int, calls that leave a value. -/
import Derived.Test.YtdnpgloacdhliaaDoorKit
import Derived.Lib.ConvBytes
import Derived.BigQuiet
import Derived.Deep.QuietTactic
import Derived.Deep.RegionWith
import Derived.Deep.RegionHeld3
import Derived.Deep.DrawnRows
namespace Go.Proofs.YtdnpgloacdhliaaDoor
open Go.RowKit

theorem blw_undrew {B : Nat} {a b : World} (h : Below B a.drew b) : Below B a b := ⟨h.os, h.tape, h.output, h.size, h.block⟩
theorem blw_via {w a b : World} (h : Below w.heap.size w a) (k : Below a.drew.heap.size a.drew b) : Below w.heap.size w b := h.trans ((blw_undrew k).mono h.size)

/-- Inside go_region_with: a call that ends in a panic; what is left is an empty region, so that the tactic goes on. -/
theorem region_pan {P : Program} {w : World} {G : Prop} (hG : G) (_ : wpAny P .any #[] (fun _ _ _ => True) 0 #[] ({ tmps := #[], defers := [] } : Act) w) : G := hG

theorem conv_bytes (s : ByteArray) (w : World) : (convert 9 34 (.string s)).run Tryd.prog w = .ok (.slice (some ⟨w.heap.size, 0, none⟩) s.size (grownCap w s.size 0 5)) (Lib.bytesWorld w 5 s) :=
  Lib.run_convert_string_bytes w 9 34 5 s Tryd.underlying9 Tryd.underlying34 Tryd.underlying5
theorem bytes_below (w : World) (s : ByteArray) : Below w.heap.size w (Lib.bytesWorld w 5 s) :=
  ⟨rfl, rfl, rfl, by rw [Lib.bytesWorld_size]; omega, fun i hi => Lib.bytesWorld_at_old w 5 s i (by omega)⟩
theorem bytes_cell (w : World) (l : List UInt8) (j : Nat) (hj : j < l.length) : (Lib.bytesWorld w 5 ⟨l.toArray⟩).cell? ⟨w.heap.size, j, none⟩ = some (.int .u8 (l[j].toNat : Int)) := by
  rw [Lib.bytesWorld_cell w 5 ⟨l.toArray⟩ j (by simpa [ByteArray.size] using hj)]
  simp [List.getD_eq_getElem?_getD, List.getElem?_eq_getElem hj]
theorem size_str (l : List UInt8) : (⟨l.toArray⟩ : ByteArray).size = l.length := by simp [ByteArray.size]
theorem str_eq (s : ByteArray) : (⟨s.data.toList.toArray⟩ : ByteArray) = s := by cases s; simp
theorem str_inj {l m : List UInt8} : ((⟨l.toArray⟩ : ByteArray) = ⟨m.toArray⟩) ↔ l = m := by
  constructor
  · intro h
    have := congrArg (fun s : ByteArray => s.data.toList) h
    simpa using this
  · rintro rfl; rfl

theorem of_data {s : ByteArray} {l : List UInt8} (h : s.data.toList = l) : s = ⟨l.toArray⟩ := by subst h; rw [str_eq]

theorem ret_str {s : ByteArray} {l : List UInt8} (h : s.data.toList = l) : Ending.returned (.string s) = .returned (str l) := by rw [of_data h]

theorem i64_or_low (a x k : Nat) (hx : x < 2 ^ k) (hb : a * 2 ^ k + x < 9223372036854775808) : bits .or .i64 ((a * 2 ^ k : Nat) : Int) (x : Int) = ((a * 2 ^ k + x : Nat) : Int) := by
  have hx2 : a * 2 ^ k + x < 2 ^ 63 := by omega
  have e : a * 2 ^ k ||| x = a * 2 ^ k + x := by
    rw [Nat.mul_comm, Nat.two_pow_add_eq_or_of_lt hx]
  show IntKind.i64.wrap ((BitVec.ofInt 64 ((a * 2 ^ k : Nat) : Int) ||| BitVec.ofInt 64 (x : Int)).toNat : Int) = _
  rw [BitVec.toNat_or, ofInt_i64 _ (by omega), ofInt_i64 x (by omega), IntKind.wrap_i64, e]
  omega
theorem oct_or (q c : Nat) (hq : q < 68719476736) : bits .or .i64 ((q : Int) * 8) (bits .and .i64 (((c : Int) - 48) % 256) 7) = ((q * 8 + c % 8 : Nat) : Int) := by
  obtain ⟨d, hd⟩ := Int.eq_ofNat_of_zero_le (show 0 ≤ ((c : Int) - 48) % 256 by omega)
  have h8 : d % 8 = c % 8 := by omega
  have h256 : d < 256 := by omega
  rw [hd, i64_and7 d (by omega), h8]
  have h := i64_or_low q (c % 8) 3 (by omega) (by omega)
  rw [show ((q * 2 ^ 3 : Nat) : Int) = (q : Int) * 8 from by omega] at h
  rw [h]
theorem wrap_bv (n : Int) : IntKind.i64.wrap (BitVec.ofInt 64 n).toNat = IntKind.i64.wrap n := by
  have h : ((BitVec.ofInt 64 n).toNat : Int) = n % 2 ^ 64 := by
    rw [BitVec.toNat_ofInt]
    omega
  rw [h, IntKind.wrap_i64, IntKind.wrap_i64]
  omega
theorem byt_or (q : Int) (c : Nat) (hc : c < 256) : bits .or .i64 (wrap64 (q * 256)) (c : Int) = wrap64 (q * 256 + c) := by
  obtain ⟨a, ha⟩ : ∃ a : Nat, (wrap64 (q * 256) % 2 ^ 64).toNat = a * 2 ^ 8 := ⟨(wrap64 (q * 256) % 2 ^ 64).toNat / 2 ^ 8, by unfold wrap64; omega⟩
  have e1 : (BitVec.ofInt 64 (wrap64 (q * 256))).toNat = a * 2 ^ 8 := by rw [BitVec.toNat_ofInt]; omega
  have hx : a * 2 ^ 8 ||| c = a * 2 ^ 8 + c := by
    rw [Nat.mul_comm, Nat.two_pow_add_eq_or_of_lt (by omega)]
  show IntKind.i64.wrap ((BitVec.ofInt 64 (wrap64 (q * 256)) ||| BitVec.ofInt 64 (c : Int)).toNat : Int) = _
  rw [BitVec.toNat_or, e1, ofInt_i64 c (by omega), hx, IntKind.wrap_i64]
  have h2 : ((a * 2 ^ 8 : Nat) : Int) = wrap64 (q * 256) % 2 ^ 64 := by omega
  unfold wrap64 at *
  omega
end Go.Proofs.YtdnpgloacdhliaaDoor
