/- strconv.FormatInt at base 8, for numbers below 8^6: the walk. -/
import Derived.Test.YtdnpgloacdhliaaDoorKit2
import Derived.Test.YtdnpgloacdhliaaDoorNumP
namespace Go.Proofs.YtdnpgloacdhliaaDoor
open Go.RowKit

/-- What the library's variables hold that these walks read. -/
def Laid (w : World) : Prop := w.cell? ⟨5, 7, none⟩ = some (.int .u8 3) ∧ ∃ m, w.cell? ⟨0, 0, none⟩ = some (.int .i64 m)
theorem Laid.below {w w' : World} (h : Laid w) (hb : Below w.heap.size w w') : Laid w' := by
  obtain ⟨h1, m, h2⟩ := h
  exact ⟨(hb.cell (World.block_lt_of_cell? w _ h1)).trans h1, m, (hb.cell (World.block_lt_of_cell? w _ h2)).trans h2⟩

theorem isPow_walk (w : World) : Calls Tryd.prog 96 #[.int .i64 8] w fun e w' => e = .returned (.bool true) ∧ w = w' := by
  have h := i64_and_nat 8 7 (by omega) (by omega)
  have h' : bits .and .i64 8 7 = 0 := h
  clear h
  go_enter Tryd.func96, Tryd.ntmps96
  go_wp2
  go_ret
  exact ⟨rfl, rfl⟩

theorem tz64_walk (w : World) (hl : Laid w) : Calls Tryd.prog 103 #[.int .u64 8] w fun e w' => e = .returned (.int .i64 3) ∧ w = w' := by
  have hc := hl.1
  have h1 : bits .and .u64 8 (IntKind.u64.wrap (-8)) = 8 := by kernel_rfl
  clear hl
  go_enter Tryd.func103, Tryd.ntmps103
  go_wp2
  go_ret
  exact ⟨rfl, rfl⟩
theorem tz_walk (w : World) (hl : Laid w) : Calls Tryd.prog 97 #[.int .u64 8] w fun e w' => e = .returned (.int .i64 3) ∧ w = w' := by
  have Hl := Lib.hid hl
  clear hl
  go_enter Tryd.func97, Tryd.ntmps97
  go_wp2_with fail
  refine (tz64_walk _ Hl.out).mono ?_
  rintro e w' ⟨rfl, rfl⟩
  go_wp2
  go_ret
  exact ⟨rfl, rfl⟩

/-- A block of byte cells, of whatever type. -/
def BlkB (w : World) (g : Nat) (t : TypeId) (l : List UInt8) : Prop := w.heap[g]? = some (.cells (bv l).toArray t (0, 0))
theorem BlkB.cell {w : World} {g : Nat} {t : TypeId} {l : List UInt8} (h : BlkB w g t l) (i : Nat) (hi : i < l.length) : w.cell? ⟨g, i, none⟩ = some (.int .u8 (l[i].toNat : Int)) := by
  rw [cell_of_row w g i _ t (0, 0) h]
  simpa using bv_at l i hi
theorem BlkB.there {w : World} {g : Nat} {t : TypeId} {l : List UInt8} (h : BlkB w g t l) (i : Nat) (hi : i < l.length) : ∃ v, w.cell? ⟨g, i, none⟩ = some v := ⟨_, h.cell i hi⟩
theorem BlkB.free {w : World} {g : Nat} {t : TypeId} {l : List UInt8} (h : BlkB w g t l) (i : Nat) : w.frozen? ⟨g, i, none⟩ = false := by
  unfold BlkB at h
  simp [World.frozen?, h]
theorem BlkB.store {w : World} {g : Nat} {t : TypeId} {l : List UInt8} (h : BlkB w g t l) (i : Nat) (b : UInt8) : BlkB (w.setCell ⟨g, i, none⟩ (.int .u8 b.toNat)) g t (l.set i b) := by
  unfold BlkB at h ⊢
  simp only [World.setCell, Array.getElem?_modify, if_pos, h, Option.map_some]
  congr 2
  rw [← bv_set]
  simp
theorem BlkB.toStr {w : World} {g : Nat} {t : TypeId} {l : List UInt8} (h : BlkB w g t l) (off n cap : Nat) (hn : off + n ≤ l.length) :
    (convert 34 9 (.slice (some ⟨g, off, none⟩) n cap)).run Tryd.prog w = .ok (str ((l.drop off).take n)) w := by
  have hr := run_convert_bytes_arg (P := Tryd.prog) w 34 5 Tryd.underlying34 Tryd.underlying5 g off n cap (((l.drop off).take n).map fun b => (b.toNat : Int)) (by simp; omega)
    (fun i hi => by
      have hc := h.cell (off + i) (by omega)
      rw [hc]
      simp [List.getD_eq_getElem?_getD, hi, List.getElem?_eq_getElem (show off + i < l.length by omega)]) 9 Tryd.underlying9
  rw [strOf_bv] at hr
  exact hr

theorem u64_and7 (a : Nat) (ha : a < 18446744073709551616) : bits .and .u64 (a : Int) 7 = ((a % 8 : Nat) : Int) := by
  have h := bits_and_u64_nat a 7 ha (by omega)
  rw [show ((7 : Nat) : Int) = 7 from rfl] at h
  rw [h, show (7 : Nat) = 2 ^ 3 - 1 from rfl, Nat.and_two_pow_sub_one_eq_mod]

theorem a65_is : Tryd.prog.underlying 118 = some (.array (Tryd.prog.arrayLen 118) (Tryd.prog.elem 118)) := by kernel_rfl
theorem a65_len : Tryd.prog.arrayLen 118 = 65 := by kernel_rfl
theorem a65_elem : Tryd.prog.elem 118 = 5 := by kernel_rfl
theorem size_u8 (w : World) : (sizeOf 5).run Tryd.prog w = .ok 1 w := by kernel_rfl
theorem a65_slice (g k : Nat) (hk : k < 65) (W : World) :
    (Instr.sliceAt 118 (.pointer (some ⟨g, 0, none⟩)) (some (.int .i64 (k : Int))) none none).run Tryd.prog W = .ok (.slice (some ⟨g, k, none⟩) (65 - k) (65 - k)) W := by
  have h := run_sliceAt_array_l (P := Tryd.prog) W 118 ⟨g, 0, none⟩ a65_is .i64 (k : Int) (by omega) (by rw [a65_len]; omega)
  rw [a65_len, a65_elem, size_u8] at h
  rw [h]
  show Result.ok (slicedAt ⟨g, 0, none⟩ k 65 65 1) W = _
  unfold slicedAt
  rw [if_neg (by omega), Nat.mul_one, add_plain]

/-- Some digits by eights of a number, enough of them. -/
def OctOf (u : Nat) (l : List UInt8) : Prop := ∃ m, 1 ≤ m ∧ m ≤ 6 ∧ u < 8 ^ m ∧ l = octD m u
def FmtPost (f : List UInt8 → Value) (u : Nat) (w : World) (e : Ending) (w' : World) : Prop := ∃ l, OctOf u l ∧ e = .returned (f l) ∧ Below w.heap.size w w'

def digs : ByteArray := ⟨#[48, 49, 50, 51, 52, 53, 54, 55, 56, 57, 97, 98, 99, 100, 101, 102, 103, 104, 105, 106, 107, 108, 109, 110, 111, 112, 113, 114, 115, 116, 117, 118, 119, 120, 121, 122]⟩
theorem digs_at (k : Nat) (hk : k < 8) (h : k < digs.size) : digs[k]'h = UInt8.ofNat (48 + k) := by
  match k, hk with
  | 0, _ => rfl
  | 1, _ => rfl
  | 2, _ => rfl
  | 3, _ => rfl
  | 4, _ => rfl
  | 5, _ => rfl
  | 6, _ => rfl
  | 7, _ => rfl

theorem a65_zero : Tryd.zeroCells118 = (bv (List.replicate 65 0)).toArray := by kernel_rfl

set_option maxRecDepth 20000 in
set_option maxHeartbeats 800000 in
theorem formatBits_walk (u : Nat) (hu : u < 262144) (w : World) (hl : Laid w) :
    Calls Tryd.prog 76 #[.slice none 0 0, .int .u64 u, .int .i64 8, .bool false, .bool false] w (FmtPost (fun l => .tuple #[.slice none 0 0, str l]) u w) := by
  have Hl := Lib.hid hl
  clear hl
  have hb0 : Below w.heap.size w (w.alloc (.cells Tryd.zeroCells118 118)) := (Below.refl _ _).alloc (Nat.le_refl _) _
  have hblk : BlkB (w.alloc (.cells Tryd.zeroCells118 118)) w.heap.size 118 (List.replicate 65 0) := by
    rw [a65_zero]
    exact heap_alloc_new w _
  have Hb0 := Lib.hid hb0
  have Hblk := Lib.hid hblk
  clear hb0 hblk
  go_enter Tryd.func76, Tryd.ntmps76
  go_wp2_with fail
  refine (isPow_walk _).mono ?_
  rintro e w' ⟨rfl, rfl⟩
  go_wp2_with fail
  refine (tz_walk _ (Hl.out.below Hb0.out)).mono ?_
  rintro e w' ⟨rfl, rfl⟩
  go_wp2_with fail
  go_loopw [1, 13] (fun vu vi wr => ∃ j : Nat, j ≤ 5 ∧ (0 < j → 8 ^ j ≤ u) ∧ vu = .int .u64 ((u / 8 ^ j : Nat) : Int) ∧ vi = .int .i64 ((65 : Int) - j) ∧
      BlkB wr w.heap.size 118 (List.replicate (65 - j) 0 ++ octD j u) ∧ Below w.heap.size w wr) (fun _ vi _ => (intOf vi).toNat)
  case atStart => exact ⟨0, by omega, by omega, by simp, by simp, by simpa [octD] using Hblk.out, Hb0.out⟩
  case round =>
    obtain ⟨j, hj, hju, rfl, rfl, hblk, hbr⟩ := hrel
    by_cases hlt : 8 ≤ u / 8 ^ j
    · obtain ⟨v, hcell⟩ := hblk.there (64 - j) (by simp [octD_length]; omega)
      have hfz := hblk.free (64 - j)
      have HB := Lib.hid hblk
      clear hblk
      generalize hq : u / 8 ^ j = q at *
      have Hq := Lib.hid hq
      have hq2 : q ≤ u := by rw [← hq]; exact Nat.div_le_self _ _
      have Hju := Lib.hid hju
      clear hq hju
      have hand := u64_and7 q (by omega)
      obtain ⟨k, hk⟩ : ∃ k : Nat, 64 - j = k := ⟨_, rfl⟩
      have hk65 : k < 65 := by omega
      have hkj : (65 : Int) - j = (k : Int) + 1 := by omega
      rw [hk] at hcell hfz
      rw [hkj]
      have Hk := Lib.hid hk
      clear hk hkj
      have hd8 : q % 8 < digs.size := by show q % 8 < 36; omega
      have hdig := digs_at (q % 8) (by omega) hd8
      have Hdig := Lib.hid hdig
      have hq8 : (q : Int) % 8 < 36 := by omega
      have hq80 : 0 ≤ (q : Int) % 8 := by omega
      clear hdig
      go_wp2
      have hjk : j ≤ 4 := by
        have h1 := Hq.out
        rcases Nat.lt_or_ge j 5 with h | h
        · omega
        · exfalso
          have h5 : j = 5 := by omega
          subst h5
          have : u / 8 ^ 5 < 8 := Nat.div_lt_of_lt_mul (by have : (8 : Nat) ^ 5 * 8 = 262144 := by decide
                                                           omega)
          omega
      refine ⟨⟨j + 1, by omega, fun _ => ?_, ?_, ?_, ?_, hbr.setCell (by simp) _⟩, ?_⟩
      · have h1 := Hq.out
        have h2 : 8 ≤ u / 8 ^ j := by omega
        have h3 := (Nat.le_div_iff_mul_le (Nat.pow_pos (by omega))).1 h2
        rw [Nat.pow_succ, Nat.mul_comm]
        exact h3
      · rw [Nat.pow_succ, ← Nat.div_div_eq_div_mul, Hq.out]
        rfl
      · have := Hk.out
        congr 1
        omega
      · have h := BlkB.store HB.out k (UInt8.ofNat (48 + u / 8 ^ j % 8))
        have e : 65 - j = k + 1 := by have := Hk.out; omega
        rw [e, octD_step2, Hq.out] at h
        rw [show 65 - (j + 1) = k from by have := Hk.out; omega]
        show BlkB (wr.setCell ⟨w.heap.size, k, none⟩ (.int .u8 ((digs[q % 8]'hd8).toNat : Int))) w.heap.size 118 _
        rw [Hdig.out]
        exact h
      · simp only [intOf]
        omega
    · have hq8 : u / 8 ^ j < 8 := by omega
      obtain ⟨v, hcell⟩ := hblk.there (64 - j) (by simp [octD_length]; omega)
      have hfz := hblk.free (64 - j)
      have HB := Lib.hid hblk
      have hOct : Hid (OctOf u (octD (j + 1) u)) := Lib.hid ⟨j + 1, by omega, by omega, by
        rw [Nat.pow_succ]
        have := (Nat.div_lt_iff_lt_mul (Nat.pow_pos (n := j) (show 0 < 8 by omega))).1 hq8
        rw [Nat.mul_comm]
        exact this, rfl⟩
      clear hblk hju hlt
      generalize hq : u / 8 ^ j = q at *
      have Hq := Lib.hid hq
      have hq2 : q ≤ u := by rw [← hq]; exact Nat.div_le_self _ _
      clear hq
      have hd8 : q < digs.size := by show q < 36; omega
      have hdig := digs_at q (by omega) hd8
      have Hdig := Lib.hid hdig
      obtain ⟨k, hk⟩ : ∃ k : Nat, 64 - j = k := ⟨_, rfl⟩
      have hk65 : k < 65 := by omega
      have hkj : (65 : Int) - j = (k : Int) + 1 := by omega
      have hs := BlkB.store HB.out k (UInt8.ofNat (48 + q))
      have e : 65 - j = k + 1 := by omega
      have Hs2 : Hid (BlkB (wr.setCell ⟨w.heap.size, k, none⟩ (.int .u8 ((digs[q]'hd8).toNat : Int))) w.heap.size 118 (List.replicate k 0 ++ octD (j + 1) u)) := Lib.hid (by
        have h := octD_step2 j k u
        rw [Hq.out, show q % 8 = q from by omega] at h
        rw [e, h] at hs
        rw [hdig]
        exact hs)
      rw [hk] at hcell hfz
      rw [hkj]
      have Hk := Lib.hid hk
      clear hk hkj hs e hdig HB
      have hstr := BlkB.toStr Hs2.out k (65 - k) (65 - k) (by simp [octD_length]; have := Hk.out; omega)
      have hsl := a65_slice w.heap.size k hk65
      simp only [digs] at hstr
      go_wp2
      go_ret2
      have e : (octD (j + 1) u).take (65 - k) = octD (j + 1) u := List.take_of_length_le (by rw [octD_length]; have := Hk.out; omega)
      rw [e]
      exact ⟨_, hOct.out, rfl, hbr.setCell (by simp) _⟩

theorem iFormatInt_walk (u : Nat) (hu : u < 262144) (w : World) (hl : Laid w) :
    Calls Tryd.prog 53 #[.int .i64 u, .int .i64 8] w (FmtPost str u w) := by
  have Hl := Lib.hid hl
  clear hl
  have hu0 : (0 : Int) ≤ u := by omega
  have hd : decide ((u : Int) < 0) = false := by simp
  go_enter Tryd.func53, Tryd.ntmps53
  go_wp2_with fail
  refine (formatBits_walk u hu _ Hl.out).mono ?_
  rintro e w1 ⟨l, ho, rfl, hb⟩
  have Ho := Lib.hid ho
  clear ho
  go_wp2
  go_ret
  exact ⟨l, Ho.out, rfl, hb⟩

theorem FormatInt_walk (u : Nat) (hu : u < 262144) (w : World) (hl : Laid w) :
    Calls Tryd.prog 33 #[.int .i64 u, .int .i64 8] w (FmtPost str u w) := by
  have Hl := Lib.hid hl
  clear hl
  go_enter Tryd.func33, Tryd.ntmps33
  go_wp2_with fail
  refine (iFormatInt_walk u hu _ Hl.out).mono ?_
  rintro e w1 ⟨l, ho, rfl, hb⟩
  have Ho := Lib.hid ho
  clear ho
  go_wp2
  go_ret
  exact ⟨l, Ho.out, rfl, hb⟩
end Go.Proofs.YtdnpgloacdhliaaDoor
