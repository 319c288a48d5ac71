/- Package num: octal: the walk. -/
import Derived.Test.YtdnpgloacdhliaaDoorNumA
import Derived.Test.YtdnpgloacdhliaaDoorNumP
namespace Go.Proofs.YtdnpgloacdhliaaDoor
open Go.RowKit

def octC (W n : Nat) : Option Value := if n < 8 ^ (W - 1) then some (str (octD (W - 1) n ++ [0])) else none

set_option maxHeartbeats 400000 in
theorem octal_core (W n : Nat) (hW : W = 8 ∨ W = 12) (hn : n ≤ 9223372036854775807) (w : World) :
    Calls Tryd.prog 64 #[.int .i64 n, .int .i64 W] w (RP noField (octC W n) w) := by
  obtain ⟨i0, hi, hz0, hz1, hz2⟩ := info_parts info_u8
  have hWb : wideB (W : Int) = true := by rcases hW with rfl | rfl <;> rfl
  have hW2 : W ≤ 12 ∧ 8 ≤ W := by omega
  obtain ⟨hW3, hW4⟩ := hW2
  have HWb := Lib.hid hWb
  clear hWb hW
  go_enter Tryd.func64, Tryd.ntmps64
  go_wp2_with fail
  refine (wide_walk _ _).mono ?_
  rintro e w' ⟨rfl, rfl⟩
  rw [HWb.out]
  go_wp2_with fail
  refine (must_yes _).mono ?_
  rintro e w' ⟨rfl, rfl⟩
  go_wp2_with (refine wpList_make_full _ rfl _ _ _ rfl w.heap.size 5 i0 _ 1 Tryd.underlying34 hi hz0 hz1 .i64 .i64 _ _ W rfl rfl rfl rfl (by rw [hz2]; omega) (by unfold maxLen; omega) (Nat.le_refl _) ?_; intro w1 hown hg)
  have hb1 : Below w.heap.size w w1 := (Below.refl _ _).grown hg (Nat.le_refl _) (by simp)
  rw [bv_made] at hown
  have hown0 : OwnB w1 w.heap.size w.heap.size W W (List.replicate W 0) := hown
  clear hown hg
  go_loopw [0, 6] (fun vn vi wr => ∃ j m : Nat, j + m = W - 1 ∧ vn = .int .i64 ((n / 8 ^ m : Nat) : Int) ∧ vi = .int .i64 ((j : Int) - 1) ∧
      OwnB wr w.heap.size w.heap.size W W (List.replicate j 0 ++ octD m n ++ [0]) ∧ Below w.heap.size w wr) (fun _ vi _ => (intOf vi + 1).toNat)
  case atStart =>
    refine ⟨W - 1, 0, by omega, by simp, ?_, ?_, hb1⟩
    · rw [show ((W - 1 : Nat) : Int) - 1 = (W : Int) - 2 from by omega]
    have e : List.replicate (W - 1) (0 : UInt8) ++ octD 0 n ++ [0] = List.replicate W 0 := by
      simp only [octD, List.append_nil]
      rw [← List.replicate_succ']
      rw [show W - 1 + 1 = W from by omega]
    rw [e]
    exact hown0
  case round =>
    obtain ⟨j, m, hm, rfl, rfl, hown, hbr⟩ := hrel
    cases j with
    | succ j =>
      obtain ⟨v, hcell, hfz⟩ := hown.there j (by omega)
      have Hown := Lib.hid hown
      clear hown
      generalize hq : n / 8 ^ m = q at *
      have Hq := Lib.hid hq
      have Hm := Lib.hid hm
      have hj : (j : Int) < W := by omega
      have hjn : j < W := by omega
      clear hq hm
      have hq9 : q ≤ 9223372036854775807 := by rw [← Hq.out]; exact Nat.le_trans (Nat.div_le_self _ _) hn
      have hand := i64_and7 q (by omega)
      rw [show (((j + 1 : Nat) : Int)) - 1 = (j : Int) from by omega]
      go_wp2
      refine ⟨⟨j, m + 1, by have := Hm.out; omega, ?_, rfl, ?_, ?_⟩, by simp only [intOf]; omega⟩
      · rw [Nat.pow_succ, ← Nat.div_div_eq_div_mul, Hq.out]
        rfl
      · have h := OwnB.store Hown.out j (UInt8.ofNat (48 + n / 8 ^ m % 8))
        rw [octD_step, Hq.out] at h
        have e : ((UInt8.ofNat (48 + q % 8)).toNat : Int) = 48 + (q : Int) % 8 := by
          rw [UInt8.toNat_ofNat_of_lt' (by show 48 + q % 8 < 256; omega)]
          omega
        rw [e] at h
        exact h
      · exact hbr.setCell (by simp) _
    | zero =>
      have hm1 : m = W - 1 := by omega
      subst hm1
      by_cases hlt : n < 8 ^ (W - 1)
      · have Hc : Hid (octC W n = some (str (octD (W - 1) n ++ [0]))) := Lib.hid (by unfold octC; rw [if_pos hlt])
        have hz : n / 8 ^ (W - 1) = 0 := Nat.div_eq_of_lt hlt
        rw [hz]
        clear hlt hz
        have hl : List.replicate 0 (0 : UInt8) ++ octD (W - 1) n ++ [0] = octD (W - 1) n ++ [0] := by simp
        rw [hl] at hown
        generalize octD (W - 1) n ++ [0] = L at *
        have hstr := hown.toStr
        go_wp2_with fail
        refine (must_yes _).mono ?_
        rintro e w' ⟨rfl, rfl⟩
        go_wp2
        go_ret
        show RP noField (octC W n) w _ _
        rw [Hc.out]
        exact ⟨rfl, hbr⟩
      · have Hc : Hid (octC W n = none) := Lib.hid (by unfold octC; rw [if_neg hlt])
        have hz : 0 < n / 8 ^ (W - 1) := Nat.div_pos (by omega) (Nat.pow_pos (by omega))
        generalize n / 8 ^ (W - 1) = q at *
        have hz' : ((q : Int) == 0) = false := by rw [beq_eq_false_iff_ne]; omega
        clear hlt hown
        go_wp2_with fail
        refine (must_no _).mono ?_
        rintro e w' ⟨rfl, rfl⟩
        refine ⟨rfl, ?_⟩
        show RP noField (octC W n) w _ _
        rw [Hc.out]
        exact ⟨rfl, hbr⟩

/-- A number by eights: none, where there is no such field or it does not fit. -/
def octS (n W : Int) : Option (List UInt8) := if wideB W = true ∧ 0 ≤ n ∧ n.toNat < 8 ^ (W.toNat - 1) then some (octD (W.toNat - 1) n.toNat ++ [0]) else none

theorem octal_walk (n W : Int) (hn : n ≤ 9223372036854775807) (w : World) :
    Calls Tryd.prog 64 #[.int .i64 n, .int .i64 W] w (RP noField ((octS n W).map str) w) := by
  by_cases h : wideB W = true ∧ 0 ≤ n
  · obtain ⟨hW, h0⟩ := h
    have hW' : W = 8 ∨ W = 12 := by simpa [wideB] using hW
    obtain ⟨k, rfl⟩ := Int.eq_ofNat_of_zero_le h0
    obtain ⟨V, rfl⟩ := Int.eq_ofNat_of_zero_le (show 0 ≤ W by omega)
    have hc := octal_core V k (by omega) (by omega) w
    have e : (octS (k : Int) (V : Int)).map str = octC V k := by
      unfold octS octC
      simp only [hW, h0, true_and, Int.toNat_natCast]
      split <;> simp
    rw [e]
    exact hc
  · have e : octS n W = none := by unfold octS; rw [if_neg (fun hh => h ⟨hh.1, hh.2.1⟩)]
    rw [e]
    by_cases hW : wideB W = true
    · have h0 : n < 0 := by
        have : ¬ 0 ≤ n := fun hh => h ⟨hW, hh⟩
        omega
      have hd : decide (0 ≤ n) = false := by simpa using h0
      have HW := Lib.hid hW
      clear h e hW
      go_enter Tryd.func64, Tryd.ntmps64
      go_wp2_with fail
      refine (wide_walk _ _).mono ?_
      rintro e w' ⟨rfl, rfl⟩
      rw [HW.out]
      go_wp2_with fail
      refine (must_no _).mono ?_
      rintro e w' ⟨rfl, rfl⟩
      exact ⟨rfl, rfl, Below.refl _ _⟩
    · have HW : Hid (wideB W = false) := Lib.hid (by simpa using hW)
      clear h e hW
      go_enter Tryd.func64, Tryd.ntmps64
      go_wp2_with fail
      refine (wide_walk _ _).mono ?_
      rintro e w' ⟨rfl, rfl⟩
      rw [HW.out]
      go_wp2_with fail
      refine (must_no _).mono ?_
      rintro e w' ⟨rfl, rfl⟩
      exact ⟨rfl, rfl, Below.refl _ _⟩
end Go.Proofs.YtdnpgloacdhliaaDoor
