/- Package num: base: the walk. -/
import Derived.Test.YtdnpgloacdhliaaDoorNumC
import Derived.Test.YtdnpgloacdhliaaDoorRev
namespace Go.Proofs.YtdnpgloacdhliaaDoor
open Go.RowKit

/-- A number by bytes: none, where there is no such field or it does not fit. -/
def basS (n W : Int) : Option (List UInt8) :=
  if wideB W = true ∧ (W = 12 ∨ (-72057594037927936 ≤ n ∧ n < 72057594037927936)) then some ((if n < 0 then 255 else 128) :: bytD (W.toNat - 1) n) else none

set_option maxRecDepth 20000 in
set_option maxHeartbeats 800000 in
theorem base_core (W : Nat) (n : Int) (hW : W = 8 ∨ W = 12) (h12 : W = 12 ∨ (-72057594037927936 ≤ n ∧ n < 72057594037927936)) (hn0 : -9223372036854775808 ≤ n) (hn : n ≤ 9223372036854775807) (w : World) :
    Calls Tryd.prog 66 #[.int .i64 n, .int .i64 W] w (Ret (str ((if n < 0 then 255 else 128) :: bytD (W - 1) n)) w) := by
  obtain ⟨i0, hi, hz0, hz1, hz2⟩ := info_parts info_u8
  have hWb : wideB (W : Int) = true := by rcases hW with rfl | rfl <;> rfl
  have hW3 : W ≤ 12 := by omega
  have hW4 : 8 ≤ W := by omega
  have HWb := Lib.hid hWb
  clear hWb
  generalize hL : (if n < 0 then (255 : UInt8) else 128) :: bytD (W - 1) n = L
  have HL := Lib.hid hL
  clear hL
  have hcase : (((W : Int) == 12) = true) ∨ (((W : Int) == 12) = false ∧ -72057594037927936 ≤ n ∧ n < 72057594037927936) := by
    rcases h12 with h | h
    · exact .inl (by subst h; rfl)
    · by_cases hh : W = 12
      · exact .inl (by subst hh; rfl)
      · exact .inr ⟨by rw [beq_eq_false_iff_ne]; omega, h.1, h.2⟩
  clear h12 hW
  go_enter Tryd.func66, Tryd.ntmps66
  go_wp2_with fail
  refine (wide_walk _ _).mono ?_
  rintro e w' ⟨rfl, rfl⟩
  rw [HWb.out]
  rcases hcase with t12 | ⟨t12, hr1, hr2⟩
  all_goals
    go_wp2_with fail
    refine (must_yes _).mono ?_
    rintro e w' ⟨rfl, rfl⟩
    clear t12
    go_wp2_with (refine wpList_make_own _ rfl _ _ _ rfl w.heap.size 5 i0 _ 1 Tryd.underlying34 hi hz0 hz1 .i64 .i64 _ W rfl rfl rfl (by rw [hz2]; omega) (by unfold maxLen; omega) (Nat.le_refl _) ?_; intro w1 hown hg)
    have hb1 : Below w.heap.size w w1 := (Below.refl _ _).grown hg (Nat.le_refl _) (by simp)
    have hown0 : OwnB w1 w.heap.size w.heap.size 0 W [] := hown
    clear hown hg
    go_loopw [0, 5, 25] (fun vn vb vi wr => ∃ m : Nat, m ≤ W - 1 ∧ vn = .int .i64 (shB m n) ∧ vb = .slice (some ⟨w.heap.size, 0, none⟩) m W ∧ vi = .int .i64 m ∧
        OwnB wr w.heap.size w.heap.size m W (bytD m n).reverse ∧ Below w.heap.size w wr) (fun _ _ vi _ => (W - intOf vi).toNat)
    case atStart => exact ⟨0, by omega, rfl, rfl, rfl, hown0, hb1⟩
    case round =>
      obtain ⟨m, hm, rfl, rfl, rfl, hown, hbr⟩ := hrel
      have hr := shB_range m n hn0 hn
      by_cases hlt : m < W - 1
      · obtain ⟨hq0, hq1⟩ := hr
        generalize hq : shB m n = q at *
        have Hq := Lib.hid hq
        have Hown := Lib.hid hown
        have hlt' : (m : Int) < (W : Int) - 1 := by omega
        clear hq hown
        have hb0 : (0 : Int) ≤ q % 256 := by omega
        have hby : q % 256 = ((UInt8.ofNat (q % 256).toNat).toNat : Int) := by
          rw [UInt8.toNat_ofNat_of_lt' (by show (q % 256).toNat < 256; omega)]
          omega
        have Hby := Lib.hid hby
        clear hby
        go_wp2_with (at_builtin; go_loud (refine wpList_push rfl _ _ rfl w.heap.size w.heap.size m W _ (UInt8.ofNat (q % 256).toNat) rfl rfl Hown.out (by omega) _ Hby.out ?_); intro w2 hown2 hg2)
        refine ⟨⟨m + 1, by omega, ?_, rfl, by go_num, ?_, hbr.grown hg2 hbr.size (by simp)⟩, by simp only [intOf]; omega⟩
        · rw [shB, Hq.out]
        · rw [bytD_rev, Hq.out]
          exact hown2
      · have hm1 : m = W - 1 := by omega
        subst hm1
        have hneg := shB_neg (W - 1) n
        have hlen : (bytD (W - 1) n).reverse.length = W - 1 := by rw [List.length_reverse, bytD_length]
        generalize hq : shB (W - 1) n = q at *
        have Hown := Lib.hid hown
        have hd : decide (((W - 1 : Nat) : Int) < (W : Int) - 1) = false := by simp; omega
        have hcap : ((W - 1 : Nat) : Int) = (W : Int) - 1 := by omega
        clear hown hq hlt hm hr
        by_cases hn : n < 0
        · have hqn : q < 0 := hneg.2 hn
          rw [if_pos hn] at HL
          clear hneg hn0
          go_wp2_with (first | (at_builtin; go_loud (refine wpList_push rfl _ _ rfl w.heap.size w.heap.size (W - 1) W _ 255 rfl rfl Hown.out (by omega) _ rfl ?_); intro w2 hown2 hg2))
          refine (reverse_walk w.heap.size _ _ _ _ _ hown2 (by omega)).mono ?_
          rintro e w3 ⟨rfl, hown3, hg3⟩
          have hs := hown3.toStr
          have hL : ((bytD (W - 1) n).reverse ++ [255]).reverse = L := by rw [← HL.out]; simp
          rw [hL] at hs
          clear hown3
          go_wp2
          go_ret
          exact ⟨rfl, (hbr.grown hg2 hbr.size (by simp)).grown hg3 (Nat.le_trans hbr.size hg2.size) (by simp)⟩
        · have hqn : ¬ q < 0 := fun h => hn (hneg.1 h)
          rw [if_neg hn] at HL
          clear hneg hn0
          go_wp2_with (first | (at_builtin; go_loud (refine wpList_push rfl _ _ rfl w.heap.size w.heap.size (W - 1) W _ 128 rfl rfl Hown.out (by omega) _ rfl ?_); intro w2 hown2 hg2))
          refine (reverse_walk w.heap.size _ _ _ _ _ hown2 (by omega)).mono ?_
          rintro e w3 ⟨rfl, hown3, hg3⟩
          have hs := hown3.toStr
          have hL : ((bytD (W - 1) n).reverse ++ [128]).reverse = L := by rw [← HL.out]; simp
          rw [hL] at hs
          clear hown3
          go_wp2
          go_ret
          exact ⟨rfl, (hbr.grown hg2 hbr.size (by simp)).grown hg3 (Nat.le_trans hbr.size hg2.size) (by simp)⟩
end Go.Proofs.YtdnpgloacdhliaaDoor
