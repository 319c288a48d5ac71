/- Package num: base with its panics, Base, Field: the walks. -/
import Derived.Test.YtdnpgloacdhliaaDoorNumD
namespace Go.Proofs.YtdnpgloacdhliaaDoor
open Go.RowKit

theorem base_walk (n W : Int) (hn0 : -9223372036854775808 ≤ n) (hn : n ≤ 9223372036854775807) (w : World) :
    Calls Tryd.prog 66 #[.int .i64 n, .int .i64 W] w (RP noField ((basS n W).map str) w) := by
  by_cases h : wideB W = true ∧ (W = 12 ∨ (-72057594037927936 ≤ n ∧ n < 72057594037927936))
  · obtain ⟨hW, h0⟩ := h
    have hW' : W = 8 ∨ W = 12 := by simpa [wideB] using hW
    obtain ⟨V, rfl⟩ := Int.eq_ofNat_of_zero_le (show 0 ≤ W by omega)
    have hc := base_core V n (by omega) (by omega) hn0 hn w
    have e : basS n (V : Int) = some ((if n < 0 then 255 else 128) :: bytD (V - 1) n) := by
      unfold basS
      rw [if_pos ⟨hW, h0⟩, Int.toNat_natCast]
    rw [e]
    exact hc
  · have e : basS n W = none := by unfold basS; rw [if_neg h]
    rw [e]
    by_cases hW : wideB W = true
    · have h12 : ¬ W = 12 := fun hh => h ⟨hW, .inl hh⟩
      have hr : ¬ (-72057594037927936 ≤ n ∧ n < 72057594037927936) := fun hh => h ⟨hW, .inr hh⟩
      have t12 : (W == 12) = false := by simpa using h12
      have HW := Lib.hid hW
      clear h e hW h12
      by_cases hlo : -72057594037927936 ≤ n
      · have hhi : decide (n < 72057594037927936) = false := by simp; omega
        have hlo' : decide (-72057594037927936 ≤ n) = true := by simpa using hlo
        clear hr
        go_enter Tryd.func66, Tryd.ntmps66
        go_wp2_with fail
        refine (wide_walk _ _).mono ?_
        rintro e w' ⟨rfl, rfl⟩
        rw [HW.out]
        go_wp2_with fail
        refine (must_no _).mono ?_
        rintro e w' ⟨rfl, rfl⟩
        exact ⟨rfl, rfl, Below.refl _ _⟩
      · have hlo' : decide (-72057594037927936 ≤ n) = false := by simpa using hlo
        clear hr
        go_enter Tryd.func66, Tryd.ntmps66
        go_wp2_with fail
        refine (wide_walk _ _).mono ?_
        rintro e w' ⟨rfl, rfl⟩
        rw [HW.out]
        go_wp2_with fail
        refine (must_no _).mono ?_
        rintro e w' ⟨rfl, rfl⟩
        exact ⟨rfl, rfl, Below.refl _ _⟩
    · have HW : Hid (wideB W = false) := Lib.hid (by simpa using hW)
      clear h e hW
      go_enter Tryd.func66, Tryd.ntmps66
      go_wp2_with fail
      refine (wide_walk _ _).mono ?_
      rintro e w' ⟨rfl, rfl⟩
      rw [HW.out]
      go_wp2_with fail
      refine (must_no _).mono ?_
      rintro e w' ⟨rfl, rfl⟩
      exact ⟨rfl, rfl, Below.refl _ _⟩

theorem enter_nBase1 (cap : Array Value) (W : World) : (callFunc 65 cap).run Tryd.prog W = .ok (.enter 65 cap) W := by simp [go_sem]

theorem base1_walk (b : Nat) (n W : Int) (hn0 : -9223372036854775808 ≤ n) (hn : n ≤ 9223372036854775807) (w : World) (c0 : w.cell? ⟨b, 0, none⟩ = some (.int .i64 n)) (c1 : w.cell? ⟨b + 1, 0, none⟩ = some (.int .i64 W)) :
    Calls Tryd.prog 65 #[.pointer (some ⟨b, 0, none⟩), .pointer (some ⟨b + 1, 0, none⟩)] w (RP noField ((basS n W).map str) w) := by
  generalize ho : basS n W = o
  have Ho := Lib.hid ho
  clear ho
  go_enter Tryd.func65, Tryd.ntmps65
  go_wp2_with fail
  refine (base_walk n W hn0 hn _).mono ?_
  rw [Ho.out]
  cases o with
  | some l =>
    rintro e w1 ⟨rfl, hb⟩
    go_wp2
    go_ret
    exact ⟨rfl, hb⟩
  | none =>
    rintro e w1 ⟨rfl, hb⟩
    exact ⟨rfl, rfl, hb⟩

theorem Base_walk (n W : Int) (hn0 : -9223372036854775808 ≤ n) (hn : n ≤ 9223372036854775807) (w : World) :
    Calls Tryd.prog 45 #[.int .i64 n, .int .i64 W] w (Ret (optStr (basS n W)) w) := by
  have hmf := make_func
  cases ho : basS n W with
  | some l =>
    have Ho := Lib.hid ho
    clear ho
    go_enter Tryd.func45, Tryd.ntmps45
    go_wp2_with fail
    refine (tryS_yes 65 _ l _ (enter_nBase1 _) ?_).mono ?_
    · intro w1 hb
      obtain ⟨c0, _, c1, _, _, _⟩ := two_new hb
      have h := base1_walk w.heap.size n W hn0 hn w1 (c0 0) (c1 0)
      rw [Ho.out] at h
      exact h
    rintro e w1 ⟨rfl, hb⟩
    obtain ⟨_, _, _, _, hsz, hbl⟩ := two_new hb
    clear hb
    go_wp2
    go_ret2
    exact ⟨rfl, hbl⟩
  | none =>
    have Ho := Lib.hid ho
    clear ho
    go_enter Tryd.func45, Tryd.ntmps45
    go_wp2_with fail
    refine (tryS_no 65 _ _ (enter_nBase1 _) ?_).mono ?_
    · intro w1 hb
      obtain ⟨c0, _, c1, _, _, _⟩ := two_new hb
      have h := base1_walk w.heap.size n W hn0 hn w1 (c0 0) (c1 0)
      rw [Ho.out] at h
      exact h
    rintro e w1 ⟨rfl, hb⟩
    obtain ⟨_, _, _, _, hsz, hbl⟩ := two_new hb
    clear hb
    go_wp2
    go_ret2
    exact ⟨rfl, hbl⟩

/-- A number in a field: by eights, or by bytes. -/
def fieldS (n W : Int) : Option (List UInt8) := match octS n W with
  | some l => some l
  | none => basS n W

theorem Field_walk (n W : Int) (hn0 : -9223372036854775808 ≤ n) (hn : n ≤ 9223372036854775807) (w : World) :
    Calls Tryd.prog 28 #[.int .i64 n, .int .i64 W] w (Ret (optStr (fieldS n W)) w) := by
  cases ho : octS n W with
  | some l =>
    have e : fieldS n W = some l := by unfold fieldS; rw [ho]
    rw [e]
    have Ho := Lib.hid ho
    clear ho e
    go_enter Tryd.func28, Tryd.ntmps28
    go_wp2_with fail
    refine (Octal_walk n W hn _).mono ?_
    rw [Ho.out]
    rintro e w1 ⟨rfl, hb⟩
    unfold optStr
    go_wp2
    go_ret2
    exact ⟨rfl, hb⟩
  | none =>
    have e : fieldS n W = basS n W := by unfold fieldS; rw [ho]
    rw [e]
    have Ho := Lib.hid ho
    clear ho e
    cases hc : basS n W with
    | some l =>
      have Hc := Lib.hid hc
      clear hc
      go_enter Tryd.func28, Tryd.ntmps28
      go_wp2_with fail
      refine (Octal_walk n W hn _).mono ?_
      rw [Ho.out]
      rintro e w1 ⟨rfl, hb⟩
      unfold optStr
      go_wp2_with fail
      refine (Base_walk n W hn0 hn _).mono ?_
      rw [Hc.out]
      rintro e w2 ⟨rfl, hb2⟩
      unfold optStr
      go_wp2
      go_ret2
      exact ⟨rfl, hb.trans (hb2.mono hb.size)⟩
    | none =>
      have Hc := Lib.hid hc
      clear hc
      go_enter Tryd.func28, Tryd.ntmps28
      go_wp2_with fail
      refine (Octal_walk n W hn _).mono ?_
      rw [Ho.out]
      rintro e w1 ⟨rfl, hb⟩
      unfold optStr
      go_wp2_with fail
      refine (Base_walk n W hn0 hn _).mono ?_
      rw [Hc.out]
      rintro e w2 ⟨rfl, hb2⟩
      unfold optStr
      go_wp2
      go_ret2
      exact ⟨rfl, hb.trans (hb2.mono hb.size)⟩
end Go.Proofs.YtdnpgloacdhliaaDoor
