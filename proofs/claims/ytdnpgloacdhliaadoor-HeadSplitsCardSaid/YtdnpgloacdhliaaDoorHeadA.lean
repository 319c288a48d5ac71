/- Package head: text, field: the walks. -/
import Derived.Test.YtdnpgloacdhliaaDoorNumH
namespace Go.Proofs.YtdnpgloacdhliaaDoor
open Go.RowKit

theorem data_app (a b : ByteArray) : (a ++ b).data.toList = a.data.toList ++ b.data.toList := by
  rw [ByteArray.data_append, Array.toList_append]

theorem repeat_zero (c : UInt8) (n : Nat) : Lib.repeatL [c] n = List.replicate n c := by
  induction n with
  | zero => rfl
  | succ n ih => rw [Lib.repeatL, ih, List.replicate_succ]; rfl

/-- A text with bytes 0 behind it. -/
def padZ (l : List UInt8) (n : Nat) : List UInt8 := l ++ List.replicate (n - l.length) 0

theorem text_walk (s : ByteArray) (n : Nat) (hs : s.size ≤ n) (hn : n ≤ 1000000) (w : World) :
    Calls Tryd.prog 18 #[.string s, .int .i64 n] w (Ret (str (padZ s.data.toList n)) w) := by
  have hL : s.data.toList.length = s.size := by rw [Lib.size_eq]
  go_enter Tryd.func18, Tryd.ntmps18
  go_wp2_with fail
  rw [show (n : Int) - s.size = ((n - s.size : Nat) : Int) from by omega]
  refine (Tryd.strings_Repeat ⟨#[0]⟩ (n - s.size) _ (by omega) (by rw [show (ByteArray.mk #[0]).size = 1 from rfl]; omega)).mono ?_
  rintro e w1 ⟨rfl, hb⟩
  rw [show (ByteArray.mk #[0]).data.toList = [0] from rfl, repeat_zero]
  go_wp2
  go_ret
  refine ⟨ret_str ?_, hb⟩
  rw [data_app]
  simp [padZ, hL]

theorem fieldS_len {n W : Int} {l : List UInt8} (h : fieldS n W = some l) : l.length = W.toNat ∧ wideB W = true := by
  unfold fieldS octS at h
  by_cases a : wideB W = true ∧ 0 ≤ n ∧ n.toNat < 8 ^ (W.toNat - 1)
  · rw [if_pos a] at h
    have hW : W = 8 ∨ W = 12 := by simpa [wideB] using a.1
    cases h
    refine ⟨?_, a.1⟩
    rw [List.length_append, octD_length]
    simp
    omega
  · rw [if_neg a] at h
    simp only [basS] at h
    by_cases b : wideB W = true ∧ (W = 12 ∨ (-72057594037927936 ≤ n ∧ n < 72057594037927936))
    · rw [if_pos b] at h
      have hW : W = 8 ∨ W = 12 := by simpa [wideB] using b.1
      cases h
      refine ⟨?_, b.1⟩
      rw [List.length_cons, bytD_length]
      omega
    · rw [if_neg b] at h
      cases h

theorem field_walk (n W : Int) (hn0 : -9223372036854775808 ≤ n) (hn : n ≤ 9223372036854775807) (w : World) :
    Calls Tryd.prog 19 #[.int .i64 n, .int .i64 W] w (Ret (str ((fieldS n W).getD [])) w) := by
  cases hf : fieldS n W with
  | some l =>
    have Hf := Lib.hid hf
    clear hf
    go_enter Tryd.func19, Tryd.ntmps19
    go_wp2_with fail
    refine (Field_walk n W hn0 hn _).mono ?_
    rw [Hf.out]
    rintro e w1 ⟨rfl, hb⟩
    unfold optStr
    go_wp2
    go_ret
    exact ⟨rfl, hb⟩
  | none =>
    have Hf := Lib.hid hf
    clear hf
    go_enter Tryd.func19, Tryd.ntmps19
    go_wp2_with fail
    refine (Field_walk n W hn0 hn _).mono ?_
    rw [Hf.out]
    rintro e w1 ⟨rfl, hb⟩
    unfold optStr
    go_wp2
    go_ret
    exact ⟨rfl, hb⟩
end Go.Proofs.YtdnpgloacdhliaaDoor
