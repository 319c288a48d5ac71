/- Package num: wide, must: the walks. -/
import Derived.Test.YtdnpgloacdhliaaDoorKit
namespace Go.Proofs.YtdnpgloacdhliaaDoor
open Go.RowKit

/-- Are there fields so wide? -/
def wideB (n : Int) : Bool := n == 8 || n == 12

theorem wide_walk (n : Int) (w : World) : Calls Tryd.prog 85 #[.int .i64 n] w fun e w' => e = .returned (.bool (wideB n)) ∧ w = w' := by
  by_cases h8 : n = 8
  · subst h8
    go_enter Tryd.func85, Tryd.ntmps85
    go_wp2
    go_ret
    exact ⟨rfl, rfl⟩
  · by_cases h12 : n = 12
    · subst h12
      go_enter Tryd.func85, Tryd.ntmps85
      go_wp2
      go_ret
      exact ⟨rfl, rfl⟩
    · have a : (n == 8) = false := by simpa using h8
      have b : (n == 12) = false := by simpa using h12
      go_enter Tryd.func85, Tryd.ntmps85
      go_wp2
      go_ret
      exact ⟨by simp [wideB, a, b], rfl⟩

theorem must_yes (w : World) : Calls Tryd.prog 83 #[.bool true] w fun e w' => e = .returned (.tuple #[]) ∧ w = w' := by
  go_enter Tryd.func83, Tryd.ntmps83
  go_wp2
  go_end0
  exact ⟨rfl, rfl⟩

theorem must_no (w : World) : Calls Tryd.prog 83 #[.bool false] w fun e w' => e = .panicked [{ v := noField, recovered := false }] ∧ w = w' := by
  go_enter Tryd.func83, Tryd.ntmps83
  go_wp2
  exact ⟨rfl, rfl, rfl⟩
end Go.Proofs.YtdnpgloacdhliaaDoor
