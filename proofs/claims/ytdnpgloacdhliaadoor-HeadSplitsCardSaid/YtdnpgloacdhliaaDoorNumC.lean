/- Package num: Octal: the walk. -/
import Derived.Test.YtdnpgloacdhliaaDoorNumB
import Derived.Test.YtdnpgloacdhliaaDoorTry
namespace Go.Proofs.YtdnpgloacdhliaaDoor
open Go.RowKit

theorem enter_nOctal1 (cap : Array Value) (W : World) : (callFunc 63 cap).run Tryd.prog W = .ok (.enter 63 cap) W := by simp [go_sem]

theorem octal1_walk (b : Nat) (n W : Int) (hn : n ≤ 9223372036854775807) (w : World) (c0 : w.cell? ⟨b, 0, none⟩ = some (.int .i64 n)) (c1 : w.cell? ⟨b + 1, 0, none⟩ = some (.int .i64 W)) :
    Calls Tryd.prog 63 #[.pointer (some ⟨b, 0, none⟩), .pointer (some ⟨b + 1, 0, none⟩)] w (RP noField ((octS n W).map str) w) := by
  generalize ho : octS n W = o
  have Ho := Lib.hid ho
  clear ho
  go_enter Tryd.func63, Tryd.ntmps63
  go_wp2_with fail
  refine (octal_walk n W hn _).mono ?_
  rw [Ho.out]
  cases o with
  | some l =>
    rintro e w1 ⟨rfl, hb⟩
    go_wp2
    go_ret
    exact ⟨rfl, hb⟩
  | none =>
    rintro e w1 ⟨rfl, hb⟩
    exact ⟨rfl, rfl, hb⟩

/-- A text that may be none, as Go hands it back. -/
def optStr (o : Option (List UInt8)) : Value := match o with
  | some l => .tuple #[str l, .bool true]
  | none => .tuple #[str [], .bool false]

theorem Octal_walk (n W : Int) (hn : n ≤ 9223372036854775807) (w : World) :
    Calls Tryd.prog 44 #[.int .i64 n, .int .i64 W] w (Ret (optStr (octS n W)) w) := by
  have hmf := make_func
  cases ho : octS n W with
  | some l =>
    have Ho := Lib.hid ho
    clear ho
    go_enter Tryd.func44, Tryd.ntmps44
    go_wp2_with fail
    refine (tryS_yes 63 _ l _ (enter_nOctal1 _) ?_).mono ?_
    · intro w1 hb
      obtain ⟨c0, _, c1, _, _, _⟩ := two_new hb
      have h := octal1_walk w.heap.size n W hn w1 (c0 0) (c1 0)
      rw [Ho.out] at h
      exact h
    rintro e w1 ⟨rfl, hb⟩
    obtain ⟨_, _, _, _, hsz, hbl⟩ := two_new hb
    clear hb
    go_wp2
    go_ret2
    exact ⟨rfl, hbl⟩
  | none =>
    have Ho := Lib.hid ho
    clear ho
    go_enter Tryd.func44, Tryd.ntmps44
    go_wp2_with fail
    refine (tryS_no 63 _ _ (enter_nOctal1 _) ?_).mono ?_
    · intro w1 hb
      obtain ⟨c0, _, c1, _, _, _⟩ := two_new hb
      have h := octal1_walk w.heap.size n W hn w1 (c0 0) (c1 0)
      rw [Ho.out] at h
      exact h
    rintro e w1 ⟨rfl, hb⟩
    obtain ⟨_, _, _, _, hsz, hbl⟩ := two_new hb
    clear hb
    go_wp2
    go_ret2
    exact ⟨rfl, hbl⟩
end Go.Proofs.YtdnpgloacdhliaaDoor
