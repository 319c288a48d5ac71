/- slices.Reverse over bytes: the walk. -/
import Derived.Test.YtdnpgloacdhliaaDoorKit
namespace Go.Proofs.YtdnpgloacdhliaaDoor
open Go.RowKit

/-- A list of which i places at each end have been exchanged. -/
def revTo (i : Nat) (l : List UInt8) : List UInt8 := (List.range l.length).map fun k => if k < i ∨ l.length - i ≤ k then l.getD (l.length - 1 - k) 0 else l.getD k 0
theorem revTo_length (i : Nat) (l : List UInt8) : (revTo i l).length = l.length := by simp [revTo]
theorem revTo_get (i : Nat) (l : List UInt8) (k : Nat) (h : k < (revTo i l).length) : (revTo i l)[k] = if k < i ∨ l.length - i ≤ k then l.getD (l.length - 1 - k) 0 else l.getD k 0 := by simp [revTo]
theorem getD_eq (l : List UInt8) (k : Nat) (h : k < l.length) : l.getD k 0 = l[k] := by simp [List.getD_eq_getElem?_getD, List.getElem?_eq_getElem h]
theorem revTo_zero (l : List UInt8) : revTo 0 l = l := by
  apply List.ext_getElem (revTo_length 0 l)
  intro k h1 h2
  rw [revTo_get, if_neg (by omega), getD_eq l k h2]
theorem revTo_end (i : Nat) (l : List UInt8) (h : l.length ≤ 2 * i + 1) : revTo i l = l.reverse := by
  apply List.ext_getElem (by rw [revTo_length, List.length_reverse])
  intro k h1 h2
  rw [revTo_length] at h1
  rw [revTo_get, List.getElem_reverse]
  split
  · rw [getD_eq l _ (by omega)]
  · have : k = l.length - 1 - k := by omega
    rw [getD_eq l k h1]
    congr 1
theorem revTo_step (i : Nat) (l : List UInt8) (h : 2 * i + 1 < l.length) :
    ((revTo i l).set i (l.getD (l.length - 1 - i) 0)).set (l.length - 1 - i) (l.getD i 0) = revTo (i + 1) l := by
  apply List.ext_getElem (by simp [revTo_length])
  intro k h1 h2
  rw [revTo_length] at h2
  rw [List.getElem_set, List.getElem_set, revTo_get, revTo_get]
  by_cases a : l.length - 1 - i = k
  · rw [if_pos a, if_pos (by omega)]
    congr 1
    omega
  · rw [if_neg a]
    by_cases b : i = k
    · rw [if_pos b, if_pos (by omega)]
      congr 1
      omega
    · rw [if_neg b]
      by_cases c : k < i ∨ l.length - i ≤ k
      · rw [if_pos c, if_pos (by omega)]
      · rw [if_neg c, if_neg (by omega)]

theorem only_drew {a w : World} {row : Option Nat} (h : a.grownBy w row) : a.grownBy w.drew row := ⟨h.os, h.tape, h.output, h.size, h.block⟩
theorem only_set {a w : World} {g : Nat} (h : a.grownBy w (some g)) (i : Nat) (u : Value) : a.grownBy (w.setCell ⟨g, i, none⟩ u) (some g) :=
  ⟨h.os, h.tape, h.output, by simpa [World.setCell] using h.size, fun k hk hne => (Below.heap_setCell w ⟨g, i, none⟩ u k (by rintro rfl; exact hne rfl)).trans (h.block k hk hne)⟩

set_option maxHeartbeats 800000 in
theorem reverse_walk (base g n cap : Nat) (l : List UInt8) (w : World) (h : OwnB w base g n cap l) (hn : n ≤ 1000000) :
    Calls Tryd.prog 90 #[.slice (some ⟨g, 0, none⟩) n cap] w fun e w' => e = .returned (.tuple #[]) ∧ OwnB w' base g n cap l.reverse ∧ w.grownBy w' (some g) := by
  have hl := h.len
  have Hl := Lib.hid hl
  have H := Lib.hid h
  clear hl h
  go_enter Tryd.func90, Tryd.ntmps90
  go_wp2
  go_loopw [2, 3] (fun vi vj wr => ∃ i : Nat, 2 * i ≤ n ∧ vi = .int .i64 i ∧ vj = .int .i64 ((n : Int) - 1 - i) ∧ OwnB wr base g n cap (revTo i l) ∧ w.grownBy wr (some g)) (fun vi vj _ => (intOf vj + 1 - intOf vi).toNat)
  case atStart =>
    exact ⟨0, by omega, by simp, by simp, by rw [revTo_zero]; exact H.out, World.grownBy.refl _ _⟩
  case round =>
    obtain ⟨i, hi, rfl, rfl, hown, hg⟩ := hrel
    by_cases hlt : 2 * i + 1 < n
    · obtain ⟨j, hj⟩ : ∃ j : Nat, j = n - 1 - i := ⟨_, rfl⟩
      rw [show (n : Int) - 1 - i = (j : Int) from by omega]
      have c1 := (hown.cell i (by rw [revTo_length]; have := Hl.out; omega))
      have c2 := (hown.cell j (by rw [revTo_length]; have := Hl.out; omega))
      rw [revTo_get, if_neg (by have := Hl.out; omega)] at c1 c2
      have Ho := Lib.hid hown
      have Hlt := Lib.hid hlt
      have hg' := Lib.hid hg
      have Hj := Lib.hid hj
      have hij : (i : Int) < j := by omega
      have hij' : i < j := by omega
      have hjn : (j : Int) < n := by omega
      have hjn' : j < n := by omega
      clear hown hg hj hlt hi
      obtain ⟨c1, f1⟩ := c1
      obtain ⟨c2, f2⟩ := c2
      generalize hx : l.getD i 0 = x at *
      generalize hy : l.getD j 0 = y at *
      have Hx := Lib.hid hx
      have Hy := Lib.hid hy
      clear hx hy
      go_wp2
      go_region
      go_wp2
      refine ⟨⟨i + 1, by have := Hlt.out; omega, by go_num, ?_, ?_, ?_⟩, by simp only [intOf]; omega⟩
      · have := Hj.out
        rw [show (j : Int) - 1 = (n : Int) - 1 - ((i + 1 : Nat) : Int) from by omega]
      · have hs := OwnB.store (OwnB.store Ho.out i y) j x
        have e := revTo_step i l (by have := Hj.out; have := Hl.out; omega)
        rw [show l.length - 1 - i = j from by have := Hj.out; have := Hl.out; omega, Hx.out, Hy.out] at e
        rw [e] at hs
        exact hs
      · exact only_drew (only_set (only_set hg'.out _ _) _ _)
    · have e : revTo i l = l.reverse := revTo_end i l (by have := Hl.out; omega)
      rw [e] at hown
      have hd : decide ((i : Int) < (n : Int) - 1 - i) = false := by simp; omega
      clear hlt e
      go_wp2
      first
        | (go_end0; exact ⟨rfl, hown, hg⟩)
        | exact ⟨rfl, _, results_none rfl _ _ _, rfl, hown, hg⟩
end Go.Proofs.YtdnpgloacdhliaaDoor
