/- Paths that are split: the plain law. -/
import Derived.Test.YtdnpgloacdhliaaDoorHeadI
namespace Go.Proofs.YtdnpgloacdhliaaDoor
open Go.RowKit

theorem split_yes {l p n : List UInt8} (hl : 100 < l.length) (h : splitS l = (p, n, true)) : 0 < p.length ∧ p.length ≤ 155 ∧ 0 < n.length ∧ n.length ≤ 100 ∧ p ++ [47] ++ n = l := by
  unfold splitS at h
  rw [if_neg (by omega)] at h
  by_cases h1 : Lib.indexByte (l.drop (l.length - 101)) 47 < 0
  · rw [if_pos h1] at h
    simp at h
  · rw [if_neg h1] at h
    obtain ⟨o, ho⟩ : ∃ o : Nat, Lib.indexByte (l.drop (l.length - 101)) 47 = o := ⟨_, (Int.toNat_of_nonneg (by omega)).symm⟩
    simp only [ho, Int.toNat_natCast] at h
    by_cases h2 : o + (l.length - 101) < 1 ∨ 155 < o + (l.length - 101) ∨ o + (l.length - 101) = l.length - 1
    · rw [if_pos h2] at h
      simp at h
    · rw [if_neg h2] at h
      have hs := (Lib.indexByte_some ho).1
      have ho2 := (List.getElem?_eq_some_iff.1 hs).1
      rw [List.length_drop] at ho2
      rw [List.getElem?_drop] at hs
      simp only [Prod.mk.injEq, and_true] at h
      obtain ⟨rfl, rfl⟩ := h
      rw [List.length_take, List.length_drop]
      refine ⟨by omega, by omega, by omega, by omega, ?_⟩
      obtain ⟨hlt, he⟩ := List.getElem?_eq_some_iff.1 hs
      have e : l.length - 101 + o = o + (l.length - 101) := by omega
      have hd : l.drop (o + (l.length - 101)) = 47 :: l.drop (o + (l.length - 101) + 1) := by
        rw [List.drop_eq_getElem_cons (by omega)]
        congr 1
        simpa [e] using he
      rw [List.append_assoc, List.singleton_append, ← hd, List.take_append_drop]

theorem split_no {l p n : List UInt8} (hl : 100 < l.length) (h : splitS l = (p, n, false)) : p = [] ∧ n = [] ∧
    ∀ k, k + 1 < l.length → l[k]? = some 47 → l.length - k - 1 ≤ 100 → (∀ j, j < k → l[j]? = some 47 → ¬ l.length - j - 1 ≤ 100) → k = 0 ∨ 155 < k := by
  unfold splitS at h
  rw [if_neg (by omega)] at h
  by_cases h1 : Lib.indexByte (l.drop (l.length - 101)) 47 < 0
  · rw [if_pos h1] at h
    simp only [Prod.mk.injEq, and_true] at h
    refine ⟨h.1.symm, h.2.symm, fun k hk hk47 hk100 _ => ?_⟩
    exfalso
    have hge := Lib.indexByte_ge (l.drop (l.length - 101)) 47
    have := Lib.indexByte_none (show Lib.indexByte (l.drop (l.length - 101)) 47 = -1 by omega) (k - (l.length - 101))
    rw [List.getElem?_drop, show l.length - 101 + (k - (l.length - 101)) = k by omega] at this
    exact this hk47
  · rw [if_neg h1] at h
    obtain ⟨o, ho⟩ : ∃ o : Nat, Lib.indexByte (l.drop (l.length - 101)) 47 = o := ⟨_, (Int.toNat_of_nonneg (by omega)).symm⟩
    simp only [ho, Int.toNat_natCast] at h
    by_cases h2 : o + (l.length - 101) < 1 ∨ 155 < o + (l.length - 101) ∨ o + (l.length - 101) = l.length - 1
    · rw [if_pos h2] at h
      simp only [Prod.mk.injEq, and_true] at h
      refine ⟨h.1.symm, h.2.symm, fun k hk hk47 hk100 hfirst => ?_⟩
      obtain ⟨hs, hno⟩ := Lib.indexByte_some ho
      have ho2 := (List.getElem?_eq_some_iff.1 hs).1
      rw [List.length_drop] at ho2
      rw [List.getElem?_drop] at hs
      have hko : k = o + (l.length - 101) := by
        rcases Nat.lt_trichotomy k (o + (l.length - 101)) with hlt | heq | hgt
        · exfalso
          have := hno (k - (l.length - 101)) (by omega)
          rw [List.getElem?_drop, show l.length - 101 + (k - (l.length - 101)) = k by omega] at this
          exact this hk47
        · exact heq
        · exfalso
          rw [show l.length - 101 + o = o + (l.length - 101) by omega] at hs
          exact hfirst _ hgt hs (by omega)
      omega
    · rw [if_neg h2] at h
      simp at h

theorem join_split {p n : List UInt8} (hp : 0 < p.length) (h : Hd) (h1 : h.pref = p) (h2 : h.name = n) : joinS h = p ++ [47] ++ n := by
  have : h.pref ≠ [] := by rw [h1]; intro e; rw [e] at hp; simp at hp
  rw [joinS, if_neg this, h1, h2]
end Go.Proofs.YtdnpgloacdhliaaDoor
