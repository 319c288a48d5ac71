/- Package head: Split, Join; Err: the walks. -/
import Derived.Test.YtdnpgloacdhliaaDoorHeadD
import Derived.Test.YtdnpgloacdhliaaDoorHeadP
import Derived.Deep.DeepFit
import Derived.OwnWalk
import Derived.Deep.DeepCutAuto
namespace Go.Proofs.YtdnpgloacdhliaaDoor
open Go.RowKit

theorem Err_walk (n : Int) (w : World) : Calls Tryd.prog 12 #[.int .i64 n] w fun e w' => e = .returned (.int .i64 n) ∧ w' = w := by
  go_enter Tryd.func12, Tryd.ntmps12
  go_wp2
  go_ret
  exact ⟨rfl, rfl⟩

/-- A header's path. -/
def joinS (h : Hd) : List UInt8 := if h.pref = [] then h.name else h.pref ++ [47] ++ h.name

set_option maxRecDepth 20000 in
theorem Join_walk (h : Hd) (hk : SmallH h) (w : World) : Calls Tryd.prog 16 #[hv h] w (Ret (str (joinS h)) w) := by
  obtain ⟨h1, _, _, _, h5⟩ := hk
  have hn := size_str h.name
  have hp := size_str h.pref
  by_cases hz : h.pref = []
  · have hj : joinS h = h.name := by simp [joinS, hz]
    have hb : (⟨h.pref.toArray⟩ : ByteArray) = ⟨#[]⟩ := by rw [hz]
    rw [hj]
    clear hj
    go_enter Tryd.func16, Tryd.ntmps16
    go_wp2
    go_ret
    exact ⟨rfl, (Box.made w).2⟩
  · have hie : h.pref.isEmpty = false := by simpa using hz
    have hj : joinS h = h.pref ++ [47] ++ h.name := by simp [joinS, hz]
    rw [hj]
    clear hj
    go_enter Tryd.func16, Tryd.ntmps16
    go_wp2
    go_ret
    exact ⟨ret_str (by simp), (Box.made w).2⟩

/-- A path as a prefix and a name. -/
def splitS (l : List UInt8) : List UInt8 × List UInt8 × Bool :=
  if l.length ≤ 100 then ([], l, true) else
  if Lib.indexByte (l.drop (l.length - 101)) 47 < 0 then ([], [], false) else
  let at_ := (Lib.indexByte (l.drop (l.length - 101)) 47).toNat + (l.length - 101)
  if at_ < 1 ∨ 155 < at_ ∨ at_ = l.length - 1 then ([], [], false) else (l.take at_, l.drop (at_ + 1), true)
def splitV (r : List UInt8 × List UInt8 × Bool) : Value := .tuple #[str r.1, str r.2.1, .bool r.2.2]

set_option maxRecDepth 20000 in
theorem Split_walk (l : List UInt8) (hl : l.length ≤ 140737488355328) (w : World) : Calls Tryd.prog 15 #[str l] w (Ret (splitV (splitS l)) w) := by
  have hn := size_str l
  by_cases h1 : l.length ≤ 100
  · have hj : splitS l = ([], l, true) := by simp [splitS, h1]
    rw [hj]
    clear hj
    go_enter Tryd.func15, Tryd.ntmps15
    go_wp2
    go_ret3
    exact ⟨rfl, .refl _ _⟩
  · have Hj : Hid (splitS l = if Lib.indexByte (l.drop (l.length - 101)) 47 < 0 then ([], [], false) else
      if (Lib.indexByte (l.drop (l.length - 101)) 47).toNat + (l.length - 101) < 1 ∨ 155 < (Lib.indexByte (l.drop (l.length - 101)) 47).toNat + (l.length - 101) ∨ (Lib.indexByte (l.drop (l.length - 101)) 47).toNat + (l.length - 101) = l.length - 1
        then ([], [], false) else (l.take ((Lib.indexByte (l.drop (l.length - 101)) 47).toNat + (l.length - 101)), l.drop ((Lib.indexByte (l.drop (l.length - 101)) 47).toNat + (l.length - 101) + 1), true)) := Lib.hid (by simp [splitS, h1])
    obtain ⟨k, hk⟩ : ∃ k, l.length = k + 101 := ⟨l.length - 101, by omega⟩
    have hks : l.length - 101 = k := by omega
    rw [hks] at Hj
    go_enter Tryd.func15, Tryd.ntmps15
    go_wp2_with fail
    go_fit (Tryd.strings_IndexByte _ 47 _)
    rintro e w1 ⟨rfl, rfl⟩
    have hex : ((⟨l.toArray⟩ : ByteArray).extract k (k + 101)).data.toList = l.drop k := by
      rw [show k + 101 = (⟨l.toArray⟩ : ByteArray).size by rw [hn, hk], Lib.extract_to_end]
    rw [hex, show ((47 : Int).toNat.toUInt8) = 47 from rfl]
    have hge := Lib.indexByte_ge (l.drop k) 47
    have hle : ∀ o : Nat, Lib.indexByte (l.drop k) 47 = o → o < 101 := fun o ho => by
      have := (List.getElem?_eq_some_iff.1 (Lib.indexByte_some ho).1).1
      rw [List.length_drop] at this
      omega
    generalize Lib.indexByte (l.drop k) 47 = i at *
    by_cases hneg : i < 0
    · rw [if_pos hneg] at Hj
      clear hle hex
      go_wp2_with fail
      go_ret3
      rw [Hj.out]
      exact ⟨rfl, .refl _ _⟩
    · obtain ⟨o, rfl⟩ : ∃ o : Nat, i = o := ⟨i.toNat, by omega⟩
      have ho := hle o rfl
      rw [if_neg hneg] at Hj
      simp only [Int.toNat_natCast] at Hj
      have hn0 : ¬ ((o : Int) < 0) := by omega
      clear hle hex hneg hge
      go_upto_region 7 with fail
      rw [show ((o : Int) + ((k : Int) + 101 - 100 - 1)) = ((o + k : Nat) : Int) from by omega]
      obtain ⟨m, hm⟩ : ∃ m, m = o + k := ⟨_, rfl⟩
      rw [← hm] at Hj ⊢
      have hmk : m ≤ k + 100 := by omega
      clear hm
      by_cases hc1 : m < 1
      · rw [if_pos (by omega)] at Hj
        go_wp2_with fail
        go_ret3
        rw [Hj.out]
        exact ⟨rfl, .refl _ _⟩
      · by_cases hc2 : 155 < m
        · rw [if_pos (by omega)] at Hj
          go_wp2_with fail
          go_ret3
          rw [Hj.out]
          exact ⟨rfl, .refl _ _⟩
        · by_cases hc3 : m = k + 100
          · rw [if_pos (by omega)] at Hj
            have hc4 : ((m : Int) == (k : Int) + 101 - 1) = true := by simp; omega
            clear hc3
            go_wp2_with fail
            go_ret3
            rw [Hj.out]
            exact ⟨rfl, .refl _ _⟩
          · rw [if_neg (by omega)] at Hj
            have hc4 : ((m : Int) == (k : Int) + 101 - 1) = false := by simp; omega
            go_wp2_with fail
            have hml : m < l.length := by omega
            go_region
            go_wp2_with fail
            go_ret3
            rw [Hj.out]
            refine ⟨?_, (Below.refl _ _).drew⟩
            have e1 : (⟨l.toArray⟩ : ByteArray).extract 0 m = ⟨(l.take m).toArray⟩ := of_data (Lib.extract_from_zero _ m)
            have e2 : (⟨l.toArray⟩ : ByteArray).extract (m + 1) (k + 101) = ⟨(l.drop (m + 1)).toArray⟩ := of_data (by
              rw [show k + 101 = (⟨l.toArray⟩ : ByteArray).size by rw [hn, hk], Lib.extract_to_end])
            show Ending.returned (.tuple #[.string ((⟨l.toArray⟩ : ByteArray).extract 0 m), .string ((⟨l.toArray⟩ : ByteArray).extract (m + 1) (k + 101)), .bool true]) = _
            rw [e1, e2]
            rfl
end Go.Proofs.YtdnpgloacdhliaaDoor
