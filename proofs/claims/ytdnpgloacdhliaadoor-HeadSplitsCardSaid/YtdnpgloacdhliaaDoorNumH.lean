/- Package num: ReadField: the walk. -/
import Derived.Test.YtdnpgloacdhliaaDoorNumG
namespace Go.Proofs.YtdnpgloacdhliaaDoor
open Go.RowKit

def readFieldS (s : List UInt8) : Option Int := match readOctS s with
  | some n => some n
  | none => match readBasS s with
    | some n => if fieldS n s.length = some s then some n else none
    | none => none

theorem readBasS_range {s : List UInt8} {n : Int} (h : readBasS s = some n) : -9223372036854775808 ≤ n ∧ n ≤ 9223372036854775807 := by
  unfold readBasS at h
  have hr := rdByt_range (s.drop 1) (if s.headD 0 = 255 then -1 else 0) (by split <;> omega) (by split <;> omega)
  generalize rdByt (s.drop 1) (if s.headD 0 = 255 then -1 else 0) = q at *
  by_cases h1 : wideB s.length = true
  · rw [if_pos h1] at h
    by_cases h2 : basS q s.length = some s
    · rw [if_pos h2] at h
      cases h
      exact hr
    · rw [if_neg h2] at h
      cases h
  · rw [if_neg h1] at h
    cases h

set_option maxRecDepth 20000 in
theorem ReadField_walk (s : ByteArray) (hs : s.size ≤ 12) (w : World) :
    Calls Tryd.prog 42 #[.string s] w (Ret (optInt (readFieldS s.data.toList)) w) := by
  have hL : s.data.toList.length = s.size := by rw [Lib.size_eq]
  cases ho : readOctS s.data.toList with
  | some n =>
    have e : readFieldS s.data.toList = some n := by unfold readFieldS; rw [ho]
    rw [e]
    have Ho := Lib.hid ho
    clear ho e hL
    go_enter Tryd.func42, Tryd.ntmps42
    go_wp2_with fail
    refine (ReadOctal_walk s hs _).mono ?_
    rw [Ho.out]
    rintro e w1 ⟨rfl, hb⟩
    unfold optInt
    go_wp2
    go_ret2
    exact ⟨rfl, hb⟩
  | none =>
    have Ho := Lib.hid ho
    cases hbs : readBasS s.data.toList with
    | none =>
      have e : readFieldS s.data.toList = none := by unfold readFieldS; rw [ho, hbs]
      rw [e]
      have Hbs := Lib.hid hbs
      clear ho hbs e hL
      go_enter Tryd.func42, Tryd.ntmps42
      go_wp2_with fail
      refine (ReadOctal_walk s hs _).mono ?_
      rw [Ho.out]
      rintro e w1 ⟨rfl, hb⟩
      unfold optInt
      go_wp2_with fail
      refine (ReadBase_walk s _).mono ?_
      rw [Hbs.out]
      rintro e w2 ⟨rfl, hb2⟩
      unfold optInt
      go_wp2_with fail
      refine (Field_walk 0 s.size (by omega) (by omega) _).mono ?_
      rintro e w3 ⟨rfl, hb3⟩
      have hb' := hb.trans ((hb2.trans (hb3.mono hb2.size)).mono hb.size)
      unfold optStr
      cases fieldS 0 (s.size : Int) with
      | some l =>
        go_wp2
        go_ret2
        exact ⟨rfl, hb'⟩
      | none =>
        go_wp2
        go_ret2
        exact ⟨rfl, hb'⟩
    | some n =>
      have e : readFieldS s.data.toList = if fieldS n s.size = some s.data.toList then some n else none := by unfold readFieldS; rw [ho, hbs, hL]
      have hr := readBasS_range hbs
      have Hbs := Lib.hid hbs
      clear ho hbs hL
      rw [e]
      clear e
      cases hf : fieldS n s.size with
      | none =>
        rw [if_neg (by simp)]
        have Hf := Lib.hid hf
        clear hf
        go_enter Tryd.func42, Tryd.ntmps42
        go_wp2_with fail
        refine (ReadOctal_walk s hs _).mono ?_
        rw [Ho.out]
        rintro e w1 ⟨rfl, hb⟩
        unfold optInt
        go_wp2_with fail
        refine (ReadBase_walk s _).mono ?_
        rw [Hbs.out]
        rintro e w2 ⟨rfl, hb2⟩
        unfold optInt
        go_wp2_with fail
        refine (Field_walk n s.size hr.1 hr.2 _).mono ?_
        rw [Hf.out]
        rintro e w3 ⟨rfl, hb3⟩
        have hb' := hb.trans ((hb2.trans (hb3.mono hb2.size)).mono hb.size)
        unfold optStr
        go_wp2
        go_ret2
        exact ⟨rfl, hb'⟩
      | some l =>
        by_cases hls : l = s.data.toList
        · subst hls
          rw [if_pos rfl]
          have Hf := Lib.hid hf
          clear hf
          go_enter Tryd.func42, Tryd.ntmps42
          go_wp2_with fail
          refine (ReadOctal_walk s hs _).mono ?_
          rw [Ho.out]
          rintro e w1 ⟨rfl, hb⟩
          unfold optInt
          go_wp2_with fail
          refine (ReadBase_walk s _).mono ?_
          rw [Hbs.out]
          rintro e w2 ⟨rfl, hb2⟩
          unfold optInt
          go_wp2_with fail
          refine (Field_walk n s.size hr.1 hr.2 _).mono ?_
          rw [Hf.out]
          rintro e w3 ⟨rfl, hb3⟩
          have hb' := hb.trans ((hb2.trans (hb3.mono hb2.size)).mono hb.size)
          unfold optStr
          go_wp2
          go_ret2
          exact ⟨rfl, hb'⟩
        · rw [if_neg (by intro h; exact hls (Option.some.inj h))]
          have Hf := Lib.hid hf
          have hne : (l == s.toList) = false := by
            rw [beq_eq_false_iff_ne, ByteArray.toList_eq]
            exact hls
          clear hf hls
          go_enter Tryd.func42, Tryd.ntmps42
          go_wp2_with fail
          refine (ReadOctal_walk s hs _).mono ?_
          rw [Ho.out]
          rintro e w1 ⟨rfl, hb⟩
          unfold optInt
          go_wp2_with fail
          refine (ReadBase_walk s _).mono ?_
          rw [Hbs.out]
          rintro e w2 ⟨rfl, hb2⟩
          unfold optInt
          go_wp2_with fail
          refine (Field_walk n s.size hr.1 hr.2 _).mono ?_
          rw [Hf.out]
          rintro e w3 ⟨rfl, hb3⟩
          have hb' := hb.trans ((hb2.trans (hb3.mono hb2.size)).mono hb.size)
          unfold optStr
          go_wp2
          go_ret2
          exact ⟨rfl, hb'⟩
end Go.Proofs.YtdnpgloacdhliaaDoor
