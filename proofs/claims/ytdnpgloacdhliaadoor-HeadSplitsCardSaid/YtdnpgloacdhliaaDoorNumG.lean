/- Package num: ReadOctal, ReadBase: the walks. -/
import Derived.Test.YtdnpgloacdhliaaDoorNumF
import Derived.Deep.DeepCutAuto
namespace Go.Proofs.YtdnpgloacdhliaaDoor
open Go.RowKit

/-- A number that may be none, as Go hands it back. -/
def optInt (o : Option Int) : Value := match o with
  | some n => .tuple #[.int .i64 n, .bool true]
  | none => .tuple #[.int .i64 0, .bool false]

theorem ReadOctal_walk (s : ByteArray) (hs : s.size ≤ 12) (w : World) :
    Calls Tryd.prog 59 #[.string s] w (Ret (optInt (readOctS s.data.toList)) w) := by
  have hmf := make_func
  cases ho : readOctS s.data.toList with
  | some l =>
    have Ho := Lib.hid ho
    clear ho
    go_enter Tryd.func59, Tryd.ntmps59
    go_wp2_with fail
    refine (tryI_yes 81 _ l _ (enter_nReadOctal1 _) ?_).mono ?_
    · intro w1 hb
      obtain ⟨c0, _, _, _⟩ := one_new hb
      have h := readOctal1_walk w.heap.size s hs w1 (c0 0)
      rw [Ho.out] at h
      exact h
    rintro e w1 ⟨rfl, hb⟩
    obtain ⟨_, _, hsz, hbl⟩ := one_new hb
    clear hb
    go_wp2
    go_ret2
    exact ⟨rfl, hbl⟩
  | none =>
    have Ho := Lib.hid ho
    clear ho
    go_enter Tryd.func59, Tryd.ntmps59
    go_wp2_with fail
    refine (tryI_no 81 _ _ (enter_nReadOctal1 _) ?_).mono ?_
    · intro w1 hb
      obtain ⟨c0, _, _, _⟩ := one_new hb
      have h := readOctal1_walk w.heap.size s hs w1 (c0 0)
      rw [Ho.out] at h
      exact h
    rintro e w1 ⟨rfl, hb⟩
    obtain ⟨_, _, hsz, hbl⟩ := one_new hb
    clear hb
    go_wp2
    go_ret2
    exact ⟨rfl, hbl⟩

/-- The number that bytes tell, from a number on. -/
def rdByt (l : List UInt8) (n : Int) : Int := l.foldl (fun n c => wrap64 (n * 256 + c.toNat)) n
theorem rdByt_snoc (l : List UInt8) (n : Int) (c : UInt8) : rdByt (l ++ [c]) n = wrap64 (rdByt l n * 256 + c.toNat) := by simp [rdByt]
theorem rdByt_range (l : List UInt8) (n : Int) (h0 : -9223372036854775808 ≤ n) (h1 : n ≤ 9223372036854775807) : -9223372036854775808 ≤ rdByt l n ∧ rdByt l n ≤ 9223372036854775807 := by
  induction l generalizing n with
  | nil => exact ⟨h0, h1⟩
  | cons c l ih =>
    have h : rdByt (c :: l) n = rdByt l (wrap64 (n * 256 + c.toNat)) := rfl
    rw [h]
    refine ih _ ?_ ?_ <;> unfold wrap64 <;> omega

def readBasS (s : List UInt8) : Option Int :=
  if wideB s.length = true then
    if basS (rdByt (s.drop 1) (if s.headD 0 = 255 then -1 else 0)) s.length = some s then some (rdByt (s.drop 1) (if s.headD 0 = 255 then -1 else 0)) else none
  else none

theorem enter_nReadBase1 (cap : Array Value) (W : World) : (callFunc 84 cap).run Tryd.prog W = .ok (.enter 84 cap) W := by simp [go_sem]

attribute [local go_sem ↓] Go.wp_at_zero Go.wp_at_succ

set_option maxRecDepth 20000 in
set_option maxHeartbeats 800000 in
theorem readBase1_walk (b : Nat) (s : ByteArray) (w : World) (c0 : w.cell? ⟨b, 0, none⟩ = some (.string s)) :
    Calls Tryd.prog 84 #[.pointer (some ⟨b, 0, none⟩)] w (RP noField ((readBasS s.data.toList).map (.int .i64 ·)) w) := by
  have hL : s.data.toList.length = s.size := by rw [Lib.size_eq]
  by_cases hW : wideB (s.size : Int) = true
  · have hW' : s.size = 8 ∨ s.size = 12 := by
      have : (s.size : Int) = 8 ∨ (s.size : Int) = 12 := by simpa [wideB] using hW
      omega
    have hs8 : 8 ≤ s.size := by omega
    have hs12 : s.size ≤ 12 := by omega
    have HW := Lib.hid hW
    have HL := Lib.hid hL
    clear hW hW' hL
    have kc := conv_bytes
    go_enter Tryd.func84, Tryd.ntmps84
    go_wp2_with fail
    refine (wide_walk _ _).mono ?_
    rintro e w' ⟨rfl, rfl⟩
    rw [HW.out]
    go_wp2_with fail
    refine (must_yes _).mono ?_
    rintro e w' ⟨rfl, rfl⟩
    obtain ⟨n0, hn0⟩ : ∃ n0 : Int, n0 = (if s.data.toList.headD 0 = 255 then -1 else 0) := ⟨_, rfl⟩
    have h0 : s.data.toList.headD 0 = s[0] := by
      rw [List.headD_eq_head?_getD, List.head?_eq_getElem?, List.getElem?_eq_getElem (by have := HL.out; omega)]
      rfl
    have Hn0 := Lib.hid hn0
    have H0 := Lib.hid h0
    clear hn0 h0
    go_upto_if 11 with (fail)
    go_cut [2] (fun s2 wx => s2 = .int .i64 n0 ∧ wx = w)
    case first =>
      go_wp2_with fail
      all_goals go_meet
      · refine ⟨?_, rfl⟩
        rw [Hn0.out, H0.out, if_pos]
        have h : ((s[0].toNat : Int) == 255) = true := by assumption
        have h3 : (s[0].toNat : Int) = 255 := by simpa using h
        have h2 : s[0].toNat = 255 := by omega
        exact UInt8.toNat_inj.1 h2
      · refine ⟨?_, rfl⟩
        rw [Hn0.out, H0.out, if_neg]
        have h : ((s[0].toNat : Int) == 255) = false := by assumption
        intro h2
        rw [h2] at h
        exact absurd h (by decide)
    case rest =>
      obtain ⟨rfl, rfl⟩ := hcut
      go_wp2_with fail
      have hext : s.extract 1 s.size = ⟨(s.data.toList.drop 1).toArray⟩ := of_data (Lib.extract_to_end s 1)
      rw [hext]
      have htl : (s.data.toList.drop 1).length = s.size - 1 := by rw [List.length_drop, HL.out]
      have hrb : Hid (readBasS s.data.toList = if basS (rdByt (s.data.toList.drop 1) n0) s.size = some s.data.toList then some (rdByt (s.data.toList.drop 1) n0) else none) :=
        Lib.hid (by unfold readBasS; rw [HL.out, if_pos HW.out, ← Hn0.out])
      have hn0r : Hid (-9223372036854775808 ≤ n0 ∧ n0 ≤ 9223372036854775807) := Lib.hid (by rw [Hn0.out]; split <;> omega)
      generalize s.data.toList.drop 1 = t at *
      have hbl := bytes_below wc ⟨t.toArray⟩
      have hcs := bytes_cell wc t
      have c1 := (hbl.cell (p := ⟨b, 0, none⟩) (World.block_lt_of_cell? wc _ c0)).trans c0
      generalize Lib.bytesWorld wc 5 ⟨t.toArray⟩ = W1 at *
      generalize grownCap wc (s.size - 1) 0 5 = cap at *
      have Hcs := Lib.hid hcs
      have Htl := Lib.hid htl
      have htn : t.length = s.size - 1 := htl
      have hs1 : ((s.size - 1 : Nat) : Int) = (s.size : Int) - 1 := by omega
      clear hcs kc hext htl htn
      obtain ⟨m, hm⟩ : ∃ m, m = s.size - 1 := ⟨_, rfl⟩
      have Hm := Lib.hid hm
      rw [← hm]
      have hm12 : m ≤ 12 := by omega
      clear hm hs1
      go_loop [2, 16] (fun vn vi => ∃ k : Nat, k ≤ m ∧ vn = .int .i64 (rdByt (t.take k) n0) ∧ vi = .int .i64 k) (fun _ vi => (m - intOf vi).toNat)
      case atStart => exact ⟨0, by omega, rfl, rfl⟩
      case round =>
        obtain ⟨k, hk, rfl, rfl⟩ := hrel
        have hr := rdByt_range (t.take k) n0 hn0r.out.1 hn0r.out.2
        by_cases hlt : k < m
        · have hlt2 : k < t.length := by rw [Htl.out, ← Hm.out]; exact hlt
          have hc := Hcs.out k hlt2
          have hstep : rdByt (t.take (k + 1)) n0 = wrap64 (rdByt (t.take k) n0 * 256 + t[k].toNat) := by rw [List.take_succ_eq_append_getElem hlt2, rdByt_snoc]
          have Hstep := Lib.hid hstep
          clear hstep
          obtain ⟨hr0, hr1⟩ := hr
          generalize rdByt (t.take k) n0 = q at *
          generalize hcc : t[k].toNat = c at *
          have hc256 : c < 256 := by rw [← hcc]; exact t[k].toNat_lt
          clear hcc
          go_wp2
          refine ⟨⟨k + 1, by omega, ?_, by go_num⟩, by simp only [intOf]; omega⟩
          rw [byt_or q c hc256, Hstep.out]
        · have hk' : k = m := by omega
          subst hk'
          have htk : t.take k = t := List.take_of_length_le (by rw [Htl.out, ← Hm.out]; exact Nat.le_refl _)
          rw [htk] at hr ⊢
          clear htk hk hlt
          obtain ⟨hr0, hr1⟩ := hr
          generalize rdByt t n0 = q at *
          have Hw := fun w => base_walk q s.size hr0 hr1 w
          have Hbas := Lib.hid Hw
          clear Hw
          by_cases hoc : basS q s.size = some s.data.toList
          · have ho2 : readBasS s.data.toList = some q := by rw [hrb.out, if_pos hoc]
            have Ho2 := Lib.hid ho2
            have Hoc := Lib.hid hoc
            clear hoc ho2 hrb
            go_wp2_with fail
            go_region_with (first | (go_at_call 66; refine (Hbas.out _).mono ?_; rw [Hoc.out]; rintro e w2 ⟨rfl, hb2⟩; have c2 := (hb2.cell (p := ⟨b, 0, none⟩) (World.block_lt_of_cell? _ _ c1)).trans c1) | (go_at_call 83; refine (must_yes _).mono ?_; rintro e w3 ⟨rfl, rfl⟩))
            all_goals go_wp2
            all_goals go_ret
            all_goals rw [Ho2.out]
            all_goals exact ⟨rfl, blw_via hbl hb2⟩
          · have ho2 : readBasS s.data.toList = none := by rw [hrb.out, if_neg hoc]
            have Ho2 : Hid (RP noField ((readBasS s.data.toList).map (.int .i64 ·)) wc = Pan noField wc) := Lib.hid (by rw [ho2]; rfl)
            clear hrb ho2
            cases hov : basS q s.size with
            | some l =>
              have hne : (l == s.toList) = false := by
                rw [beq_eq_false_iff_ne]
                intro h
                exact hoc (by rw [hov, h, ByteArray.toList_eq])
              have Hoc := Lib.hid hov
              clear hoc hov
              go_wp2_with fail
              go_region_with (first | (go_at_call 66; refine (Hbas.out _).mono ?_; rw [Hoc.out]; rintro e w2 ⟨rfl, hb2⟩; have c2 := (hb2.cell (p := ⟨b, 0, none⟩) (World.block_lt_of_cell? _ _ c1)).trans c1) | (go_at_call 83; refine (must_no _).mono ?_; rintro e w3 ⟨rfl, rfl⟩; refine region_pan (P := Tryd.prog) (w := W1) ⟨rfl, by rw [Ho2.out]; exact ⟨rfl, blw_via hbl hb2⟩⟩ ?_))
              all_goals trivial
            | none =>
              have Hoc := Lib.hid hov
              clear hoc hov
              go_wp2_with fail
              go_region_with (first | (go_at_call 66; refine (Hbas.out _).mono ?_; rw [Hoc.out]; rintro e w2 ⟨rfl, hb2⟩; refine region_pan (P := Tryd.prog) (w := W1) ⟨rfl, by rw [Ho2.out]; exact ⟨rfl, blw_via hbl hb2⟩⟩ ?_))
              all_goals trivial
  · have e : readBasS s.data.toList = none := by unfold readBasS; rw [hL, if_neg hW]
    rw [e]
    have HW : Hid (wideB s.size = false) := Lib.hid (by simpa using hW)
    clear hW e hL
    go_enter Tryd.func84, Tryd.ntmps84
    go_wp2_with fail
    refine (wide_walk _ _).mono ?_
    rintro e w' ⟨rfl, rfl⟩
    rw [HW.out]
    go_wp2_with fail
    refine (must_no _).mono ?_
    rintro e w' ⟨rfl, rfl⟩
    exact ⟨rfl, rfl, Below.refl _ _⟩

theorem ReadBase_walk (s : ByteArray) (w : World) :
    Calls Tryd.prog 60 #[.string s] w (Ret (optInt (readBasS s.data.toList)) w) := by
  have hmf := make_func
  cases ho : readBasS s.data.toList with
  | some l =>
    have Ho := Lib.hid ho
    clear ho
    go_enter Tryd.func60, Tryd.ntmps60
    go_wp2_with fail
    refine (tryI_yes 84 _ l _ (enter_nReadBase1 _) ?_).mono ?_
    · intro w1 hb
      obtain ⟨c0, _, _, _⟩ := one_new hb
      have h := readBase1_walk w.heap.size s w1 (c0 0)
      rw [Ho.out] at h
      exact h
    rintro e w1 ⟨rfl, hb⟩
    obtain ⟨_, _, hsz, hbl⟩ := one_new hb
    clear hb
    go_wp2
    go_ret2
    exact ⟨rfl, hbl⟩
  | none =>
    have Ho := Lib.hid ho
    clear ho
    go_enter Tryd.func60, Tryd.ntmps60
    go_wp2_with fail
    refine (tryI_no 84 _ _ (enter_nReadBase1 _) ?_).mono ?_
    · intro w1 hb
      obtain ⟨c0, _, _, _⟩ := one_new hb
      have h := readBase1_walk w.heap.size s w1 (c0 0)
      rw [Ho.out] at h
      exact h
    rintro e w1 ⟨rfl, hb⟩
    obtain ⟨_, _, hsz, hbl⟩ := one_new hb
    clear hb
    go_wp2
    go_ret2
    exact ⟨rfl, hbl⟩
end Go.Proofs.YtdnpgloacdhliaaDoor
