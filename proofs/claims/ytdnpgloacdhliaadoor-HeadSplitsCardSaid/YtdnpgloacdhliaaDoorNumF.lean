/- Package num: ReadOctal: the walk. -/
import Derived.Test.YtdnpgloacdhliaaDoorNumE
import Derived.Test.YtdnpgloacdhliaaDoorKit2
import Derived.Test.YtdnpgloacdhliaaDoorShelf
namespace Go.Proofs.YtdnpgloacdhliaaDoor
open Go.RowKit

/-- The number that digits by eights tell. -/
def rdOct (l : List UInt8) : Nat := l.foldl (fun n c => n * 8 + c.toNat % 8) 0
theorem rdOct_snoc (l : List UInt8) (c : UInt8) : rdOct (l ++ [c]) = rdOct l * 8 + c.toNat % 8 := by simp [rdOct]
theorem rdOct_lt (l : List UInt8) : rdOct l < 8 ^ l.length := by
  suffices h : ∀ (l : List UInt8) (n k : Nat), n < 8 ^ k → l.foldl (fun n c => n * 8 + c.toNat % 8) n < 8 ^ (k + l.length) by
    have := h l 0 0 (by omega)
    simpa [rdOct] using this
  intro l
  induction l with
  | nil => intro n k h; simpa using h
  | cons c l ih =>
    intro n k h
    have := ih (n * 8 + c.toNat % 8) (k + 1) (by rw [Nat.pow_succ]; omega)
    simp only [List.foldl_cons, List.length_cons]
    rwa [show k + (l.length + 1) = k + 1 + l.length from by omega]

def readOctS (s : List UInt8) : Option Int := if octS (rdOct (Lib.trimSuffix s [0])) s.length = some s then some (rdOct (Lib.trimSuffix s [0])) else none

theorem enter_nReadOctal1 (cap : Array Value) (W : World) : (callFunc 81 cap).run Tryd.prog W = .ok (.enter 81 cap) W := by simp [go_sem]

theorem trim_le (s p : List UInt8) : (Lib.trimSuffix s p).length ≤ s.length := by
  unfold Lib.trimSuffix
  split
  · exact List.length_take_le' _ _
  · exact Nat.le_refl _

attribute [local go_sem ↓] Go.wp_at_zero Go.wp_at_succ

set_option maxRecDepth 20000 in
set_option maxHeartbeats 800000 in
theorem readOctal1_walk (b : Nat) (s : ByteArray) (hs : s.size ≤ 12) (w : World) (c0 : w.cell? ⟨b, 0, none⟩ = some (.string s)) :
    Calls Tryd.prog 81 #[.pointer (some ⟨b, 0, none⟩)] w (RP noField ((readOctS s.data.toList).map (.int .i64 ·)) w) := by
  have hT := trim_le s.data.toList [0]
  have hL : s.data.toList.length = s.size := by rw [Lib.size_eq]
  generalize ho : readOctS s.data.toList = o
  generalize ht : Lib.trimSuffix s.data.toList [0] = t at *
  have Ho := Lib.hid ho
  have Ht := Lib.hid ht
  have htl : t.length ≤ 12 := by omega
  have HL := Lib.hid hL
  clear ho ht hL hT
  have kc := conv_bytes
  go_enter Tryd.func81, Tryd.ntmps81
  go_wp2_with fail
  refine (Tryd.strings_TrimSuffix s ⟨#[0]⟩ _ (by omega)).mono ?_
  rintro e w' ⟨rfl, rfl⟩
  rw [show (ByteArray.mk #[0]).data.toList = [0] from rfl, Ht.out]
  go_wp2_with fail
  have hbl := bytes_below w' ⟨t.toArray⟩
  have hcs := bytes_cell w' t
  have c1 := (hbl.cell (p := ⟨b, 0, none⟩) (World.block_lt_of_cell? w' _ c0)).trans c0
  generalize Lib.bytesWorld w' 5 ⟨t.toArray⟩ = W1 at *
  generalize grownCap w' t.length 0 5 = cap at *
  have Hcs := Lib.hid hcs
  clear hcs kc
  go_loop [2, 9] (fun vn vi => ∃ k : Nat, k ≤ t.length ∧ vn = .int .i64 (rdOct (t.take k)) ∧ vi = .int .i64 k) (fun _ vi => (t.length - intOf vi).toNat)
  case atStart => exact ⟨0, by omega, rfl, rfl⟩
  case round =>
    obtain ⟨k, hk, rfl, rfl⟩ := hrel
    have hq := rdOct_lt (t.take k)
    rw [List.length_take] at hq
    have hq2 : 8 ^ min k t.length ≤ 8 ^ 12 := Nat.pow_le_pow_right (by omega) (by omega)
    have hq3 : rdOct (t.take k) < 68719476736 := by
      have : (8 : Nat) ^ 12 = 68719476736 := by decide
      omega
    clear hq hq2
    by_cases hlt : k < t.length
    · have hc := Hcs.out k hlt
      have hstep : rdOct (t.take (k + 1)) = rdOct (t.take k) * 8 + t[k].toNat % 8 := by rw [List.take_succ_eq_append_getElem hlt, rdOct_snoc]
      have Hstep := Lib.hid hstep
      clear hstep
      generalize rdOct (t.take k) = q at *
      generalize hcc : t[k].toNat = c at *
      have hc256 : c < 256 := by rw [← hcc]; exact t[k].toNat_lt
      clear hcc
      go_wp2
      refine ⟨⟨k + 1, by omega, ?_, by go_num⟩, by simp only [intOf]; omega⟩
      rw [oct_or q c hq3, Hstep.out]
    · have hk' : k = t.length := by omega
      subst hk'
      rw [List.take_length] at hq3 ⊢
      generalize hN : rdOct t = N at *
      have HN := Lib.hid hN
      clear hN hk hlt
      have hd : Hid (readOctS s.data.toList = if octS N s.size = some s.data.toList then some (N : Int) else none) := Lib.hid (by unfold readOctS; rw [Ht.out, HN.out, HL.out])
      have hN2 : (N : Int) ≤ 9223372036854775807 := by omega
      have Hw := fun w => octal_walk N s.size hN2 w
      have Hoct := Lib.hid Hw
      clear Hw
      by_cases hoc : octS N s.size = some s.data.toList
      · have ho2 : o = some (N : Int) := by rw [← Ho.out, hd.out, if_pos hoc]
        subst ho2
        have Hoc := Lib.hid hoc
        clear hoc
        go_wp2_with fail
        go_region_with (first | (go_at_call 64; refine (Hoct.out _).mono ?_; rw [Hoc.out]; rintro e w2 ⟨rfl, hb2⟩; have c2 := (hb2.cell (p := ⟨b, 0, none⟩) (World.block_lt_of_cell? _ _ c1)).trans c1) | (go_at_call 83; refine (must_yes _).mono ?_; rintro e w3 ⟨rfl, rfl⟩))
        all_goals go_wp2
        all_goals go_ret
        all_goals exact ⟨rfl, blw_via hbl hb2⟩
      · have ho2 : o = none := by rw [← Ho.out, hd.out, if_neg hoc]
        subst ho2
        cases hov : octS N s.size with
        | some l =>
          have hne : (l == s.toList) = false := by
            rw [beq_eq_false_iff_ne]
            intro h
            exact hoc (by rw [hov, h, ByteArray.toList_eq])
          have Hoc := Lib.hid hov
          clear hoc hov
          go_wp2_with fail
          go_region_with (first | (go_at_call 64; refine (Hoct.out _).mono ?_; rw [Hoc.out]; rintro e w2 ⟨rfl, hb2⟩; have c2 := (hb2.cell (p := ⟨b, 0, none⟩) (World.block_lt_of_cell? _ _ c1)).trans c1) | (go_at_call 83; refine (must_no _).mono ?_; rintro e w3 ⟨rfl, rfl⟩; refine region_pan (P := Tryd.prog) (w := W1) ⟨rfl, rfl, blw_via hbl hb2⟩ ?_))
          all_goals trivial
        | none =>
          have Hoc := Lib.hid hov
          clear hoc hov
          go_wp2_with fail
          go_region_with (first | (go_at_call 64; refine (Hoct.out _).mono ?_; rw [Hoc.out]; rintro e w2 ⟨rfl, hb2⟩; refine region_pan (P := Tryd.prog) (w := W1) ⟨rfl, rfl, blw_via hbl hb2⟩ ?_))
          all_goals trivial
end Go.Proofs.YtdnpgloacdhliaaDoor
