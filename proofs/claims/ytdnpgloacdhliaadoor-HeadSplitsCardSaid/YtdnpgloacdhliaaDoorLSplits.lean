/- HeadSplits: the walk. -/
import Derived.Test.YtdnpgloacdhliaaDoorSplitP
import Derived.Test.YtdnpgloacdhliaaDoorIsRow
import Derived.Test.YtdnpgloacdhliaaDoorHeadK
import Derived.Deep.DeepCutAuto
import Derived.Deep.DeepFit
import Derived.Deep.CutBlock
namespace Go.Proofs.YtdnpgloacdhliaaDoor
open Go.RowKit

set_option maxRecDepth 20000 in
set_option maxHeartbeats 1600000 in
theorem HeadSplits_walk (a0 : Option Addr) (len0 cap0 : Nat) (z0 : List Int) (w : World) (w0 : IsRow .u8 w a0 len0 cap0 z0) (hl : Laid w) :
    Calls Tryd.prog 7 #[.slice a0 len0 cap0] w (Ret (.bool true) w) := by
  have Hl := Lib.hid hl
  clear hl
  have hmx : (maxLen : Nat) = 9223372036854775807 := rfl
  have hlen : len0 ≤ 9223372036854775807 := by
    rcases w0 with ⟨_, rfl, _, _⟩ | ⟨_, _, h1, h2, _⟩
    · omega
    · omega
  have W0 := Lib.hid w0
  clear w0 hmx
  go_enter Tryd.func7, Tryd.ntmps7
  go_upto_block 0 with fail
  go_cut [3] from 4 to 40 (fun vs wx => ∃ l : List UInt8, vs = str l ∧ l.length ≤ 464 ∧ wx = w)
  case first =>
    go_wp2_with fail
    go_loop [3, 4] (fun vs vi => ∃ (l : List UInt8) (i : Nat), vs = str l ∧ vi = .int .i64 i ∧ l.length ≤ 464 ∧ i ≤ len0) (fun _ vi => (len0 - intOf vi).toNat)
    case atStart => exact ⟨[], 0, rfl, rfl, by simp, by omega⟩
    case round =>
      obtain ⟨l, i, rfl, rfl, hll, hi⟩ := hrel
      have hss := size_str l
      by_cases hc1 : i < len0
      · by_cases hc2 : l.length < 400
        · rcases W0.out with ⟨_, h0, _, _⟩ | ⟨x, rfl, hl, hm, hz, hcell, hwz⟩
          · omega
          · obtain ⟨b, off, spot⟩ := x
            have hg := hcell i (by omega)
            have hspot : spot = none := by simpa [Addr.add] using World.cell?_spot (hcell 0 (by omega))
            subst hspot
            have hwf := hwz (z0.getD i 0) (by
              rw [List.getD_eq_getElem?_getD, List.getElem?_eq_getElem (by omega)]
              exact List.getElem_mem _)
            generalize z0.getD i 0 = c at *
            have hc : w.cell? ⟨b, off + i, none⟩ = some (.int .u8 c) := by rw [← add_off]; exact hg
            have hcr : 0 ≤ c ∧ c ≤ 255 := u8_wf hwf
            obtain ⟨c, rfl⟩ : ∃ k : Nat, c = k := ⟨c.toNat, by omega⟩
            have hc255 : c ≤ 255 := by omega
            clear hg hwf hwz hcell hcr
            go_upto_if 26 with fail
            go_cut [3] from 10 to 28 (fun vs wx => ∃ l' : List UInt8, vs = str l' ∧ l'.length ≤ 401 ∧ wx = w)
            case first =>
              go_wp2_with fail
              · go_meet
                exact ⟨l ++ [47], vstr (by simp), by simp; omega, rfl⟩
              · go_meet
                exact ⟨l, rfl, by omega, rfl⟩
            case rest =>
              obtain ⟨l', rfl, hl', rfl⟩ := hcut
              obtain ⟨q, hq⟩ : ∃ q, q = c / 4 := ⟨_, rfl⟩
              have hdv : ((c : Int) / 4) = ((q : Nat) : Int) := by omega
              have hq63 : q ≤ 63 := by omega
              clear hq
              go_wp2_with fail
              go_loop [3, 5] (fun vs vk => ∃ (m : List UInt8) (k : Nat), vs = str m ∧ vk = .int .i64 k ∧ m.length ≤ 401 + k ∧ k ≤ q) (fun _ vk => (64 - intOf vk).toNat)
              case atStart => exact ⟨l', 0, rfl, rfl, by omega, by omega⟩
              case round =>
                obtain ⟨m, k, rfl, rfl, hml, hkc⟩ := hrel
                have hms := size_str m
                by_cases hk : k < q
                · go_wp2_with fail
                  refine ⟨⟨m ++ [110], k + 1, vstr (by simp), by go_num, by simp; omega, by omega⟩, by simp only [intOf]; omega⟩
                · go_wp2_with fail
                  exact ⟨⟨m, i + 1, rfl, by go_num, by omega, by omega⟩, by simp only [intOf]; omega⟩
        · go_wp2_with fail
          go_meet
          exact ⟨l, rfl, hll, rfl⟩
      · go_wp2_with fail
        go_meet
        exact ⟨l, rfl, hll, rfl⟩
  case rest =>
    obtain ⟨l, rfl, hll, rfl⟩ := hcut
    have hss := size_str l
    go_wp2_with fail
    go_fit (Split_walk l (by omega) _)
    rintro e w1 ⟨rfl, hb1⟩
    have Hl1 := Lib.hid (Hl.out.below hb1)
    obtain ⟨⟨p, n, ok⟩, hsp⟩ : ∃ r, splitS l = r := ⟨_, rfl⟩
    rw [hsp]
    simp only [splitV]
    have hps := size_str p
    have hns := size_str n
    by_cases h100 : l.length ≤ 100
    · have hsp2 : splitS l = ([], l, true) := by simp [splitS, h100]
      rw [hsp2] at hsp
      simp only [Prod.mk.injEq] at hsp
      obtain ⟨rfl, rfl, rfl⟩ := hsp
      clear hsp2
      go_wp2_with fail
      go_fit (awake_walk _ Hl1.out)
      rintro e w2 ⟨rfl, hb2⟩
      go_wp2_with fail
      go_ret
      exact ⟨rfl, hb1.trans (hb2.mono hb1.size)⟩
    · cases ok with
      | true =>
        obtain ⟨hp1, hp2, hn1, hn2, hjoin⟩ := split_yes (by omega) hsp
        have hjb : ((⟨p.toArray⟩ : ByteArray) ++ ⟨#[47]⟩ ++ ⟨n.toArray⟩).toList = l := by
          rw [ByteArray.toList_eq, data_app, data_app]
          exact hjoin
        have hjs := join_split hp1 (⟨n, 0, 0, 0, 0, 0, 0, [], [], [], 0, 0, p⟩ : Hd) rfl rfl
        rw [hjoin] at hjs
        have Hjs := Lib.hid hjs
        clear hsp hjs hjoin
        go_wp2_with fail
        go_fit (Join_walk (⟨n, 0, 0, 0, 0, 0, 0, [], [], [], 0, 0, p⟩ : Hd) ⟨by simp only []; omega, by simp, by simp, by simp, by simp only []; omega⟩ _)
        rintro e w2 ⟨rfl, hb2⟩
        rw [Hjs.out]
        have hb12 := hb1.trans (hb2.mono hb1.size)
        have Hl2 := Lib.hid (Hl.out.below hb12)
        go_wp2_with fail
        go_fit (awake_walk _ Hl2.out)
        rintro e w3 ⟨rfl, hb3⟩
        go_wp2_with fail
        go_ret
        exact ⟨rfl, hb12.trans (hb3.mono hb12.size)⟩
      | false =>
        obtain ⟨rfl, rfl, hfirst⟩ := split_no (by omega) hsp
        have Hfirst := Lib.hid hfirst
        clear hsp hfirst
        go_wp2_with fail
        go_loop [9] (fun va => ∃ k : Nat, va = .int .i64 k ∧ k < l.length ∧ ∀ j, j < k → l[j]? = some 47 → ¬ l.length - j - 1 ≤ 100) (fun va => (l.length - intOf va).toNat)
        case atStart => exact ⟨0, rfl, by omega, fun j hj => by omega⟩
        case round =>
          obtain ⟨k, rfl, hk, hno⟩ := hrel
          have Hno := Lib.hid hno
          clear hno
          by_cases hc1 : k + 1 < l.length
          · have hg : ∀ h, (⟨l.toArray⟩ : ByteArray)[k]'h = l[k] := fun _ => rfl
            obtain ⟨ch, hch⟩ : ∃ ch, l[k] = ch := ⟨_, rfl⟩
            have hch2 : l[k]? = some ch := by rw [List.getElem?_eq_getElem hk, hch]
            have Hch := Lib.hid hch2
            simp only [hch] at hg
            clear hch hch2
            by_cases h47 : ch = 47
            · subst h47
              by_cases hr : l.length - k - 1 ≤ 100
              · have hr2 : ¬ (100 < (l.length : Int) - k - 1) := by omega
                rcases Hfirst.out k hc1 Hch.out hr Hno.out with h0 | h155
                · subst h0
                  go_wp2_with fail
                  go_fit (awake_walk _ Hl1.out)
                  rintro e w2 ⟨rfl, hb2⟩
                  go_wp2_with fail
                  go_ret
                  exact ⟨rfl, hb1.trans (hb2.mono hb1.size)⟩
                · have hd : decide ((155 : Int) < (k : Int)) = true := by simp; omega
                  go_wp2_with fail
                  go_fit (awake_walk _ Hl1.out)
                  rintro e w2 ⟨rfl, hb2⟩
                  go_wp2_with fail
                  go_ret
                  exact ⟨rfl, hb1.trans (hb2.mono hb1.size)⟩
              · have hr2 : 100 < (l.length : Int) - k - 1 := by omega
                go_wp2_with fail
                refine ⟨⟨k + 1, by go_num, hc1, fun j hj hj47 => ?_⟩, by simp only [intOf]; omega⟩
                rcases Nat.lt_or_ge j k with h1 | h1
                · exact Hno.out j h1 hj47
                · obtain rfl : j = k := by omega
                  exact hr
            · have hne : ¬ ((ch.toNat : Int) = 47) := by
                intro e
                exact h47 (UInt8.toNat_inj.1 (by simpa using (by omega : ch.toNat = 47)))
              go_wp2_with fail
              refine ⟨⟨k + 1, by go_num, hc1, fun j hj hj47 => ?_⟩, by simp only [intOf]; omega⟩
              rcases Nat.lt_or_ge j k with h1 | h1
              · exact Hno.out j h1 hj47
              · obtain rfl : j = k := by omega
                rw [Hch.out] at hj47
                exact absurd (Option.some.inj hj47) h47
          · go_wp2_with fail
            go_fit (awake_walk _ Hl1.out)
            rintro e w2 ⟨rfl, hb2⟩
            go_wp2_with fail
            go_ret
            exact ⟨rfl, hb1.trans (hb2.mono hb1.size)⟩
end Go.Proofs.YtdnpgloacdhliaaDoor
