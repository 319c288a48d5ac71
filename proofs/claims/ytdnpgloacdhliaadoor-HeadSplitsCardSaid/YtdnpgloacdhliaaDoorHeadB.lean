/- Package head: sum: the walk. -/
import Derived.Test.YtdnpgloacdhliaaDoorHeadA
import Derived.Test.YtdnpgloacdhliaaDoorFmt
namespace Go.Proofs.YtdnpgloacdhliaaDoor
open Go.RowKit

/-- The sum of bytes. -/
def bsum (l : List UInt8) : Nat := l.foldl (fun n c => n + c.toNat) 0
theorem bsum_snoc (l : List UInt8) (c : UInt8) : bsum (l ++ [c]) = bsum l + c.toNat := by simp [bsum]
theorem bsum_le (l : List UInt8) : bsum l ≤ 255 * l.length := by
  suffices h : ∀ (l : List UInt8) (n : Nat), l.foldl (fun n c => n + c.toNat) n ≤ n + 255 * l.length by
    have := h l 0
    simpa [bsum] using this
  intro l
  induction l with
  | nil => intro n; simp
  | cons c l ih =>
    intro n
    have := ih (n + c.toNat)
    have hc := c.toNat_lt
    simp only [List.foldl_cons, List.length_cons]
    omega

theorem oct_pad {u : Nat} {l : List UInt8} (h : OctOf u l) : List.replicate (6 - l.length) 48 ++ l = octD 6 u ∧ 1 ≤ l.length ∧ l.length ≤ 6 := by
  obtain ⟨m, h1, h6, hu, rfl⟩ := h
  rw [octD_length]
  refine ⟨?_, h1, h6⟩
  have hz : ∀ (d m : Nat), u < 8 ^ m → octD (d + m) u = List.replicate d 48 ++ octD m u := by
    intro d
    induction d with
    | zero => intro m _; simp
    | succ d ih =>
      intro m hm
      rw [show d + 1 + m = d + m + 1 from by omega, octD_cons, ih m hm, List.replicate_succ]
      have : u / 8 ^ (d + m) = 0 := Nat.div_eq_of_lt (Nat.lt_of_lt_of_le hm (Nat.pow_le_pow_right (by omega) (by omega)))
      rw [this]
      rfl
  rw [← hz (6 - m) m hu]
  congr 1
  omega

/-- The sum's field of a block. -/
def sumS (s : List UInt8) : List UInt8 := octD 6 (256 + bsum (s.take 148 ++ s.drop 156)) ++ [0, 32]

attribute [local go_sem ↓] Go.wp_at_zero Go.wp_at_succ

set_option maxRecDepth 20000 in
set_option maxHeartbeats 800000 in
theorem sum_walk (s : ByteArray) (hs : s.size = 512) (w : World) (hl : Laid w) :
    Calls Tryd.prog 20 #[.string s] w (Ret (str (sumS s.data.toList)) w) := by
  have Hl := Lib.hid hl
  have Hs := Lib.hid hs
  have hs1 : 512 ≤ s.size := by omega
  have hs2 : s.size ≤ 512 := by omega
  have kc := conv_bytes
  clear hl hs
  go_enter Tryd.func20, Tryd.ntmps20
  go_wp2_with fail
  go_region
  have hm1 : min 148 s.size + (s.size - 156) = 504 := by omega
  have hm2 : ((min 148 s.size : Nat) : Int) + ((s.size - 156 : Nat) : Int) = 504 := by omega
  rw [hm1, hm2]
  have Hsum : Hid (sumS s.data.toList = octD 6 (256 + bsum (s.data.toList.take 148 ++ s.data.toList.drop 156)) ++ [0, 32]) := Lib.hid rfl
  have hex : s.extract 0 148 ++ s.extract 156 s.size = ⟨(s.data.toList.take 148 ++ s.data.toList.drop 156).toArray⟩ :=
    of_data (by rw [data_app, Lib.extract_from_zero, Lib.extract_to_end])
  have htl : (s.data.toList.take 148 ++ s.data.toList.drop 156).length = 504 := by
    have : s.data.toList.length = s.size := by rw [Lib.size_eq]
    rw [List.length_append, List.length_take, List.length_drop]
    omega
  generalize s.data.toList.take 148 ++ s.data.toList.drop 156 = t at *
  generalize s.extract 0 148 ++ s.extract 156 s.size = sx at *
  subst hex
  have hbl0 := bytes_below w.drew ⟨t.toArray⟩
  have hbl : Below w.heap.size w (Lib.bytesWorld w.drew 5 ⟨t.toArray⟩) := blw_undrew hbl0
  have hcs := bytes_cell w.drew t
  have hlw := Hl.out.below hbl
  generalize Lib.bytesWorld w.drew 5 ⟨t.toArray⟩ = W1 at *
  generalize grownCap w.drew 504 0 5 = cap at *
  have Hcs := Lib.hid hcs
  have Htl := Lib.hid htl
  have Hlw := Lib.hid hlw
  clear hcs kc htl hm1 hm2 hbl0 hlw
  go_wp2_with fail
  go_loop [3, 14] (fun vn vi => ∃ k : Nat, k ≤ 504 ∧ vn = .int .i64 ((256 + bsum (t.take k) : Nat) : Int) ∧ vi = .int .i64 k) (fun _ vi => (504 - intOf vi).toNat)
  case atStart => exact ⟨0, by omega, by simp [bsum], rfl⟩
  case round =>
    obtain ⟨k, hk, rfl, rfl⟩ := hrel
    have hq := bsum_le (t.take k)
    rw [List.length_take] at hq
    have hq2 : bsum (t.take k) ≤ 128520 := by omega
    clear hq
    by_cases hlt : k < 504
    · have hlt2 : k < t.length := by rw [Htl.out]; exact hlt
      have hc := Hcs.out k hlt2
      have hstep : bsum (t.take (k + 1)) = bsum (t.take k) + t[k].toNat := by rw [List.take_succ_eq_append_getElem hlt2, bsum_snoc]
      have Hstep := Lib.hid hstep
      clear hstep
      generalize bsum (t.take k) = q at *
      generalize hcc : t[k].toNat = c at *
      have hc256 : c < 256 := by rw [← hcc]; exact t[k].toNat_lt
      have hc0 : W1.cell? ⟨w.heap.size, k, none⟩ = some (.int .u8 (c : Int)) := hc
      clear hcc hc
      go_wp2
      refine ⟨⟨k + 1, by omega, ?_, by go_num⟩, by simp only [intOf]; omega⟩
      rw [Hstep.out]
      congr 1
      omega
    · have hk' : k = 504 := by omega
      subst hk'
      have htk : t.take 504 = t := List.take_of_length_le (by rw [Htl.out]; exact Nat.le_refl _)
      rw [htk] at hq2 ⊢
      clear htk hk hlt
      obtain ⟨u, hu⟩ : ∃ u, u = 256 + bsum t := ⟨_, rfl⟩
      have Hu := Lib.hid hu
      rw [← hu]
      have hu2 : u < 262144 := by omega
      clear hu hq2
      go_wp2_with fail
      refine (FormatInt_walk u hu2 _ Hlw.out).mono ?_
      rintro e w2 ⟨l, ho, rfl, hb2⟩
      have hp := oct_pad ho
      have Hp := Lib.hid hp.1
      have hl1 := hp.2.1
      have hl6 := hp.2.2
      clear hp ho
      go_wp2_with fail
      rw [show (6 : Int) - l.length = ((6 - l.length : Nat) : Int) from by omega]
      refine (Tryd.strings_Repeat ⟨#[48]⟩ (6 - l.length) _ (by omega) (by rw [show (ByteArray.mk #[48]).size = 1 from rfl]; omega)).mono ?_
      rintro e w3 ⟨rfl, hb3⟩
      rw [show (ByteArray.mk #[48]).data.toList = [48] from rfl, repeat_zero]
      go_wp2
      go_ret
      refine ⟨ret_str ?_, hbl.trans ((hb2.trans (hb3.mono hb2.size)).mono hbl.size)⟩
      rw [Hsum.out, ← Hu.out, ← Hp.out]
      simp
end Go.Proofs.YtdnpgloacdhliaaDoor
