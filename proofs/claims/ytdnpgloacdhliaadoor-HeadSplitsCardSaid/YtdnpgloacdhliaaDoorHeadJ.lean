/- Package head: Get: the walk over a block that is long enough. -/
import Derived.Test.YtdnpgloacdhliaaDoorHeadH
import Derived.Test.YtdnpgloacdhliaaDoorHeadE
namespace Go.Proofs.YtdnpgloacdhliaaDoor
open Go.RowKit

theorem take512 {s : List UInt8} (_ : 512 ≤ s.length) : (⟨s.toArray⟩ : ByteArray).extract 0 512 = ⟨(s.take 512).toArray⟩ := of_data (Lib.extract_from_zero _ 512)

theorem GD.cells {b : Nat} {h : Hd} {e : Int} {w0 w : World} (hG : GD b w0 (hcells h) e w) :
    w.cell? ⟨b, 0, none⟩ = some (str h.name) ∧ w.cell? ⟨b, 1, none⟩ = some (.int .i64 h.mode) ∧ w.cell? ⟨b, 2, none⟩ = some (.int .i64 h.uid) ∧ w.cell? ⟨b, 3, none⟩ = some (.int .i64 h.gid) ∧ w.cell? ⟨b, 4, none⟩ = some (.int .i64 h.size) ∧ w.cell? ⟨b, 5, none⟩ = some (.int .i64 h.mtime) ∧ w.cell? ⟨b, 6, none⟩ = some (.int .u8 (h.type.toNat : Int)) ∧ w.cell? ⟨b, 7, none⟩ = some (str h.link) ∧ w.cell? ⟨b, 8, none⟩ = some (str h.uname) ∧ w.cell? ⟨b, 9, none⟩ = some (str h.gname) ∧ w.cell? ⟨b, 10, none⟩ = some (.int .i64 h.major) ∧ w.cell? ⟨b, 11, none⟩ = some (.int .i64 h.minor) ∧ w.cell? ⟨b, 12, none⟩ = some (str h.pref) :=
  have q := fun i => cell_of_row w b i _ 26 (0, 0) hG.box
  ⟨q 0, q 1, q 2, q 3, q 4, q 5, q 6, q 7, q 8, q 9, q 10, q 11, q 12⟩
theorem GD.free {b : Nat} {cs : Array Value} {e : Int} {w0 w : World} (hG : GD b w0 cs e w) (j : Nat) : w.frozen? ⟨b, j, none⟩ = false := frozen_of_row w b j _ _ hG.box
theorem GD.efree {b : Nat} {cs : Array Value} {e : Int} {w0 w : World} (hG : GD b w0 cs e w) : w.frozen? ⟨b + 1, 0, none⟩ = false := frozen_of_row w (b + 1) 0 _ _ hG.err
theorem GD.ecell {b : Nat} {cs : Array Value} {e : Int} {w0 w : World} (hG : GD b w0 cs e w) : w.cell? ⟨b + 1, 0, none⟩ = some (.int .i64 e) := cell_of_row w (b + 1) 0 _ _ _ hG.err
theorem GD.stores {b : Nat} {cs : Array Value} {e : Int} {w0 w : World} (hG : GD b w0 cs e w) (hs : cs.size = 13) (h : Hd) : GD b w0 (hcells h) e ((((((((((((((w).setCell ⟨b, 0, none⟩ (str h.name)).setCell ⟨b, 1, none⟩ (.int .i64 h.mode)).setCell ⟨b, 2, none⟩ (.int .i64 h.uid)).setCell ⟨b, 3, none⟩ (.int .i64 h.gid)).setCell ⟨b, 4, none⟩ (.int .i64 h.size)).setCell ⟨b, 5, none⟩ (.int .i64 h.mtime)).setCell ⟨b, 6, none⟩ (.int .u8 (h.type.toNat : Int))).setCell ⟨b, 7, none⟩ (str h.link)).setCell ⟨b, 8, none⟩ (str h.uname)).setCell ⟨b, 9, none⟩ (str h.gname)).setCell ⟨b, 10, none⟩ (.int .i64 h.major)).setCell ⟨b, 11, none⟩ (.int .i64 h.minor)).setCell ⟨b, 12, none⟩ (str h.pref)) := by
  obtain ⟨x0, x1, x2, x3, x4, x5, x6, x7, x8, x9, x10, x11, x12, rfl⟩ := size13 hs
  have hG' := (((((((((((((hG).store 0 (str h.name)).store 1 (.int .i64 h.mode)).store 2 (.int .i64 h.uid)).store 3 (.int .i64 h.gid)).store 4 (.int .i64 h.size)).store 5 (.int .i64 h.mtime)).store 6 (.int .u8 (h.type.toNat : Int))).store 7 (str h.link)).store 8 (str h.uname)).store 9 (str h.gname)).store 10 (.int .i64 h.major)).store 11 (.int .i64 h.minor)).store 12 (str h.pref)
  simp only [List.setIfInBounds_toArray, List.set_cons_zero, List.set_cons_succ] at hG'
  exact hG'

set_option maxRecDepth 20000 in
set_option maxHeartbeats 1600000 in
theorem Get_zero (s : List UInt8) (hs : 512 ≤ s.length) (hsl : s.length ≤ 140737488355328) (hz : Lib.trimB (s.take 512) 0 = []) (w : World) : Calls Tryd.prog 11 #[str s] w (Ret (gotV (zeroHd, 2)) w) := by
  have hmf := make_func
  have hss := size_str s
  have hex := take512 hs
  have hal : (s.take 512).length = 512 := by rw [List.length_take]; omega
  have Hz := Lib.hid hz
  clear hz
  go_enter_defers Tryd.func11, Tryd.ntmps11
  go_upto_region 4 with fail
  clear hex
  generalize s.take 512 = a at *
  go_wp2_with fail
  go_fit (Tryd.strings_Trim_one ⟨a.toArray⟩ 0 (by decide) _ (by rw [size_str]; omega))
  rintro e w1 ⟨rfl, hw⟩
  have hz0 : Lib.trimB (⟨a.toArray⟩ : ByteArray).data.toList 0 = [] := Hz.out
  rw [hz0]
  have hG : GD w.heap.size w (hcells zeroHd) 0 w1 := by
    have h0 : GD w.heap.size w (hcells zeroHd) 0 ((w.alloc (.cells (hcells zeroHd) 26)).alloc (.cells #[.int .i64 0] 29)) :=
      ⟨(Below.heap_alloc _ _ _ (by simp)).trans (heap_alloc_new w _), (by have := heap_alloc_new (w.alloc (.cells (hcells zeroHd) 26)) (.cells #[.int .i64 0] 29); simpa using this), ((Below.refl _ w).alloc (Nat.le_refl _) _).alloc (by simp) _⟩
    rcases hw with rfl | rfl
    · exact h0
    · exact h0.drew
  clear hw
  obtain ⟨c0, c1, c2, c3, c4, c5, c6, c7, c8, c9, c10, c11, c12⟩ := hG.cells
  have hfr := hG.free
  have hfe := hG.efree
  have hce := hG.ecell
  have HG := Lib.hid hG
  clear hG hce
  have hce := HG.out.ecell
  simp only [zeroHd] at c0 c1 c2 c3 c4 c5 c6 c7 c8 c9 c10 c11 c12
  go_wp2_with fail
  exact get_ret (h := zeroHd) ((HG.out.stores rfl zeroHd).say 2) rfl rfl ⟨rfl, ((HG.out.stores rfl zeroHd).say 2).below⟩
theorem GD.toGS {b : Nat} {w0 w : World} {cs : Array Value} (h : GD b w0 cs 0 w) (hsz : w.heap.size = b + 2) (s : List UInt8) : GS b s w0 0 cs (w.alloc (.cells #[str s, .int .i64 0] 55)) :=
  ⟨(Below.heap_alloc _ _ _ (by omega)).trans h.box, (Below.heap_alloc _ _ _ (by omega)).trans h.err, by rw [← hsz]; exact heap_alloc_new w _, h.below.alloc (by omega) _⟩
theorem piece_one {s : List UInt8} {k : Nat} (h : k < s.length) : piece s k 1 = [s.getD k 0] := by
  have e : s.getD k 0 = s[k] := by simp [List.getD_eq_getElem?_getD, h]
  rw [e, piece, List.drop_eq_getElem_cons h]
  rfl
theorem GS.drew {b : Nat} {s : List UInt8} {w0 w : World} {at_ : Nat} {cs : Array Value} (h : GS b s w0 at_ cs w) : GS b s w0 at_ cs w.drew := h.drewN 1
theorem GS.laid {s : List UInt8} {w0 w : World} {at_ : Nat} {cs : Array Value} (h : GS w0.heap.size s w0 at_ cs w) (hl : Laid w0) : Laid w := hl.below h.below

theorem readField_range {s : List UInt8} {n : Int} (h : readFieldS s = some n) : I64 n := by
  unfold readFieldS at h
  cases ho : readOctS s with
  | some m =>
    rw [ho] at h
    cases h
    unfold readOctS at ho
    by_cases h1 : octS (rdOct (Lib.trimSuffix s [0])) s.length = some s
    · rw [if_pos h1] at ho
      cases ho
      generalize rdOct (Lib.trimSuffix s [0]) = q at *
      unfold octS at h1
      by_cases h2 : wideB (s.length : Int) = true ∧ 0 ≤ (q : Int) ∧ (q : Int).toNat < 8 ^ ((s.length : Int).toNat - 1)
      · have hW : (s.length : Int) = 8 ∨ (s.length : Int) = 12 := by simpa [wideB] using h2.1
        have h3 := h2.2.2
        have h4 := h2.2.1
        have h5 : 8 ^ ((s.length : Int).toNat - 1) ≤ 8589934592 := by rcases hW with e | e <;> rw [e] <;> decide
        constructor <;> omega
      · rw [if_neg h2] at h1
        cases h1
    · rw [if_neg h1] at ho
      cases ho
  | none =>
    rw [ho] at h
    cases hb : readBasS s with
    | none => rw [hb] at h; cases h
    | some m =>
      rw [hb] at h
      simp only at h
      split at h
      · cases h
        exact readBasS_range hb
      · cases h
theorem txt_le (l : List UInt8) : (txt l).length ≤ l.length := by
  unfold txt Lib.cut
  split
  · simp only [List.length_take]
    omega
  · exact Nat.le_refl _
theorem txt_small (s : List UInt8) (a n : Nat) (hn : n ≤ 1000) : (txt (piece s a n)).length ≤ 140737488355328 := by
  have h1 := txt_le (piece s a n)
  have h2 : (piece s a n).length ≤ n := by simp only [piece, List.length_take]; omega
  omega
theorem read_ok {a : List UInt8} {h : Hd} (hr : readH a = some h) : HOk h := by
  unfold readH at hr
  split at hr
  · rename_i h1 h2 h3 h4 h5 h6 h7
    cases hr
    exact ⟨⟨txt_small _ _ _ (by omega), txt_small _ _ _ (by omega), txt_small _ _ _ (by omega), txt_small _ _ _ (by omega), txt_small _ _ _ (by omega)⟩,
      readField_range h1, readField_range h2, readField_range h3, readField_range h4, readField_range h5, readField_range h6, readField_range h7⟩
  · cases hr

set_option maxRecDepth 20000 in
set_option maxHeartbeats 1600000 in
theorem Get_main (s : List UInt8) (hs : 512 ≤ s.length) (hsl : s.length ≤ 140737488355328) (hz : Lib.trimB (s.take 512) 0 ≠ []) (w : World) (hl : Laid w) : Calls Tryd.prog 11 #[str s] w (Ret (gotV (getS s)) w) := by
  have hmf := make_func
  have hss := size_str s
  have hex := take512 hs
  have hal : (s.take 512).length = 512 := by rw [List.length_take]; omega
  have Hget : Hid (getS s = finS (s.take 512)) := Lib.hid (by unfold getS; rw [if_neg (by omega), if_neg hz])
  have hgm : 0 < w.heap.size := by
    obtain ⟨_, m, hm⟩ := hl
    exact World.block_lt_of_cell? w _ hm
  have Hl := Lib.hid hl
  clear hl
  go_enter_defers Tryd.func11, Tryd.ntmps11
  go_upto_region 4 with fail
  clear hex
  generalize s.take 512 = a at *
  go_wp2_with fail
  go_fit (Tryd.strings_Trim_one ⟨a.toArray⟩ 0 (by decide) _ (by rw [size_str]; omega))
  rintro e w1 ⟨rfl, hw⟩
  have hz0 : Lib.trimB (⟨a.toArray⟩ : ByteArray).data.toList 0 ≠ [] := hz
  have hzs := size_str (Lib.trimB (⟨a.toArray⟩ : ByteArray).data.toList 0)
  have hzb : (Lib.trimB (⟨a.toArray⟩ : ByteArray).data.toList 0).isEmpty = false := by simpa using hz0
  have hG : GD w.heap.size w (hcells zeroHd) 0 w1 ∧ w1.heap.size = w.heap.size + 2 := by
    have h0 : GD w.heap.size w (hcells zeroHd) 0 ((w.alloc (.cells (hcells zeroHd) 26)).alloc (.cells #[.int .i64 0] 29)) :=
      ⟨(Below.heap_alloc _ _ _ (by simp)).trans (heap_alloc_new w _), (by have := heap_alloc_new (w.alloc (.cells (hcells zeroHd) 26)) (.cells #[.int .i64 0] 29); simpa using this), ((Below.refl _ w).alloc (Nat.le_refl _) _).alloc (by simp) _⟩
    rcases hw with rfl | rfl
    · exact ⟨h0, by simp⟩
    · exact ⟨h0.drew, by simp⟩
  clear hw hz
  obtain ⟨hG, hsz⟩ := hG
  have hS := hG.toGS hsz a
  have HS := Lib.hid hS
  have HG := Lib.hid hG
  clear hS hG
  generalize Lib.trimB (⟨a.toArray⟩ : ByteArray).data.toList 0 = tb at *
  go_wp2_with fail
  go_fit (rtext_walk w.heap.size a w 0 100 _ _ HS.out (by omega) (by omega) (GS.laid HS.out Hl.out) hgm)
  rintro e w2 ⟨rfl, h2⟩
  go_wp2_with fail
  cases hnmode : numAt a 100 8 with
  | none =>
    go_fit (rfield_walk w.heap.size a w 100 8 _ _ h2 (by omega) (by omega) (by omega))
    rintro e w3 ⟨h3, he⟩
    rw [hnmode] at he
    subst he
    exact get_pan h3.toGD rfl rfl rfl (fun w' hG' => ⟨by rw [Hget.out, fin_none (.inl hnmode)], hG'.below⟩)
  | some mode =>
  go_fit (rfield_walk w.heap.size a w 100 8 _ _ h2 (by omega) (by omega) (by omega))
  rintro e w3 ⟨h3, he⟩
  rw [hnmode] at he
  obtain rfl : e = .returned (.int .i64 mode) := he
  go_wp2_with fail
  cases hnuid : numAt a 108 8 with
  | none =>
    go_fit (rfield_walk w.heap.size a w 108 8 _ _ h3 (by omega) (by omega) (by omega))
    rintro e w4 ⟨h4, he⟩
    rw [hnuid] at he
    subst he
    exact get_pan h4.toGD rfl rfl rfl (fun w' hG' => ⟨by rw [Hget.out, fin_none (.inr (.inl hnuid))], hG'.below⟩)
  | some uid =>
  go_fit (rfield_walk w.heap.size a w 108 8 _ _ h3 (by omega) (by omega) (by omega))
  rintro e w4 ⟨h4, he⟩
  rw [hnuid] at he
  obtain rfl : e = .returned (.int .i64 uid) := he
  go_wp2_with fail
  cases hngid : numAt a 116 8 with
  | none =>
    go_fit (rfield_walk w.heap.size a w 116 8 _ _ h4 (by omega) (by omega) (by omega))
    rintro e w5 ⟨h5, he⟩
    rw [hngid] at he
    subst he
    exact get_pan h5.toGD rfl rfl rfl (fun w' hG' => ⟨by rw [Hget.out, fin_none (.inr (.inr (.inl hngid)))], hG'.below⟩)
  | some gid =>
  go_fit (rfield_walk w.heap.size a w 116 8 _ _ h4 (by omega) (by omega) (by omega))
  rintro e w5 ⟨h5, he⟩
  rw [hngid] at he
  obtain rfl : e = .returned (.int .i64 gid) := he
  have k0 : w5.cell? ⟨w.heap.size, 0, none⟩ = some (str []) := h5.cell 0
  have k1 : w5.cell? ⟨w.heap.size, 1, none⟩ = some (.int .i64 0) := h5.cell 1
  have k2 : w5.cell? ⟨w.heap.size, 2, none⟩ = some (.int .i64 0) := h5.cell 2
  have k3 : w5.cell? ⟨w.heap.size, 3, none⟩ = some (.int .i64 0) := h5.cell 3
  have fz5 := h5.free
  have h5' := ((((h5).store 0 (str (txt (piece a 0 100)))).store 1 (.int .i64 mode)).store 2 (.int .i64 uid)).store 3 (.int .i64 gid)
  simp only [hcells, zeroHd, List.setIfInBounds_toArray, List.set_cons_zero, List.set_cons_succ] at h5'
  have H5 := Lib.hid h5'
  clear h5' h5
  go_wp2_with fail
  clear fz5 k0 k1 k2 k3
  cases hnsize : numAt a 124 12 with
  | none =>
    go_fit (rfield_walk w.heap.size a w 124 12 _ _ H5.out (by omega) (by omega) (by omega))
    rintro e w6 ⟨h6, he⟩
    rw [hnsize] at he
    subst he
    exact get_pan h6.toGD rfl rfl rfl (fun w' hG' => ⟨by rw [Hget.out, fin_none (.inr (.inr (.inr (.inl hnsize))))], hG'.below⟩)
  | some size =>
  go_fit (rfield_walk w.heap.size a w 124 12 _ _ H5.out (by omega) (by omega) (by omega))
  rintro e w6 ⟨h6, he⟩
  rw [hnsize] at he
  obtain rfl : e = .returned (.int .i64 size) := he
  go_wp2_with fail
  cases hnmtime : numAt a 136 12 with
  | none =>
    go_fit (rfield_walk w.heap.size a w 136 12 _ _ h6 (by omega) (by omega) (by omega))
    rintro e w7 ⟨h7, he⟩
    rw [hnmtime] at he
    subst he
    exact get_pan h7.toGD rfl rfl rfl (fun w' hG' => ⟨by rw [Hget.out, fin_none (.inr (.inr (.inr (.inr (.inl hnmtime)))))], hG'.below⟩)
  | some mtime =>
  go_fit (rfield_walk w.heap.size a w 136 12 _ _ h6 (by omega) (by omega) (by omega))
  rintro e w7 ⟨h7, he⟩
  rw [hnmtime] at he
  obtain rfl : e = .returned (.int .i64 mtime) := he
  have k4 : w7.cell? ⟨w.heap.size, 4, none⟩ = some (.int .i64 0) := h7.cell 4
  have k5 : w7.cell? ⟨w.heap.size, 5, none⟩ = some (.int .i64 0) := h7.cell 5
  have fz7 := h7.free
  have h7' := ((h7).store 4 (.int .i64 size)).store 5 (.int .i64 mtime)
  simp only [zeroHd, List.setIfInBounds_toArray, List.set_cons_zero, List.set_cons_succ] at h7'
  have H7 := Lib.hid h7'
  clear h7' h7
  go_wp2_with fail
  clear fz7 k4 k5
  go_fit (take_walk w.heap.size a w 148 8 _ _ H7.out (by omega) (by omega))
  rintro e w8 ⟨rfl, h8⟩
  go_wp2_with fail
  go_upto_region 11 with fail
  go_cut [] from 39 to 45 (fun wx => GS w.heap.size a w 257 #[str (txt (piece a 0 100)), .int .i64 mode, .int .i64 uid, .int .i64 gid, .int .i64 size, .int .i64 mtime, .int .u8 ((a.getD 156 0).toNat : Int), str (txt (piece a 157 100)), str [], str [], .int .i64 0, .int .i64 0, str []] wx)
  case first =>
    have hpo := piece_one (s := a) (k := 156) (by omega)
    generalize a.getD 156 0 = ch at *
    have hix : ∀ h, (⟨[ch].toArray⟩ : ByteArray)[0]'h = ch := fun _ => rfl
    refine wp_region_noPanic ?_
    go_region_with (first | (go_fit (take_walk w.heap.size a w 156 1 _ _ (GS.drew h8) (by omega) (by omega)); rintro e w9 ⟨rfl, h9⟩; rw [hpo]) | (go_fit (rtext_walk w.heap.size a w 157 100 _ _ (by assumption) (by omega) (by omega) (GS.laid (by assumption) Hl.out) hgm); rintro e w10 ⟨rfl, h10⟩; have k6 : w10.cell? ⟨w.heap.size, 6, none⟩ = some (.int .u8 0) := h10.cell 6; have k7 : w10.cell? ⟨w.heap.size, 7, none⟩ = some (str []) := h10.cell 7; have fz := h10.free))
    all_goals
      refine NoPanic.normal ?_
      go_wp2_with fail
      go_meet
    all_goals
      have hf := (h10.store 6 (.int .u8 (ch.toNat : Int))).store 7 (str (txt (piece a 157 100)))
      simp only [List.setIfInBounds_toArray, List.set_cons_zero, List.set_cons_succ] at hf
      exact hf
  case rest =>
    have hwc := hcut
    clear hcut
    obtain ⟨ch, hch⟩ : ∃ ch, a.getD 156 0 = ch := ⟨_, rfl⟩
    rw [hch] at hwc
    have Hch := Lib.hid hch
    clear hch
    go_wp2_with fail
    go_fit (take_walk w.heap.size a w 257 8 _ _ hwc (by omega) (by omega))
    rintro e w20 ⟨rfl, h20⟩
    go_wp2_with fail
    go_fit (rtext_walk w.heap.size a w 265 32 _ _ h20 (by omega) (by omega) (GS.laid h20 Hl.out) hgm)
    rintro e w21 ⟨rfl, h21⟩
    go_wp2_with fail
    go_fit (rtext_walk w.heap.size a w 297 32 _ _ h21 (by omega) (by omega) (GS.laid h21 Hl.out) hgm)
    rintro e w22 ⟨rfl, h22⟩
    have k8 : w22.cell? ⟨w.heap.size, 8, none⟩ = some (str []) := h22.cell 8
    have k9 : w22.cell? ⟨w.heap.size, 9, none⟩ = some (str []) := h22.cell 9
    have fz22 := h22.free
    have h22' := ((h22).store 8 (str (txt (piece a 265 32)))).store 9 (str (txt (piece a 297 32)))
    simp only [hcells, zeroHd, List.setIfInBounds_toArray, List.set_cons_zero, List.set_cons_succ] at h22'
    have H22 := Lib.hid h22'
    clear h22' h22
    go_wp2_with fail
    clear fz22 k8 k9
    cases hnmajor : numAt a 329 8 with
    | none =>
      go_fit (rfield_walk w.heap.size a w 329 8 _ _ H22.out (by omega) (by omega) (by omega))
      rintro e w23 ⟨h23, he⟩
      rw [hnmajor] at he
      subst he
      exact get_pan h23.toGD rfl rfl rfl (fun w' hG' => ⟨by rw [Hget.out, fin_none (.inr (.inr (.inr (.inr (.inr (.inl hnmajor))))))], hG'.below⟩)
    | some major =>
    go_fit (rfield_walk w.heap.size a w 329 8 _ _ H22.out (by omega) (by omega) (by omega))
    rintro e w23 ⟨h23, he⟩
    rw [hnmajor] at he
    obtain rfl : e = .returned (.int .i64 major) := he
    go_wp2_with fail
    cases hnminor : numAt a 337 8 with
    | none =>
      go_fit (rfield_walk w.heap.size a w 337 8 _ _ h23 (by omega) (by omega) (by omega))
      rintro e w24 ⟨h24, he⟩
      rw [hnminor] at he
      subst he
      exact get_pan h24.toGD rfl rfl rfl (fun w' hG' => ⟨by rw [Hget.out, fin_none (.inr (.inr (.inr (.inr (.inr (.inr (hnminor)))))))], hG'.below⟩)
    | some minor =>
    go_fit (rfield_walk w.heap.size a w 337 8 _ _ h23 (by omega) (by omega) (by omega))
    rintro e w24 ⟨h24, he⟩
    rw [hnminor] at he
    obtain rfl : e = .returned (.int .i64 minor) := he
    go_wp2_with fail
    go_fit (rtext_walk w.heap.size a w 345 155 _ _ h24 (by omega) (by omega) (GS.laid h24 Hl.out) hgm)
    rintro e w25 ⟨rfl, h25⟩
    have m0 : w25.cell? ⟨w.heap.size, 0, none⟩ = some (str (txt (piece a 0 100))) := h25.cell 0
    have m1 : w25.cell? ⟨w.heap.size, 1, none⟩ = some (.int .i64 mode) := h25.cell 1
    have m2 : w25.cell? ⟨w.heap.size, 2, none⟩ = some (.int .i64 uid) := h25.cell 2
    have m3 : w25.cell? ⟨w.heap.size, 3, none⟩ = some (.int .i64 gid) := h25.cell 3
    have m4 : w25.cell? ⟨w.heap.size, 4, none⟩ = some (.int .i64 size) := h25.cell 4
    have m5 : w25.cell? ⟨w.heap.size, 5, none⟩ = some (.int .i64 mtime) := h25.cell 5
    have m6 : w25.cell? ⟨w.heap.size, 6, none⟩ = some (.int .u8 (ch.toNat : Int)) := h25.cell 6
    have m7 : w25.cell? ⟨w.heap.size, 7, none⟩ = some (str (txt (piece a 157 100))) := h25.cell 7
    have m8 : w25.cell? ⟨w.heap.size, 8, none⟩ = some (str (txt (piece a 265 32))) := h25.cell 8
    have m9 : w25.cell? ⟨w.heap.size, 9, none⟩ = some (str (txt (piece a 297 32))) := h25.cell 9
    have mp := h25.pos
    have k10 : w25.cell? ⟨w.heap.size, 10, none⟩ = some (.int .i64 0) := h25.cell 10
    have k11 : w25.cell? ⟨w.heap.size, 11, none⟩ = some (.int .i64 0) := h25.cell 11
    have k12 : w25.cell? ⟨w.heap.size, 12, none⟩ = some (str []) := h25.cell 12
    have fz25 := h25.free
    have h25' := (((h25).store 10 (.int .i64 major)).store 11 (.int .i64 minor)).store 12 (str (txt (piece a 345 155)))
    simp only [hcells, zeroHd, List.setIfInBounds_toArray, List.set_cons_zero, List.set_cons_succ] at h25'
    have H25 := Lib.hid h25'
    clear h25' h25
    go_wp2_with fail
    clear fz25 k10 k11 k12
    have hrd : readH a = some (⟨txt (piece a 0 100), mode, uid, gid, size, mtime, ch, txt (piece a 157 100), txt (piece a 265 32), txt (piece a 297 32), major, minor, txt (piece a 345 155)⟩ : Hd) := by
      unfold readH
      rw [hnmode, hnuid, hngid, hnsize, hnmtime, hnmajor, hnminor, Hch.out]
    have hok := read_ok hrd
    have Hfin : Hid (finS a = if putS (⟨txt (piece a 0 100), mode, uid, gid, size, mtime, ch, txt (piece a 157 100), txt (piece a 265 32), txt (piece a 297 32), major, minor, txt (piece a 345 155)⟩ : Hd) = a then ((⟨txt (piece a 0 100), mode, uid, gid, size, mtime, ch, txt (piece a 157 100), txt (piece a 265 32), txt (piece a 297 32), major, minor, txt (piece a 345 155)⟩ : Hd), 0) else (zeroHd, 4)) := Lib.hid (by unfold finS; rw [hrd])
    clear hrd
    go_fit (Put_walk (⟨txt (piece a 0 100), mode, uid, gid, size, mtime, ch, txt (piece a 157 100), txt (piece a 265 32), txt (piece a 297 32), major, minor, txt (piece a 345 155)⟩ : Hd) hok _ (H25.out.laid Hl.out))
    rintro e w40 ⟨rfl, hb40⟩
    have h40 := GS.call H25.out hb40
    have HD := Lib.hid (show GD w.heap.size w (hcells (⟨txt (piece a 0 100), mode, uid, gid, size, mtime, ch, txt (piece a 157 100), txt (piece a 265 32), txt (piece a 297 32), major, minor, txt (piece a 345 155)⟩ : Hd)) 0 w40 from h40.toGD)
    have hpos := h40.pos
    clear h40 hok hb40
    generalize putS (⟨txt (piece a 0 100), mode, uid, gid, size, mtime, ch, txt (piece a 157 100), txt (piece a 265 32), txt (piece a 297 32), major, minor, txt (piece a 345 155)⟩ : Hd) = P at *
    have hsP := size_str P
    by_cases hp : P = a
    · rw [if_pos hp] at Hfin
      have hpb : (P == a) = true := by simpa using hp
      obtain ⟨c0, c1, c2, c3, c4, c5, c6, c7, c8, c9, c10, c11, c12⟩ := HD.out.cells
      have hfr := HD.out.free
      have hfe := HD.out.efree
      have hce := HD.out.ecell
      go_wp2_with fail
      exact get_out ((HD.out.stores rfl (⟨txt (piece a 0 100), mode, uid, gid, size, mtime, ch, txt (piece a 157 100), txt (piece a 265 32), txt (piece a 297 32), major, minor, txt (piece a 345 155)⟩ : Hd)).say 0) rfl rfl ⟨by rw [Hget.out, Hfin.out], ((HD.out.stores rfl (⟨txt (piece a 0 100), mode, uid, gid, size, mtime, ch, txt (piece a 157 100), txt (piece a 265 32), txt (piece a 297 32), major, minor, txt (piece a 345 155)⟩ : Hd)).say 0).below⟩
    · rw [if_neg hp] at Hfin
      have hpb : (P == a) = false := by simpa using hp
      go_wp2_with fail
      exact get_pan HD.out rfl rfl rfl (fun w' hG' => ⟨by rw [Hget.out, Hfin.out], hG'.below⟩)

theorem Get_walk (s : List UInt8) (hsl : s.length ≤ 140737488355328) (w : World) (hl : Laid w) : Calls Tryd.prog 11 #[str s] w (Ret (gotV (getS s)) w) := by
  by_cases h1 : s.length < 512
  · have : getS s = (zeroHd, 5) := by simp [getS, h1]
    rw [this]
    exact Get_short s h1 w
  · by_cases h2 : Lib.trimB (s.take 512) 0 = []
    · have : getS s = (zeroHd, 2) := by simp [getS, h1, h2]
      rw [this]
      exact Get_zero s (by omega) hsl h2 w
    · exact Get_main s (by omega) hsl h2 w hl
end Go.Proofs.YtdnpgloacdhliaaDoor
