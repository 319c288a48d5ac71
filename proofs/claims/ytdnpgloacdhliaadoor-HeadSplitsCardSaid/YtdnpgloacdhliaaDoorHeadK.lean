/- Package gripsacklaw7: awake: the walk. -/
import Derived.Test.YtdnpgloacdhliaaDoorHeadJ
import Derived.Test.YtdnpgloacdhliaaDoorHeadI
import Derived.Laws.MakeOwn
import Derived.Laws.OwnMore
namespace Go.Proofs.YtdnpgloacdhliaaDoor
open Go.RowKit

def wakeHd : Hd := ⟨[97], 420, 0, 0, 0, 0, 48, [], [], [], 0, 0, []⟩

theorem wake_zero : getS (List.replicate 512 0) = (zeroHd, 2) := by kernel_rfl
theorem wake_put : getS (putS wakeHd) = (wakeHd, 0) := by kernel_rfl
theorem wake_len : (putS wakeHd).length = 512 := by kernel_rfl
theorem wake_ok : HOk wakeHd := by
  refine ⟨⟨?_, ?_, ?_, ?_, ?_⟩, ?_, ?_, ?_, ?_, ?_, ?_, ?_⟩ <;> simp [wakeHd, I64]

/-- 'make([]byte, n)'. -/
theorem make_bytes (w : World) (n : Nat) (hn : n ≤ 1000000) :
    (Instr.makeSlice 34 (.int .i64 (n : Int)) (.int .i64 (n : Int))).run Tryd.prog w = .ok (.slice (some ⟨w.heap.size, 0, none⟩) n n) (w.alloc (.cells (bv (List.replicate n 0)).toArray 5)) := by
  cases hi : Tryd.prog.info? 5 with
  | none => have := info_u8; rw [hi] at this; cases this
  | some i =>
    have := info_u8
    rw [hi] at this
    simp only [Option.map_some, Option.some.injEq, Prod.mk.injEq] at this
    obtain ⟨hz, hs, hb⟩ := this
    rw [run_makeSlice (P := Tryd.prog) w 34 5 i (.int .u8 0) Tryd.underlying34 hi hz .i64 .i64 (n : Int) (n : Int) (by omega) (by omega) (by rw [hs]; omega) (by rw [hb]; omega) (by omega), hs]
    have e : madeCells (Value.int .u8 0).cells (n * 1) = (bv (List.replicate n 0)).toArray := by
      apply Array.toList_inj.1
      rw [Nat.mul_one, show (Value.int .u8 0).cells = #[Value.int .u8 0] from rfl, toList_madeCells_one]
      simp [bv]
    rw [Int.toNat_natCast, e]
theorem gotV_eq (h : Hd) (e : Int) : gotV (h, e) = .tuple #[.agg #[str h.name, .int .i64 h.mode, .int .i64 h.uid, .int .i64 h.gid, .int .i64 h.size, .int .i64 h.mtime, .int .u8 (h.type.toNat : Int), str h.link, str h.uname, str h.gname, .int .i64 h.major, .int .i64 h.minor, str h.pref], .int .i64 e] := rfl
theorem bytes_str (w : World) (n : Nat) : (convert 34 9 (.slice (some ⟨w.heap.size, 0, none⟩) n n)).run Tryd.prog (w.alloc (.cells (bv (List.replicate n 0)).toArray 5)) = .ok (str (List.replicate n 0)) (w.alloc (.cells (bv (List.replicate n 0)).toArray 5)) := by
  have h : BlkB (w.alloc (.cells (bv (List.replicate n 0)).toArray 5)) w.heap.size 5 (List.replicate n 0) := heap_alloc_new w _
  have := h.toStr 0 n n (by simp)
  simpa using this

set_option maxRecDepth 20000 in
set_option maxHeartbeats 1600000 in
theorem awake_walk (w : World) (hl : Laid w) : Calls Tryd.prog 8 #[] w (Ret (.bool true) w) := by
  have Hl := Lib.hid hl
  clear hl
  go_enter Tryd.func8, Tryd.ntmps8
  have hmk := make_bytes w 512 (by omega)
  have hcv := bytes_str w 512
  have hz : Hid (getS (List.replicate 512 0) = (zeroHd, 2)) := Lib.hid wake_zero
  have hzl : (List.replicate 512 (0 : UInt8)).length ≤ 140737488355328 := by rw [List.length_replicate]; omega
  simp only [Int.cast_ofNat_Int] at hmk
  generalize List.replicate 512 (0 : UInt8) = Z at *
  go_wp2_with fail
  go_fit (Get_walk Z hzl _ (Hl.out.below ((Below.refl _ w).alloc (Nat.le_refl _) _)))
  rintro e w1 ⟨rfl, hb1⟩
  rw [hz.out, gotV_eq]
  have hb1' : Below w.heap.size w w1 := ((Below.refl _ w).alloc (Nat.le_refl _) _).trans (hb1.mono (by simp))
  have Hl1 := Lib.hid (Hl.out.below hb1')
  clear hmk hcv hb1
  generalize zeroHd = zh at *
  go_wp2_with fail
  go_fit (Put_walk wakeHd wake_ok _ (Hl1.out.below ((Below.refl _ w1).alloc (Nat.le_refl _) _)))
  rintro e w2 ⟨rfl, hb2⟩
  have hb2' : Below w.heap.size w w2 := (hb1'.alloc hb1'.size _).trans (hb2.mono (by simp; have := hb1'.size; omega))
  have Hl2 := Lib.hid (Hl.out.below hb2')
  have hp := wake_put
  have hpl := wake_len
  have Hp := Lib.hid hp
  clear hp hb2
  generalize putS wakeHd = P at *
  go_wp2_with fail
  go_fit (Get_walk P (by rw [hpl]; omega) _ Hl2.out)
  rintro e w3 ⟨rfl, hb3⟩
  rw [Hp.out, gotV_eq]
  have hb3' : Below w.heap.size w w3 := hb2'.trans (hb3.mono hb2'.size)
  simp only [wakeHd]
  clear hb3
  go_wp2_with fail
  go_fit (Err_walk 2 _)
  rintro e w4 ⟨rfl, rfl⟩
  go_wp2_with fail
  go_fit (Err_walk 0 _)
  rintro e w5 ⟨rfl, rfl⟩
  go_wp2_with fail
  go_ret
  exact ⟨rfl, hb3'.alloc hb3'.size _⟩
end Go.Proofs.YtdnpgloacdhliaaDoor
