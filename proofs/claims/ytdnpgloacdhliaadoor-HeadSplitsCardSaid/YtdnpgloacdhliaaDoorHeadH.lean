/- Package head: Get: the walk. -/
import Derived.Test.YtdnpgloacdhliaaDoorHeadG
import Derived.Test.YtdnpgloacdhliaaDoorHeadP
namespace Go.Proofs.YtdnpgloacdhliaaDoor
open Go.RowKit

/-- What a block says. -/
def readH (s : List UInt8) : Option Hd :=
  match numAt s 100 8, numAt s 108 8, numAt s 116 8, numAt s 124 12, numAt s 136 12, numAt s 329 8, numAt s 337 8 with
  | some mode, some uid, some gid, some size, some mtime, some major, some minor =>
    some ⟨txt (piece s 0 100), mode, uid, gid, size, mtime, s.getD 156 0, txt (piece s 157 100), txt (piece s 265 32), txt (piece s 297 32), major, minor, txt (piece s 345 155)⟩
  | _, _, _, _, _, _, _ => none
/-- What a block that is no block of zeros is. -/
def finS (a : List UInt8) : Hd × Int :=
  match readH a with
  | some h => if putS h = a then (h, 0) else (zeroHd, 4)
  | none => (zeroHd, 4)
theorem fin_none {a : List UInt8} (h : numAt a 100 8 = none ∨ numAt a 108 8 = none ∨ numAt a 116 8 = none ∨ numAt a 124 12 = none ∨ numAt a 136 12 = none ∨ numAt a 329 8 = none ∨ numAt a 337 8 = none) : finS a = (zeroHd, 4) := by
  have : readH a = none := by
    unfold readH
    split
    · simp_all
    · rfl
  simp [finS, this]
/-- What bytes are. -/
def getS (s : List UInt8) : Hd × Int :=
  if s.length < 512 then (zeroHd, 5) else
  if Lib.trimB (s.take 512) 0 = [] then (zeroHd, 2) else finS (s.take 512)
def gotV (r : Hd × Int) : Value := .tuple #[hv r.1, .int .i64 r.2]

set_option maxHeartbeats 1600000 in
theorem get_results {b : Nat} {w0 w : World} {h : Hd} {e : Int} (hG : GD b w0 (hcells h) e w) {tmps : Array Value} (h2 : tmps.getD 2 undef = .pointer (some ⟨b, 0, none⟩)) (h3 : tmps.getD 3 undef = .pointer (some ⟨b + 1, 0, none⟩)) :
    (results Tryd.f11 tmps).run Tryd.prog w = .ok (gotV (h, e)) w := by
  have q := fun j => cell_of_row w b j _ _ _ hG.box
  simp only [hcells] at q
  have d0 : w.cell? ⟨b, 0, none⟩ = some (str h.name) := q 0
  have d1 : w.cell? ⟨b, 1, none⟩ = some (.int .i64 h.mode) := q 1
  have d2 : w.cell? ⟨b, 2, none⟩ = some (.int .i64 h.uid) := q 2
  have d3 : w.cell? ⟨b, 3, none⟩ = some (.int .i64 h.gid) := q 3
  have d4 : w.cell? ⟨b, 4, none⟩ = some (.int .i64 h.size) := q 4
  have d5 : w.cell? ⟨b, 5, none⟩ = some (.int .i64 h.mtime) := q 5
  have d6 : w.cell? ⟨b, 6, none⟩ = some (.int .u8 (h.type.toNat : Int)) := q 6
  have d7 : w.cell? ⟨b, 7, none⟩ = some (str h.link) := q 7
  have d8 : w.cell? ⟨b, 8, none⟩ = some (str h.uname) := q 8
  have d9 : w.cell? ⟨b, 9, none⟩ = some (str h.gname) := q 9
  have d10 : w.cell? ⟨b, 10, none⟩ = some (.int .i64 h.major) := q 10
  have d11 : w.cell? ⟨b, 11, none⟩ = some (.int .i64 h.minor) := q 11
  have d12 : w.cell? ⟨b, 12, none⟩ = some (str h.pref) := q 12
  have d' : w.cell? ⟨b + 1, 0, none⟩ = some (.int .i64 e) := cell_of_row w (b + 1) 0 _ _ _ hG.err
  clear q
  rw [Array.getD_eq_getD_getElem?] at h2 h3
  simp [results, Tryd.results11, go_sem, h2, h3, d0, d1, d2, d3, d4, d5, d6, d7, d8, d9, d10, d11, d12, d']
  rfl

theorem get_ret {b : Nat} {w0 w : World} {h : Hd} {e : Int} {R : Ending → World → Prop} (hG : GD b w0 (hcells h) e w) {tmps : Array Value} (h2 : tmps.getD 2 undef = .pointer (some ⟨b, 0, none⟩)) (h3 : tmps.getD 3 undef = .pointer (some ⟨b + 1, 0, none⟩))
    (hR : R (.returned (gotV (h, e))) w) : Leaves Tryd.prog Tryd.f11 tmps R [] .returning w := ⟨_, get_results hG h2 h3, hR⟩
theorem get_out {b : Nat} {w0 w : World} {h : Hd} {e : Int} {R : Ending → World → Prop} (hG : GD b w0 (hcells h) e w) {tmps : Array Value} (h2 : tmps.getD 2 undef = .pointer (some ⟨b, 0, none⟩)) (h3 : tmps.getD 3 undef = .pointer (some ⟨b + 1, 0, none⟩))
    (hR : R (.returned (gotV (h, e))) w) : Leaves Tryd.prog Tryd.f11 tmps R [{ target := .fn (.func 22) #[.pointer (some ⟨b, 0, none⟩), .pointer (some ⟨b + 1, 0, none⟩)], args := #[] }] .returning w := by
  refine leaves_cons (f := 22) (args := #[.pointer (some ⟨b, 0, none⟩), .pointer (some ⟨b + 1, 0, none⟩)]) (by simp) (by simp [go_sem]) ?_
  refine (Get1_idle _ _ _).mono ?_
  rintro e' u' w'' ⟨rfl, rfl, rfl⟩
  exact get_ret hG h2 h3 hR
theorem get_pan {b : Nat} {w0 w : World} {cs : Array Value} {at_ : Int} {R : Ending → World → Prop} (hG : GD b w0 cs 0 w) (hs : cs.size = 13) {tmps : Array Value} (h2 : tmps.getD 2 undef = .pointer (some ⟨b, 0, none⟩)) (h3 : tmps.getD 3 undef = .pointer (some ⟨b + 1, 0, none⟩))
    (hR : ∀ w', GD b w0 (hcells zeroHd) 4 w' → R (.returned (gotV (zeroHd, 4))) w') :
    Leaves Tryd.prog Tryd.f11 tmps R [{ target := .fn (.func 22) #[.pointer (some ⟨b, 0, none⟩), .pointer (some ⟨b + 1, 0, none⟩)], args := #[] }] (.panicking [{ v := noHeader at_, recovered := false }]) w := by
  refine leaves_cons (f := 22) (args := #[.pointer (some ⟨b, 0, none⟩), .pointer (some ⟨b + 1, 0, none⟩)]) (by simp) (by simp [go_sem]) ?_
  refine (Get1_caught b at_ w0 cs w hG hs).mono ?_
  rintro e' u' w'' ⟨rfl, rfl, hG'⟩
  exact get_ret hG' h2 h3 (hR _ hG')
set_option maxRecDepth 20000 in
set_option maxHeartbeats 1600000 in
theorem Get_short (s : List UInt8) (hs : s.length < 512) (w : World) : Calls Tryd.prog 11 #[str s] w (Ret (gotV (zeroHd, 5)) w) := by
  have hmf := make_func
  have hss := size_str s
  go_enter_defers Tryd.func11, Tryd.ntmps11
  go_wp2_with fail
  refine get_ret (h := zeroHd) ⟨(Below.heap_alloc _ _ _ (by simp)).trans (heap_alloc_new w _), (by have := heap_alloc_new (w.alloc (.cells (hcells zeroHd) 26)) (.cells #[.int .i64 5] 29); simpa using this), ((Below.refl _ w).alloc (Nat.le_refl _) _).alloc (by simp) _⟩ rfl rfl ⟨rfl, ?_⟩
  exact ((Below.refl _ w).alloc (Nat.le_refl _) _).alloc (by simp) _
end Go.Proofs.YtdnpgloacdhliaaDoor
