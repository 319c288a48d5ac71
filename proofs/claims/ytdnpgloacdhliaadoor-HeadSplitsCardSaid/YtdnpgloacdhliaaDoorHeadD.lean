/- Package head: May: the walk. -/
import Derived.Test.YtdnpgloacdhliaaDoorHeadC
import Derived.Test.YtdnpgloacdhliaaDoorHeadA
import Derived.Laws.IdiomRangeMap
namespace Go.Proofs.YtdnpgloacdhliaaDoor
open Go.RowKit

def I64 (n : Int) : Prop := -9223372036854775808 ≤ n ∧ n ≤ 9223372036854775807
/-- A header whose parts are such as Go holds. -/
structure HOk (h : Hd) : Prop where
  small : SmallH h
  mode : I64 h.mode
  uid : I64 h.uid
  gid : I64 h.gid
  size : I64 h.size
  mtime : I64 h.mtime
  major : I64 h.major
  minor : I64 h.minor

def okText (p : List UInt8 × Int) : Bool := decide ((p.1.length : Int) - 1 ≤ p.2) && !p.1.contains 0
def okNum (n : Int) : Bool := (fieldS n 8).isSome && decide (0 ≤ n)
def fives (h : Hd) : List Int := [h.mode, h.uid, h.gid, h.major, h.minor]
/-- Whether a header may be. -/
def mayH (h : Hd) : Bool := (textsOf h).all okText && (fives h).all okNum && (fieldS h.size 12).isSome && (fieldS h.mtime 12).isSome && decide (0 ≤ h.size)

theorem pair_mem {h : Hd} {k v : Value} (hp : (k, v) ∈ pairsOf (textsOf h)) : ∃ p ∈ textsOf h, k = str p.1 ∧ v = .int .i64 p.2 := by
  obtain ⟨p, hp, he⟩ := List.mem_map.1 hp
  exact ⟨p, hp, (Prod.mk.inj he).1.symm, (Prod.mk.inj he).2.symm⟩
theorem small_text {h : Hd} (hs : SmallH h) {p : List UInt8 × Int} (hp : p ∈ textsOf h) : 1 ≤ p.1.length ∧ p.1.length ≤ 140737488355329 := by
  simp only [textsOf, List.mem_cons, List.not_mem_nil, or_false] at hp
  obtain ⟨h1, h2, h3, h4, h5⟩ := hs
  rcases hp with rfl | rfl | rfl | rfl | rfl <;> simp <;> omega
theorem text_most {h : Hd} {p : List UInt8 × Int} (hp : p ∈ textsOf h) : 32 ≤ p.2 ∧ p.2 ≤ 155 := by
  simp only [textsOf, List.mem_cons, List.not_mem_nil, or_false] at hp
  rcases hp with rfl | rfl | rfl | rfl | rfl <;> simp

theorem may_text_false {h : Hd} {p : List UInt8 × Int} (hp : p ∈ textsOf h) (ho : okText p = false) : mayH h = false := by
  have : (textsOf h).all okText = false := List.all_eq_false.2 ⟨p, hp, by simp [ho]⟩
  simp [mayH, this]
theorem may_num_false {h : Hd} {n : Int} (hp : n ∈ fives h) (ho : okNum n = false) : mayH h = false := by
  have : (fives h).all okNum = false := List.all_eq_false.2 ⟨n, hp, by simp [ho]⟩
  simp [mayH, this]
theorem five_ok {h : Hd} (hk : HOk h) {n : Int} (hn : n ∈ fives h) : I64 n := by
  simp only [fives, List.mem_cons, List.not_mem_nil, or_false] at hn
  rcases hn with rfl | rfl | rfl | rfl | rfl
  · exact hk.mode
  · exact hk.uid
  · exact hk.gid
  · exact hk.major
  · exact hk.minor
theorem optStr_eq (o : Option (List UInt8)) : optStr o = .tuple #[str (o.getD []), .bool o.isSome] := by
  cases o <;> rfl

theorem blw_alike {B : Nat} {a b : World} (ha : a.Alike b) (ht : a.tape = b.tape) : Below B b a :=
  ⟨ha.2.1, ht, ha.2.2, by rw [ha.1]; exact Nat.le_refl _, fun _ _ => by rw [ha.1]⟩

set_option maxRecDepth 20000 in
set_option maxHeartbeats 800000 in
theorem May_walk (h : Hd) (hk : HOk h) (w : World) : Calls Tryd.prog 13 #[hv h] w (Ret (.bool (mayH h)) w) := by
  have HK := Lib.hid hk
  clear hk
  go_enter Tryd.func13, Tryd.ntmps13
  go_wp2_with fail
  refine (texts_walk h HK.out.small _).mono ?_
  rintro e w1 ⟨m, rfl, hm0, ⟨es, clock, hmb, hst, hperm⟩, hbl1⟩
  have hrg := run_range_map (P := Tryd.prog) w1 58 9 3 m es clock Tryd.underlying58 hmb
  have hbx : w1.heap[w.heap.size]? = some (.cells (hcells h) 26 (0, 0)) := (hbl1.block _ (by simp)).trans (heap_alloc_new w _)
  have hb1 : Below w.heap.size w w1 := ((Below.refl _ w).alloc (Nat.le_refl _) _).trans (hbl1.mono (by simp))
  have Hperm := Lib.hid hperm
  have Hst := Lib.hid hst
  clear hperm hst hbl1 hm0
  go_wp2_with fail
  go_loopw [] (fun w' => ∃ (w2 : World) (seen : Array Nat), w2.Alike w1 ∧ w2.tape = w1.tape ∧ w' = w2.alloc (.mapIter (some m) clock seen clock) ∧ ∀ x ∈ es.toList, seen.contains x.born = true → ∀ p ∈ textsOf h, x.key = str p.1 → x.val = .int .i64 p.2 → okText p = true) (fun w' => (leftOf es (w'.iterSeen w1.heap.size)).size)
  case atStart => exact ⟨w1, #[], ⟨rfl, rfl, rfl⟩, rfl, rfl, fun x _ h => by simp at h⟩
  case round =>
    obtain ⟨w2, seen, hal, htp, rfl, hno⟩ := hrel
    have hsz : w2.heap.size = w1.heap.size := by rw [hal.1]
    have hm2 : w2.heap[m]? = some (.map es clock) := by rw [hal.1]; exact hmb
    have law := run_next_map (P := Tryd.prog) w2 0 m clock clock seen es clock hm2 Hst.out.1 (Nat.le_refl _)
    rw [hsz] at law
    rcases law with ⟨h0, hrun⟩ | ⟨e, he, w3, hal3, hrun⟩
    · have hnx : ∀ ty, (Instr.next (.pointer (some ⟨w1.heap.size, 0, none⟩)) false ty).run Tryd.prog (w2.alloc (.mapIter (some m) clock seen clock)) = _ := fun _ => hrun
      clear hrun hmb
      have htx : (textsOf h).all okText = true := by
        refine List.all_eq_true.2 fun p hp => ?_
        obtain ⟨x, hx, hxe⟩ := List.mem_map.1 (Hperm.out.mem_iff.2 (List.mem_map.2 ⟨p, hp, rfl⟩))
        exact hno x hx (all_seen es seen h0 x hx) p hp (Prod.mk.inj hxe).1 (Prod.mk.inj hxe).2
      have Htx := Lib.hid htx
      have hbx2 : (w2.alloc (.mapIter (some m) clock seen clock)).heap[w.heap.size]? = some (.cells (hcells h) 26 (0, 0)) :=
        (Below.heap_alloc _ _ _ (by rw [hsz]; exact (Array.getElem?_eq_some_iff.1 hbx).1)).trans (by rw [hal.1]; exact hbx)
      have hbl2 : Below w.heap.size w (w2.alloc (.mapIter (some m) clock seen clock)) :=
        (hb1.trans (blw_alike hal htp)).alloc (by rw [hsz]; exact hb1.size) _
      clear htx hno h0
      generalize w2.alloc (.mapIter (some m) clock seen clock) = W3 at *
      have hq := fun i => cell_of_row W3 w.heap.size i _ 26 (0, 0) hbx2
      have hq1 : W3.cell? ⟨w.heap.size, 1, none⟩ = some (.int .i64 h.mode) := hq 1
      have hq2 : W3.cell? ⟨w.heap.size, 2, none⟩ = some (.int .i64 h.uid) := hq 2
      have hq3 : W3.cell? ⟨w.heap.size, 3, none⟩ = some (.int .i64 h.gid) := hq 3
      have hq10 : W3.cell? ⟨w.heap.size, 10, none⟩ = some (.int .i64 h.major) := hq 10
      have hq11 : W3.cell? ⟨w.heap.size, 11, none⟩ = some (.int .i64 h.minor) := hq 11
      clear hq
      go_wp2_with fail
      have hbl4 : Below w.heap.size w (W3.alloc (.cells #[.int .i64 h.mode, .int .i64 h.uid, .int .i64 h.gid, .int .i64 h.major, .int .i64 h.minor] 3)) := hbl2.alloc hbl2.size _
      have hbx4 : (W3.alloc (.cells #[.int .i64 h.mode, .int .i64 h.uid, .int .i64 h.gid, .int .i64 h.major, .int .i64 h.minor] 3)).heap[w.heap.size]? = some (.cells (hcells h) 26 (0, 0)) := (Below.heap_alloc _ _ _ (Array.getElem?_eq_some_iff.1 hbx2).1).trans hbx2
      have hnew : (W3.alloc (.cells #[.int .i64 h.mode, .int .i64 h.uid, .int .i64 h.gid, .int .i64 h.major, .int .i64 h.minor] 3)).heap[W3.heap.size]? = some (.cells ((fives h).map fun n => Value.int .i64 n).toArray 3 (0, 0)) := heap_alloc_new _ _
      have hsz4 : (W3.alloc (.cells #[.int .i64 h.mode, .int .i64 h.uid, .int .i64 h.gid, .int .i64 h.major, .int .i64 h.minor] 3)).heap.size = W3.heap.size + 1 := by simp
      have hlt : w.heap.size < W3.heap.size := (Array.getElem?_eq_some_iff.1 hbx2).1
      generalize W3.alloc (.cells #[.int .i64 h.mode, .int .i64 h.uid, .int .i64 h.gid, .int .i64 h.major, .int .i64 h.minor] 3) = W4 at *
      clear hq1 hq2 hq3 hq10 hq11 hbl2 hbx2 hm2 hsz hal htp
      go_loopw [42] (fun vi w' => ∃ (wx : World), wx = w' ∧ ∃ k : Nat, k ≤ 5 ∧ vi = .int .i64 k ∧ Below W4.heap.size W4 w' ∧ ∀ n ∈ (fives h).take k, okNum n = true) (fun vi _ => (5 - intOf vi).toNat)
      case atStart => exact ⟨W4, rfl, 0, by omega, rfl, .refl _ _, fun n hn => by simp at hn⟩
      case round =>
        obtain ⟨w5, rfl, k, hk5, rfl, hb5, hok⟩ := hrel
        have hb6 : Below w.heap.size w w5 := hbl4.trans (hb5.mono hbl4.size)
        by_cases hk : k < 5
        · have hk' : k < (fives h).length := hk
          have hn := five_ok HK.out (List.getElem_mem hk')
          have hmem : (fives h)[k] ∈ fives h := List.getElem_mem hk'
          have hcell : w5.cell? ⟨W3.heap.size, k, none⟩ = some (.int .i64 (fives h)[k]) := by
            have := cell_of_row w5 W3.heap.size k _ 3 (0, 0) ((hb5.block _ (by omega)).trans hnew)
            rw [this]
            simp [hk']
          have hstep : ∀ n ∈ (fives h).take k, okNum n = true := hok
          have htake : (fives h).take (k + 1) = (fives h).take k ++ [(fives h)[k]] := List.take_succ_eq_append_getElem hk'
          have Htake := Lib.hid htake
          clear htake hnew
          generalize (fives h)[k] = n at *
          obtain ⟨hn1, hn2⟩ := hn
          go_wp2_with fail
          refine (Field_walk n 8 hn1 hn2 _).mono ?_
          rintro e1 w6 ⟨rfl, hb7⟩
          rw [optStr_eq]
          have hb8 : Below w.heap.size w w6 := hb6.trans (hb7.mono hb6.size)
          cases hf : (fieldS n 8).isSome with
          | false =>
            go_wp2_with fail
            go_ret
            rw [may_num_false hmem (by simp [okNum, hf])]
            exact ⟨rfl, hb8⟩
          | true =>
            by_cases h0 : n < 0
            · go_wp2_with fail
              go_ret
              rw [may_num_false hmem (by simp [okNum, hf]; omega)]
              exact ⟨rfl, hb8⟩
            · go_wp2_with fail
              refine ⟨⟨w6, rfl, k + 1, by omega, by go_num, hb5.trans (hb7.mono hb5.size), fun n' hn' => ?_⟩, by simp only [intOf]; omega⟩
              rw [Htake.out] at hn'
              rcases List.mem_append.1 hn' with h1 | h1
              · exact hok n' h1
              · rw [List.mem_singleton.1 h1]
                simp [okNum, hf]
                omega
        · obtain rfl : k = 5 := by omega
          have hfv : (fives h).all okNum = true := List.all_eq_true.2 fun n hn => hok n (by rw [List.take_of_length_le (by simp [fives])]; exact hn)
          have hbx5 := (hb5.block _ (by omega)).trans hbx4
          have hq4 : w5.cell? ⟨w.heap.size, 4, none⟩ = some (.int .i64 h.size) := cell_of_row w5 w.heap.size 4 _ 26 (0, 0) hbx5
          have hmay : mayH h = ((fieldS h.size 12).isSome && (fieldS h.mtime 12).isSome && decide (0 ≤ h.size)) := by simp [mayH, Htx.out, hfv]
          have Hmay := Lib.hid hmay
          have hns := HK.out.size
          have hnt := HK.out.mtime
          clear hok hnew hmay hfv
          go_wp2_with fail
          refine (Field_walk h.size 12 hns.1 hns.2 _).mono ?_
          rintro e1 w6 ⟨rfl, hb7⟩
          rw [optStr_eq]
          have hbx6 := (hb7.block _ (Array.getElem?_eq_some_iff.1 hbx5).1).trans hbx5
          have hq4' : w6.cell? ⟨w.heap.size, 4, none⟩ = some (.int .i64 h.size) := cell_of_row w6 w.heap.size 4 _ 26 (0, 0) hbx6
          have hq5 : w6.cell? ⟨w.heap.size, 5, none⟩ = some (.int .i64 h.mtime) := cell_of_row w6 w.heap.size 5 _ 26 (0, 0) hbx6
          go_wp2_with fail
          refine (Field_walk h.mtime 12 hnt.1 hnt.2 _).mono ?_
          rintro e2 w7 ⟨rfl, hb9⟩
          rw [optStr_eq]
          have hbx7 := (hb9.block _ (Array.getElem?_eq_some_iff.1 hbx6).1).trans hbx6
          have hq4'' : w7.cell? ⟨w.heap.size, 4, none⟩ = some (.int .i64 h.size) := cell_of_row w7 w.heap.size 4 _ 26 (0, 0) hbx7
          have hb10 : Below w.heap.size w w7 := (hb6.trans (hb7.mono hb6.size)).trans (hb9.mono (Nat.le_trans hb6.size hb7.size))
          cases hf1 : (fieldS h.size 12).isSome <;> cases hf2 : (fieldS h.mtime 12).isSome <;> by_cases h0 : 0 ≤ h.size <;>
            (rw [hf1, hf2] at Hmay
             go_wp2_with fail
             go_ret
             rw [Hmay.out]
             simp only [h0, decide_true, Bool.and_true, Bool.and_false, Bool.and_self]
             exact ⟨rfl, hb10⟩)
    · obtain ⟨p, hp, hkey, hval⟩ := pair_mem (h := h) (k := e.key) (v := e.val) (Hperm.out.mem_iff.1 (List.mem_map.2 ⟨e, (mem_left he).1, rfl⟩))
      have htp3 := calm_next _ _ _ _ _ _ hrun
      have htp4 : w3.tape = w1.tape := Eq.trans (show w3.tape = w2.tape from htp3) htp
      rw [hval, hkey] at hrun
      have hnx : ∀ ty, (Instr.next (.pointer (some ⟨w1.heap.size, 0, none⟩)) false ty).run Tryd.prog (w2.alloc (.mapIter (some m) clock seen clock)) = _ := fun _ => hrun
      have hsz3 : w3.heap.size = w1.heap.size := by rw [hal3.1, hal.1]
      have hm3 : w3.heap[m]? = some (.map es clock) := by rw [hal3.1]; exact hm2
      have hen := run_entry_map (P := Tryd.prog) w3 m clock seen es clock e hm3 (mem_left he).1 Hst.out.2.1
      rw [hsz3, hval, hkey] at hen
      have hal4 : w3.Alike w1 := ⟨hal3.1.trans hal.1, hal3.2.1.trans hal.2.1, hal3.2.2.trans hal.2.2⟩
      have hb3 : Below w.heap.size w w3 := hb1.trans (blw_alike hal4 htp4)
      obtain ⟨hl1, hl2⟩ := small_text HK.out.small hp
      obtain ⟨hn1, hn2⟩ := text_most hp
      clear hrun
      by_cases hle : (p.1.length : Int) - 1 ≤ p.2
      · go_wp2_with fail
        refine (Tryd.strings_Contains_one ⟨p.1.toArray⟩ 0 _).mono ?_
        rintro e1 w4 ⟨rfl, rfl⟩
        rw [← Lib.contains_iff_indexByte]
        cases hc : p.1.contains 0 with
        | true =>
          go_wp2_with fail
          go_ret
          rw [may_text_false hp (by simp only [okText, hc]; simp)]
          exact ⟨rfl, hb3.alloc (by rw [hsz3]; exact hb1.size) _⟩
        | false =>
          go_wp2_with fail
          go_roundw
          case rel =>
            refine ⟨w3, seen.push e.born, hal4, htp4, rfl, fun x hx hc2 p' hp' hk' hv' => ?_⟩
            rw [contains_push] at hc2
            rcases Bool.or_eq_true _ _ ▸ hc2 with h1 | h1
            · exact hno x hx h1 p' hp' hk' hv'
            · have : x = e := born_inj Hst.out.2.1 hx (mem_left he).1 (beq_iff_eq.1 h1)
              subst this
              rw [hkey] at hk'
              rw [hval] at hv'
              have e1 : p.1 = p'.1 := by simpa using hk'
              have e2 : p.2 = p'.2 := by simpa using hv'
              unfold okText
              rw [← e1, ← e2, hc]
              simp [hle]
          case measure =>
            rw [← hsz3, World.iterSeen_alloc, hsz3, ← hsz, World.iterSeen_alloc]
            exact left_shrinks es seen e he
      · have hgt : p.2 < (p.1.length : Int) - 1 := by omega
        go_wp2_with fail
        go_ret
        rw [may_text_false hp (by simp only [okText]; simp; intro hh; omega)]
        exact ⟨rfl, hb3.alloc (by rw [hsz3]; exact hb1.size) _⟩
end Go.Proofs.YtdnpgloacdhliaaDoor
