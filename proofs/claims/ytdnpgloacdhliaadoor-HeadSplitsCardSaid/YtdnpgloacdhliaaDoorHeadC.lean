/- Package head: a header as data; texts: the walk. -/
import Derived.Test.YtdnpgloacdhliaaDoorMap
import Derived.WideMake
import Derived.StringKeys
namespace Go.Proofs.YtdnpgloacdhliaaDoor
open Go.RowKit

/-- A header. -/
structure Hd where
  name : List UInt8
  mode : Int
  uid : Int
  gid : Int
  size : Int
  mtime : Int
  type : UInt8
  link : List UInt8
  uname : List UInt8
  gname : List UInt8
  major : Int
  minor : Int
  pref : List UInt8
deriving DecidableEq

/-- A header as Go holds it. -/
abbrev hcells (h : Hd) : Array Value := #[str h.name, .int .i64 h.mode, .int .i64 h.uid, .int .i64 h.gid, .int .i64 h.size, .int .i64 h.mtime, .int .u8 (h.type.toNat : Int), str h.link, str h.uname, str h.gname, .int .i64 h.major, .int .i64 h.minor, str h.pref]
abbrev hv (h : Hd) : Value := .agg (hcells h)

/-- The texts of a header, each behind a letter, and how long it may be. -/
def textsOf (h : Hd) : List (List UInt8 × Int) := [(110 :: h.name, 100), (108 :: h.link, 100), (117 :: h.uname, 32), (103 :: h.gname, 32), (112 :: h.pref, 155)]
def pairsOf (l : List (List UInt8 × Int)) : List (Value × Value) := l.map fun p => (str p.1, .int .i64 p.2)

def sel (b : Bool) (p : Value × Value) : List (Value × Value) := if b then [p] else []

theorem sel_mem {b : Bool} {p q : Value × Value} (h : p ∈ sel b q) : b = true ∧ p = q := by
  cases b with
  | true => exact ⟨rfl, by simpa [sel] using h⟩
  | false => simp [sel] at h
def sel5 (h : Hd) (b4 b8 b12 b16 b20 : Bool) : List (Value × Value) :=
  sel b4 (str (110 :: h.name), .int .i64 100) ++ (sel b8 (str (108 :: h.link), .int .i64 100) ++ (sel b12 (str (117 :: h.uname), .int .i64 32) ++ (sel b16 (str (103 :: h.gname), .int .i64 32) ++ (sel b20 (str (112 :: h.pref), .int .i64 155) ++ []))))
theorem sel5_all (h : Hd) : sel5 h true true true true true = pairsOf (textsOf h) := rfl
theorem sel5_mem {h : Hd} {b4 b8 b12 b16 b20 : Bool} {p : Value × Value} (hp : p ∈ sel5 h b4 b8 b12 b16 b20) :
    b4 = true ∧ p.1 = str (110 :: h.name) ∨ b8 = true ∧ p.1 = str (108 :: h.link) ∨ b12 = true ∧ p.1 = str (117 :: h.uname) ∨ b16 = true ∧ p.1 = str (103 :: h.gname) ∨ b20 = true ∧ p.1 = str (112 :: h.pref) := by
  simp only [sel5, List.mem_append] at hp
  rcases hp with hp | hp | hp | hp | hp | hp
  · obtain ⟨h1, rfl⟩ := sel_mem hp; exact .inl ⟨h1, rfl⟩
  · obtain ⟨h1, rfl⟩ := sel_mem hp; exact .inr (.inl ⟨h1, rfl⟩)
  · obtain ⟨h1, rfl⟩ := sel_mem hp; exact .inr (.inr (.inl ⟨h1, rfl⟩))
  · obtain ⟨h1, rfl⟩ := sel_mem hp; exact .inr (.inr (.inr (.inl ⟨h1, rfl⟩)))
  · obtain ⟨h1, rfl⟩ := sel_mem hp; exact .inr (.inr (.inr (.inr ⟨h1, rfl⟩)))
  · cases hp

/-- The frame behind the loads. -/
def frT (m : Nat) (A : Act) (c d : Bool) : Act :=
  let A1 := if c then A.put (some 19) (.map (some m)) else A
  if d then A1.put (some 2) (.map (some m)) else A1

/-- Where the region of texts stands behind the loads. -/
def TInv (b m : Nat) (h : Hd) (w0 : World) (A : Act) (listed : Array Bool) (a : Act) (w : World) : Prop :=
  ∃ b4 b8 b12 b16 b20 b21 b22 : Bool, listed = #[true, true, true, true, b4, true, true, true, b8, true, true, true, b12, true, true, true, b16, true, true, true, b20, b21, b22] ∧
    (b21 = true → b4 = true ∧ b8 = true ∧ b12 = true ∧ b16 = true ∧ b20 = true) ∧ (b22 = true → b21 = true) ∧ a = frT m A b21 b22 ∧
    w.heap[b]? = some (.cells (hcells h) 26 (0, 0)) ∧ Below m w0 w ∧ MapOf w m (sel5 h b4 b8 b12 b16 b20)

theorem lenOk {c : UInt8} {l : List UInt8} (h : l.length ≤ 140737488355328) : (c :: l).length ≤ maxLen := by simp only [List.length_cons, maxLen]; omega

/-- A pair is put into the map of texts. -/
theorem sel5_put {h : Hd} {w w0 : World} {b m : Nat} {L L' : List (Value × Value)} {l : List UInt8} {n : Int} (hm : MapOf w m L) (hl : l.length ≤ maxLen) (hL : ∀ p ∈ L, ∃ l', p.1 = str l' ∧ l' ≠ l ∧ l'.length ≤ maxLen)
    (hp : ((str l, .int .i64 n) :: L).Perm L') (hb : w.heap[b]? = some (.cells (hcells h) 26 (0, 0))) (hbm : b ≠ m) (hw : Below m w0 w) (hlt : m ≤ w0.heap.size) :
    ∃ w', (Instr.mapUpdate 58 (.map (some m)) (str l) (.int .i64 n)).run Tryd.prog w = .ok () w' ∧ MapOf w' m L' ∧ w'.heap[b]? = some (.cells (hcells h) 26 (0, 0)) ∧ Below m w0 w' := by
  obtain ⟨w1, hrun, hm1, hg⟩ := MapOf.insert (P := Tryd.prog) (t := 58) (k := 9) (e := 3) hm (Go.Maps.string_keyed Tryd.underlying9) Tryd.underlying58
    (fun p hp => by obtain ⟨l', hl', _, hk⟩ := hL p hp; rw [hl']; exact ⟨_, Go.WideMaps.keyOf_string_mk Tryd.underlying9 (by rw [size_str]; exact hk)⟩) (key := str l) (val := .int .i64 n) (Go.WideMaps.keyOf_string_mk Tryd.underlying9 (by rw [size_str]; exact hl)) (fun p hp he => by
      obtain ⟨l', hl', hne, _⟩ := hL p hp
      rw [hl'] at he
      exact hne (str_inj.1 (Value.string.inj he)))
  refine ⟨w1, hrun, hm1.perm hp, ?_, hw.grown hg (Nat.le_trans hlt hw.size) (fun k hk => by cases hk; exact Nat.le_refl _)⟩
  have := hg.block b (Array.getElem?_eq_some_iff.1 hb).1 (fun e => hbm (by cases e; rfl))
  exact this.trans hb

def SmallH (h : Hd) : Prop := h.name.length ≤ 140737488355328 ∧ h.link.length ≤ 140737488355328 ∧ h.uname.length ≤ 140737488355328 ∧ h.gname.length ≤ 140737488355328 ∧ h.pref.length ≤ 140737488355328

theorem concat_run (c : UInt8) (l : List UInt8) (hl : l.length ≤ 140737488355328) (w : World) :
    (binOp .add 9 (.string ⟨#[c]⟩) (str l)).run Tryd.prog w = .ok (str (c :: l)) w := by
  have h : ¬ 9223372036854775807 < 1 + l.length := by omega
  have e : ((⟨#[c]⟩ : ByteArray) ++ ⟨l.toArray⟩) = ⟨(c :: l).toArray⟩ := of_data (by rw [ByteArray.data_append, Array.toList_append]; rfl)
  go_simp
theorem concat_op (c : UInt8) (l : List UInt8) (hl : l.length ≤ 140737488355328) (w : World) :
    (do pure (Next.value (← binOp .add 9 (.string ⟨#[c]⟩) (str l))) : Sem Next).run Tryd.prog w = .ok (.value (str (c :: l))) w := by
  rw [Sem.run_bind, concat_run c l hl w]
  rfl

theorem slot_cases {b4 b8 b12 b16 b20 b21 b22 : Bool} (i : Nat)
    (h : (#[true, true, true, true, b4, true, true, true, b8, true, true, true, b12, true, true, true, b16, true, true, true, b20, b21, b22]).getD i true = false) :
    i = 4 ∧ b4 = false ∨ i = 8 ∧ b8 = false ∨ i = 12 ∧ b12 = false ∨ i = 16 ∧ b16 = false ∨ i = 20 ∧ b20 = false ∨ i = 21 ∧ b21 = false ∨ i = 22 ∧ b22 = false := by
  by_cases hi : i < 23
  · iterate 23 (rcases i with _ | i; · first | (simp at h; done) | (simp at h; simp [h]))
    omega
  · simp [show ¬ i < 23 from hi] at h

set_option maxRecDepth 20000 in
set_option maxHeartbeats 800000 in
theorem texts_walk (h : Hd) (hs : SmallH h) (w : World) :
    Calls Tryd.prog 26 #[hv h] w fun e w' => ∃ m, e = .returned (.map (some m)) ∧ w.heap.size ≤ m ∧ MapOf w' m (pairsOf (textsOf h)) ∧ Below w.heap.size w w' := by
  go_enter Tryd.func26, Tryd.ntmps26
  go_wp2_with fail
  obtain ⟨W0, hW0⟩ : ∃ W0, W0 = (w.alloc (.cells (hcells h) 26)) := ⟨_, rfl⟩
  have hS : ({ W0 with drawn := W0.drawn + 1 } : World).heap[w.heap.size]? = some (.cells (hcells h) 26 (0, 0)) := by
    subst hW0
    exact heap_alloc_new w _
  rw [show w.alloc (.cells (hcells h) 26) = W0 from hW0.symm]
  refine wp_region_held (S := fun w' => w'.heap[w.heap.size]? = some (.cells (hcells h) 26 (0, 0))) (by kernel_rfl) ?_
  refine wpAnyH_take (i := 1) (oi := { dst := some 4, op := .fieldAddr 26 (.tmp 1) 0, type := 0, pos := "head.go:28", after := #[], guard := none }) (v := .pointer (some ⟨w.heap.size, 0, none⟩)) rfl (by kernel_rfl) (by kernel_rfl) (by kernel_rfl) (fun _ _ _ h => h) (Or.inl ⟨by rfl, ?_⟩) hS ?_
  · intro w1 hw1; go_simp
  simp only [Act.put, List.setIfInBounds_toArray, List.set_cons_zero, List.set_cons_succ]
  refine wpAnyH_take (i := 2) (oi := { dst := some 5, op := .load 9 (.tmp 4), type := 9, pos := "head.go:28", after := #[{ on := 1, ground := .data }], guard := none }) (v := str h.name) rfl (by kernel_rfl) (by kernel_rfl) (by kernel_rfl) (fun _ _ _ h => h) (Or.inl ⟨by rfl, ?_⟩) hS ?_
  · intro w1 hw1; have hc := cell_of_row w1 w.heap.size 0 _ 26 (0, 0) hw1; have hc' : w1.cell? ⟨w.heap.size, 0, none⟩ = some (str h.name) := hc; go_simp
  simp only [Act.put, List.setIfInBounds_toArray, List.set_cons_zero, List.set_cons_succ]
  refine wpAnyH_take (i := 3) (oi := { dst := some 6, op := .binOp .add 9 (.const (.string ⟨#[110]⟩)) (.tmp 5) 9, type := 9, pos := "head.go:28", after := #[{ on := 2, ground := .data }], guard := none }) (v := str (110 :: h.name)) rfl (by kernel_rfl) (by kernel_rfl) (by kernel_rfl) (fun _ _ _ h => h) (Or.inl ⟨by rfl, ?_⟩) hS ?_
  · intro w1 hw1; exact concat_op 110 h.name (by have := hs.1; omega) w1
  simp only [Act.put, List.setIfInBounds_toArray, List.set_cons_zero, List.set_cons_succ]
  refine wpAnyH_take (i := 5) (oi := { dst := some 7, op := .fieldAddr 26 (.tmp 1) 7, type := 0, pos := "head.go:28", after := #[], guard := none }) (v := .pointer (some ⟨w.heap.size, 7, none⟩)) rfl (by kernel_rfl) (by kernel_rfl) (by kernel_rfl) (fun _ _ _ h => h) (Or.inl ⟨by rfl, ?_⟩) hS ?_
  · intro w1 hw1; go_simp
  simp only [Act.put, List.setIfInBounds_toArray, List.set_cons_zero, List.set_cons_succ]
  refine wpAnyH_take (i := 6) (oi := { dst := some 8, op := .load 9 (.tmp 7), type := 9, pos := "head.go:28", after := #[{ on := 5, ground := .data }], guard := none }) (v := str h.link) rfl (by kernel_rfl) (by kernel_rfl) (by kernel_rfl) (fun _ _ _ h => h) (Or.inl ⟨by rfl, ?_⟩) hS ?_
  · intro w1 hw1; have hc := cell_of_row w1 w.heap.size 7 _ 26 (0, 0) hw1; have hc' : w1.cell? ⟨w.heap.size, 7, none⟩ = some (str h.link) := hc; go_simp
  simp only [Act.put, List.setIfInBounds_toArray, List.set_cons_zero, List.set_cons_succ]
  refine wpAnyH_take (i := 7) (oi := { dst := some 9, op := .binOp .add 9 (.const (.string ⟨#[108]⟩)) (.tmp 8) 9, type := 9, pos := "head.go:28", after := #[{ on := 6, ground := .data }], guard := none }) (v := str (108 :: h.link)) rfl (by kernel_rfl) (by kernel_rfl) (by kernel_rfl) (fun _ _ _ h => h) (Or.inl ⟨by rfl, ?_⟩) hS ?_
  · intro w1 hw1; exact concat_op 108 h.link (by have := hs.2.1; omega) w1
  simp only [Act.put, List.setIfInBounds_toArray, List.set_cons_zero, List.set_cons_succ]
  refine wpAnyH_take (i := 9) (oi := { dst := some 10, op := .fieldAddr 26 (.tmp 1) 8, type := 0, pos := "head.go:28", after := #[], guard := none }) (v := .pointer (some ⟨w.heap.size, 8, none⟩)) rfl (by kernel_rfl) (by kernel_rfl) (by kernel_rfl) (fun _ _ _ h => h) (Or.inl ⟨by rfl, ?_⟩) hS ?_
  · intro w1 hw1; go_simp
  simp only [Act.put, List.setIfInBounds_toArray, List.set_cons_zero, List.set_cons_succ]
  refine wpAnyH_take (i := 10) (oi := { dst := some 11, op := .load 9 (.tmp 10), type := 9, pos := "head.go:28", after := #[{ on := 9, ground := .data }], guard := none }) (v := str h.uname) rfl (by kernel_rfl) (by kernel_rfl) (by kernel_rfl) (fun _ _ _ h => h) (Or.inl ⟨by rfl, ?_⟩) hS ?_
  · intro w1 hw1; have hc := cell_of_row w1 w.heap.size 8 _ 26 (0, 0) hw1; have hc' : w1.cell? ⟨w.heap.size, 8, none⟩ = some (str h.uname) := hc; go_simp
  simp only [Act.put, List.setIfInBounds_toArray, List.set_cons_zero, List.set_cons_succ]
  refine wpAnyH_take (i := 11) (oi := { dst := some 12, op := .binOp .add 9 (.const (.string ⟨#[117]⟩)) (.tmp 11) 9, type := 9, pos := "head.go:28", after := #[{ on := 10, ground := .data }], guard := none }) (v := str (117 :: h.uname)) rfl (by kernel_rfl) (by kernel_rfl) (by kernel_rfl) (fun _ _ _ h => h) (Or.inl ⟨by rfl, ?_⟩) hS ?_
  · intro w1 hw1; exact concat_op 117 h.uname (by have := hs.2.2.1; omega) w1
  simp only [Act.put, List.setIfInBounds_toArray, List.set_cons_zero, List.set_cons_succ]
  refine wpAnyH_take (i := 13) (oi := { dst := some 13, op := .fieldAddr 26 (.tmp 1) 9, type := 0, pos := "head.go:28", after := #[], guard := none }) (v := .pointer (some ⟨w.heap.size, 9, none⟩)) rfl (by kernel_rfl) (by kernel_rfl) (by kernel_rfl) (fun _ _ _ h => h) (Or.inl ⟨by rfl, ?_⟩) hS ?_
  · intro w1 hw1; go_simp
  simp only [Act.put, List.setIfInBounds_toArray, List.set_cons_zero, List.set_cons_succ]
  refine wpAnyH_take (i := 14) (oi := { dst := some 14, op := .load 9 (.tmp 13), type := 9, pos := "head.go:28", after := #[{ on := 13, ground := .data }], guard := none }) (v := str h.gname) rfl (by kernel_rfl) (by kernel_rfl) (by kernel_rfl) (fun _ _ _ h => h) (Or.inl ⟨by rfl, ?_⟩) hS ?_
  · intro w1 hw1; have hc := cell_of_row w1 w.heap.size 9 _ 26 (0, 0) hw1; have hc' : w1.cell? ⟨w.heap.size, 9, none⟩ = some (str h.gname) := hc; go_simp
  simp only [Act.put, List.setIfInBounds_toArray, List.set_cons_zero, List.set_cons_succ]
  refine wpAnyH_take (i := 15) (oi := { dst := some 15, op := .binOp .add 9 (.const (.string ⟨#[103]⟩)) (.tmp 14) 9, type := 9, pos := "head.go:28", after := #[{ on := 14, ground := .data }], guard := none }) (v := str (103 :: h.gname)) rfl (by kernel_rfl) (by kernel_rfl) (by kernel_rfl) (fun _ _ _ h => h) (Or.inl ⟨by rfl, ?_⟩) hS ?_
  · intro w1 hw1; exact concat_op 103 h.gname (by have := hs.2.2.2.1; omega) w1
  simp only [Act.put, List.setIfInBounds_toArray, List.set_cons_zero, List.set_cons_succ]
  refine wpAnyH_take (i := 17) (oi := { dst := some 16, op := .fieldAddr 26 (.tmp 1) 12, type := 0, pos := "head.go:28", after := #[], guard := none }) (v := .pointer (some ⟨w.heap.size, 12, none⟩)) rfl (by kernel_rfl) (by kernel_rfl) (by kernel_rfl) (fun _ _ _ h => h) (Or.inl ⟨by rfl, ?_⟩) hS ?_
  · intro w1 hw1; go_simp
  simp only [Act.put, List.setIfInBounds_toArray, List.set_cons_zero, List.set_cons_succ]
  refine wpAnyH_take (i := 18) (oi := { dst := some 17, op := .load 9 (.tmp 16), type := 9, pos := "head.go:28", after := #[{ on := 17, ground := .data }], guard := none }) (v := str h.pref) rfl (by kernel_rfl) (by kernel_rfl) (by kernel_rfl) (fun _ _ _ h => h) (Or.inl ⟨by rfl, ?_⟩) hS ?_
  · intro w1 hw1; have hc := cell_of_row w1 w.heap.size 12 _ 26 (0, 0) hw1; have hc' : w1.cell? ⟨w.heap.size, 12, none⟩ = some (str h.pref) := hc; go_simp
  simp only [Act.put, List.setIfInBounds_toArray, List.set_cons_zero, List.set_cons_succ]
  refine wpAnyH_take (i := 19) (oi := { dst := some 18, op := .binOp .add 9 (.const (.string ⟨#[112]⟩)) (.tmp 17) 9, type := 9, pos := "head.go:28", after := #[{ on := 18, ground := .data }], guard := none }) (v := str (112 :: h.pref)) rfl (by kernel_rfl) (by kernel_rfl) (by kernel_rfl) (fun _ _ _ h => h) (Or.inl ⟨by rfl, ?_⟩) hS ?_
  · intro w1 hw1; exact concat_op 112 h.pref (by have := hs.2.2.2.2; omega) w1
  simp only [Act.put, List.setIfInBounds_toArray, List.set_cons_zero, List.set_cons_succ]
  refine wpAnyH_all (rs := [0]) (by kernel_rfl) (by decide) ?_
  intro i hi
  obtain rfl : i = 0 := by simpa using hi
  refine wpOp_value (v := .map (some W0.heap.size)) (w' := ({ W0 with drawn := W0.drawn + 1 } : World).alloc (.map #[] 0)) rfl rfl rfl ?_
  have hbm : w.heap.size ≠ W0.heap.size := by subst hW0; simp
  have hlt : W0.heap.size ≤ (({ W0 with drawn := W0.drawn + 1 } : World).alloc (.map #[] 0)).heap.size := by simp
  have hm0 : MapOf (({ W0 with drawn := W0.drawn + 1 } : World).alloc (.map #[] 0)) W0.heap.size [] := MapOf.made _
  have hAl : (({ W0 with drawn := W0.drawn + 1 } : World).alloc (.map #[] 0)).heap[w.heap.size]? = some (.cells (hcells h) 26 (0, 0)) := (Below.heap_alloc _ _ _ (by subst hW0; simp)).trans hS
  refine ⟨hAl, ?_⟩
  simp only [Act.put, List.setIfInBounds_toArray, List.set_cons_zero, List.set_cons_succ, List.getElem_toArray, List.getElem_cons_zero]
  refine wpAnyH_at (J := TInv w.heap.size W0.heap.size h (({ W0 with drawn := W0.drawn + 1 } : World).alloc (.map #[] 0))) ?_ ?_ ?_ ?_ ?_
  · rintro listed a w1 i ⟨b4, b8, b12, b16, b20, b21, b22, rfl, h21, h22, rfl, hb, hbl, hm⟩ hi
    obtain ⟨hf, o, ho, hd⟩ := mem_ready.1 hi
    have hn : ∀ b4' b8' b12' b16' b20', (b4' = false ∨ b8' = false ∨ b12' = false ∨ b16' = false ∨ b20' = false) → (b4 = b4' ∧ b8 = b8' ∧ b12 = b12' ∧ b16 = b16' ∧ b20 = b20') → b21 = false ∧ b22 = false := by
      rintro _ _ _ _ _ hor ⟨rfl, rfl, rfl, rfl, rfl⟩
      have h1 : b21 = false := by
        cases b21 with
        | false => rfl
        | true =>
          obtain ⟨rfl, rfl, rfl, rfl, rfl⟩ := h21 rfl
          simp at hor
      refine ⟨h1, ?_⟩
      subst h1
      cases b22 with
      | false => rfl
      | true => cases h22 rfl
    rcases slot_cases i hf with ⟨rfl, rfl⟩ | ⟨rfl, rfl⟩ | ⟨rfl, rfl⟩ | ⟨rfl, rfl⟩ | ⟨rfl, rfl⟩ | ⟨rfl, rfl⟩ | ⟨rfl, rfl⟩
    · obtain ⟨rfl, rfl⟩ := hn false b8 b12 b16 b20 (by simp) ⟨rfl, rfl, rfl, rfl, rfl⟩
      obtain ⟨w2, hrun, h1, h2, h3⟩ := sel5_put (l := 110 :: h.name) (n := 100) (L' := sel5 h true b8 b12 b16 b20) hm (lenOk hs.1) (fun p hp => by
        rcases sel5_mem hp with ⟨h1, h2⟩ | ⟨h1, h2⟩ | ⟨h1, h2⟩ | ⟨h1, h2⟩ | ⟨h1, h2⟩ <;> first | cases h1; done | exact ⟨_, h2, by simp, by first | exact lenOk hs.1 | exact lenOk hs.2.1 | exact lenOk hs.2.2.1 | exact lenOk hs.2.2.2.1 | exact lenOk hs.2.2.2.2⟩) (.refl _) hb hbm hbl hlt
      exact wpOp_skip rfl rfl (upd_run hrun) ⟨h2, true, b8, b12, b16, b20, false, false, rfl, by simp, by simp, rfl, h2, h3, h1⟩
    · obtain ⟨rfl, rfl⟩ := hn b4 false b12 b16 b20 (by simp) ⟨rfl, rfl, rfl, rfl, rfl⟩
      obtain ⟨w2, hrun, h1, h2, h3⟩ := sel5_put (l := 108 :: h.link) (n := 100) (L' := sel5 h b4 true b12 b16 b20) hm (lenOk hs.2.1) (fun p hp => by
        rcases sel5_mem hp with ⟨h1, h2⟩ | ⟨h1, h2⟩ | ⟨h1, h2⟩ | ⟨h1, h2⟩ | ⟨h1, h2⟩ <;> first | cases h1; done | exact ⟨_, h2, by simp, by first | exact lenOk hs.1 | exact lenOk hs.2.1 | exact lenOk hs.2.2.1 | exact lenOk hs.2.2.2.1 | exact lenOk hs.2.2.2.2⟩) (pm _ (.refl _)) hb hbm hbl hlt
      exact wpOp_skip rfl rfl (upd_run hrun) ⟨h2, b4, true, b12, b16, b20, false, false, rfl, by simp, by simp, rfl, h2, h3, h1⟩
    · obtain ⟨rfl, rfl⟩ := hn b4 b8 false b16 b20 (by simp) ⟨rfl, rfl, rfl, rfl, rfl⟩
      obtain ⟨w2, hrun, h1, h2, h3⟩ := sel5_put (l := 117 :: h.uname) (n := 32) (L' := sel5 h b4 b8 true b16 b20) hm (lenOk hs.2.2.1) (fun p hp => by
        rcases sel5_mem hp with ⟨h1, h2⟩ | ⟨h1, h2⟩ | ⟨h1, h2⟩ | ⟨h1, h2⟩ | ⟨h1, h2⟩ <;> first | cases h1; done | exact ⟨_, h2, by simp, by first | exact lenOk hs.1 | exact lenOk hs.2.1 | exact lenOk hs.2.2.1 | exact lenOk hs.2.2.2.1 | exact lenOk hs.2.2.2.2⟩) (pm _ (pm _ (.refl _))) hb hbm hbl hlt
      exact wpOp_skip rfl rfl (upd_run hrun) ⟨h2, b4, b8, true, b16, b20, false, false, rfl, by simp, by simp, rfl, h2, h3, h1⟩
    · obtain ⟨rfl, rfl⟩ := hn b4 b8 b12 false b20 (by simp) ⟨rfl, rfl, rfl, rfl, rfl⟩
      obtain ⟨w2, hrun, h1, h2, h3⟩ := sel5_put (l := 103 :: h.gname) (n := 32) (L' := sel5 h b4 b8 b12 true b20) hm (lenOk hs.2.2.2.1) (fun p hp => by
        rcases sel5_mem hp with ⟨h1, h2⟩ | ⟨h1, h2⟩ | ⟨h1, h2⟩ | ⟨h1, h2⟩ | ⟨h1, h2⟩ <;> first | cases h1; done | exact ⟨_, h2, by simp, by first | exact lenOk hs.1 | exact lenOk hs.2.1 | exact lenOk hs.2.2.1 | exact lenOk hs.2.2.2.1 | exact lenOk hs.2.2.2.2⟩) (pm _ (pm _ (pm _ (.refl _)))) hb hbm hbl hlt
      exact wpOp_skip rfl rfl (upd_run hrun) ⟨h2, b4, b8, b12, true, b20, false, false, rfl, by simp, by simp, rfl, h2, h3, h1⟩
    · obtain ⟨rfl, rfl⟩ := hn b4 b8 b12 b16 false (by simp) ⟨rfl, rfl, rfl, rfl, rfl⟩
      obtain ⟨w2, hrun, h1, h2, h3⟩ := sel5_put (l := 112 :: h.pref) (n := 155) (L' := sel5 h b4 b8 b12 b16 true) hm (lenOk hs.2.2.2.2) (fun p hp => by
        rcases sel5_mem hp with ⟨h1, h2⟩ | ⟨h1, h2⟩ | ⟨h1, h2⟩ | ⟨h1, h2⟩ | ⟨h1, h2⟩ <;> first | cases h1; done | exact ⟨_, h2, by simp, by first | exact lenOk hs.1 | exact lenOk hs.2.1 | exact lenOk hs.2.2.1 | exact lenOk hs.2.2.2.1 | exact lenOk hs.2.2.2.2⟩) (pm _ (pm _ (pm _ (pm _ (.refl _))))) hb hbm hbl hlt
      exact wpOp_skip rfl rfl (upd_run hrun) ⟨h2, b4, b8, b12, b16, true, false, false, rfl, by simp, by simp, rfl, h2, h3, h1⟩
    · have h22' : b22 = false := by
        cases b22 with
        | false => rfl
        | true => cases h22 rfl
      subst h22'
      have hall : b4 = true ∧ b8 = true ∧ b12 = true ∧ b16 = true ∧ b20 = true := by
        obtain rfl : o = _ := (Option.some.inj ho).symm
        exact ⟨hd { on := 4, ground := .data } (Array.mem_of_getElem? (i := 4) rfl) rfl, hd { on := 8, ground := .data } (Array.mem_of_getElem? (i := 8) rfl) rfl, hd { on := 12, ground := .data } (Array.mem_of_getElem? (i := 12) rfl) rfl, hd { on := 16, ground := .data } (Array.mem_of_getElem? (i := 16) rfl) rfl, hd { on := 20, ground := .data } (Array.mem_of_getElem? (i := 20) rfl) rfl⟩
      exact wpOp_value (v := .map (some W0.heap.size)) rfl rfl rfl ⟨hb, b4, b8, b12, b16, b20, true, false, rfl, fun _ => hall, by simp, rfl, hb, hbl, hm⟩
    · have hall : b21 = true := by
        obtain rfl : o = _ := (Option.some.inj ho).symm
        exact hd { on := 21, ground := .data } (Array.mem_of_getElem? (i := 0) rfl) rfl
      subst hall
      exact wpOp_value (v := .map (some W0.heap.size)) rfl rfl rfl ⟨hb, b4, b8, b12, b16, b20, true, true, rfl, h21, by simp, rfl, hb, hbl, hm⟩
  · rintro listed a w1 ⟨b4, b8, b12, b16, b20, b21, b22, rfl, h21, h22, rfl, hb, hbl, hm⟩ hr
    have e4 : b4 = true := not_ready hr 4 _ rfl rfl
    have e8 : b8 = true := not_ready hr 8 _ rfl rfl
    have e12 : b12 = true := not_ready hr 12 _ rfl rfl
    have e16 : b16 = true := not_ready hr 16 _ rfl rfl
    have e20 : b20 = true := not_ready hr 20 _ rfl rfl
    subst e4 e8 e12 e16 e20
    have e21 : b21 = true := not_ready hr 21 _ rfl rfl
    subst e21
    have e22 : b22 = true := not_ready hr 22 _ rfl rfl
    subst e22
    simp only [frT, if_true, Act.put, List.setIfInBounds_toArray, List.set_cons_zero, List.set_cons_succ]
    rw [sel5_all] at hm
    clear hr
    go_wp2_with fail
    go_ret
    have hsz : W0.heap.size = w.heap.size + 1 := by subst hW0; simp
    refine ⟨w.heap.size + 1, by first | rfl | rw [hsz], by omega, hsz ▸ hm, ?_⟩
    subst hW0
    exact (((Below.refl _ w).alloc (Nat.le_refl _) _).drew.alloc (by simp) (.map #[] 0)).trans (hbl.mono (by simp))
  · rintro listed a w1 ⟨b4, b8, b12, b16, b20, b21, b22, rfl, _⟩
    rfl
  · exact ⟨false, false, false, false, false, false, false, rfl, by simp, by simp, rfl, hAl, .refl _ _, hm0⟩
  · decide
end Go.Proofs.YtdnpgloacdhliaaDoor
