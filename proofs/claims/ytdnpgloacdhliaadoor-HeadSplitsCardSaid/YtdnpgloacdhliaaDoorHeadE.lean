/- Package head: Put: the walk. -/
import Derived.Test.YtdnpgloacdhliaaDoorHeadP
import Derived.Test.YtdnpgloacdhliaaDoorMap
import Derived.Deep.RegionHeld3
import Derived.Deep.DeepCutAuto
import Derived.Deep.DeepFit
namespace Go.Proofs.YtdnpgloacdhliaaDoor
open Go.RowKit

theorem adds_op (a b : List UInt8) (hl : a.length + b.length ≤ 9223372036854775807) (w : World) :
    (do pure (Next.value (← binOp .add 9 (str a) (str b))) : Sem Next).run Tryd.prog w = .ok (.value (str (a ++ b))) w := by
  have h : ¬ 9223372036854775807 < a.length + b.length := by omega
  have e : ((⟨a.toArray⟩ : ByteArray) ++ ⟨b.toArray⟩) = ⟨(a ++ b).toArray⟩ := of_data (by rw [ByteArray.data_append, Array.toList_append])
  go_simp
theorem conv_op {w : World} {g : Nat} {c : UInt8} (h : w.cell? ⟨g, 0, none⟩ = some (.int .u8 (c.toNat : Int))) :
    (do pure (Next.value (← convert 34 9 (.slice (some ⟨g, 0, none⟩) 1 1))) : Sem Next).run Tryd.prog w = .ok (.value (str [c])) w := by
  rw [Sem.run_bind, conv_one h]
  rfl
def S4 (b : Nat) (h : Hd) (w0 w : World) : Prop := w.cell? ⟨b, 6, none⟩ = some (.int .u8 (h.type.toNat : Int)) ∧ w.cell? ⟨b, 7, none⟩ = some (str h.link) ∧ w.cell? ⟨b, 8, none⟩ = some (str h.uname) ∧ w.cell? ⟨b, 9, none⟩ = some (str h.gname) ∧ Box b h w0 w
def S5 (b : Nat) (h : Hd) (w0 : World) (g : Nat) (w : World) : Prop := S4 b h w0 w ∧ w.cell? ⟨g, 0, none⟩ = some (.int .u8 (h.type.toNat : Int))

set_option maxRecDepth 20000 in
set_option maxHeartbeats 1600000 in
theorem Put_walk (h : Hd) (hk : HOk h) (w : World) (hl : Laid w) : Calls Tryd.prog 10 #[hv h] w (Ret (str (putS h)) w) := by
  have HK := Lib.hid hk
  have Hl := Lib.hid hl
  clear hk hl
  have Hput : Hid (putS h = if mayH h then preH h ++ sumF h ++ postH h else []) := Lib.hid rfl
  go_enter Tryd.func10, Tryd.ntmps10
  go_wp2_with fail
  refine (May_walk h HK.out _).mono ?_
  rintro e w1 ⟨rfl, hb1⟩
  have hbx := (Box.made (h := h) w).call hb1
  cases hm : mayH h with
  | false =>
    rw [hm, if_neg (by decide)] at Hput
    go_wp2_with fail
    go_ret
    rw [Hput.out]
    exact ⟨rfl, hbx.2⟩
  | true =>
    rw [hm, if_pos rfl] at Hput
    clear hb1
    go_upto_region 3 with fail
    have Hpre : Hid (preH h = padZ h.name 100 ++ fld h.mode 8 ++ fld h.uid 8 ++ fld h.gid 8 ++ fld h.size 12 ++ fld h.mtime 12) := Lib.hid rfl
    go_cut [3] from 7 to 29 (fun v wx => v = str (preH h) ∧ Box w.heap.size h w wx)
    case first =>
      have hl0 := pad_len (may_len hm (c := 110) (l := h.name) (n := 100) rfl (by simp [textsOf]))
      have hlf := may_flds hm
      have hl1 := hlf.1
      have hl2 := hlf.2.1
      have hl3 := hlf.2.2.1
      have hl4 := hlf.2.2.2.1
      have hl5 := hlf.2.2.2.2.1
      obtain ⟨T0, hT0⟩ : ∃ T, padZ h.name 100 = T := ⟨_, rfl⟩
      obtain ⟨F1, hF1⟩ : ∃ T, fld h.mode 8 = T := ⟨_, rfl⟩
      obtain ⟨F2, hF2⟩ : ∃ T, fld h.uid 8 = T := ⟨_, rfl⟩
      obtain ⟨F3, hF3⟩ : ∃ T, fld h.gid 8 = T := ⟨_, rfl⟩
      obtain ⟨F4, hF4⟩ : ∃ T, fld h.size 12 = T := ⟨_, rfl⟩
      obtain ⟨F5, hF5⟩ : ∃ T, fld h.mtime 12 = T := ⟨_, rfl⟩
      rw [hT0, hF1, hF2, hF3, hF4, hF5] at Hpre
      rw [hT0] at hl0
      rw [hF1] at hl1
      rw [hF2] at hl2
      rw [hF3] at hl3
      rw [hF4] at hl4
      rw [hF5] at hl5
      have HT0 := Lib.hid hT0
      have HF1 := Lib.hid hF1
      have HF2 := Lib.hid hF2
      have HF3 := Lib.hid hF3
      have HF4 := Lib.hid hF4
      have HF5 := Lib.hid hF5
      have hnl := may_len hm (c := 110) (l := h.name) (n := 100) rfl (by simp [textsOf])
      clear hT0 hF1 hF2 hF3 hF4 hF5 hlf
      go_region_held3 (fun w' => w'.cell? ⟨w.heap.size, 0, none⟩ = some (str h.name) ∧ w'.cell? ⟨w.heap.size, 1, none⟩ = some (.int .i64 h.mode) ∧ w'.cell? ⟨w.heap.size, 2, none⟩ = some (.int .i64 h.uid) ∧ w'.cell? ⟨w.heap.size, 3, none⟩ = some (.int .i64 h.gid) ∧ w'.cell? ⟨w.heap.size, 4, none⟩ = some (.int .i64 h.size) ∧ w'.cell? ⟨w.heap.size, 5, none⟩ = some (.int .i64 h.mtime) ∧ Box w.heap.size h w w')
        (first | exact Box.six (Box.call (by assumption) (Box.of6 (by assumption))) | exact Box.six (Box.drew (by assumption)))
        (first | (go_fit (textP HT0.out rfl hnl (by omega) _); rintro e w' ⟨rfl, hb⟩) | (go_fit (fieldP HF1.out HK.out.mode _); rintro e w' ⟨rfl, hb⟩) | (go_fit (fieldP HF2.out HK.out.uid _); rintro e w' ⟨rfl, hb⟩) | (go_fit (fieldP HF3.out HK.out.gid _); rintro e w' ⟨rfl, hb⟩) | (go_fit (fieldP HF4.out HK.out.size _); rintro e w' ⟨rfl, hb⟩) | (go_fit (fieldP HF5.out HK.out.mtime _); rintro e w' ⟨rfl, hb⟩))
      go_wp2_with fail
      go_meet
      rename_i hS
      refine ⟨vstr ?_, Box.of6 hS⟩
      rw [Hpre.out]
      simp only [data_app]
    case rest =>
      obtain ⟨rfl, hbx2⟩ := hcut
      have hpl := preH_len hm
      clear hbx
      go_upto_region 4 with fail
      have Hmid : Hid (midH h = List.replicate 8 0 ++ [h.type] ++ padZ h.link 100 ++ [117, 115, 116, 97, 114, 0, 48, 48] ++ padZ h.uname 32 ++ padZ h.gname 32) := Lib.hid rfl
      go_cut [3] from 30 to 50 (fun v wx => v = str (preH h ++ midH h) ∧ Box w.heap.size h w wx)
      case first =>
        generalize preH h = PP at *
        have hcv : ∀ (w : World) (g : Nat), w.cell? ⟨g, 0, none⟩ = some (.int .u8 (h.type.toNat : Int)) → (convert 34 9 (.slice (some ⟨g, 0, none⟩) 1 1)).run Tryd.prog w = .ok (str [h.type]) w := fun w g hg => conv_one hg
        have hnl := may_len hm (c := 108) (l := h.link) (n := 100) rfl (by simp [textsOf])
        have hnu := may_len hm (c := 117) (l := h.uname) (n := 32) rfl (by simp [textsOf])
        have hng := may_len hm (c := 103) (l := h.gname) (n := 32) rfl (by simp [textsOf])
        have hl1 := pad_len hnl
        have hl2 := pad_len hnu
        have hl3 := pad_len hng
        have hl0 : (List.replicate 8 (0 : UInt8)).length = 8 := by simp
        obtain ⟨T0, hT0⟩ : ∃ T, List.replicate 8 (0 : UInt8) = T := ⟨_, rfl⟩
        obtain ⟨T1, hT1⟩ : ∃ T, padZ h.link 100 = T := ⟨_, rfl⟩
        obtain ⟨T2, hT2⟩ : ∃ T, padZ h.uname 32 = T := ⟨_, rfl⟩
        obtain ⟨T3, hT3⟩ : ∃ T, padZ h.gname 32 = T := ⟨_, rfl⟩
        rw [hT0, hT1, hT2, hT3] at Hmid
        rw [hT0] at hl0
        rw [hT1] at hl1
        rw [hT2] at hl2
        rw [hT3] at hl3
        have hT0' : padZ [] 8 = T0 := hT0
        have HT0 := Lib.hid hT0'
        have HT1 := Lib.hid hT1
        have HT2 := Lib.hid hT2
        have HT3 := Lib.hid hT3
        clear hT0 hT1 hT2 hT3 hT0'
        --4[
        refine wp_region_held (S := S4 w.heap.size h w) (by kernel_rfl) ?_
        have HB0 := hbx2.drew
        refine wpAnyH_take (i := 0) (oi := { dst := some 30, op := .move (.tmp 3), type := 9, pos := "head.go:73", after := #[], guard := none }) (v := str (PP)) rfl (by kernel_rfl) (by kernel_rfl) (by kernel_rfl) (fun _ _ _ h => h) (Or.inl ⟨by rfl, ?_⟩) (Box.four HB0) ?_
        · intro w9 hw9; go_simp
        simp only [Act.put, List.setIfInBounds_toArray, List.set_cons_zero, List.set_cons_succ]
        refine wpAnyH_take (i := 2) (oi := { dst := some 32, op := .fieldAddr 26 (.tmp 1) 6, type := 0, pos := "head.go:73", after := #[], guard := none }) (v := .pointer (some ⟨w.heap.size, 6, none⟩)) rfl (by kernel_rfl) (by kernel_rfl) (by kernel_rfl) (fun _ _ _ h => h) (Or.inl ⟨by rfl, ?_⟩) (Box.four HB0) ?_
        · intro w9 hw9; go_simp
        simp only [Act.put, List.setIfInBounds_toArray, List.set_cons_zero, List.set_cons_succ]
        refine wpAnyH_take (i := 3) (oi := { dst := some 33, op := .load 5 (.tmp 32), type := 5, pos := "head.go:73", after := #[{ on := 2, ground := .data }], guard := none }) (v := .int .u8 (h.type.toNat : Int)) rfl (by kernel_rfl) (by kernel_rfl) (by kernel_rfl) (fun _ _ _ h => h) (Or.inl ⟨by rfl, ?_⟩) (Box.four HB0) ?_
        · intro w9 hw9; have hc := hw9.1; go_simp
        simp only [Act.put, List.setIfInBounds_toArray, List.set_cons_zero, List.set_cons_succ]
        refine wpAnyH_take (i := 7) (oi := { dst := some 37, op := .fieldAddr 26 (.tmp 1) 7, type := 0, pos := "head.go:73", after := #[], guard := none }) (v := .pointer (some ⟨w.heap.size, 7, none⟩)) rfl (by kernel_rfl) (by kernel_rfl) (by kernel_rfl) (fun _ _ _ h => h) (Or.inl ⟨by rfl, ?_⟩) (Box.four HB0) ?_
        · intro w9 hw9; go_simp
        simp only [Act.put, List.setIfInBounds_toArray, List.set_cons_zero, List.set_cons_succ]
        refine wpAnyH_take (i := 8) (oi := { dst := some 38, op := .load 9 (.tmp 37), type := 9, pos := "head.go:73", after := #[{ on := 7, ground := .data }], guard := none }) (v := str h.link) rfl (by kernel_rfl) (by kernel_rfl) (by kernel_rfl) (fun _ _ _ h => h) (Or.inl ⟨by rfl, ?_⟩) (Box.four HB0) ?_
        · intro w9 hw9; have hc := hw9.2.1; go_simp
        simp only [Act.put, List.setIfInBounds_toArray, List.set_cons_zero, List.set_cons_succ]
        refine wpAnyH_take (i := 12) (oi := { dst := some 42, op := .fieldAddr 26 (.tmp 1) 8, type := 0, pos := "head.go:73", after := #[], guard := none }) (v := .pointer (some ⟨w.heap.size, 8, none⟩)) rfl (by kernel_rfl) (by kernel_rfl) (by kernel_rfl) (fun _ _ _ h => h) (Or.inl ⟨by rfl, ?_⟩) (Box.four HB0) ?_
        · intro w9 hw9; go_simp
        simp only [Act.put, List.setIfInBounds_toArray, List.set_cons_zero, List.set_cons_succ]
        refine wpAnyH_take (i := 13) (oi := { dst := some 43, op := .load 9 (.tmp 42), type := 9, pos := "head.go:73", after := #[{ on := 12, ground := .data }], guard := none }) (v := str h.uname) rfl (by kernel_rfl) (by kernel_rfl) (by kernel_rfl) (fun _ _ _ h => h) (Or.inl ⟨by rfl, ?_⟩) (Box.four HB0) ?_
        · intro w9 hw9; have hc := hw9.2.2.1; go_simp
        simp only [Act.put, List.setIfInBounds_toArray, List.set_cons_zero, List.set_cons_succ]
        refine wpAnyH_take (i := 16) (oi := { dst := some 46, op := .fieldAddr 26 (.tmp 1) 9, type := 0, pos := "head.go:73", after := #[], guard := none }) (v := .pointer (some ⟨w.heap.size, 9, none⟩)) rfl (by kernel_rfl) (by kernel_rfl) (by kernel_rfl) (fun _ _ _ h => h) (Or.inl ⟨by rfl, ?_⟩) (Box.four HB0) ?_
        · intro w9 hw9; go_simp
        simp only [Act.put, List.setIfInBounds_toArray, List.set_cons_zero, List.set_cons_succ]
        refine wpAnyH_take (i := 17) (oi := { dst := some 47, op := .load 9 (.tmp 46), type := 9, pos := "head.go:73", after := #[{ on := 16, ground := .data }], guard := none }) (v := str h.gname) rfl (by kernel_rfl) (by kernel_rfl) (by kernel_rfl) (fun _ _ _ h => h) (Or.inl ⟨by rfl, ?_⟩) (Box.four HB0) ?_
        · intro w9 hw9; have hc := hw9.2.2.2.1; go_simp
        simp only [Act.put, List.setIfInBounds_toArray, List.set_cons_zero, List.set_cons_succ]
        refine wpAnyH_all (rs := [1, 4]) (by kernel_rfl) (by decide) ?_
        intro i hi
        rcases (show i = 1 ∨ i = 4 by simpa using hi) with rfl | rfl
        · skip
          refine wpOp_call (f := 18) (args := #[str [], .int .i64 8]) (v := str T0) rfl rfl (by kernel_rfl) (textP HT0.out rfl (Nat.zero_le 8) (by omega) _) (fun x10_0 hb10_0 => ⟨Box.four (Box.call hb10_0 HB0), ?_⟩)
          have HB10_0 := Box.call hb10_0 HB0
          simp only [List.getElem_toArray, List.getElem_cons_zero, List.getElem_cons_succ, Act.put, List.setIfInBounds_toArray, List.set_cons_zero, List.set_cons_succ]
          refine wpAnyH_all (rs := [4, 9]) (by kernel_rfl) (by decide) ?_
          intro i hi
          rcases (show i = 4 ∨ i = 9 by simpa using hi) with rfl | rfl
          · skip
            refine wpOp_value (v := .slice (some ⟨x10_0.heap.size, 0, none⟩) 1 1) (w' := x10_0.alloc (.cells #[.int .u8 (h.type.toNat : Int)] 5)) rfl rfl ?_ ⟨Box.four (HB10_0.alloc _), ?_⟩
            · go_simp
            have HBn := HB10_0.alloc (.cells #[.int .u8 (h.type.toNat : Int)] 5)
            have hcn := cellNew x10_0 (h.type.toNat : Int)
            refine wpAnyH_sharp (S' := S5 w.heap.size h w x10_0.heap.size) (fun _ h => h.1) _ _ _ _ ?_
            simp only [List.getElem_toArray, List.getElem_cons_zero, List.getElem_cons_succ, Act.put, List.setIfInBounds_toArray, List.set_cons_zero, List.set_cons_succ]
            refine wpAnyH_take (i := 5) (oi := { dst := some 35, op := .convert 34 9 (.tmp 34), type := 9, pos := "head.go:73", after := #[{ on := 4, ground := .data }], guard := none }) (v := str [h.type]) rfl (by kernel_rfl) (by kernel_rfl) (by kernel_rfl) (fun _ _ _ h => h) (Or.inl ⟨by rfl, ?_⟩) ⟨Box.four HBn, hcn⟩ ?_
            · intro w9 hw9; exact conv_op hw9.2
            simp only [Act.put, List.setIfInBounds_toArray, List.set_cons_zero, List.set_cons_succ]
            refine wpAnyH_take (i := 6) (oi := { dst := some 36, op := .binOp .add 9 (.tmp 31) (.tmp 35) 9, type := 9, pos := "head.go:73", after := #[{ on := 1, ground := .data }, { on := 5, ground := .data }], guard := none }) (v := str ((T0) ++ [h.type])) rfl (by kernel_rfl) (by kernel_rfl) (by kernel_rfl) (fun _ _ _ h => h) (Or.inl ⟨by rfl, ?_⟩) ⟨Box.four HBn, hcn⟩ ?_
            · intro w9 hw9; exact adds_op (T0) ([h.type]) (by simp <;> omega) w9
            simp only [Act.put, List.setIfInBounds_toArray, List.set_cons_zero, List.set_cons_succ]
            refine wpAnyH_all (rs := [9]) (by kernel_rfl) (by decide) ?_
            intro i hi
            obtain rfl : i = 9 := by simpa using hi
            refine wpOp_call (f := 18) (args := #[str (h.link), .int .i64 100]) (v := str T1) rfl rfl (by kernel_rfl) (textP HT1.out rfl hnl (by omega) _) (fun x12_1 hb12_1 => ⟨⟨Box.four (Box.call hb12_1 HBn), cellKeep hb12_1 hcn⟩, ?_⟩)
            have HB12_1 := Box.call hb12_1 HBn
            have HB12_1c := cellKeep hb12_1 hcn
            simp only [List.getElem_toArray, List.getElem_cons_zero, List.getElem_cons_succ, Act.put, List.setIfInBounds_toArray, List.set_cons_zero, List.set_cons_succ]
            refine wpAnyH_take (i := 10) (oi := { dst := some 40, op := .binOp .add 9 (.tmp 36) (.tmp 39) 9, type := 9, pos := "head.go:73", after := #[{ on := 6, ground := .data }, { on := 9, ground := .data }], guard := none }) (v := str ((T0 ++ [h.type]) ++ T1)) rfl (by kernel_rfl) (by kernel_rfl) (by kernel_rfl) (fun _ _ _ h => h) (Or.inl ⟨by rfl, ?_⟩) ⟨Box.four HB12_1, HB12_1c⟩ ?_
            · intro w9 hw9; exact adds_op (T0 ++ [h.type]) (T1) (by simp <;> omega) w9
            simp only [Act.put, List.setIfInBounds_toArray, List.set_cons_zero, List.set_cons_succ]
            refine wpAnyH_take (i := 11) (oi := { dst := some 41, op := .binOp .add 9 (.tmp 40) (.const (.string ⟨#[117, 115, 116, 97, 114, 0, 48, 48]⟩)) 9, type := 9, pos := "head.go:73", after := #[{ on := 10, ground := .data }], guard := none }) (v := str ((T0 ++ [h.type] ++ T1) ++ [117, 115, 116, 97, 114, 0, 48, 48])) rfl (by kernel_rfl) (by kernel_rfl) (by kernel_rfl) (fun _ _ _ h => h) (Or.inl ⟨by rfl, ?_⟩) ⟨Box.four HB12_1, HB12_1c⟩ ?_
            · intro w9 hw9; exact adds_op (T0 ++ [h.type] ++ T1) ([117, 115, 116, 97, 114, 0, 48, 48]) (by simp <;> omega) w9
            simp only [Act.put, List.setIfInBounds_toArray, List.set_cons_zero, List.set_cons_succ]
            refine wpAnyH_all (rs := [14]) (by kernel_rfl) (by decide) ?_
            intro i hi
            obtain rfl : i = 14 := by simpa using hi
            refine wpOp_call (f := 18) (args := #[str (h.uname), .int .i64 32]) (v := str T2) rfl rfl (by kernel_rfl) (textP HT2.out rfl hnu (by omega) _) (fun x12_2 hb12_2 => ⟨⟨Box.four (Box.call hb12_2 HB12_1), cellKeep hb12_2 HB12_1c⟩, ?_⟩)
            have HB12_2 := Box.call hb12_2 HB12_1
            have HB12_2c := cellKeep hb12_2 HB12_1c
            simp only [List.getElem_toArray, List.getElem_cons_zero, List.getElem_cons_succ, Act.put, List.setIfInBounds_toArray, List.set_cons_zero, List.set_cons_succ]
            refine wpAnyH_take (i := 15) (oi := { dst := some 45, op := .binOp .add 9 (.tmp 41) (.tmp 44) 9, type := 9, pos := "head.go:73", after := #[{ on := 11, ground := .data }, { on := 14, ground := .data }], guard := none }) (v := str ((T0 ++ [h.type] ++ T1 ++ [117, 115, 116, 97, 114, 0, 48, 48]) ++ T2)) rfl (by kernel_rfl) (by kernel_rfl) (by kernel_rfl) (fun _ _ _ h => h) (Or.inl ⟨by rfl, ?_⟩) ⟨Box.four HB12_2, HB12_2c⟩ ?_
            · intro w9 hw9; exact adds_op (T0 ++ [h.type] ++ T1 ++ [117, 115, 116, 97, 114, 0, 48, 48]) (T2) (by simp <;> omega) w9
            simp only [Act.put, List.setIfInBounds_toArray, List.set_cons_zero, List.set_cons_succ]
            refine wpAnyH_all (rs := [18]) (by kernel_rfl) (by decide) ?_
            intro i hi
            obtain rfl : i = 18 := by simpa using hi
            refine wpOp_call (f := 18) (args := #[str (h.gname), .int .i64 32]) (v := str T3) rfl rfl (by kernel_rfl) (textP HT3.out rfl hng (by omega) _) (fun x12_3 hb12_3 => ⟨⟨Box.four (Box.call hb12_3 HB12_2), cellKeep hb12_3 HB12_2c⟩, ?_⟩)
            have HB12_3 := Box.call hb12_3 HB12_2
            have HB12_3c := cellKeep hb12_3 HB12_2c
            simp only [List.getElem_toArray, List.getElem_cons_zero, List.getElem_cons_succ, Act.put, List.setIfInBounds_toArray, List.set_cons_zero, List.set_cons_succ]
            refine wpAnyH_take (i := 19) (oi := { dst := some 49, op := .binOp .add 9 (.tmp 45) (.tmp 48) 9, type := 9, pos := "head.go:73", after := #[{ on := 15, ground := .data }, { on := 18, ground := .data }], guard := none }) (v := str ((T0 ++ [h.type] ++ T1 ++ [117, 115, 116, 97, 114, 0, 48, 48] ++ T2) ++ T3)) rfl (by kernel_rfl) (by kernel_rfl) (by kernel_rfl) (fun _ _ _ h => h) (Or.inl ⟨by rfl, ?_⟩) ⟨Box.four HB12_3, HB12_3c⟩ ?_
            · intro w9 hw9; exact adds_op (T0 ++ [h.type] ++ T1 ++ [117, 115, 116, 97, 114, 0, 48, 48] ++ T2) (T3) (by simp <;> omega) w9
            simp only [Act.put, List.setIfInBounds_toArray, List.set_cons_zero, List.set_cons_succ]
            refine wpAnyH_take (i := 20) (oi := { dst := some 50, op := .binOp .add 9 (.tmp 30) (.tmp 49) 9, type := 9, pos := "head.go:73", after := #[{ on := 0, ground := .data }, { on := 19, ground := .data }], guard := none }) (v := str (PP ++ (T0 ++ [h.type] ++ T1 ++ [117, 115, 116, 97, 114, 0, 48, 48] ++ T2 ++ T3))) rfl (by kernel_rfl) (by kernel_rfl) (by kernel_rfl) (fun _ _ _ h => h) (Or.inl ⟨by rfl, ?_⟩) ⟨Box.four HB12_3, HB12_3c⟩ ?_
            · intro w9 hw9; exact adds_op (PP) (T0 ++ [h.type] ++ T1 ++ [117, 115, 116, 97, 114, 0, 48, 48] ++ T2 ++ T3) (by simp <;> omega) w9
            simp only [Act.put, List.setIfInBounds_toArray, List.set_cons_zero, List.set_cons_succ]
            refine wpAnyH_take (i := 21) (oi := { dst := some 3, op := .assign (.tmp 50), type := 9, pos := "head.go:73", after := #[{ on := 20, ground := .data }, { on := 18, ground := .chain }, { on := 0, ground := .phase }, { on := 1, ground := .phase }, { on := 2, ground := .phase }, { on := 3, ground := .phase }, { on := 4, ground := .phase }, { on := 5, ground := .phase }, { on := 6, ground := .phase }, { on := 7, ground := .phase }, { on := 8, ground := .phase }, { on := 9, ground := .phase }, { on := 10, ground := .phase }, { on := 11, ground := .phase }, { on := 12, ground := .phase }, { on := 13, ground := .phase }, { on := 14, ground := .phase }, { on := 15, ground := .phase }, { on := 16, ground := .phase }, { on := 17, ground := .phase }, { on := 18, ground := .phase }, { on := 19, ground := .phase }, { on := 20, ground := .phase }], guard := none }) (v := str (PP ++ (T0 ++ [h.type] ++ T1 ++ [117, 115, 116, 97, 114, 0, 48, 48] ++ T2 ++ T3))) rfl (by kernel_rfl) (by kernel_rfl) (by kernel_rfl) (fun _ _ _ h => h) (Or.inl ⟨by rfl, ?_⟩) ⟨Box.four HB12_3, HB12_3c⟩ ?_
            · intro w9 hw9; go_simp
            simp only [Act.put, List.setIfInBounds_toArray, List.set_cons_zero, List.set_cons_succ]
            refine wpAnyH_done (by kernel_rfl) ?_ _
            go_wp2_with fail
            go_meet
            exact ⟨by rw [Hmid.out] <;> simp only [List.append_assoc, List.cons_append, List.nil_append], HB12_3⟩
          · skip
            refine wpOp_call (f := 18) (args := #[str (h.link), .int .i64 100]) (v := str T1) rfl rfl (by kernel_rfl) (textP HT1.out rfl hnl (by omega) _) (fun x12_1 hb12_1 => ⟨Box.four (Box.call hb12_1 HB10_0), ?_⟩)
            have HB12_1 := Box.call hb12_1 HB10_0
            simp only [List.getElem_toArray, List.getElem_cons_zero, List.getElem_cons_succ, Act.put, List.setIfInBounds_toArray, List.set_cons_zero, List.set_cons_succ]
            refine wpAnyH_all (rs := [4, 14]) (by kernel_rfl) (by decide) ?_
            intro i hi
            rcases (show i = 4 ∨ i = 14 by simpa using hi) with rfl | rfl
            · skip
              refine wpOp_value (v := .slice (some ⟨x12_1.heap.size, 0, none⟩) 1 1) (w' := x12_1.alloc (.cells #[.int .u8 (h.type.toNat : Int)] 5)) rfl rfl ?_ ⟨Box.four (HB12_1.alloc _), ?_⟩
              · go_simp
              have HBn := HB12_1.alloc (.cells #[.int .u8 (h.type.toNat : Int)] 5)
              have hcn := cellNew x12_1 (h.type.toNat : Int)
              refine wpAnyH_sharp (S' := S5 w.heap.size h w x12_1.heap.size) (fun _ h => h.1) _ _ _ _ ?_
              simp only [List.getElem_toArray, List.getElem_cons_zero, List.getElem_cons_succ, Act.put, List.setIfInBounds_toArray, List.set_cons_zero, List.set_cons_succ]
              refine wpAnyH_take (i := 5) (oi := { dst := some 35, op := .convert 34 9 (.tmp 34), type := 9, pos := "head.go:73", after := #[{ on := 4, ground := .data }], guard := none }) (v := str [h.type]) rfl (by kernel_rfl) (by kernel_rfl) (by kernel_rfl) (fun _ _ _ h => h) (Or.inl ⟨by rfl, ?_⟩) ⟨Box.four HBn, hcn⟩ ?_
              · intro w9 hw9; exact conv_op hw9.2
              simp only [Act.put, List.setIfInBounds_toArray, List.set_cons_zero, List.set_cons_succ]
              refine wpAnyH_take (i := 6) (oi := { dst := some 36, op := .binOp .add 9 (.tmp 31) (.tmp 35) 9, type := 9, pos := "head.go:73", after := #[{ on := 1, ground := .data }, { on := 5, ground := .data }], guard := none }) (v := str ((T0) ++ [h.type])) rfl (by kernel_rfl) (by kernel_rfl) (by kernel_rfl) (fun _ _ _ h => h) (Or.inl ⟨by rfl, ?_⟩) ⟨Box.four HBn, hcn⟩ ?_
              · intro w9 hw9; exact adds_op (T0) ([h.type]) (by simp <;> omega) w9
              simp only [Act.put, List.setIfInBounds_toArray, List.set_cons_zero, List.set_cons_succ]
              refine wpAnyH_take (i := 10) (oi := { dst := some 40, op := .binOp .add 9 (.tmp 36) (.tmp 39) 9, type := 9, pos := "head.go:73", after := #[{ on := 6, ground := .data }, { on := 9, ground := .data }], guard := none }) (v := str ((T0 ++ [h.type]) ++ T1)) rfl (by kernel_rfl) (by kernel_rfl) (by kernel_rfl) (fun _ _ _ h => h) (Or.inl ⟨by rfl, ?_⟩) ⟨Box.four HBn, hcn⟩ ?_
              · intro w9 hw9; exact adds_op (T0 ++ [h.type]) (T1) (by simp <;> omega) w9
              simp only [Act.put, List.setIfInBounds_toArray, List.set_cons_zero, List.set_cons_succ]
              refine wpAnyH_take (i := 11) (oi := { dst := some 41, op := .binOp .add 9 (.tmp 40) (.const (.string ⟨#[117, 115, 116, 97, 114, 0, 48, 48]⟩)) 9, type := 9, pos := "head.go:73", after := #[{ on := 10, ground := .data }], guard := none }) (v := str ((T0 ++ [h.type] ++ T1) ++ [117, 115, 116, 97, 114, 0, 48, 48])) rfl (by kernel_rfl) (by kernel_rfl) (by kernel_rfl) (fun _ _ _ h => h) (Or.inl ⟨by rfl, ?_⟩) ⟨Box.four HBn, hcn⟩ ?_
              · intro w9 hw9; exact adds_op (T0 ++ [h.type] ++ T1) ([117, 115, 116, 97, 114, 0, 48, 48]) (by simp <;> omega) w9
              simp only [Act.put, List.setIfInBounds_toArray, List.set_cons_zero, List.set_cons_succ]
              refine wpAnyH_all (rs := [14]) (by kernel_rfl) (by decide) ?_
              intro i hi
              obtain rfl : i = 14 := by simpa using hi
              refine wpOp_call (f := 18) (args := #[str (h.uname), .int .i64 32]) (v := str T2) rfl rfl (by kernel_rfl) (textP HT2.out rfl hnu (by omega) _) (fun x14_2 hb14_2 => ⟨⟨Box.four (Box.call hb14_2 HBn), cellKeep hb14_2 hcn⟩, ?_⟩)
              have HB14_2 := Box.call hb14_2 HBn
              have HB14_2c := cellKeep hb14_2 hcn
              simp only [List.getElem_toArray, List.getElem_cons_zero, List.getElem_cons_succ, Act.put, List.setIfInBounds_toArray, List.set_cons_zero, List.set_cons_succ]
              refine wpAnyH_take (i := 15) (oi := { dst := some 45, op := .binOp .add 9 (.tmp 41) (.tmp 44) 9, type := 9, pos := "head.go:73", after := #[{ on := 11, ground := .data }, { on := 14, ground := .data }], guard := none }) (v := str ((T0 ++ [h.type] ++ T1 ++ [117, 115, 116, 97, 114, 0, 48, 48]) ++ T2)) rfl (by kernel_rfl) (by kernel_rfl) (by kernel_rfl) (fun _ _ _ h => h) (Or.inl ⟨by rfl, ?_⟩) ⟨Box.four HB14_2, HB14_2c⟩ ?_
              · intro w9 hw9; exact adds_op (T0 ++ [h.type] ++ T1 ++ [117, 115, 116, 97, 114, 0, 48, 48]) (T2) (by simp <;> omega) w9
              simp only [Act.put, List.setIfInBounds_toArray, List.set_cons_zero, List.set_cons_succ]
              refine wpAnyH_all (rs := [18]) (by kernel_rfl) (by decide) ?_
              intro i hi
              obtain rfl : i = 18 := by simpa using hi
              refine wpOp_call (f := 18) (args := #[str (h.gname), .int .i64 32]) (v := str T3) rfl rfl (by kernel_rfl) (textP HT3.out rfl hng (by omega) _) (fun x14_3 hb14_3 => ⟨⟨Box.four (Box.call hb14_3 HB14_2), cellKeep hb14_3 HB14_2c⟩, ?_⟩)
              have HB14_3 := Box.call hb14_3 HB14_2
              have HB14_3c := cellKeep hb14_3 HB14_2c
              simp only [List.getElem_toArray, List.getElem_cons_zero, List.getElem_cons_succ, Act.put, List.setIfInBounds_toArray, List.set_cons_zero, List.set_cons_succ]
              refine wpAnyH_take (i := 19) (oi := { dst := some 49, op := .binOp .add 9 (.tmp 45) (.tmp 48) 9, type := 9, pos := "head.go:73", after := #[{ on := 15, ground := .data }, { on := 18, ground := .data }], guard := none }) (v := str ((T0 ++ [h.type] ++ T1 ++ [117, 115, 116, 97, 114, 0, 48, 48] ++ T2) ++ T3)) rfl (by kernel_rfl) (by kernel_rfl) (by kernel_rfl) (fun _ _ _ h => h) (Or.inl ⟨by rfl, ?_⟩) ⟨Box.four HB14_3, HB14_3c⟩ ?_
              · intro w9 hw9; exact adds_op (T0 ++ [h.type] ++ T1 ++ [117, 115, 116, 97, 114, 0, 48, 48] ++ T2) (T3) (by simp <;> omega) w9
              simp only [Act.put, List.setIfInBounds_toArray, List.set_cons_zero, List.set_cons_succ]
              refine wpAnyH_take (i := 20) (oi := { dst := some 50, op := .binOp .add 9 (.tmp 30) (.tmp 49) 9, type := 9, pos := "head.go:73", after := #[{ on := 0, ground := .data }, { on := 19, ground := .data }], guard := none }) (v := str (PP ++ (T0 ++ [h.type] ++ T1 ++ [117, 115, 116, 97, 114, 0, 48, 48] ++ T2 ++ T3))) rfl (by kernel_rfl) (by kernel_rfl) (by kernel_rfl) (fun _ _ _ h => h) (Or.inl ⟨by rfl, ?_⟩) ⟨Box.four HB14_3, HB14_3c⟩ ?_
              · intro w9 hw9; exact adds_op (PP) (T0 ++ [h.type] ++ T1 ++ [117, 115, 116, 97, 114, 0, 48, 48] ++ T2 ++ T3) (by simp <;> omega) w9
              simp only [Act.put, List.setIfInBounds_toArray, List.set_cons_zero, List.set_cons_succ]
              refine wpAnyH_take (i := 21) (oi := { dst := some 3, op := .assign (.tmp 50), type := 9, pos := "head.go:73", after := #[{ on := 20, ground := .data }, { on := 18, ground := .chain }, { on := 0, ground := .phase }, { on := 1, ground := .phase }, { on := 2, ground := .phase }, { on := 3, ground := .phase }, { on := 4, ground := .phase }, { on := 5, ground := .phase }, { on := 6, ground := .phase }, { on := 7, ground := .phase }, { on := 8, ground := .phase }, { on := 9, ground := .phase }, { on := 10, ground := .phase }, { on := 11, ground := .phase }, { on := 12, ground := .phase }, { on := 13, ground := .phase }, { on := 14, ground := .phase }, { on := 15, ground := .phase }, { on := 16, ground := .phase }, { on := 17, ground := .phase }, { on := 18, ground := .phase }, { on := 19, ground := .phase }, { on := 20, ground := .phase }], guard := none }) (v := str (PP ++ (T0 ++ [h.type] ++ T1 ++ [117, 115, 116, 97, 114, 0, 48, 48] ++ T2 ++ T3))) rfl (by kernel_rfl) (by kernel_rfl) (by kernel_rfl) (fun _ _ _ h => h) (Or.inl ⟨by rfl, ?_⟩) ⟨Box.four HB14_3, HB14_3c⟩ ?_
              · intro w9 hw9; go_simp
              simp only [Act.put, List.setIfInBounds_toArray, List.set_cons_zero, List.set_cons_succ]
              refine wpAnyH_done (by kernel_rfl) ?_ _
              go_wp2_with fail
              go_meet
              exact ⟨by rw [Hmid.out] <;> simp only [List.append_assoc, List.cons_append, List.nil_append], HB14_3⟩
            · skip
              refine wpOp_call (f := 18) (args := #[str (h.uname), .int .i64 32]) (v := str T2) rfl rfl (by kernel_rfl) (textP HT2.out rfl hnu (by omega) _) (fun x14_2 hb14_2 => ⟨Box.four (Box.call hb14_2 HB12_1), ?_⟩)
              have HB14_2 := Box.call hb14_2 HB12_1
              simp only [List.getElem_toArray, List.getElem_cons_zero, List.getElem_cons_succ, Act.put, List.setIfInBounds_toArray, List.set_cons_zero, List.set_cons_succ]
              refine wpAnyH_all (rs := [4, 18]) (by kernel_rfl) (by decide) ?_
              intro i hi
              rcases (show i = 4 ∨ i = 18 by simpa using hi) with rfl | rfl
              · skip
                refine wpOp_value (v := .slice (some ⟨x14_2.heap.size, 0, none⟩) 1 1) (w' := x14_2.alloc (.cells #[.int .u8 (h.type.toNat : Int)] 5)) rfl rfl ?_ ⟨Box.four (HB14_2.alloc _), ?_⟩
                · go_simp
                have HBn := HB14_2.alloc (.cells #[.int .u8 (h.type.toNat : Int)] 5)
                have hcn := cellNew x14_2 (h.type.toNat : Int)
                refine wpAnyH_sharp (S' := S5 w.heap.size h w x14_2.heap.size) (fun _ h => h.1) _ _ _ _ ?_
                simp only [List.getElem_toArray, List.getElem_cons_zero, List.getElem_cons_succ, Act.put, List.setIfInBounds_toArray, List.set_cons_zero, List.set_cons_succ]
                refine wpAnyH_take (i := 5) (oi := { dst := some 35, op := .convert 34 9 (.tmp 34), type := 9, pos := "head.go:73", after := #[{ on := 4, ground := .data }], guard := none }) (v := str [h.type]) rfl (by kernel_rfl) (by kernel_rfl) (by kernel_rfl) (fun _ _ _ h => h) (Or.inl ⟨by rfl, ?_⟩) ⟨Box.four HBn, hcn⟩ ?_
                · intro w9 hw9; exact conv_op hw9.2
                simp only [Act.put, List.setIfInBounds_toArray, List.set_cons_zero, List.set_cons_succ]
                refine wpAnyH_take (i := 6) (oi := { dst := some 36, op := .binOp .add 9 (.tmp 31) (.tmp 35) 9, type := 9, pos := "head.go:73", after := #[{ on := 1, ground := .data }, { on := 5, ground := .data }], guard := none }) (v := str ((T0) ++ [h.type])) rfl (by kernel_rfl) (by kernel_rfl) (by kernel_rfl) (fun _ _ _ h => h) (Or.inl ⟨by rfl, ?_⟩) ⟨Box.four HBn, hcn⟩ ?_
                · intro w9 hw9; exact adds_op (T0) ([h.type]) (by simp <;> omega) w9
                simp only [Act.put, List.setIfInBounds_toArray, List.set_cons_zero, List.set_cons_succ]
                refine wpAnyH_take (i := 10) (oi := { dst := some 40, op := .binOp .add 9 (.tmp 36) (.tmp 39) 9, type := 9, pos := "head.go:73", after := #[{ on := 6, ground := .data }, { on := 9, ground := .data }], guard := none }) (v := str ((T0 ++ [h.type]) ++ T1)) rfl (by kernel_rfl) (by kernel_rfl) (by kernel_rfl) (fun _ _ _ h => h) (Or.inl ⟨by rfl, ?_⟩) ⟨Box.four HBn, hcn⟩ ?_
                · intro w9 hw9; exact adds_op (T0 ++ [h.type]) (T1) (by simp <;> omega) w9
                simp only [Act.put, List.setIfInBounds_toArray, List.set_cons_zero, List.set_cons_succ]
                refine wpAnyH_take (i := 11) (oi := { dst := some 41, op := .binOp .add 9 (.tmp 40) (.const (.string ⟨#[117, 115, 116, 97, 114, 0, 48, 48]⟩)) 9, type := 9, pos := "head.go:73", after := #[{ on := 10, ground := .data }], guard := none }) (v := str ((T0 ++ [h.type] ++ T1) ++ [117, 115, 116, 97, 114, 0, 48, 48])) rfl (by kernel_rfl) (by kernel_rfl) (by kernel_rfl) (fun _ _ _ h => h) (Or.inl ⟨by rfl, ?_⟩) ⟨Box.four HBn, hcn⟩ ?_
                · intro w9 hw9; exact adds_op (T0 ++ [h.type] ++ T1) ([117, 115, 116, 97, 114, 0, 48, 48]) (by simp <;> omega) w9
                simp only [Act.put, List.setIfInBounds_toArray, List.set_cons_zero, List.set_cons_succ]
                refine wpAnyH_take (i := 15) (oi := { dst := some 45, op := .binOp .add 9 (.tmp 41) (.tmp 44) 9, type := 9, pos := "head.go:73", after := #[{ on := 11, ground := .data }, { on := 14, ground := .data }], guard := none }) (v := str ((T0 ++ [h.type] ++ T1 ++ [117, 115, 116, 97, 114, 0, 48, 48]) ++ T2)) rfl (by kernel_rfl) (by kernel_rfl) (by kernel_rfl) (fun _ _ _ h => h) (Or.inl ⟨by rfl, ?_⟩) ⟨Box.four HBn, hcn⟩ ?_
                · intro w9 hw9; exact adds_op (T0 ++ [h.type] ++ T1 ++ [117, 115, 116, 97, 114, 0, 48, 48]) (T2) (by simp <;> omega) w9
                simp only [Act.put, List.setIfInBounds_toArray, List.set_cons_zero, List.set_cons_succ]
                refine wpAnyH_all (rs := [18]) (by kernel_rfl) (by decide) ?_
                intro i hi
                obtain rfl : i = 18 := by simpa using hi
                refine wpOp_call (f := 18) (args := #[str (h.gname), .int .i64 32]) (v := str T3) rfl rfl (by kernel_rfl) (textP HT3.out rfl hng (by omega) _) (fun x16_3 hb16_3 => ⟨⟨Box.four (Box.call hb16_3 HBn), cellKeep hb16_3 hcn⟩, ?_⟩)
                have HB16_3 := Box.call hb16_3 HBn
                have HB16_3c := cellKeep hb16_3 hcn
                simp only [List.getElem_toArray, List.getElem_cons_zero, List.getElem_cons_succ, Act.put, List.setIfInBounds_toArray, List.set_cons_zero, List.set_cons_succ]
                refine wpAnyH_take (i := 19) (oi := { dst := some 49, op := .binOp .add 9 (.tmp 45) (.tmp 48) 9, type := 9, pos := "head.go:73", after := #[{ on := 15, ground := .data }, { on := 18, ground := .data }], guard := none }) (v := str ((T0 ++ [h.type] ++ T1 ++ [117, 115, 116, 97, 114, 0, 48, 48] ++ T2) ++ T3)) rfl (by kernel_rfl) (by kernel_rfl) (by kernel_rfl) (fun _ _ _ h => h) (Or.inl ⟨by rfl, ?_⟩) ⟨Box.four HB16_3, HB16_3c⟩ ?_
                · intro w9 hw9; exact adds_op (T0 ++ [h.type] ++ T1 ++ [117, 115, 116, 97, 114, 0, 48, 48] ++ T2) (T3) (by simp <;> omega) w9
                simp only [Act.put, List.setIfInBounds_toArray, List.set_cons_zero, List.set_cons_succ]
                refine wpAnyH_take (i := 20) (oi := { dst := some 50, op := .binOp .add 9 (.tmp 30) (.tmp 49) 9, type := 9, pos := "head.go:73", after := #[{ on := 0, ground := .data }, { on := 19, ground := .data }], guard := none }) (v := str (PP ++ (T0 ++ [h.type] ++ T1 ++ [117, 115, 116, 97, 114, 0, 48, 48] ++ T2 ++ T3))) rfl (by kernel_rfl) (by kernel_rfl) (by kernel_rfl) (fun _ _ _ h => h) (Or.inl ⟨by rfl, ?_⟩) ⟨Box.four HB16_3, HB16_3c⟩ ?_
                · intro w9 hw9; exact adds_op (PP) (T0 ++ [h.type] ++ T1 ++ [117, 115, 116, 97, 114, 0, 48, 48] ++ T2 ++ T3) (by simp <;> omega) w9
                simp only [Act.put, List.setIfInBounds_toArray, List.set_cons_zero, List.set_cons_succ]
                refine wpAnyH_take (i := 21) (oi := { dst := some 3, op := .assign (.tmp 50), type := 9, pos := "head.go:73", after := #[{ on := 20, ground := .data }, { on := 18, ground := .chain }, { on := 0, ground := .phase }, { on := 1, ground := .phase }, { on := 2, ground := .phase }, { on := 3, ground := .phase }, { on := 4, ground := .phase }, { on := 5, ground := .phase }, { on := 6, ground := .phase }, { on := 7, ground := .phase }, { on := 8, ground := .phase }, { on := 9, ground := .phase }, { on := 10, ground := .phase }, { on := 11, ground := .phase }, { on := 12, ground := .phase }, { on := 13, ground := .phase }, { on := 14, ground := .phase }, { on := 15, ground := .phase }, { on := 16, ground := .phase }, { on := 17, ground := .phase }, { on := 18, ground := .phase }, { on := 19, ground := .phase }, { on := 20, ground := .phase }], guard := none }) (v := str (PP ++ (T0 ++ [h.type] ++ T1 ++ [117, 115, 116, 97, 114, 0, 48, 48] ++ T2 ++ T3))) rfl (by kernel_rfl) (by kernel_rfl) (by kernel_rfl) (fun _ _ _ h => h) (Or.inl ⟨by rfl, ?_⟩) ⟨Box.four HB16_3, HB16_3c⟩ ?_
                · intro w9 hw9; go_simp
                simp only [Act.put, List.setIfInBounds_toArray, List.set_cons_zero, List.set_cons_succ]
                refine wpAnyH_done (by kernel_rfl) ?_ _
                go_wp2_with fail
                go_meet
                exact ⟨by rw [Hmid.out] <;> simp only [List.append_assoc, List.cons_append, List.nil_append], HB16_3⟩
              · skip
                refine wpOp_call (f := 18) (args := #[str (h.gname), .int .i64 32]) (v := str T3) rfl rfl (by kernel_rfl) (textP HT3.out rfl hng (by omega) _) (fun x16_3 hb16_3 => ⟨Box.four (Box.call hb16_3 HB14_2), ?_⟩)
                have HB16_3 := Box.call hb16_3 HB14_2
                simp only [List.getElem_toArray, List.getElem_cons_zero, List.getElem_cons_succ, Act.put, List.setIfInBounds_toArray, List.set_cons_zero, List.set_cons_succ]
                refine wpAnyH_all (rs := [4]) (by kernel_rfl) (by decide) ?_
                intro i hi
                obtain rfl : i = 4 := by simpa using hi
                refine wpOp_value (v := .slice (some ⟨x16_3.heap.size, 0, none⟩) 1 1) (w' := x16_3.alloc (.cells #[.int .u8 (h.type.toNat : Int)] 5)) rfl rfl ?_ ⟨Box.four (HB16_3.alloc _), ?_⟩
                · go_simp
                have HBn := HB16_3.alloc (.cells #[.int .u8 (h.type.toNat : Int)] 5)
                have hcn := cellNew x16_3 (h.type.toNat : Int)
                refine wpAnyH_sharp (S' := S5 w.heap.size h w x16_3.heap.size) (fun _ h => h.1) _ _ _ _ ?_
                simp only [List.getElem_toArray, List.getElem_cons_zero, List.getElem_cons_succ, Act.put, List.setIfInBounds_toArray, List.set_cons_zero, List.set_cons_succ]
                refine wpAnyH_take (i := 5) (oi := { dst := some 35, op := .convert 34 9 (.tmp 34), type := 9, pos := "head.go:73", after := #[{ on := 4, ground := .data }], guard := none }) (v := str [h.type]) rfl (by kernel_rfl) (by kernel_rfl) (by kernel_rfl) (fun _ _ _ h => h) (Or.inl ⟨by rfl, ?_⟩) ⟨Box.four HBn, hcn⟩ ?_
                · intro w9 hw9; exact conv_op hw9.2
                simp only [Act.put, List.setIfInBounds_toArray, List.set_cons_zero, List.set_cons_succ]
                refine wpAnyH_take (i := 6) (oi := { dst := some 36, op := .binOp .add 9 (.tmp 31) (.tmp 35) 9, type := 9, pos := "head.go:73", after := #[{ on := 1, ground := .data }, { on := 5, ground := .data }], guard := none }) (v := str ((T0) ++ [h.type])) rfl (by kernel_rfl) (by kernel_rfl) (by kernel_rfl) (fun _ _ _ h => h) (Or.inl ⟨by rfl, ?_⟩) ⟨Box.four HBn, hcn⟩ ?_
                · intro w9 hw9; exact adds_op (T0) ([h.type]) (by simp <;> omega) w9
                simp only [Act.put, List.setIfInBounds_toArray, List.set_cons_zero, List.set_cons_succ]
                refine wpAnyH_take (i := 10) (oi := { dst := some 40, op := .binOp .add 9 (.tmp 36) (.tmp 39) 9, type := 9, pos := "head.go:73", after := #[{ on := 6, ground := .data }, { on := 9, ground := .data }], guard := none }) (v := str ((T0 ++ [h.type]) ++ T1)) rfl (by kernel_rfl) (by kernel_rfl) (by kernel_rfl) (fun _ _ _ h => h) (Or.inl ⟨by rfl, ?_⟩) ⟨Box.four HBn, hcn⟩ ?_
                · intro w9 hw9; exact adds_op (T0 ++ [h.type]) (T1) (by simp <;> omega) w9
                simp only [Act.put, List.setIfInBounds_toArray, List.set_cons_zero, List.set_cons_succ]
                refine wpAnyH_take (i := 11) (oi := { dst := some 41, op := .binOp .add 9 (.tmp 40) (.const (.string ⟨#[117, 115, 116, 97, 114, 0, 48, 48]⟩)) 9, type := 9, pos := "head.go:73", after := #[{ on := 10, ground := .data }], guard := none }) (v := str ((T0 ++ [h.type] ++ T1) ++ [117, 115, 116, 97, 114, 0, 48, 48])) rfl (by kernel_rfl) (by kernel_rfl) (by kernel_rfl) (fun _ _ _ h => h) (Or.inl ⟨by rfl, ?_⟩) ⟨Box.four HBn, hcn⟩ ?_
                · intro w9 hw9; exact adds_op (T0 ++ [h.type] ++ T1) ([117, 115, 116, 97, 114, 0, 48, 48]) (by simp <;> omega) w9
                simp only [Act.put, List.setIfInBounds_toArray, List.set_cons_zero, List.set_cons_succ]
                refine wpAnyH_take (i := 15) (oi := { dst := some 45, op := .binOp .add 9 (.tmp 41) (.tmp 44) 9, type := 9, pos := "head.go:73", after := #[{ on := 11, ground := .data }, { on := 14, ground := .data }], guard := none }) (v := str ((T0 ++ [h.type] ++ T1 ++ [117, 115, 116, 97, 114, 0, 48, 48]) ++ T2)) rfl (by kernel_rfl) (by kernel_rfl) (by kernel_rfl) (fun _ _ _ h => h) (Or.inl ⟨by rfl, ?_⟩) ⟨Box.four HBn, hcn⟩ ?_
                · intro w9 hw9; exact adds_op (T0 ++ [h.type] ++ T1 ++ [117, 115, 116, 97, 114, 0, 48, 48]) (T2) (by simp <;> omega) w9
                simp only [Act.put, List.setIfInBounds_toArray, List.set_cons_zero, List.set_cons_succ]
                refine wpAnyH_take (i := 19) (oi := { dst := some 49, op := .binOp .add 9 (.tmp 45) (.tmp 48) 9, type := 9, pos := "head.go:73", after := #[{ on := 15, ground := .data }, { on := 18, ground := .data }], guard := none }) (v := str ((T0 ++ [h.type] ++ T1 ++ [117, 115, 116, 97, 114, 0, 48, 48] ++ T2) ++ T3)) rfl (by kernel_rfl) (by kernel_rfl) (by kernel_rfl) (fun _ _ _ h => h) (Or.inl ⟨by rfl, ?_⟩) ⟨Box.four HBn, hcn⟩ ?_
                · intro w9 hw9; exact adds_op (T0 ++ [h.type] ++ T1 ++ [117, 115, 116, 97, 114, 0, 48, 48] ++ T2) (T3) (by simp <;> omega) w9
                simp only [Act.put, List.setIfInBounds_toArray, List.set_cons_zero, List.set_cons_succ]
                refine wpAnyH_take (i := 20) (oi := { dst := some 50, op := .binOp .add 9 (.tmp 30) (.tmp 49) 9, type := 9, pos := "head.go:73", after := #[{ on := 0, ground := .data }, { on := 19, ground := .data }], guard := none }) (v := str (PP ++ (T0 ++ [h.type] ++ T1 ++ [117, 115, 116, 97, 114, 0, 48, 48] ++ T2 ++ T3))) rfl (by kernel_rfl) (by kernel_rfl) (by kernel_rfl) (fun _ _ _ h => h) (Or.inl ⟨by rfl, ?_⟩) ⟨Box.four HBn, hcn⟩ ?_
                · intro w9 hw9; exact adds_op (PP) (T0 ++ [h.type] ++ T1 ++ [117, 115, 116, 97, 114, 0, 48, 48] ++ T2 ++ T3) (by simp <;> omega) w9
                simp only [Act.put, List.setIfInBounds_toArray, List.set_cons_zero, List.set_cons_succ]
                refine wpAnyH_take (i := 21) (oi := { dst := some 3, op := .assign (.tmp 50), type := 9, pos := "head.go:73", after := #[{ on := 20, ground := .data }, { on := 18, ground := .chain }, { on := 0, ground := .phase }, { on := 1, ground := .phase }, { on := 2, ground := .phase }, { on := 3, ground := .phase }, { on := 4, ground := .phase }, { on := 5, ground := .phase }, { on := 6, ground := .phase }, { on := 7, ground := .phase }, { on := 8, ground := .phase }, { on := 9, ground := .phase }, { on := 10, ground := .phase }, { on := 11, ground := .phase }, { on := 12, ground := .phase }, { on := 13, ground := .phase }, { on := 14, ground := .phase }, { on := 15, ground := .phase }, { on := 16, ground := .phase }, { on := 17, ground := .phase }, { on := 18, ground := .phase }, { on := 19, ground := .phase }, { on := 20, ground := .phase }], guard := none }) (v := str (PP ++ (T0 ++ [h.type] ++ T1 ++ [117, 115, 116, 97, 114, 0, 48, 48] ++ T2 ++ T3))) rfl (by kernel_rfl) (by kernel_rfl) (by kernel_rfl) (fun _ _ _ h => h) (Or.inl ⟨by rfl, ?_⟩) ⟨Box.four HBn, hcn⟩ ?_
                · intro w9 hw9; go_simp
                simp only [Act.put, List.setIfInBounds_toArray, List.set_cons_zero, List.set_cons_succ]
                refine wpAnyH_done (by kernel_rfl) ?_ _
                go_wp2_with fail
                go_meet
                exact ⟨by rw [Hmid.out] <;> simp only [List.append_assoc, List.cons_append, List.nil_append], HBn⟩
        · skip
          refine wpOp_value (v := .slice (some ⟨wc.drew.heap.size, 0, none⟩) 1 1) (w' := wc.drew.alloc (.cells #[.int .u8 (h.type.toNat : Int)] 5)) rfl rfl ?_ ⟨Box.four (HB0.alloc _), ?_⟩
          · go_simp
          have HBn := HB0.alloc (.cells #[.int .u8 (h.type.toNat : Int)] 5)
          have hcn := cellNew wc.drew (h.type.toNat : Int)
          refine wpAnyH_sharp (S' := S5 w.heap.size h w wc.drew.heap.size) (fun _ h => h.1) _ _ _ _ ?_
          simp only [List.getElem_toArray, List.getElem_cons_zero, List.getElem_cons_succ, Act.put, List.setIfInBounds_toArray, List.set_cons_zero, List.set_cons_succ]
          refine wpAnyH_take (i := 5) (oi := { dst := some 35, op := .convert 34 9 (.tmp 34), type := 9, pos := "head.go:73", after := #[{ on := 4, ground := .data }], guard := none }) (v := str [h.type]) rfl (by kernel_rfl) (by kernel_rfl) (by kernel_rfl) (fun _ _ _ h => h) (Or.inl ⟨by rfl, ?_⟩) ⟨Box.four HBn, hcn⟩ ?_
          · intro w9 hw9; exact conv_op hw9.2
          simp only [Act.put, List.setIfInBounds_toArray, List.set_cons_zero, List.set_cons_succ]
          refine wpAnyH_all (rs := [1]) (by kernel_rfl) (by decide) ?_
          intro i hi
          obtain rfl : i = 1 := by simpa using hi
          refine wpOp_call (f := 18) (args := #[str [], .int .i64 8]) (v := str T0) rfl rfl (by kernel_rfl) (textP HT0.out rfl (Nat.zero_le 8) (by omega) _) (fun x10_0 hb10_0 => ⟨⟨Box.four (Box.call hb10_0 HBn), cellKeep hb10_0 hcn⟩, ?_⟩)
          have HB10_0 := Box.call hb10_0 HBn
          have HB10_0c := cellKeep hb10_0 hcn
          simp only [List.getElem_toArray, List.getElem_cons_zero, List.getElem_cons_succ, Act.put, List.setIfInBounds_toArray, List.set_cons_zero, List.set_cons_succ]
          refine wpAnyH_take (i := 6) (oi := { dst := some 36, op := .binOp .add 9 (.tmp 31) (.tmp 35) 9, type := 9, pos := "head.go:73", after := #[{ on := 1, ground := .data }, { on := 5, ground := .data }], guard := none }) (v := str ((T0) ++ [h.type])) rfl (by kernel_rfl) (by kernel_rfl) (by kernel_rfl) (fun _ _ _ h => h) (Or.inl ⟨by rfl, ?_⟩) ⟨Box.four HB10_0, HB10_0c⟩ ?_
          · intro w9 hw9; exact adds_op (T0) ([h.type]) (by simp <;> omega) w9
          simp only [Act.put, List.setIfInBounds_toArray, List.set_cons_zero, List.set_cons_succ]
          refine wpAnyH_all (rs := [9]) (by kernel_rfl) (by decide) ?_
          intro i hi
          obtain rfl : i = 9 := by simpa using hi
          refine wpOp_call (f := 18) (args := #[str (h.link), .int .i64 100]) (v := str T1) rfl rfl (by kernel_rfl) (textP HT1.out rfl hnl (by omega) _) (fun x10_1 hb10_1 => ⟨⟨Box.four (Box.call hb10_1 HB10_0), cellKeep hb10_1 HB10_0c⟩, ?_⟩)
          have HB10_1 := Box.call hb10_1 HB10_0
          have HB10_1c := cellKeep hb10_1 HB10_0c
          simp only [List.getElem_toArray, List.getElem_cons_zero, List.getElem_cons_succ, Act.put, List.setIfInBounds_toArray, List.set_cons_zero, List.set_cons_succ]
          refine wpAnyH_take (i := 10) (oi := { dst := some 40, op := .binOp .add 9 (.tmp 36) (.tmp 39) 9, type := 9, pos := "head.go:73", after := #[{ on := 6, ground := .data }, { on := 9, ground := .data }], guard := none }) (v := str ((T0 ++ [h.type]) ++ T1)) rfl (by kernel_rfl) (by kernel_rfl) (by kernel_rfl) (fun _ _ _ h => h) (Or.inl ⟨by rfl, ?_⟩) ⟨Box.four HB10_1, HB10_1c⟩ ?_
          · intro w9 hw9; exact adds_op (T0 ++ [h.type]) (T1) (by simp <;> omega) w9
          simp only [Act.put, List.setIfInBounds_toArray, List.set_cons_zero, List.set_cons_succ]
          refine wpAnyH_take (i := 11) (oi := { dst := some 41, op := .binOp .add 9 (.tmp 40) (.const (.string ⟨#[117, 115, 116, 97, 114, 0, 48, 48]⟩)) 9, type := 9, pos := "head.go:73", after := #[{ on := 10, ground := .data }], guard := none }) (v := str ((T0 ++ [h.type] ++ T1) ++ [117, 115, 116, 97, 114, 0, 48, 48])) rfl (by kernel_rfl) (by kernel_rfl) (by kernel_rfl) (fun _ _ _ h => h) (Or.inl ⟨by rfl, ?_⟩) ⟨Box.four HB10_1, HB10_1c⟩ ?_
          · intro w9 hw9; exact adds_op (T0 ++ [h.type] ++ T1) ([117, 115, 116, 97, 114, 0, 48, 48]) (by simp <;> omega) w9
          simp only [Act.put, List.setIfInBounds_toArray, List.set_cons_zero, List.set_cons_succ]
          refine wpAnyH_all (rs := [14]) (by kernel_rfl) (by decide) ?_
          intro i hi
          obtain rfl : i = 14 := by simpa using hi
          refine wpOp_call (f := 18) (args := #[str (h.uname), .int .i64 32]) (v := str T2) rfl rfl (by kernel_rfl) (textP HT2.out rfl hnu (by omega) _) (fun x10_2 hb10_2 => ⟨⟨Box.four (Box.call hb10_2 HB10_1), cellKeep hb10_2 HB10_1c⟩, ?_⟩)
          have HB10_2 := Box.call hb10_2 HB10_1
          have HB10_2c := cellKeep hb10_2 HB10_1c
          simp only [List.getElem_toArray, List.getElem_cons_zero, List.getElem_cons_succ, Act.put, List.setIfInBounds_toArray, List.set_cons_zero, List.set_cons_succ]
          refine wpAnyH_take (i := 15) (oi := { dst := some 45, op := .binOp .add 9 (.tmp 41) (.tmp 44) 9, type := 9, pos := "head.go:73", after := #[{ on := 11, ground := .data }, { on := 14, ground := .data }], guard := none }) (v := str ((T0 ++ [h.type] ++ T1 ++ [117, 115, 116, 97, 114, 0, 48, 48]) ++ T2)) rfl (by kernel_rfl) (by kernel_rfl) (by kernel_rfl) (fun _ _ _ h => h) (Or.inl ⟨by rfl, ?_⟩) ⟨Box.four HB10_2, HB10_2c⟩ ?_
          · intro w9 hw9; exact adds_op (T0 ++ [h.type] ++ T1 ++ [117, 115, 116, 97, 114, 0, 48, 48]) (T2) (by simp <;> omega) w9
          simp only [Act.put, List.setIfInBounds_toArray, List.set_cons_zero, List.set_cons_succ]
          refine wpAnyH_all (rs := [18]) (by kernel_rfl) (by decide) ?_
          intro i hi
          obtain rfl : i = 18 := by simpa using hi
          refine wpOp_call (f := 18) (args := #[str (h.gname), .int .i64 32]) (v := str T3) rfl rfl (by kernel_rfl) (textP HT3.out rfl hng (by omega) _) (fun x10_3 hb10_3 => ⟨⟨Box.four (Box.call hb10_3 HB10_2), cellKeep hb10_3 HB10_2c⟩, ?_⟩)
          have HB10_3 := Box.call hb10_3 HB10_2
          have HB10_3c := cellKeep hb10_3 HB10_2c
          simp only [List.getElem_toArray, List.getElem_cons_zero, List.getElem_cons_succ, Act.put, List.setIfInBounds_toArray, List.set_cons_zero, List.set_cons_succ]
          refine wpAnyH_take (i := 19) (oi := { dst := some 49, op := .binOp .add 9 (.tmp 45) (.tmp 48) 9, type := 9, pos := "head.go:73", after := #[{ on := 15, ground := .data }, { on := 18, ground := .data }], guard := none }) (v := str ((T0 ++ [h.type] ++ T1 ++ [117, 115, 116, 97, 114, 0, 48, 48] ++ T2) ++ T3)) rfl (by kernel_rfl) (by kernel_rfl) (by kernel_rfl) (fun _ _ _ h => h) (Or.inl ⟨by rfl, ?_⟩) ⟨Box.four HB10_3, HB10_3c⟩ ?_
          · intro w9 hw9; exact adds_op (T0 ++ [h.type] ++ T1 ++ [117, 115, 116, 97, 114, 0, 48, 48] ++ T2) (T3) (by simp <;> omega) w9
          simp only [Act.put, List.setIfInBounds_toArray, List.set_cons_zero, List.set_cons_succ]
          refine wpAnyH_take (i := 20) (oi := { dst := some 50, op := .binOp .add 9 (.tmp 30) (.tmp 49) 9, type := 9, pos := "head.go:73", after := #[{ on := 0, ground := .data }, { on := 19, ground := .data }], guard := none }) (v := str (PP ++ (T0 ++ [h.type] ++ T1 ++ [117, 115, 116, 97, 114, 0, 48, 48] ++ T2 ++ T3))) rfl (by kernel_rfl) (by kernel_rfl) (by kernel_rfl) (fun _ _ _ h => h) (Or.inl ⟨by rfl, ?_⟩) ⟨Box.four HB10_3, HB10_3c⟩ ?_
          · intro w9 hw9; exact adds_op (PP) (T0 ++ [h.type] ++ T1 ++ [117, 115, 116, 97, 114, 0, 48, 48] ++ T2 ++ T3) (by simp <;> omega) w9
          simp only [Act.put, List.setIfInBounds_toArray, List.set_cons_zero, List.set_cons_succ]
          refine wpAnyH_take (i := 21) (oi := { dst := some 3, op := .assign (.tmp 50), type := 9, pos := "head.go:73", after := #[{ on := 20, ground := .data }, { on := 18, ground := .chain }, { on := 0, ground := .phase }, { on := 1, ground := .phase }, { on := 2, ground := .phase }, { on := 3, ground := .phase }, { on := 4, ground := .phase }, { on := 5, ground := .phase }, { on := 6, ground := .phase }, { on := 7, ground := .phase }, { on := 8, ground := .phase }, { on := 9, ground := .phase }, { on := 10, ground := .phase }, { on := 11, ground := .phase }, { on := 12, ground := .phase }, { on := 13, ground := .phase }, { on := 14, ground := .phase }, { on := 15, ground := .phase }, { on := 16, ground := .phase }, { on := 17, ground := .phase }, { on := 18, ground := .phase }, { on := 19, ground := .phase }, { on := 20, ground := .phase }], guard := none }) (v := str (PP ++ (T0 ++ [h.type] ++ T1 ++ [117, 115, 116, 97, 114, 0, 48, 48] ++ T2 ++ T3))) rfl (by kernel_rfl) (by kernel_rfl) (by kernel_rfl) (fun _ _ _ h => h) (Or.inl ⟨by rfl, ?_⟩) ⟨Box.four HB10_3, HB10_3c⟩ ?_
          · intro w9 hw9; go_simp
          simp only [Act.put, List.setIfInBounds_toArray, List.set_cons_zero, List.set_cons_succ]
          refine wpAnyH_done (by kernel_rfl) ?_ _
          go_wp2_with fail
          go_meet
          exact ⟨by rw [Hmid.out] <;> simp only [List.append_assoc, List.cons_append, List.nil_append], HB10_3⟩
        --4]
      case rest =>
        obtain ⟨rfl, hbx3⟩ := hcut
        have hml := midH_len hm
        have hpm : (preH h ++ midH h).length = 329 := by rw [List.length_append]; omega
        clear hbx2
        go_upto_region 5 with fail
        have Htail : Hid (tailH h = fld h.major 8 ++ fld h.minor 8 ++ padZ h.pref 155 ++ List.replicate 12 0) := Lib.hid rfl
        have hS : ∃ S, S = preH h ++ midH h ++ tailH h := ⟨_, rfl⟩
        obtain ⟨S, hSd⟩ := hS
        have HS := Lib.hid hSd
        clear hSd
        go_cut [3] from 51 to 65 (fun v wx => v = str S ∧ Box w.heap.size h w wx)
        case first =>
          generalize preH h ++ midH h = PP at *
          have hnp := may_len hm (c := 112) (l := h.pref) (n := 155) rfl (by simp [textsOf])
          have hl2 := pad_len hnp
          have hlf := may_flds hm
          have hl0 := hlf.2.2.2.2.2.1
          have hl1 := hlf.2.2.2.2.2.2
          have hl3 : (List.replicate 12 (0 : UInt8)).length = 12 := by simp
          obtain ⟨T0, hT0⟩ : ∃ T, fld h.major 8 = T := ⟨_, rfl⟩
          obtain ⟨T1, hT1⟩ : ∃ T, fld h.minor 8 = T := ⟨_, rfl⟩
          obtain ⟨T2, hT2⟩ : ∃ T, padZ h.pref 155 = T := ⟨_, rfl⟩
          obtain ⟨T3, hT3⟩ : ∃ T, List.replicate 12 (0 : UInt8) = T := ⟨_, rfl⟩
          rw [hT0, hT1, hT2, hT3] at Htail
          rw [hT0] at hl0
          rw [hT1] at hl1
          rw [hT2] at hl2
          rw [hT3] at hl3
          have hT3' : padZ [] 12 = T3 := hT3
          have HT0 := Lib.hid hT0
          have HT1 := Lib.hid hT1
          have HT2 := Lib.hid hT2
          have HT3 := Lib.hid hT3'
          clear hT0 hT1 hT2 hT3 hT3' hlf
          go_region_held3 (fun w' => w'.cell? ⟨w.heap.size, 10, none⟩ = some (.int .i64 h.major) ∧ w'.cell? ⟨w.heap.size, 11, none⟩ = some (.int .i64 h.minor) ∧ w'.cell? ⟨w.heap.size, 12, none⟩ = some (str h.pref) ∧ Box w.heap.size h w w')
            (first | exact Box.three (Box.call (by assumption) (Box.of3 (by assumption))) | exact Box.three (Box.drew (by assumption)))
            (first | (go_fit (textP HT3.out rfl (Nat.zero_le 12) (by omega) _); rintro e w' ⟨rfl, hb⟩) | (go_fit (fieldP HT0.out HK.out.major _); rintro e w' ⟨rfl, hb⟩) | (go_fit (fieldP HT1.out HK.out.minor _); rintro e w' ⟨rfl, hb⟩) | (go_fit (textP HT2.out rfl hnp (by omega) _); rintro e w' ⟨rfl, hb⟩))
          go_wp2_with fail
          go_meet
          rename_i hS
          refine ⟨vstr ?_, Box.of3 hS⟩
          rw [HS.out, Htail.out]
          simp only [data_app, List.append_assoc]
        case rest =>
          obtain ⟨rfl, hbx4⟩ := hcut
          have htl := tailH_len hm
          have hSl : S.length = 512 := by rw [HS.out, List.length_append]; omega
          have hla := Hl.out.below hbx4.2
          have hsum : Hid (sumS S = sumF h ∧ S.take 148 = preH h ∧ S.drop 156 = postH h) := Lib.hid (blk_parts hm HS.out)
          have hex1 : ((⟨S.toArray⟩ : ByteArray).extract 0 148).data.toList = preH h := by rw [Lib.extract_from_zero]; exact hsum.out.2.1
          have hex2 : ((⟨S.toArray⟩ : ByteArray).extract 156 (⟨S.toArray⟩ : ByteArray).size).data.toList = postH h := by rw [Lib.extract_to_end]; exact hsum.out.2.2
          have Hla := Lib.hid (hla.below (Below.refl _ _).drew)
          have hss := size_str S
          rw [hSl] at hss
          rw [hss] at hex2
          have Hex1 := Lib.hid hex1
          have Hex2 := Lib.hid hex2
          have hmn : min 148 S.length = 148 := by omega
          clear hla hex1 hex2 htl hml hpm
          have hsl : (sumF h).length = 8 := by simp [sumF, octD_length]
          have hfin : ∀ s : ByteArray, s.data.toList = preH h ++ sumF h ++ postH h → Value.string s = str (putS h) := fun s hs => by rw [Hput.out]; exact vstr hs
          have Hfin := Lib.hid hfin
          clear hfin
          generalize sumF h = SF at *
          go_upto_region 6 with fail
          go_region_with (go_fit (sum_walk ⟨S.toArray⟩ (by assumption) _ Hla.out); rintro e w' ⟨rfl, hb⟩; rw [hsum.out.1])
          go_wp2_with fail
          go_ret
          have hv := Hfin.out ((⟨S.toArray⟩ : ByteArray).extract 0 148 ++ ⟨SF.toArray⟩ ++ (⟨S.toArray⟩ : ByteArray).extract 156 512) (by rw [data_app, data_app, Hex1.out, Hex2.out])
          rw [← hv]
          refine ⟨rfl, (Box.call ?_ hbx4.drew).2⟩
          assumption
end Go.Proofs.YtdnpgloacdhliaaDoor
