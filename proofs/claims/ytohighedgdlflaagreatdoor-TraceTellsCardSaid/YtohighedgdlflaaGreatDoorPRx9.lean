-- PRINTED by print.py (a twelfth state) out of the translation. Not trusted: Lean checks it.
import Derived.Test.YtohighedgdlflaaGreatDoorPRx0
import Derived.Test.YtohighedgdlflaaGreatDoorPRx3
namespace Go.Proofs.YtohighedgdlflaaGreatDoor.PR
open Go.RowKit Go.Proofs.YtohighedgdlflaaGreatDoorW.PrintWords Go.Proofs.YtohighedgdlflaaGreatDoorW.PrintLast Go.Proofs.YtohighedgdlflaaGreatDoorW.PrintMore
attribute [local go_sem] max2_int min2_int max_two min_two max_three min_three max_four min_four   -- for this text's walks alone
set_option linter.unusedVariables false
set_option linter.unusedSimpArgs false

/-! ### cloisterref22_line: function 41 -/
theorem wpAnyLast_more {P : Program} {md : Region.Mode} {ops : Array Oper} {Q : Exit → Act → World → Prop} {S S' : World → Prop} (hS : ∀ x, S' x → S x) : ∀ (fuel : Nat) (l : Array Bool) (a : Act) (w : World), S' w → wpAnyLast P md ops Q S' [] fuel l a w → wpAnyLast P md ops Q S [] fuel l a w
  | 0, _, _, _, _, h => h
  | n + 1, _, _, _, hw, h => ⟨h.1, fun i hi => wpOp_mono (fun a' w' h' => ⟨fun hd _ => hS _ (h'.1 hd hw), wpAnyLast_more hS n _ a' w' (h'.1 (by simp) hw) h'.2⟩) (h.2 i hi)⟩
def cloisterref22_line.j0 : Nat → ByteArray → Int → Bool → Int → Int → Int → Int → Int → Int → Option (ByteArray)
  | 0, _, _, _, _, _, _, _, _, _ => none
  | k + 1, x3, x26, x27, x214000, x214001, x214002, x214003, x214004, x214005 => if x27 = true then (if x3.size + 1 ≤ 9223372036854775807 then ((cloisterref22_hex.f k x214004).bind fun t221 => (if (x3 ++ (⟨#[32]⟩ : ByteArray)).size + t221.size ≤ 9223372036854775807 then (if ((x3 ++ (⟨#[32]⟩ : ByteArray)) ++ t221).size + 1 ≤ 9223372036854775807 then ((cloisterref22_hex.f k x214005).bind fun t222 => (if (((x3 ++ (⟨#[32]⟩ : ByteArray)) ++ t221) ++ (⟨#[32]⟩ : ByteArray)).size + t222.size ≤ 9223372036854775807 then (some ((((x3 ++ (⟨#[32]⟩ : ByteArray)) ++ t221) ++ (⟨#[32]⟩ : ByteArray)) ++ t222)) else (none))) else (none)) else (none))) else (none)) else (if x26 = 3 then (if x3.size + 1 ≤ 9223372036854775807 then ((cloisterref22_faults.f).bind fun t223 => (if 0 ≤ x214004 then (if x214004 < (t223.length : Int) then (if (x3 ++ (⟨#[32]⟩ : ByteArray)).size + (rdOf ByteArray.empty t223 x214004).size ≤ 9223372036854775807 then (if ((x3 ++ (⟨#[32]⟩ : ByteArray)) ++ (rdOf ByteArray.empty t223 x214004)).size + 1 ≤ 9223372036854775807 then ((cloisterref22_hex.f k x214005).bind fun t227 => (if (((x3 ++ (⟨#[32]⟩ : ByteArray)) ++ (rdOf ByteArray.empty t223 x214004)) ++ (⟨#[32]⟩ : ByteArray)).size + t227.size ≤ 9223372036854775807 then (some ((((x3 ++ (⟨#[32]⟩ : ByteArray)) ++ (rdOf ByteArray.empty t223 x214004)) ++ (⟨#[32]⟩ : ByteArray)) ++ t227)) else (none))) else (none)) else (none)) else (none)) else (none))) else (none)) else (if x26 = 4 then (if x3.size + 1 ≤ 9223372036854775807 then ((cloisterref22_decimal.f k (IntKind.u64.wrap (x214004))).bind fun t228 => (if (x3 ++ (⟨#[32]⟩ : ByteArray)).size + t228.size ≤ 9223372036854775807 then (some ((x3 ++ (⟨#[32]⟩ : ByteArray)) ++ t228)) else (none))) else (none)) else (if x26 = 5 then (if x3.size + 1 ≤ 9223372036854775807 then ((cloisterref22_hex.f k x214005).bind fun t229 => (if (x3 ++ (⟨#[32]⟩ : ByteArray)).size + t229.size ≤ 9223372036854775807 then ((cloisterref22_hex.f k x214004).bind fun t230 => (if ((x3 ++ (⟨#[32]⟩ : ByteArray)) ++ t229).size + t230.size ≤ 9223372036854775807 then (some (((x3 ++ (⟨#[32]⟩ : ByteArray)) ++ t229) ++ t230)) else (none))) else (none))) else (none)) else (if x26 = 7 then (if x3.size + 1 ≤ 9223372036854775807 then ((cloisterref22_hex.f k x214004).bind fun t231 => (if (x3 ++ (⟨#[32]⟩ : ByteArray)).size + t231.size ≤ 9223372036854775807 then (some ((x3 ++ (⟨#[32]⟩ : ByteArray)) ++ t231)) else (none))) else (none)) else (some x3)))))
def cloisterref22_line.f (k : Nat) (a0_0 : Int) (a0_1 : Int) (a0_2 : Int) (a0_3 : Int) (a0_4 : Int) (a0_5 : Int) : Option (ByteArray) := (cloisterref22_decimal.f k a0_0).bind fun t214 => (if t214.size + 1 ≤ 9223372036854775807 then ((cloisterref22_decimal.f k (IntKind.u64.wrap (a0_1))).bind fun t215 => (if (t214 ++ (⟨#[32]⟩ : ByteArray)).size + t215.size ≤ 9223372036854775807 then (if ((t214 ++ (⟨#[32]⟩ : ByteArray)) ++ t215).size + 1 ≤ 9223372036854775807 then ((cloisterref22_kinds.f).bind fun t216 => (if 0 ≤ a0_2 then (if a0_2 < (t216.length : Int) then (if (((t214 ++ (⟨#[32]⟩ : ByteArray)) ++ t215) ++ (⟨#[32]⟩ : ByteArray)).size + (rdOf ByteArray.empty t216 a0_2).size ≤ 9223372036854775807 then (if ((((t214 ++ (⟨#[32]⟩ : ByteArray)) ++ t215) ++ (⟨#[32]⟩ : ByteArray)) ++ (rdOf ByteArray.empty t216 a0_2)).size + 1 ≤ 9223372036854775807 then ((cloisterref22_hex.f k a0_3).bind fun t220 => (if (((((t214 ++ (⟨#[32]⟩ : ByteArray)) ++ t215) ++ (⟨#[32]⟩ : ByteArray)) ++ (rdOf ByteArray.empty t216 a0_2)) ++ (⟨#[32]⟩ : ByteArray)).size + t220.size ≤ 9223372036854775807 then (if a0_2 = 1 then (cloisterref22_line.j0 k ((((((t214 ++ (⟨#[32]⟩ : ByteArray)) ++ t215) ++ (⟨#[32]⟩ : ByteArray)) ++ (rdOf ByteArray.empty t216 a0_2)) ++ (⟨#[32]⟩ : ByteArray)) ++ t220) a0_2 (a0_2 == 1) a0_0 a0_1 a0_2 a0_3 a0_4 a0_5) else (cloisterref22_line.j0 k ((((((t214 ++ (⟨#[32]⟩ : ByteArray)) ++ t215) ++ (⟨#[32]⟩ : ByteArray)) ++ (rdOf ByteArray.empty t216 a0_2)) ++ (⟨#[32]⟩ : ByteArray)) ++ t220) a0_2 (a0_2 == 2) a0_0 a0_1 a0_2 a0_3 a0_4 a0_5)) else (none))) else (none)) else (none)) else (none)) else (none))) else (none)) else (none))) else (none))
theorem cloisterref22_line.mono_l : ∀ k, (∀ y0 y1 y2 y3 y4 y5 y6 y7 y8, LeO (cloisterref22_line.j0 k y0 y1 y2 y3 y4 y5 y6 y7 y8) (cloisterref22_line.j0 (k + 1) y0 y1 y2 y3 y4 y5 y6 y7 y8))
  | 0 => fun _ _ _ _ _ _ _ _ _ r h => by simp [cloisterref22_line.j0] at h
  | k + 1 => by
    have ih0 := cloisterref22_line.mono_l k
    · intro y0 y1 y2 y3 y4 y5 y6 y7 y8
      unfold cloisterref22_line.j0
      repeat' first
      | (with_reducible exact ih0 _ _ _ _ _ _ _ _ _)
      | (with_reducible exact cloisterref22_decimal.mono _ _)
      | (with_reducible exact cloisterref22_hex.mono _ _)
      | (with_reducible exact LeO.refl _)
      | (with_reducible exact LeO.none _)
      | (with_reducible refine LeO.ite ?_ ?_)
      | (with_reducible refine LeO.bind ?_ (fun _ => ?_))
      | exact ih0 _ _ _ _ _ _ _ _ _
      | exact cloisterref22_decimal.mono _ _
      | exact cloisterref22_hex.mono _ _
      | exact LeO.none _
      | refine LeO.ite ?_ ?_
      | refine LeO.bind ?_ (fun _ => ?_)
theorem cloisterref22_line.mono : ∀ a0 a1 a2 a3 a4 a5 k, LeO (cloisterref22_line.f k a0 a1 a2 a3 a4 a5) (cloisterref22_line.f (k + 1) a0 a1 a2 a3 a4 a5) := by
  intro a0 a1 a2 a3 a4 a5 k
  have ih0 := cloisterref22_line.mono_l k
  unfold cloisterref22_line.f
  repeat' first
      | (with_reducible exact ih0 _ _ _ _ _ _ _ _ _)
      | (with_reducible exact cloisterref22_decimal.mono _ _)
      | (with_reducible exact cloisterref22_hex.mono _ _)
      | (with_reducible exact LeO.refl _)
      | (with_reducible exact LeO.none _)
      | (with_reducible refine LeO.ite ?_ ?_)
      | (with_reducible refine LeO.bind ?_ (fun _ => ?_))
      | exact ih0 _ _ _ _ _ _ _ _ _
      | exact cloisterref22_decimal.mono _ _
      | exact cloisterref22_hex.mono _ _
      | exact LeO.none _
      | refine LeO.ite ?_ ?_
      | refine LeO.bind ?_ (fun _ => ?_)
def cloisterref22_line.T1 : Bool × List (List Nat × List Nat) := (true, [([], []), ([0], [0]), ([1], [1]), ([2], [2]), ([], []), ([4], [4]), ([5], [5]), ([6, 2], [6]), ([3, 7], [3, 7]), ([8], [8]), ([7], []), ([], []), ([11], [11]), ([10, 12], [10, 12]), ([13], [13]), ([9, 14], [9, 14]), ([15], [15]), ([], []), ([17], [17]), ([18, 10], [18]), ([16, 19], [16, 19]), ([20, 19, 0, 1, 2, 3, 4, 5, 6, 7, 8, 9, 10, 11, 12, 13, 14, 15, 16, 17, 18, 19, 20], [20])])
def cloisterref22_line.B1 : List Nat := [0, 1, 3, 7, 0, 16, 48, 119, 255, 511, 247, 0, 2048, 7415, 15607, 32767, 65535, 0, 131072, 394487, 1048575, 2097151]
theorem cloisterref22_line.tab1 : rtab .any (opsOf Tryz.f41 1) = cloisterref22_line.T1 := by kernel_rfl
theorem cloisterref22_line.bits1 : waitsOk cloisterref22_line.T1.2 cloisterref22_line.B1 = true := by kernel_rfl
def cloisterref22_line.T5 : Bool × List (List Nat × List Nat) := (true, [([], []), ([0], [0]), ([], []), ([2], [2]), ([3], [3]), ([1, 4], [1, 4]), ([5], [5]), ([], []), ([7], [7]), ([8, 4], [8]), ([6, 9], [6, 9]), ([10, 9, 0, 1, 2, 3, 4, 5, 6, 7, 8, 9, 10], [0, 10])])
def cloisterref22_line.B5 : List Nat := [0, 1, 0, 4, 12, 31, 63, 0, 128, 412, 1023, 2047]
theorem cloisterref22_line.tab5 : rtab .any (opsOf Tryz.f41 5) = cloisterref22_line.T5 := by kernel_rfl
theorem cloisterref22_line.bits5 : waitsOk cloisterref22_line.T5.2 cloisterref22_line.B5 = true := by kernel_rfl
def cloisterref22_line.T7 : Bool × List (List Nat × List Nat) := (true, [([], []), ([0], [0]), ([], []), ([], []), ([3], [3]), ([2, 4], [2, 4]), ([5], [5]), ([1, 6], [1, 6]), ([7], [7]), ([], []), ([9], [9]), ([10, 2], [10]), ([8, 11], [8, 11]), ([12, 11, 0, 1, 2, 3, 4, 5, 6, 7, 8, 9, 10, 11, 12], [0, 12])])
def cloisterref22_line.B7 : List Nat := [0, 1, 0, 0, 8, 28, 60, 127, 255, 0, 512, 1540, 4095, 8191]
theorem cloisterref22_line.tab7 : rtab .any (opsOf Tryz.f41 7) = cloisterref22_line.T7 := by kernel_rfl
theorem cloisterref22_line.bits7 : waitsOk cloisterref22_line.T7.2 cloisterref22_line.B7 = true := by kernel_rfl
def cloisterref22_line.T11 : Bool × List (List Nat × List Nat) := (true, [([], []), ([0], [0]), ([], []), ([2], [2]), ([3], [3]), ([1, 4], [1, 4]), ([], []), ([6], [6]), ([7, 4], [7]), ([5, 8], [5, 8]), ([9, 8, 0, 1, 2, 3, 4, 5, 6, 7, 8, 9], [0, 9])])
def cloisterref22_line.B11 : List Nat := [0, 1, 0, 4, 12, 31, 0, 64, 220, 511, 1023]
theorem cloisterref22_line.tab11 : rtab .any (opsOf Tryz.f41 11) = cloisterref22_line.T11 := by kernel_rfl
theorem cloisterref22_line.bits11 : waitsOk cloisterref22_line.T11.2 cloisterref22_line.B11 = true := by kernel_rfl
set_option maxHeartbeats 8000000 in
set_option maxRecDepth 100000 in
theorem cloisterref22_line.calls (k : Nat) (a0_0 : Int) (a0_1 : Int) (a0_2 : Int) (a0_3 : Int) (a0_4 : Int) (a0_5 : Int) (r : ByteArray) (w : World) (h : cloisterref22_line.f k a0_0 a0_1 a0_2 a0_3 a0_4 a0_5 = some r) :
    Calls Tryz.prog 41 #[.agg #[.int .u64 a0_0, .int .i64 a0_1, .int .i64 a0_2, .int .u32 a0_3, .int .u32 a0_4, .int .u32 a0_5]] w fun e w' => e = .returned (.string r) ∧ Below w.heap.size w w' := by
  have hu35 := Tryz.underlying35
  have HB := Aside0.mk (Below.refl w.heap.size w)
  have H : ((cloisterref22_decimal.f k a0_0).bind fun t214 => (if t214.size + 1 ≤ 9223372036854775807 then ((cloisterref22_decimal.f k (IntKind.u64.wrap (a0_1))).bind fun t215 => (if (t214 ++ (⟨#[32]⟩ : ByteArray)).size + t215.size ≤ 9223372036854775807 then (if ((t214 ++ (⟨#[32]⟩ : ByteArray)) ++ t215).size + 1 ≤ 9223372036854775807 then ((cloisterref22_kinds.f).bind fun t216 => (if 0 ≤ a0_2 then (if a0_2 < (t216.length : Int) then (if (((t214 ++ (⟨#[32]⟩ : ByteArray)) ++ t215) ++ (⟨#[32]⟩ : ByteArray)).size + (rdOf ByteArray.empty t216 a0_2).size ≤ 9223372036854775807 then (if ((((t214 ++ (⟨#[32]⟩ : ByteArray)) ++ t215) ++ (⟨#[32]⟩ : ByteArray)) ++ (rdOf ByteArray.empty t216 a0_2)).size + 1 ≤ 9223372036854775807 then ((cloisterref22_hex.f k a0_3).bind fun t220 => (if (((((t214 ++ (⟨#[32]⟩ : ByteArray)) ++ t215) ++ (⟨#[32]⟩ : ByteArray)) ++ (rdOf ByteArray.empty t216 a0_2)) ++ (⟨#[32]⟩ : ByteArray)).size + t220.size ≤ 9223372036854775807 then (if a0_2 = 1 then (cloisterref22_line.j0 k ((((((t214 ++ (⟨#[32]⟩ : ByteArray)) ++ t215) ++ (⟨#[32]⟩ : ByteArray)) ++ (rdOf ByteArray.empty t216 a0_2)) ++ (⟨#[32]⟩ : ByteArray)) ++ t220) a0_2 (a0_2 == 1) a0_0 a0_1 a0_2 a0_3 a0_4 a0_5) else (cloisterref22_line.j0 k ((((((t214 ++ (⟨#[32]⟩ : ByteArray)) ++ t215) ++ (⟨#[32]⟩ : ByteArray)) ++ (rdOf ByteArray.empty t216 a0_2)) ++ (⟨#[32]⟩ : ByteArray)) ++ t220) a0_2 (a0_2 == 2) a0_0 a0_1 a0_2 a0_3 a0_4 a0_5)) else (none))) else (none)) else (none)) else (none)) else (none))) else (none)) else (none))) else (none))) = some r := h
  clear h
  replace H := Option.bind_eq_some_iff.mp H
  obtain ⟨t214, A20, H⟩ := H
  replace H : (if t214.size + 1 ≤ 9223372036854775807 then ((cloisterref22_decimal.f k (IntKind.u64.wrap (a0_1))).bind fun t215 => (if (t214 ++ (⟨#[32]⟩ : ByteArray)).size + t215.size ≤ 9223372036854775807 then (if ((t214 ++ (⟨#[32]⟩ : ByteArray)) ++ t215).size + 1 ≤ 9223372036854775807 then ((cloisterref22_kinds.f).bind fun t216 => (if 0 ≤ a0_2 then (if a0_2 < (t216.length : Int) then (if (((t214 ++ (⟨#[32]⟩ : ByteArray)) ++ t215) ++ (⟨#[32]⟩ : ByteArray)).size + (rdOf ByteArray.empty t216 a0_2).size ≤ 9223372036854775807 then (if ((((t214 ++ (⟨#[32]⟩ : ByteArray)) ++ t215) ++ (⟨#[32]⟩ : ByteArray)) ++ (rdOf ByteArray.empty t216 a0_2)).size + 1 ≤ 9223372036854775807 then ((cloisterref22_hex.f k a0_3).bind fun t220 => (if (((((t214 ++ (⟨#[32]⟩ : ByteArray)) ++ t215) ++ (⟨#[32]⟩ : ByteArray)) ++ (rdOf ByteArray.empty t216 a0_2)) ++ (⟨#[32]⟩ : ByteArray)).size + t220.size ≤ 9223372036854775807 then (if a0_2 = 1 then (cloisterref22_line.j0 k ((((((t214 ++ (⟨#[32]⟩ : ByteArray)) ++ t215) ++ (⟨#[32]⟩ : ByteArray)) ++ (rdOf ByteArray.empty t216 a0_2)) ++ (⟨#[32]⟩ : ByteArray)) ++ t220) a0_2 (a0_2 == 1) a0_0 a0_1 a0_2 a0_3 a0_4 a0_5) else (cloisterref22_line.j0 k ((((((t214 ++ (⟨#[32]⟩ : ByteArray)) ++ t215) ++ (⟨#[32]⟩ : ByteArray)) ++ (rdOf ByteArray.empty t216 a0_2)) ++ (⟨#[32]⟩ : ByteArray)) ++ t220) a0_2 (a0_2 == 2) a0_0 a0_1 a0_2 a0_3 a0_4 a0_5)) else (none))) else (none)) else (none)) else (none)) else (none))) else (none)) else (none))) else (none)) = some r := H
  have A2 := Aside0.mk A20
  clear A20
  by_cases c3 : t214.size + 1 ≤ 9223372036854775807
  · rw [if_pos c3] at H
    have c3b0 := eq_true c3
    have c3b1 : decide (t214.size + 1 ≤ 9223372036854775807) = true := decide_eq_true c3
    try have c3b2 : (9223372036854775807 < t214.size + 1) = False := eq_false (Nat.not_lt.2 c3)
    replace H := Option.bind_eq_some_iff.mp H
    obtain ⟨t215, A40, H⟩ := H
    replace H : (if (t214 ++ (⟨#[32]⟩ : ByteArray)).size + t215.size ≤ 9223372036854775807 then (if ((t214 ++ (⟨#[32]⟩ : ByteArray)) ++ t215).size + 1 ≤ 9223372036854775807 then ((cloisterref22_kinds.f).bind fun t216 => (if 0 ≤ a0_2 then (if a0_2 < (t216.length : Int) then (if (((t214 ++ (⟨#[32]⟩ : ByteArray)) ++ t215) ++ (⟨#[32]⟩ : ByteArray)).size + (rdOf ByteArray.empty t216 a0_2).size ≤ 9223372036854775807 then (if ((((t214 ++ (⟨#[32]⟩ : ByteArray)) ++ t215) ++ (⟨#[32]⟩ : ByteArray)) ++ (rdOf ByteArray.empty t216 a0_2)).size + 1 ≤ 9223372036854775807 then ((cloisterref22_hex.f k a0_3).bind fun t220 => (if (((((t214 ++ (⟨#[32]⟩ : ByteArray)) ++ t215) ++ (⟨#[32]⟩ : ByteArray)) ++ (rdOf ByteArray.empty t216 a0_2)) ++ (⟨#[32]⟩ : ByteArray)).size + t220.size ≤ 9223372036854775807 then (if a0_2 = 1 then (cloisterref22_line.j0 k ((((((t214 ++ (⟨#[32]⟩ : ByteArray)) ++ t215) ++ (⟨#[32]⟩ : ByteArray)) ++ (rdOf ByteArray.empty t216 a0_2)) ++ (⟨#[32]⟩ : ByteArray)) ++ t220) a0_2 (a0_2 == 1) a0_0 a0_1 a0_2 a0_3 a0_4 a0_5) else (cloisterref22_line.j0 k ((((((t214 ++ (⟨#[32]⟩ : ByteArray)) ++ t215) ++ (⟨#[32]⟩ : ByteArray)) ++ (rdOf ByteArray.empty t216 a0_2)) ++ (⟨#[32]⟩ : ByteArray)) ++ t220) a0_2 (a0_2 == 2) a0_0 a0_1 a0_2 a0_3 a0_4 a0_5)) else (none))) else (none)) else (none)) else (none)) else (none))) else (none)) else (none)) = some r := H
    have A4 := Aside0.mk A40
    clear A40
    by_cases c5 : (t214 ++ (⟨#[32]⟩ : ByteArray)).size + t215.size ≤ 9223372036854775807
    · rw [if_pos c5] at H
      have c5b0 := eq_true c5
      have c5b1 : decide ((t214 ++ (⟨#[32]⟩ : ByteArray)).size + t215.size ≤ 9223372036854775807) = true := decide_eq_true c5
      try have c5b2 : (9223372036854775807 < (t214 ++ (⟨#[32]⟩ : ByteArray)).size + t215.size) = False := eq_false (Nat.not_lt.2 c5)
      try have c5b3 := c5b2
      try simp only [ByteArray.size_append, show (⟨#[32]⟩ : ByteArray).size = 1 from rfl, show (⟨#[10]⟩ : ByteArray).size = 1 from rfl] at c5b3
      by_cases c6 : ((t214 ++ (⟨#[32]⟩ : ByteArray)) ++ t215).size + 1 ≤ 9223372036854775807
      · rw [if_pos c6] at H
        have c6b0 := eq_true c6
        have c6b1 : decide (((t214 ++ (⟨#[32]⟩ : ByteArray)) ++ t215).size + 1 ≤ 9223372036854775807) = true := decide_eq_true c6
        try have c6b2 : (9223372036854775807 < ((t214 ++ (⟨#[32]⟩ : ByteArray)) ++ t215).size + 1) = False := eq_false (Nat.not_lt.2 c6)
        try have c6b3 := c6b2
        try simp only [ByteArray.size_append, show (⟨#[32]⟩ : ByteArray).size = 1 from rfl, show (⟨#[10]⟩ : ByteArray).size = 1 from rfl] at c6b3
        replace H := Option.bind_eq_some_iff.mp H
        obtain ⟨t216, A70, H⟩ := H
        replace H : (if 0 ≤ a0_2 then (if a0_2 < (t216.length : Int) then (if (((t214 ++ (⟨#[32]⟩ : ByteArray)) ++ t215) ++ (⟨#[32]⟩ : ByteArray)).size + (rdOf ByteArray.empty t216 a0_2).size ≤ 9223372036854775807 then (if ((((t214 ++ (⟨#[32]⟩ : ByteArray)) ++ t215) ++ (⟨#[32]⟩ : ByteArray)) ++ (rdOf ByteArray.empty t216 a0_2)).size + 1 ≤ 9223372036854775807 then ((cloisterref22_hex.f k a0_3).bind fun t220 => (if (((((t214 ++ (⟨#[32]⟩ : ByteArray)) ++ t215) ++ (⟨#[32]⟩ : ByteArray)) ++ (rdOf ByteArray.empty t216 a0_2)) ++ (⟨#[32]⟩ : ByteArray)).size + t220.size ≤ 9223372036854775807 then (if a0_2 = 1 then (cloisterref22_line.j0 k ((((((t214 ++ (⟨#[32]⟩ : ByteArray)) ++ t215) ++ (⟨#[32]⟩ : ByteArray)) ++ (rdOf ByteArray.empty t216 a0_2)) ++ (⟨#[32]⟩ : ByteArray)) ++ t220) a0_2 (a0_2 == 1) a0_0 a0_1 a0_2 a0_3 a0_4 a0_5) else (cloisterref22_line.j0 k ((((((t214 ++ (⟨#[32]⟩ : ByteArray)) ++ t215) ++ (⟨#[32]⟩ : ByteArray)) ++ (rdOf ByteArray.empty t216 a0_2)) ++ (⟨#[32]⟩ : ByteArray)) ++ t220) a0_2 (a0_2 == 2) a0_0 a0_1 a0_2 a0_3 a0_4 a0_5)) else (none))) else (none)) else (none)) else (none)) else (none)) = some r := H
        have A7 := Aside0.mk A70
        clear A70
        by_cases c8 : 0 ≤ a0_2
        · rw [if_pos c8] at H
          have c8b0 : decide (0 ≤ a0_2) = true := decide_eq_true c8
          clear c8
          by_cases c9 : a0_2 < (t216.length : Int)
          · rw [if_pos c9] at H
            have c9b0 : decide (a0_2 < (t216.length : Int)) = true := decide_eq_true c9
            clear c9
            by_cases c10 : (((t214 ++ (⟨#[32]⟩ : ByteArray)) ++ t215) ++ (⟨#[32]⟩ : ByteArray)).size + (rdOf ByteArray.empty t216 a0_2).size ≤ 9223372036854775807
            · rw [if_pos c10] at H
              have c10b0 := eq_true c10
              have c10b1 : decide ((((t214 ++ (⟨#[32]⟩ : ByteArray)) ++ t215) ++ (⟨#[32]⟩ : ByteArray)).size + (rdOf ByteArray.empty t216 a0_2).size ≤ 9223372036854775807) = true := decide_eq_true c10
              try have c10b2 : (9223372036854775807 < (((t214 ++ (⟨#[32]⟩ : ByteArray)) ++ t215) ++ (⟨#[32]⟩ : ByteArray)).size + (rdOf ByteArray.empty t216 a0_2).size) = False := eq_false (Nat.not_lt.2 c10)
              try have c10b3 := c10b2
              try simp only [ByteArray.size_append, show (⟨#[32]⟩ : ByteArray).size = 1 from rfl, show (⟨#[10]⟩ : ByteArray).size = 1 from rfl] at c10b3
              by_cases c11 : ((((t214 ++ (⟨#[32]⟩ : ByteArray)) ++ t215) ++ (⟨#[32]⟩ : ByteArray)) ++ (rdOf ByteArray.empty t216 a0_2)).size + 1 ≤ 9223372036854775807
              · rw [if_pos c11] at H
                have c11b0 := eq_true c11
                have c11b1 : decide (((((t214 ++ (⟨#[32]⟩ : ByteArray)) ++ t215) ++ (⟨#[32]⟩ : ByteArray)) ++ (rdOf ByteArray.empty t216 a0_2)).size + 1 ≤ 9223372036854775807) = true := decide_eq_true c11
                try have c11b2 : (9223372036854775807 < ((((t214 ++ (⟨#[32]⟩ : ByteArray)) ++ t215) ++ (⟨#[32]⟩ : ByteArray)) ++ (rdOf ByteArray.empty t216 a0_2)).size + 1) = False := eq_false (Nat.not_lt.2 c11)
                try have c11b3 := c11b2
                try simp only [ByteArray.size_append, show (⟨#[32]⟩ : ByteArray).size = 1 from rfl, show (⟨#[10]⟩ : ByteArray).size = 1 from rfl] at c11b3
                replace H := Option.bind_eq_some_iff.mp H
                obtain ⟨t220, A120, H⟩ := H
                replace H : (if (((((t214 ++ (⟨#[32]⟩ : ByteArray)) ++ t215) ++ (⟨#[32]⟩ : ByteArray)) ++ (rdOf ByteArray.empty t216 a0_2)) ++ (⟨#[32]⟩ : ByteArray)).size + t220.size ≤ 9223372036854775807 then (if a0_2 = 1 then (cloisterref22_line.j0 k ((((((t214 ++ (⟨#[32]⟩ : ByteArray)) ++ t215) ++ (⟨#[32]⟩ : ByteArray)) ++ (rdOf ByteArray.empty t216 a0_2)) ++ (⟨#[32]⟩ : ByteArray)) ++ t220) a0_2 (a0_2 == 1) a0_0 a0_1 a0_2 a0_3 a0_4 a0_5) else (cloisterref22_line.j0 k ((((((t214 ++ (⟨#[32]⟩ : ByteArray)) ++ t215) ++ (⟨#[32]⟩ : ByteArray)) ++ (rdOf ByteArray.empty t216 a0_2)) ++ (⟨#[32]⟩ : ByteArray)) ++ t220) a0_2 (a0_2 == 2) a0_0 a0_1 a0_2 a0_3 a0_4 a0_5)) else (none)) = some r := H
                have A12 := Aside0.mk A120
                clear A120
                by_cases c13 : (((((t214 ++ (⟨#[32]⟩ : ByteArray)) ++ t215) ++ (⟨#[32]⟩ : ByteArray)) ++ (rdOf ByteArray.empty t216 a0_2)) ++ (⟨#[32]⟩ : ByteArray)).size + t220.size ≤ 9223372036854775807
                · rw [if_pos c13] at H
                  have c13b0 := eq_true c13
                  have c13b1 : decide ((((((t214 ++ (⟨#[32]⟩ : ByteArray)) ++ t215) ++ (⟨#[32]⟩ : ByteArray)) ++ (rdOf ByteArray.empty t216 a0_2)) ++ (⟨#[32]⟩ : ByteArray)).size + t220.size ≤ 9223372036854775807) = true := decide_eq_true c13
                  try have c13b2 : (9223372036854775807 < (((((t214 ++ (⟨#[32]⟩ : ByteArray)) ++ t215) ++ (⟨#[32]⟩ : ByteArray)) ++ (rdOf ByteArray.empty t216 a0_2)) ++ (⟨#[32]⟩ : ByteArray)).size + t220.size) = False := eq_false (Nat.not_lt.2 c13)
                  try have c13b3 := c13b2
                  try simp only [ByteArray.size_append, show (⟨#[32]⟩ : ByteArray).size = 1 from rfl, show (⟨#[10]⟩ : ByteArray).size = 1 from rfl] at c13b3
                  have HC14 := Aside0.mk H
                  clear H
                  go_enter Tryz.func41, Tryz.ntmps41
                  try go_wp2_with (first | ((with_reducible refine gate_dst (N := 1) rfl ?_); refine box_event ?hg (N := 1) ?hd (cs := #[.int .u64 a0_0, .int .i64 a0_1, .int .i64 a0_2, .int .u32 a0_3, .int .u32 a0_4, .int .u32 a0_5]) (t := 35) ?hr ?_; (case hd => rfl); (case hg => rfl); (case hr => first | (go_simp; done) | (go_simp; rfl)); intro gb213 hg w15 hbox hb; have n0_ := Aside0.mk (below_step (by repeat (first | (with_reducible first | exact HB.out | apply below_alloc | apply pw_below_drewN | apply below_drew1) | exact HB.out)) hb); have n1_ := Aside0.mk (hbox); have n2_ := Aside0.mk ((by rw [hg]; exact (below_size (by repeat (first | (with_reducible first | exact HB.out | apply below_alloc | apply pw_below_drewN | apply below_drew1) | exact HB.out))) : w.heap.size ≤ gb213)); have n3_ := Aside0.mk ((by rw [hg]; exact (below_size (by repeat (first | (with_reducible first | exact HB.out | apply below_alloc | apply pw_below_drewN | apply below_drew1) | exact HB.out))) : w.heap.size ≤ gb213)); clear HB; have HB := n0_; have BK213 := n1_; have GW213 := n2_; have GE213 := n3_; clear n0_ n1_ n2_ n3_; clear hb hbox hg))
                  have n0_ := Aside0.mk (blk_drew BK213.out)
                  have n1_ := Aside0.mk (below_drew1 HB.out)
                  clear BK213
                  clear HB
                  have BK213 := n0_
                  have HB := n1_
                  clear n0_ n1_
                  refine start_ (n := 22) (S := fun w' => w'.cell? ⟨gb213, 0, none⟩ = some (.int .u64 a0_0) ∧ w'.cell? ⟨gb213, 1, none⟩ = some (.int .i64 a0_1) ∧ w'.cell? ⟨gb213, 2, none⟩ = some (.int .i64 a0_2) ∧ w'.cell? ⟨gb213, 3, none⟩ = some (.int .u32 a0_3) ∧ w'.cell? ⟨gb213, 4, none⟩ = some (.int .u32 a0_4) ∧ w'.cell? ⟨gb213, 5, none⟩ = some (.int .u32 a0_5)) (ds := []) #[false, false, false, false, false, false, false, false, false, false, false, false, false, false, false, false, false, false, false, false, false, false] (by kernel_rfl) rfl rfl ⟨(blk_cell BK213.out 0).trans rfl, (blk_cell BK213.out 1).trans rfl, (blk_cell BK213.out 2).trans rfl, (blk_cell BK213.out 3).trans rfl, (blk_cell BK213.out 4).trans rfl, (blk_cell BK213.out 5).trans rfl⟩ (fun hHeld => ?_); refine with_tabW cloisterref22_line.tab1 cloisterref22_line.bits1 (fun HT_ HW_ => ?_)
                  generalize w15.drew = w16 at BK213 HB hHeld ⊢
                  refine pure_ (i := 0) (N := some 4) (v := ?_) (a' := ?_) #[true, false, false, false, false, false, false, false, false, false, false, false, false, false, false, false, false, false, false, false, false, false] rfl rfl (any_of HT_.out (by kernel_rfl)) (fun _ _ _ h => h) (Or.inl ⟨by rfl, ?_⟩) ?_ ?_
                  rotate_left
                  · intro w'
                    go_simp
                    with_reducible rfl
                  rotate_left
                  · simp only [Act.put, List.setIfInBounds_toArray, List.set_cons_zero, List.set_cons_succ, i64_w, i32_w]
                    rfl
                  refine pure_ (i := 4) (N := some 8) (v := ?_) (a' := ?_) #[true, false, false, false, true, false, false, false, false, false, false, false, false, false, false, false, false, false, false, false, false, false] rfl rfl (any_of HT_.out (by kernel_rfl)) (fun _ _ _ h => h) (Or.inl ⟨by rfl, ?_⟩) ?_ ?_
                  rotate_left
                  · intro w'
                    go_simp
                    with_reducible rfl
                  rotate_left
                  · simp only [Act.put, List.setIfInBounds_toArray, List.set_cons_zero, List.set_cons_succ, i64_w, i32_w]
                    rfl
                  refine pure_ (i := 11) (N := some 15) (v := ?_) (a' := ?_) #[true, false, false, false, true, false, false, false, false, false, false, true, false, false, false, false, false, false, false, false, false, false] rfl rfl (any_of HT_.out (by kernel_rfl)) (fun _ _ _ h => h) (Or.inl ⟨by rfl, ?_⟩) ?_ ?_
                  rotate_left
                  · intro w'
                    go_simp
                    with_reducible rfl
                  rotate_left
                  · simp only [Act.put, List.setIfInBounds_toArray, List.set_cons_zero, List.set_cons_succ, i64_w, i32_w]
                    rfl
                  refine pure_ (i := 17) (N := some 21) (v := ?_) (a' := ?_) #[true, false, false, false, true, false, false, false, false, false, false, true, false, false, false, false, false, true, false, false, false, false] rfl rfl (any_of HT_.out (by kernel_rfl)) (fun _ _ _ h => h) (Or.inl ⟨by rfl, ?_⟩) ?_ ?_
                  rotate_left
                  · intro w'
                    go_simp
                    with_reducible rfl
                  rotate_left
                  · simp only [Act.put, List.setIfInBounds_toArray, List.set_cons_zero, List.set_cons_succ, i64_w, i32_w]
                    rfl
                  refine take_ (i := 1) (N := some 5) (v := ?_) (a' := ?_) #[true, true, false, false, true, false, false, false, false, false, false, true, false, false, false, false, false, true, false, false, false, false] rfl rfl (take_ofW HT_.out HW_.out (by kernel_rfl)) (fun _ _ _ h => h) (Or.inl ⟨by rfl, ?_⟩) hHeld ?_ ?_
                  rotate_left
                  · rintro w' ⟨s0, s1, s2, s3, s4, s5⟩
                    go_simp
                    with_reducible rfl
                  rotate_left
                  · simp only [Act.put, List.setIfInBounds_toArray, List.set_cons_zero, List.set_cons_succ, i64_w, i32_w]
                    rfl
                  refine take_ (i := 5) (N := some 9) (v := ?_) (a' := ?_) #[true, true, false, false, true, true, false, false, false, false, false, true, false, false, false, false, false, true, false, false, false, false] rfl rfl (take_ofW HT_.out HW_.out (by kernel_rfl)) (fun _ _ _ h => h) (Or.inl ⟨by rfl, ?_⟩) hHeld ?_ ?_
                  rotate_left
                  · rintro w' ⟨s0, s1, s2, s3, s4, s5⟩
                    go_simp
                    with_reducible rfl
                  rotate_left
                  · simp only [Act.put, List.setIfInBounds_toArray, List.set_cons_zero, List.set_cons_succ, i64_w, i32_w]
                    rfl
                  refine pure_ (i := 6) (N := some 10) (v := ?_) (a' := ?_) #[true, true, false, false, true, true, true, false, false, false, false, true, false, false, false, false, false, true, false, false, false, false] rfl rfl (any_of HT_.out (by kernel_rfl)) (fun _ _ _ h => h) (Or.inl ⟨by rfl, ?_⟩) ?_ ?_
                  rotate_left
                  · intro w'
                    go_simp
                    with_reducible rfl
                  rotate_left
                  · simp only [Act.put, List.setIfInBounds_toArray, List.set_cons_zero, List.set_cons_succ, i64_w, i32_w]
                    rfl
                  refine take_ (i := 12) (N := some 16) (v := ?_) (a' := ?_) #[true, true, false, false, true, true, true, false, false, false, false, true, true, false, false, false, false, true, false, false, false, false] rfl rfl (take_ofW HT_.out HW_.out (by kernel_rfl)) (fun _ _ _ h => h) (Or.inl ⟨by rfl, ?_⟩) hHeld ?_ ?_
                  rotate_left
                  · rintro w' ⟨s0, s1, s2, s3, s4, s5⟩
                    go_simp
                    with_reducible rfl
                  rotate_left
                  · simp only [Act.put, List.setIfInBounds_toArray, List.set_cons_zero, List.set_cons_succ, i64_w, i32_w]
                    rfl
                  refine take_ (i := 18) (N := some 22) (v := ?_) (a' := ?_) #[true, true, false, false, true, true, true, false, false, false, false, true, true, false, false, false, false, true, true, false, false, false] rfl rfl (take_ofW HT_.out HW_.out (by kernel_rfl)) (fun _ _ _ h => h) (Or.inl ⟨by rfl, ?_⟩) hHeld ?_ ?_
                  rotate_left
                  · rintro w' ⟨s0, s1, s2, s3, s4, s5⟩
                    go_simp
                    with_reducible rfl
                  rotate_left
                  · simp only [Act.put, List.setIfInBounds_toArray, List.set_cons_zero, List.set_cons_succ, i64_w, i32_w]
                    rfl
                  refine one_ (i := 2) (N := some 6) #[true, true, true, false, true, true, true, false, false, false, false, true, true, false, false, false, false, true, true, false, false, false] rfl rfl (one_of HT_.out (by kernel_rfl)) (by decide) (fun K hK => ?_)
                  refine goes_ Tryz.func90 (by kernel_rfl) rfl #[.int .u64 a0_0] (by rfl) rfl rfl (by (try simp only [List.map_toArray, List.map_cons, List.map_nil]); first | done | rfl | (simp only [List.length_drop, List.length_take]; rfl)) ?_
                  with_reducible refine (cloisterref22_decimal.calls k a0_0 t214 _ A2.out).mono ?_
                  rintro e w' ⟨rfl, ⟨nd, rfl⟩⟩
                  refine ⟨_, rfl, ?_⟩
                  refine hK.out _ _ ⟨(blk_cell BK213.out 0).trans rfl, (blk_cell BK213.out 1).trans rfl, (blk_cell BK213.out 2).trans rfl, (blk_cell BK213.out 3).trans rfl, (blk_cell BK213.out 4).trans rfl, (blk_cell BK213.out 5).trans rfl⟩ (fun hHeld => ?_)
                  clear hK K
                  refine norm_ (a' := ?_) ?_ ?_
                  rotate_left
                  · show Act.put _ (some 6) _ = _
                    simp only [Act.put, List.setIfInBounds_toArray, List.set_cons_zero, List.set_cons_succ, i64_w, i32_w]
                    rfl
                  refine pure_ (i := 3) (N := some 7) (v := ?_) (a' := ?_) #[true, true, true, true, true, true, true, false, false, false, false, true, true, false, false, false, false, true, true, false, false, false] rfl rfl (any_of HT_.out (by kernel_rfl)) (fun _ _ _ h => h) (Or.inl ⟨by rfl, ?_⟩) ?_ ?_
                  rotate_left
                  · intro w'
                    go_simp
                    with_reducible rfl
                  rotate_left
                  · simp only [Act.put, List.setIfInBounds_toArray, List.set_cons_zero, List.set_cons_succ, i64_w, i32_w]
                    rfl
                  refine one_ (i := 7) (N := some 11) #[true, true, true, true, true, true, true, true, false, false, false, true, true, false, false, false, false, true, true, false, false, false] rfl rfl (one_of HT_.out (by kernel_rfl)) (by decide) (fun K hK => ?_)
                  refine goes_ Tryz.func90 (by kernel_rfl) rfl #[.int .u64 (IntKind.u64.wrap (a0_1))] (by rfl) rfl rfl (by (try simp only [List.map_toArray, List.map_cons, List.map_nil]); first | done | rfl | (simp only [List.length_drop, List.length_take]; rfl)) ?_
                  with_reducible refine (cloisterref22_decimal.calls k (IntKind.u64.wrap (a0_1)) t215 _ A4.out).mono ?_
                  rintro e w' ⟨rfl, ⟨nd, rfl⟩⟩
                  refine ⟨_, rfl, ?_⟩
                  refine hK.out _ _ ⟨(blk_cell BK213.out 0).trans rfl, (blk_cell BK213.out 1).trans rfl, (blk_cell BK213.out 2).trans rfl, (blk_cell BK213.out 3).trans rfl, (blk_cell BK213.out 4).trans rfl, (blk_cell BK213.out 5).trans rfl⟩ (fun hHeld => ?_)
                  clear hK K
                  refine norm_ (a' := ?_) ?_ ?_
                  rotate_left
                  · show Act.put _ (some 11) _ = _
                    simp only [Act.put, List.setIfInBounds_toArray, List.set_cons_zero, List.set_cons_succ, i64_w, i32_w]
                    rfl
                  refine pure_ (i := 8) (N := some 12) (v := ?_) (a' := ?_) #[true, true, true, true, true, true, true, true, true, false, false, true, true, false, false, false, false, true, true, false, false, false] rfl rfl (any_of HT_.out (by kernel_rfl)) (fun _ _ _ h => h) (Or.inl ⟨by rfl, ?_⟩) ?_ ?_
                  rotate_left
                  · intro w'
                    go_simp
                    with_reducible rfl
                  rotate_left
                  · simp only [Act.put, List.setIfInBounds_toArray, List.set_cons_zero, List.set_cons_succ, i64_w, i32_w]
                    rfl
                  refine pure_ (i := 9) (N := some 13) (v := ?_) (a' := ?_) #[true, true, true, true, true, true, true, true, true, true, false, true, true, false, false, false, false, true, true, false, false, false] rfl rfl (any_of HT_.out (by kernel_rfl)) (fun _ _ _ h => h) (Or.inl ⟨by rfl, ?_⟩) ?_ ?_
                  rotate_left
                  · intro w'
                    go_simp
                    with_reducible rfl
                  rotate_left
                  · simp only [Act.put, List.setIfInBounds_toArray, List.set_cons_zero, List.set_cons_succ, i64_w, i32_w]
                    rfl
                  refine one_ (i := 10) (N := some 14) #[true, true, true, true, true, true, true, true, true, true, true, true, true, false, false, false, false, true, true, false, false, false] rfl rfl (one_of HT_.out (by kernel_rfl)) (by decide) (fun K hK => ?_)
                  refine goes_ Tryz.func91 (by kernel_rfl) rfl #[] (by rfl) rfl rfl (by (try simp only [List.map_toArray, List.map_cons, List.map_nil]); first | done | rfl | (simp only [List.length_drop, List.length_take]; rfl)) ?_
                  with_reducible refine (cloisterref22_kinds.calls  t216 _ A7.out).mono ?_
                  rintro e w17 ⟨v217, rfl, ho0, hb⟩
                  refine ⟨_, rfl, ?_⟩
                  have n0_ := Aside0.mk (Kd.R_lower ho0 (below_size (by repeat (first | (with_reducible first | exact HB.out | apply below_alloc | apply pw_below_drewN | apply below_drew1 | refine below_set ?_ GE213.out) | exact HB.out))))
                  have n1_ := Aside0.mk (blk_below (g := gb213) (o := .cells #[.int .u64 a0_0, .int .i64 a0_1, .int .i64 a0_2, .int .u32 a0_3, .int .u32 a0_4, .int .u32 a0_5] 35 (0, 0)) (by (with_reducible repeat (first | refine blk_drewN ?_ _ | refine blk_drew ?_ | refine blk_alloc ?_ _)); exact BK213.out) hb)
                  have n2_ := Aside0.mk (below_step (by repeat (first | (with_reducible first | exact HB.out | apply below_alloc | apply pw_below_drewN | apply below_drew1 | refine below_set ?_ GE213.out) | exact HB.out)) hb)
                  clear BK213
                  clear HB
                  have HO218 := n0_
                  have BK213 := n1_
                  have HB := n2_
                  clear n0_ n1_ n2_
                  (try clear hb)
                  (try clear hb2)
                  (try clear hk)
                  (try clear hi)
                  (try clear ho0)
                  obtain ⟨Ao18, co18, eo18⟩ := Kd.R_slice HO218.out
                  (first | subst eo18 | (injection eo18 with f1_ f2_ f3_; have f4_ := f1_.symm; have f5_ := f3_.symm; clear f1_ f2_ f3_; subst f4_; subst f5_))
                  have p219 : 0 ≤ (a0_2 : Int) := of_decide_eq_true (by first | (with_reducible assumption) | assumption)
                  have q219 : a0_2 < (t216.length : Int) := of_decide_eq_true (by first | (with_reducible assumption) | assumption)
                  obtain ⟨ad219, e219, hx219_0⟩ := Kd.at_string (Kd.R_reads' HO218.out).2.2 a0_2 p219 q219
                  cases e219
                  replace p219 := eq_true p219
                  replace q219 := eq_true q219
                  refine hK.out _ _ ⟨(blk_cell BK213.out 0).trans rfl, (blk_cell BK213.out 1).trans rfl, (blk_cell BK213.out 2).trans rfl, (blk_cell BK213.out 3).trans rfl, (blk_cell BK213.out 4).trans rfl, (blk_cell BK213.out 5).trans rfl⟩ (fun hHeld => ?_)
                  clear hK K
                  refine wpAnyLast_more (S' := fun w' => w'.cell? ⟨gb213, 0, none⟩ = some (.int .u64 a0_0) ∧ w'.cell? ⟨gb213, 1, none⟩ = some (.int .i64 a0_1) ∧ w'.cell? ⟨gb213, 2, none⟩ = some (.int .i64 a0_2) ∧ w'.cell? ⟨gb213, 3, none⟩ = some (.int .u32 a0_3) ∧ w'.cell? ⟨gb213, 4, none⟩ = some (.int .u32 a0_4) ∧ w'.cell? ⟨gb213, 5, none⟩ = some (.int .u32 a0_5) ∧ w'.cell? (ad219.add (a0_2).toNat) = some (.string (rdOf ByteArray.empty t216 a0_2))) (fun x h => ⟨h.1, h.2.1, h.2.2.1, h.2.2.2.1, h.2.2.2.2.1, h.2.2.2.2.2.1⟩) _ _ _ _ ⟨hHeld.1, hHeld.2.1, hHeld.2.2.1, hHeld.2.2.2.1, hHeld.2.2.2.2.1, hHeld.2.2.2.2.2, hx219_0⟩ ?_
                  replace hHeld := And.intro hHeld.1 (And.intro hHeld.2.1 (And.intro hHeld.2.2.1 (And.intro hHeld.2.2.2.1 (And.intro hHeld.2.2.2.2.1 (And.intro hHeld.2.2.2.2.2 hx219_0)))))
                  refine norm_ (a' := ?_) ?_ ?_
                  rotate_left
                  · show Act.put _ (some 14) _ = _
                    simp only [Act.put, List.setIfInBounds_toArray, List.set_cons_zero, List.set_cons_succ, i64_w, i32_w]
                    rfl
                  refine pure_ (i := 13) (N := some 17) (v := ?_) (a' := ?_) #[true, true, true, true, true, true, true, true, true, true, true, true, true, true, false, false, false, true, true, false, false, false] rfl rfl (any_of HT_.out (by kernel_rfl)) (fun _ _ _ h => h) (Or.inl ⟨by rfl, ?_⟩) ?_ ?_
                  rotate_left
                  · intro w'
                    go_simp
                    with_reducible rfl
                  rotate_left
                  · simp only [Act.put, List.setIfInBounds_toArray, List.set_cons_zero, List.set_cons_succ, i64_w, i32_w]
                    rfl
                  refine take_ (i := 14) (N := some 18) (v := ?_) (a' := ?_) #[true, true, true, true, true, true, true, true, true, true, true, true, true, true, true, false, false, true, true, false, false, false] rfl rfl (take_ofW HT_.out HW_.out (by kernel_rfl)) (fun _ _ _ h => h) (Or.inl ⟨by rfl, ?_⟩) hHeld ?_ ?_
                  rotate_left
                  · rintro w' ⟨s0, s1, s2, s3, s4, s5, s6⟩
                    go_simp
                    with_reducible rfl
                  rotate_left
                  · simp only [Act.put, List.setIfInBounds_toArray, List.set_cons_zero, List.set_cons_succ, i64_w, i32_w]
                    rfl
                  refine pure_ (i := 15) (N := some 19) (v := ?_) (a' := ?_) #[true, true, true, true, true, true, true, true, true, true, true, true, true, true, true, true, false, true, true, false, false, false] rfl rfl (any_of HT_.out (by kernel_rfl)) (fun _ _ _ h => h) (Or.inl ⟨by rfl, ?_⟩) ?_ ?_
                  rotate_left
                  · intro w'
                    go_simp
                    with_reducible rfl
                  rotate_left
                  · simp only [Act.put, List.setIfInBounds_toArray, List.set_cons_zero, List.set_cons_succ, i64_w, i32_w]
                    rfl
                  refine pure_ (i := 16) (N := some 20) (v := ?_) (a' := ?_) #[true, true, true, true, true, true, true, true, true, true, true, true, true, true, true, true, true, true, true, false, false, false] rfl rfl (any_of HT_.out (by kernel_rfl)) (fun _ _ _ h => h) (Or.inl ⟨by rfl, ?_⟩) ?_ ?_
                  rotate_left
                  · intro w'
                    go_simp
                    with_reducible rfl
                  rotate_left
                  · simp only [Act.put, List.setIfInBounds_toArray, List.set_cons_zero, List.set_cons_succ, i64_w, i32_w]
                    rfl
                  refine one_ (i := 19) (N := some 23) #[true, true, true, true, true, true, true, true, true, true, true, true, true, true, true, true, true, true, true, true, false, false] rfl rfl (one_of HT_.out (by kernel_rfl)) (by decide) (fun K hK => ?_)
                  refine goes_ Tryz.func92 (by kernel_rfl) rfl #[.int .u32 a0_3] (by rfl) rfl rfl (by (try simp only [List.map_toArray, List.map_cons, List.map_nil]); first | done | rfl | (simp only [List.length_drop, List.length_take]; rfl)) ?_
                  with_reducible refine (cloisterref22_hex.calls k a0_3 t220 _ A12.out).mono ?_
                  rintro e w' ⟨rfl, ⟨nd, rfl⟩⟩
                  refine ⟨_, rfl, ?_⟩
                  refine hK.out _ _ ⟨(blk_cell BK213.out 0).trans rfl, (blk_cell BK213.out 1).trans rfl, (blk_cell BK213.out 2).trans rfl, (blk_cell BK213.out 3).trans rfl, (blk_cell BK213.out 4).trans rfl, (blk_cell BK213.out 5).trans rfl, hHeld.2.2.2.2.2.2⟩ (fun hHeld => ?_)
                  clear hK K
                  refine norm_ (a' := ?_) ?_ ?_
                  rotate_left
                  · show Act.put _ (some 23) _ = _
                    simp only [Act.put, List.setIfInBounds_toArray, List.set_cons_zero, List.set_cons_succ, i64_w, i32_w]
                    rfl
                  refine pure_ (i := 20) (N := some 24) (v := ?_) (a' := ?_) #[true, true, true, true, true, true, true, true, true, true, true, true, true, true, true, true, true, true, true, true, true, false] rfl rfl (any_of HT_.out (by kernel_rfl)) (fun _ _ _ h => h) (Or.inl ⟨by rfl, ?_⟩) ?_ ?_
                  rotate_left
                  · intro w'
                    go_simp
                    with_reducible rfl
                  rotate_left
                  · simp only [Act.put, List.setIfInBounds_toArray, List.set_cons_zero, List.set_cons_succ, i64_w, i32_w]
                    rfl
                  refine pure_ (i := 21) (N := some 3) (v := ?_) (a' := ?_) #[true, true, true, true, true, true, true, true, true, true, true, true, true, true, true, true, true, true, true, true, true, true] rfl rfl (any_of HT_.out (by kernel_rfl)) (fun _ _ _ h => h) (Or.inl ⟨by rfl, ?_⟩) ?_ ?_
                  rotate_left
                  · intro w'
                    go_simp
                    with_reducible rfl
                  rotate_left
                  · simp only [Act.put, List.setIfInBounds_toArray, List.set_cons_zero, List.set_cons_succ, i64_w, i32_w]
                    rfl
                  refine done_ (done_of HT_.out (by kernel_rfl)) ?_
                  have hcz19_0 : w17.cell? ⟨gb213, 0, none⟩ = some (.int .u64 a0_0) := (blk_cell BK213.out 0).trans rfl
                  have hcz19_1 : w17.cell? ⟨gb213, 1, none⟩ = some (.int .i64 a0_1) := (blk_cell BK213.out 1).trans rfl
                  have hcz19_2 : w17.cell? ⟨gb213, 2, none⟩ = some (.int .i64 a0_2) := (blk_cell BK213.out 2).trans rfl
                  have hcz19_3 : w17.cell? ⟨gb213, 3, none⟩ = some (.int .u32 a0_3) := (blk_cell BK213.out 3).trans rfl
                  have hcz19_4 : w17.cell? ⟨gb213, 4, none⟩ = some (.int .u32 a0_4) := (blk_cell BK213.out 4).trans rfl
                  have hcz19_5 : w17.cell? ⟨gb213, 5, none⟩ = some (.int .u32 a0_5) := (blk_cell BK213.out 5).trans rfl
                  have hfz19_0 := blk_frozen BK213.out 0
                  have hfz19_1 := blk_frozen BK213.out 1
                  have hfz19_2 := blk_frozen BK213.out 2
                  have hfz19_3 := blk_frozen BK213.out 3
                  have hfz19_4 := blk_frozen BK213.out 4
                  have hfz19_5 := blk_frozen BK213.out 5
                  go_upto_if 27 with (fail)
                  go_cut [27] (fun v27 wc => ∃ (kq : Nat) (x27_13 : Bool), v27 = .bool x27_13 ∧ Aside0 (cloisterref22_line.j0 kq ((((((t214 ++ (⟨#[32]⟩ : ByteArray)) ++ t215) ++ (⟨#[32]⟩ : ByteArray)) ++ (rdOf ByteArray.empty t216 a0_2)) ++ (⟨#[32]⟩ : ByteArray)) ++ t220) a0_2 x27_13 a0_0 a0_1 a0_2 a0_3 a0_4 a0_5 = some r) ∧ Aside0 (kq ≤ k) ∧ Aside0 (wc.heap[gb213]? = some (.cells #[.int .u64 a0_0, .int .i64 a0_1, .int .i64 a0_2, .int .u32 a0_3, .int .u32 a0_4, .int .u32 a0_5] 35 (0, 0))) ∧ Aside0 (Below w.heap.size w wc))
                  case first =>
                    have H := HC14.out
                    clear HC14
                    by_cases c20 : a0_2 = 1
                    · rw [if_pos c20] at H
                      have c20b0 : (a0_2 == 1) = true := beq_iff_eq.mpr c20
                      have c20b1 : (a0_2 != 1) = false := bne_eq_false_iff_eq.mpr c20
                      clear c20
                      (first | rw [c20b0] | (simp only [i64_w, i32_w]; rw [c20b0]) | skip)
                      have H' := Aside0.mk H
                      clear H
                      go_wp2
                      go_meet
                      case rel => exact ⟨_, ((a0_2 == 1)), (by first | rfl | (simp; done) | (simp [*]; done)), H', ⟨by first | omega | exact Nat.le_refl _⟩, ⟨by (with_reducible repeat (first | refine blk_drewN ?_ _ | refine blk_drew ?_ | refine blk_alloc ?_ _)); exact BK213.out⟩, ⟨by repeat (first | (with_reducible first | exact HB.out | apply below_alloc | apply pw_below_drewN | apply below_drew1 | refine below_set ?_ GE213.out) | exact HB.out)⟩⟩
                    · rw [if_neg c20] at H
                      have c20b0 : (a0_2 == 1) = false := beq_eq_false_iff_ne.mpr c20
                      have c20b1 : (a0_2 != 1) = true := bne_iff_ne.mpr c20
                      (first | rw [c20b0] | (simp only [i64_w, i32_w]; rw [c20b0]) | skip)
                      have H' := Aside0.mk H
                      clear H
                      go_wp2
                      go_meet
                      case rel => exact ⟨_, ((a0_2 == 2)), (by first | rfl | (simp; done) | (simp [*]; done)), H', ⟨by first | omega | exact Nat.le_refl _⟩, ⟨by (with_reducible repeat (first | refine blk_drewN ?_ _ | refine blk_drew ?_ | refine blk_alloc ?_ _)); exact BK213.out⟩, ⟨by repeat (first | (with_reducible first | exact HB.out | apply below_alloc | apply pw_below_drewN | apply below_drew1 | refine below_set ?_ GE213.out) | exact HB.out)⟩⟩
                  case rest =>
                    clear HC14
                    try clear c1
                    try clear c2
                    try clear p2
                    try clear q2
                    try clear hx2
                    try clear c3
                    try clear c3b0
                    try clear c3b1
                    try clear c3b2
                    try clear c4
                    try clear c5
                    try clear c5b0
                    try clear c5b1
                    try clear c5b2
                    try clear c6
                    try clear c6b0
                    try clear c6b1
                    try clear c6b2
                    try clear c8
                    try clear c8b0
                    try clear c9
                    try clear c9b0
                    try clear c10
                    try clear c10b0
                    try clear c10b1
                    try clear c10b2
                    try clear c11
                    try clear c11b0
                    try clear c11b1
                    try clear c11b2
                    try clear c13
                    try clear c13b0
                    try clear c13b1
                    try clear c13b2
                    try clear c20
                    try clear c20b0
                    try clear c20b1
                    try clear hcz19_0
                    try clear hcz19_1
                    try clear hcz19_2
                    try clear hcz19_3
                    try clear hcz19_4
                    try clear hcz19_5
                    try clear hfz19_0
                    try clear hfz19_1
                    try clear hfz19_2
                    try clear hfz19_3
                    try clear hfz19_4
                    try clear hfz19_5
                    try clear hx219_0
                    try clear p219
                    try clear q219
                    obtain ⟨kq, x27_13, rfl, HA, HJ13, BK213, HB⟩ := hcut
                    cases kq with
                    | zero => exact absurd HA.out (by simp [cloisterref22_line.j0])
                    | succ kj13 =>
                      have H := HA.out
                      clear HA
                      simp only [cloisterref22_line.j0] at H
                      by_cases c21 : x27_13 = true
                      · subst c21
                        have H1 : (if ((((((t214 ++ (⟨#[32]⟩ : ByteArray)) ++ t215) ++ (⟨#[32]⟩ : ByteArray)) ++ (rdOf ByteArray.empty t216 a0_2)) ++ (⟨#[32]⟩ : ByteArray)) ++ t220).size + 1 ≤ 9223372036854775807 then ((cloisterref22_hex.f kj13 a0_4).bind fun t221 => (if (((((((t214 ++ (⟨#[32]⟩ : ByteArray)) ++ t215) ++ (⟨#[32]⟩ : ByteArray)) ++ (rdOf ByteArray.empty t216 a0_2)) ++ (⟨#[32]⟩ : ByteArray)) ++ t220) ++ (⟨#[32]⟩ : ByteArray)).size + t221.size ≤ 9223372036854775807 then (if ((((((((t214 ++ (⟨#[32]⟩ : ByteArray)) ++ t215) ++ (⟨#[32]⟩ : ByteArray)) ++ (rdOf ByteArray.empty t216 a0_2)) ++ (⟨#[32]⟩ : ByteArray)) ++ t220) ++ (⟨#[32]⟩ : ByteArray)) ++ t221).size + 1 ≤ 9223372036854775807 then ((cloisterref22_hex.f kj13 a0_5).bind fun t222 => (if (((((((((t214 ++ (⟨#[32]⟩ : ByteArray)) ++ t215) ++ (⟨#[32]⟩ : ByteArray)) ++ (rdOf ByteArray.empty t216 a0_2)) ++ (⟨#[32]⟩ : ByteArray)) ++ t220) ++ (⟨#[32]⟩ : ByteArray)) ++ t221) ++ (⟨#[32]⟩ : ByteArray)).size + t222.size ≤ 9223372036854775807 then (some ((((((((((t214 ++ (⟨#[32]⟩ : ByteArray)) ++ t215) ++ (⟨#[32]⟩ : ByteArray)) ++ (rdOf ByteArray.empty t216 a0_2)) ++ (⟨#[32]⟩ : ByteArray)) ++ t220) ++ (⟨#[32]⟩ : ByteArray)) ++ t221) ++ (⟨#[32]⟩ : ByteArray)) ++ t222)) else (none))) else (none)) else (none))) else (none)) = some r := by rw [if_pos rfl] at H; exact H
                        clear H
                        have H := H1
                        clear H1
                        by_cases c22 : ((((((t214 ++ (⟨#[32]⟩ : ByteArray)) ++ t215) ++ (⟨#[32]⟩ : ByteArray)) ++ (rdOf ByteArray.empty t216 a0_2)) ++ (⟨#[32]⟩ : ByteArray)) ++ t220).size + 1 ≤ 9223372036854775807
                        · rw [if_pos c22] at H
                          have c22b0 := eq_true c22
                          have c22b1 : decide (((((((t214 ++ (⟨#[32]⟩ : ByteArray)) ++ t215) ++ (⟨#[32]⟩ : ByteArray)) ++ (rdOf ByteArray.empty t216 a0_2)) ++ (⟨#[32]⟩ : ByteArray)) ++ t220).size + 1 ≤ 9223372036854775807) = true := decide_eq_true c22
                          try have c22b2 : (9223372036854775807 < ((((((t214 ++ (⟨#[32]⟩ : ByteArray)) ++ t215) ++ (⟨#[32]⟩ : ByteArray)) ++ (rdOf ByteArray.empty t216 a0_2)) ++ (⟨#[32]⟩ : ByteArray)) ++ t220).size + 1) = False := eq_false (Nat.not_lt.2 c22)
                          try have c22b3 := c22b2
                          try simp only [ByteArray.size_append, show (⟨#[32]⟩ : ByteArray).size = 1 from rfl, show (⟨#[10]⟩ : ByteArray).size = 1 from rfl] at c22b3
                          replace H := Option.bind_eq_some_iff.mp H
                          obtain ⟨t221, A230, H⟩ := H
                          replace H : (if (((((((t214 ++ (⟨#[32]⟩ : ByteArray)) ++ t215) ++ (⟨#[32]⟩ : ByteArray)) ++ (rdOf ByteArray.empty t216 a0_2)) ++ (⟨#[32]⟩ : ByteArray)) ++ t220) ++ (⟨#[32]⟩ : ByteArray)).size + t221.size ≤ 9223372036854775807 then (if ((((((((t214 ++ (⟨#[32]⟩ : ByteArray)) ++ t215) ++ (⟨#[32]⟩ : ByteArray)) ++ (rdOf ByteArray.empty t216 a0_2)) ++ (⟨#[32]⟩ : ByteArray)) ++ t220) ++ (⟨#[32]⟩ : ByteArray)) ++ t221).size + 1 ≤ 9223372036854775807 then ((cloisterref22_hex.f kj13 a0_5).bind fun t222 => (if (((((((((t214 ++ (⟨#[32]⟩ : ByteArray)) ++ t215) ++ (⟨#[32]⟩ : ByteArray)) ++ (rdOf ByteArray.empty t216 a0_2)) ++ (⟨#[32]⟩ : ByteArray)) ++ t220) ++ (⟨#[32]⟩ : ByteArray)) ++ t221) ++ (⟨#[32]⟩ : ByteArray)).size + t222.size ≤ 9223372036854775807 then (some ((((((((((t214 ++ (⟨#[32]⟩ : ByteArray)) ++ t215) ++ (⟨#[32]⟩ : ByteArray)) ++ (rdOf ByteArray.empty t216 a0_2)) ++ (⟨#[32]⟩ : ByteArray)) ++ t220) ++ (⟨#[32]⟩ : ByteArray)) ++ t221) ++ (⟨#[32]⟩ : ByteArray)) ++ t222)) else (none))) else (none)) else (none)) = some r := H
                          have A23 := Aside0.mk A230
                          clear A230
                          by_cases c24 : (((((((t214 ++ (⟨#[32]⟩ : ByteArray)) ++ t215) ++ (⟨#[32]⟩ : ByteArray)) ++ (rdOf ByteArray.empty t216 a0_2)) ++ (⟨#[32]⟩ : ByteArray)) ++ t220) ++ (⟨#[32]⟩ : ByteArray)).size + t221.size ≤ 9223372036854775807
                          · rw [if_pos c24] at H
                            have c24b0 := eq_true c24
                            have c24b1 : decide ((((((((t214 ++ (⟨#[32]⟩ : ByteArray)) ++ t215) ++ (⟨#[32]⟩ : ByteArray)) ++ (rdOf ByteArray.empty t216 a0_2)) ++ (⟨#[32]⟩ : ByteArray)) ++ t220) ++ (⟨#[32]⟩ : ByteArray)).size + t221.size ≤ 9223372036854775807) = true := decide_eq_true c24
                            try have c24b2 : (9223372036854775807 < (((((((t214 ++ (⟨#[32]⟩ : ByteArray)) ++ t215) ++ (⟨#[32]⟩ : ByteArray)) ++ (rdOf ByteArray.empty t216 a0_2)) ++ (⟨#[32]⟩ : ByteArray)) ++ t220) ++ (⟨#[32]⟩ : ByteArray)).size + t221.size) = False := eq_false (Nat.not_lt.2 c24)
                            try have c24b3 := c24b2
                            try simp only [ByteArray.size_append, show (⟨#[32]⟩ : ByteArray).size = 1 from rfl, show (⟨#[10]⟩ : ByteArray).size = 1 from rfl] at c24b3
                            by_cases c25 : ((((((((t214 ++ (⟨#[32]⟩ : ByteArray)) ++ t215) ++ (⟨#[32]⟩ : ByteArray)) ++ (rdOf ByteArray.empty t216 a0_2)) ++ (⟨#[32]⟩ : ByteArray)) ++ t220) ++ (⟨#[32]⟩ : ByteArray)) ++ t221).size + 1 ≤ 9223372036854775807
                            · rw [if_pos c25] at H
                              have c25b0 := eq_true c25
                              have c25b1 : decide (((((((((t214 ++ (⟨#[32]⟩ : ByteArray)) ++ t215) ++ (⟨#[32]⟩ : ByteArray)) ++ (rdOf ByteArray.empty t216 a0_2)) ++ (⟨#[32]⟩ : ByteArray)) ++ t220) ++ (⟨#[32]⟩ : ByteArray)) ++ t221).size + 1 ≤ 9223372036854775807) = true := decide_eq_true c25
                              try have c25b2 : (9223372036854775807 < ((((((((t214 ++ (⟨#[32]⟩ : ByteArray)) ++ t215) ++ (⟨#[32]⟩ : ByteArray)) ++ (rdOf ByteArray.empty t216 a0_2)) ++ (⟨#[32]⟩ : ByteArray)) ++ t220) ++ (⟨#[32]⟩ : ByteArray)) ++ t221).size + 1) = False := eq_false (Nat.not_lt.2 c25)
                              try have c25b3 := c25b2
                              try simp only [ByteArray.size_append, show (⟨#[32]⟩ : ByteArray).size = 1 from rfl, show (⟨#[10]⟩ : ByteArray).size = 1 from rfl] at c25b3
                              replace H := Option.bind_eq_some_iff.mp H
                              obtain ⟨t222, A260, H⟩ := H
                              replace H : (if (((((((((t214 ++ (⟨#[32]⟩ : ByteArray)) ++ t215) ++ (⟨#[32]⟩ : ByteArray)) ++ (rdOf ByteArray.empty t216 a0_2)) ++ (⟨#[32]⟩ : ByteArray)) ++ t220) ++ (⟨#[32]⟩ : ByteArray)) ++ t221) ++ (⟨#[32]⟩ : ByteArray)).size + t222.size ≤ 9223372036854775807 then (some ((((((((((t214 ++ (⟨#[32]⟩ : ByteArray)) ++ t215) ++ (⟨#[32]⟩ : ByteArray)) ++ (rdOf ByteArray.empty t216 a0_2)) ++ (⟨#[32]⟩ : ByteArray)) ++ t220) ++ (⟨#[32]⟩ : ByteArray)) ++ t221) ++ (⟨#[32]⟩ : ByteArray)) ++ t222)) else (none)) = some r := H
                              have A26 := Aside0.mk A260
                              clear A260
                              by_cases c27 : (((((((((t214 ++ (⟨#[32]⟩ : ByteArray)) ++ t215) ++ (⟨#[32]⟩ : ByteArray)) ++ (rdOf ByteArray.empty t216 a0_2)) ++ (⟨#[32]⟩ : ByteArray)) ++ t220) ++ (⟨#[32]⟩ : ByteArray)) ++ t221) ++ (⟨#[32]⟩ : ByteArray)).size + t222.size ≤ 9223372036854775807
                              · rw [if_pos c27] at H
                                have c27b0 := eq_true c27
                                have c27b1 : decide ((((((((((t214 ++ (⟨#[32]⟩ : ByteArray)) ++ t215) ++ (⟨#[32]⟩ : ByteArray)) ++ (rdOf ByteArray.empty t216 a0_2)) ++ (⟨#[32]⟩ : ByteArray)) ++ t220) ++ (⟨#[32]⟩ : ByteArray)) ++ t221) ++ (⟨#[32]⟩ : ByteArray)).size + t222.size ≤ 9223372036854775807) = true := decide_eq_true c27
                                try have c27b2 : (9223372036854775807 < (((((((((t214 ++ (⟨#[32]⟩ : ByteArray)) ++ t215) ++ (⟨#[32]⟩ : ByteArray)) ++ (rdOf ByteArray.empty t216 a0_2)) ++ (⟨#[32]⟩ : ByteArray)) ++ t220) ++ (⟨#[32]⟩ : ByteArray)) ++ t221) ++ (⟨#[32]⟩ : ByteArray)).size + t222.size) = False := eq_false (Nat.not_lt.2 c27)
                                try have c27b3 := c27b2
                                try simp only [ByteArray.size_append, show (⟨#[32]⟩ : ByteArray).size = 1 from rfl, show (⟨#[10]⟩ : ByteArray).size = 1 from rfl] at c27b3
                                obtain rfl := Option.some.inj H
                                try go_wp2
                                have n0_ := Aside0.mk (blk_drew BK213.out)
                                have n1_ := Aside0.mk (below_drew1 HB.out)
                                clear BK213
                                clear HB
                                have BK213 := n0_
                                have HB := n1_
                                clear n0_ n1_
                                refine start_ (n := 12) (S := fun w' => w'.cell? ⟨gb213, 0, none⟩ = some (.int .u64 a0_0) ∧ w'.cell? ⟨gb213, 1, none⟩ = some (.int .i64 a0_1) ∧ w'.cell? ⟨gb213, 2, none⟩ = some (.int .i64 a0_2) ∧ w'.cell? ⟨gb213, 3, none⟩ = some (.int .u32 a0_3) ∧ w'.cell? ⟨gb213, 4, none⟩ = some (.int .u32 a0_4) ∧ w'.cell? ⟨gb213, 5, none⟩ = some (.int .u32 a0_5)) (ds := []) #[false, false, false, false, false, false, false, false, false, false, false, false] (by kernel_rfl) rfl rfl ⟨(blk_cell BK213.out 0).trans rfl, (blk_cell BK213.out 1).trans rfl, (blk_cell BK213.out 2).trans rfl, (blk_cell BK213.out 3).trans rfl, (blk_cell BK213.out 4).trans rfl, (blk_cell BK213.out 5).trans rfl⟩ (fun hHeld => ?_); refine with_tabW cloisterref22_line.tab5 cloisterref22_line.bits5 (fun HT_ HW_ => ?_)
                                generalize wc.drew = w28 at BK213 HB hHeld ⊢
                                refine pure_ (i := 0) (N := some 30) (v := ?_) (a' := ?_) #[true, false, false, false, false, false, false, false, false, false, false, false] rfl rfl (any_of HT_.out (by kernel_rfl)) (fun _ _ _ h => h) (Or.inl ⟨by rfl, ?_⟩) ?_ ?_
                                rotate_left
                                · intro w'
                                  go_simp
                                  with_reducible rfl
                                rotate_left
                                · simp only [Act.put, List.setIfInBounds_toArray, List.set_cons_zero, List.set_cons_succ, i64_w, i32_w]
                                  rfl
                                refine pure_ (i := 1) (N := some 31) (v := ?_) (a' := ?_) #[true, true, false, false, false, false, false, false, false, false, false, false] rfl rfl (any_of HT_.out (by kernel_rfl)) (fun _ _ _ h => h) (Or.inl ⟨by rfl, ?_⟩) ?_ ?_
                                rotate_left
                                · intro w'
                                  go_simp
                                  with_reducible rfl
                                rotate_left
                                · simp only [Act.put, List.setIfInBounds_toArray, List.set_cons_zero, List.set_cons_succ, i64_w, i32_w]
                                  rfl
                                refine pure_ (i := 2) (N := some 32) (v := ?_) (a' := ?_) #[true, true, true, false, false, false, false, false, false, false, false, false] rfl rfl (any_of HT_.out (by kernel_rfl)) (fun _ _ _ h => h) (Or.inl ⟨by rfl, ?_⟩) ?_ ?_
                                rotate_left
                                · intro w'
                                  go_simp
                                  with_reducible rfl
                                rotate_left
                                · simp only [Act.put, List.setIfInBounds_toArray, List.set_cons_zero, List.set_cons_succ, i64_w, i32_w]
                                  rfl
                                refine pure_ (i := 7) (N := some 37) (v := ?_) (a' := ?_) #[true, true, true, false, false, false, false, true, false, false, false, false] rfl rfl (any_of HT_.out (by kernel_rfl)) (fun _ _ _ h => h) (Or.inl ⟨by rfl, ?_⟩) ?_ ?_
                                rotate_left
                                · intro w'
                                  go_simp
                                  with_reducible rfl
                                rotate_left
                                · simp only [Act.put, List.setIfInBounds_toArray, List.set_cons_zero, List.set_cons_succ, i64_w, i32_w]
                                  rfl
                                refine take_ (i := 3) (N := some 33) (v := ?_) (a' := ?_) #[true, true, true, true, false, false, false, true, false, false, false, false] rfl rfl (take_ofW HT_.out HW_.out (by kernel_rfl)) (fun _ _ _ h => h) (Or.inl ⟨by rfl, ?_⟩) hHeld ?_ ?_
                                rotate_left
                                · rintro w' ⟨s0, s1, s2, s3, s4, s5⟩
                                  go_simp
                                  with_reducible rfl
                                rotate_left
                                · simp only [Act.put, List.setIfInBounds_toArray, List.set_cons_zero, List.set_cons_succ, i64_w, i32_w]
                                  rfl
                                refine take_ (i := 8) (N := some 38) (v := ?_) (a' := ?_) #[true, true, true, true, false, false, false, true, true, false, false, false] rfl rfl (take_ofW HT_.out HW_.out (by kernel_rfl)) (fun _ _ _ h => h) (Or.inl ⟨by rfl, ?_⟩) hHeld ?_ ?_
                                rotate_left
                                · rintro w' ⟨s0, s1, s2, s3, s4, s5⟩
                                  go_simp
                                  with_reducible rfl
                                rotate_left
                                · simp only [Act.put, List.setIfInBounds_toArray, List.set_cons_zero, List.set_cons_succ, i64_w, i32_w]
                                  rfl
                                refine one_ (i := 4) (N := some 34) #[true, true, true, true, true, false, false, true, true, false, false, false] rfl rfl (one_of HT_.out (by kernel_rfl)) (by decide) (fun K hK => ?_)
                                refine goes_ Tryz.func92 (by kernel_rfl) rfl #[.int .u32 a0_4] (by rfl) rfl rfl (by (try simp only [List.map_toArray, List.map_cons, List.map_nil]); first | done | rfl | (simp only [List.length_drop, List.length_take]; rfl)) ?_
                                with_reducible refine (cloisterref22_hex.calls kj13 a0_4 t221 _ A23.out).mono ?_
                                rintro e w' ⟨rfl, ⟨nd, rfl⟩⟩
                                refine ⟨_, rfl, ?_⟩
                                refine hK.out _ _ ⟨(blk_cell BK213.out 0).trans rfl, (blk_cell BK213.out 1).trans rfl, (blk_cell BK213.out 2).trans rfl, (blk_cell BK213.out 3).trans rfl, (blk_cell BK213.out 4).trans rfl, (blk_cell BK213.out 5).trans rfl⟩ (fun hHeld => ?_)
                                clear hK K
                                refine norm_ (a' := ?_) ?_ ?_
                                rotate_left
                                · show Act.put _ (some 34) _ = _
                                  simp only [Act.put, List.setIfInBounds_toArray, List.set_cons_zero, List.set_cons_succ, i64_w, i32_w]
                                  rfl
                                refine pure_ (i := 5) (N := some 35) (v := ?_) (a' := ?_) #[true, true, true, true, true, true, false, true, true, false, false, false] rfl rfl (any_of HT_.out (by kernel_rfl)) (fun _ _ _ h => h) (Or.inl ⟨by rfl, ?_⟩) ?_ ?_
                                rotate_left
                                · intro w'
                                  go_simp
                                  with_reducible rfl
                                rotate_left
                                · simp only [Act.put, List.setIfInBounds_toArray, List.set_cons_zero, List.set_cons_succ, i64_w, i32_w]
                                  rfl
                                refine pure_ (i := 6) (N := some 36) (v := ?_) (a' := ?_) #[true, true, true, true, true, true, true, true, true, false, false, false] rfl rfl (any_of HT_.out (by kernel_rfl)) (fun _ _ _ h => h) (Or.inl ⟨by rfl, ?_⟩) ?_ ?_
                                rotate_left
                                · intro w'
                                  go_simp
                                  with_reducible rfl
                                rotate_left
                                · simp only [Act.put, List.setIfInBounds_toArray, List.set_cons_zero, List.set_cons_succ, i64_w, i32_w]
                                  rfl
                                refine one_ (i := 9) (N := some 39) #[true, true, true, true, true, true, true, true, true, true, false, false] rfl rfl (one_of HT_.out (by kernel_rfl)) (by decide) (fun K hK => ?_)
                                refine goes_ Tryz.func92 (by kernel_rfl) rfl #[.int .u32 a0_5] (by rfl) rfl rfl (by (try simp only [List.map_toArray, List.map_cons, List.map_nil]); first | done | rfl | (simp only [List.length_drop, List.length_take]; rfl)) ?_
                                with_reducible refine (cloisterref22_hex.calls kj13 a0_5 t222 _ A26.out).mono ?_
                                rintro e w' ⟨rfl, ⟨nd, rfl⟩⟩
                                refine ⟨_, rfl, ?_⟩
                                refine hK.out _ _ ⟨(blk_cell BK213.out 0).trans rfl, (blk_cell BK213.out 1).trans rfl, (blk_cell BK213.out 2).trans rfl, (blk_cell BK213.out 3).trans rfl, (blk_cell BK213.out 4).trans rfl, (blk_cell BK213.out 5).trans rfl⟩ (fun hHeld => ?_)
                                clear hK K
                                refine norm_ (a' := ?_) ?_ ?_
                                rotate_left
                                · show Act.put _ (some 39) _ = _
                                  simp only [Act.put, List.setIfInBounds_toArray, List.set_cons_zero, List.set_cons_succ, i64_w, i32_w]
                                  rfl
                                refine pure_ (i := 10) (N := some 40) (v := ?_) (a' := ?_) #[true, true, true, true, true, true, true, true, true, true, true, false] rfl rfl (any_of HT_.out (by kernel_rfl)) (fun _ _ _ h => h) (Or.inl ⟨by rfl, ?_⟩) ?_ ?_
                                rotate_left
                                · intro w'
                                  go_simp
                                  with_reducible rfl
                                rotate_left
                                · simp only [Act.put, List.setIfInBounds_toArray, List.set_cons_zero, List.set_cons_succ, i64_w, i32_w]
                                  rfl
                                refine pure_ (i := 11) (N := some 3) (v := ?_) (a' := ?_) #[true, true, true, true, true, true, true, true, true, true, true, true] rfl rfl (any_of HT_.out (by kernel_rfl)) (fun _ _ _ h => h) (Or.inl ⟨by rfl, ?_⟩) ?_ ?_
                                rotate_left
                                · intro w'
                                  go_simp
                                  with_reducible rfl
                                rotate_left
                                · simp only [Act.put, List.setIfInBounds_toArray, List.set_cons_zero, List.set_cons_succ, i64_w, i32_w]
                                  rfl
                                refine done_ (done_of HT_.out (by kernel_rfl)) ?_
                                try go_wp2
                                go_ret
                                exact ⟨by first | rfl | (simp [errW_none, errW_some] <;> rfl) | (simp [*, errW_none, errW_some] <;> rfl), by repeat (first | (with_reducible first | exact HB.out | apply below_alloc | apply pw_below_drewN | apply below_drew1 | refine below_set ?_ GE213.out) | exact HB.out)⟩
                              · rw [if_neg c27] at H
                                exact absurd H (by simp)
                            · rw [if_neg c25] at H
                              exact absurd H (by simp)
                          · rw [if_neg c24] at H
                            exact absurd H (by simp)
                        · rw [if_neg c22] at H
                          exact absurd H (by simp)
                      · replace c21 := Bool.eq_false_iff.mpr c21
                        subst c21
                        have H1 : (if a0_2 = 3 then (if ((((((t214 ++ (⟨#[32]⟩ : ByteArray)) ++ t215) ++ (⟨#[32]⟩ : ByteArray)) ++ (rdOf ByteArray.empty t216 a0_2)) ++ (⟨#[32]⟩ : ByteArray)) ++ t220).size + 1 ≤ 9223372036854775807 then ((cloisterref22_faults.f).bind fun t223 => (if 0 ≤ a0_4 then (if a0_4 < (t223.length : Int) then (if (((((((t214 ++ (⟨#[32]⟩ : ByteArray)) ++ t215) ++ (⟨#[32]⟩ : ByteArray)) ++ (rdOf ByteArray.empty t216 a0_2)) ++ (⟨#[32]⟩ : ByteArray)) ++ t220) ++ (⟨#[32]⟩ : ByteArray)).size + (rdOf ByteArray.empty t223 a0_4).size ≤ 9223372036854775807 then (if ((((((((t214 ++ (⟨#[32]⟩ : ByteArray)) ++ t215) ++ (⟨#[32]⟩ : ByteArray)) ++ (rdOf ByteArray.empty t216 a0_2)) ++ (⟨#[32]⟩ : ByteArray)) ++ t220) ++ (⟨#[32]⟩ : ByteArray)) ++ (rdOf ByteArray.empty t223 a0_4)).size + 1 ≤ 9223372036854775807 then ((cloisterref22_hex.f kj13 a0_5).bind fun t227 => (if (((((((((t214 ++ (⟨#[32]⟩ : ByteArray)) ++ t215) ++ (⟨#[32]⟩ : ByteArray)) ++ (rdOf ByteArray.empty t216 a0_2)) ++ (⟨#[32]⟩ : ByteArray)) ++ t220) ++ (⟨#[32]⟩ : ByteArray)) ++ (rdOf ByteArray.empty t223 a0_4)) ++ (⟨#[32]⟩ : ByteArray)).size + t227.size ≤ 9223372036854775807 then (some ((((((((((t214 ++ (⟨#[32]⟩ : ByteArray)) ++ t215) ++ (⟨#[32]⟩ : ByteArray)) ++ (rdOf ByteArray.empty t216 a0_2)) ++ (⟨#[32]⟩ : ByteArray)) ++ t220) ++ (⟨#[32]⟩ : ByteArray)) ++ (rdOf ByteArray.empty t223 a0_4)) ++ (⟨#[32]⟩ : ByteArray)) ++ t227)) else (none))) else (none)) else (none)) else (none)) else (none))) else (none)) else (if a0_2 = 4 then (if ((((((t214 ++ (⟨#[32]⟩ : ByteArray)) ++ t215) ++ (⟨#[32]⟩ : ByteArray)) ++ (rdOf ByteArray.empty t216 a0_2)) ++ (⟨#[32]⟩ : ByteArray)) ++ t220).size + 1 ≤ 9223372036854775807 then ((cloisterref22_decimal.f kj13 (IntKind.u64.wrap (a0_4))).bind fun t228 => (if (((((((t214 ++ (⟨#[32]⟩ : ByteArray)) ++ t215) ++ (⟨#[32]⟩ : ByteArray)) ++ (rdOf ByteArray.empty t216 a0_2)) ++ (⟨#[32]⟩ : ByteArray)) ++ t220) ++ (⟨#[32]⟩ : ByteArray)).size + t228.size ≤ 9223372036854775807 then (some ((((((((t214 ++ (⟨#[32]⟩ : ByteArray)) ++ t215) ++ (⟨#[32]⟩ : ByteArray)) ++ (rdOf ByteArray.empty t216 a0_2)) ++ (⟨#[32]⟩ : ByteArray)) ++ t220) ++ (⟨#[32]⟩ : ByteArray)) ++ t228)) else (none))) else (none)) else (if a0_2 = 5 then (if ((((((t214 ++ (⟨#[32]⟩ : ByteArray)) ++ t215) ++ (⟨#[32]⟩ : ByteArray)) ++ (rdOf ByteArray.empty t216 a0_2)) ++ (⟨#[32]⟩ : ByteArray)) ++ t220).size + 1 ≤ 9223372036854775807 then ((cloisterref22_hex.f kj13 a0_5).bind fun t229 => (if (((((((t214 ++ (⟨#[32]⟩ : ByteArray)) ++ t215) ++ (⟨#[32]⟩ : ByteArray)) ++ (rdOf ByteArray.empty t216 a0_2)) ++ (⟨#[32]⟩ : ByteArray)) ++ t220) ++ (⟨#[32]⟩ : ByteArray)).size + t229.size ≤ 9223372036854775807 then ((cloisterref22_hex.f kj13 a0_4).bind fun t230 => (if ((((((((t214 ++ (⟨#[32]⟩ : ByteArray)) ++ t215) ++ (⟨#[32]⟩ : ByteArray)) ++ (rdOf ByteArray.empty t216 a0_2)) ++ (⟨#[32]⟩ : ByteArray)) ++ t220) ++ (⟨#[32]⟩ : ByteArray)) ++ t229).size + t230.size ≤ 9223372036854775807 then (some (((((((((t214 ++ (⟨#[32]⟩ : ByteArray)) ++ t215) ++ (⟨#[32]⟩ : ByteArray)) ++ (rdOf ByteArray.empty t216 a0_2)) ++ (⟨#[32]⟩ : ByteArray)) ++ t220) ++ (⟨#[32]⟩ : ByteArray)) ++ t229) ++ t230)) else (none))) else (none))) else (none)) else (if a0_2 = 7 then (if ((((((t214 ++ (⟨#[32]⟩ : ByteArray)) ++ t215) ++ (⟨#[32]⟩ : ByteArray)) ++ (rdOf ByteArray.empty t216 a0_2)) ++ (⟨#[32]⟩ : ByteArray)) ++ t220).size + 1 ≤ 9223372036854775807 then ((cloisterref22_hex.f kj13 a0_4).bind fun t231 => (if (((((((t214 ++ (⟨#[32]⟩ : ByteArray)) ++ t215) ++ (⟨#[32]⟩ : ByteArray)) ++ (rdOf ByteArray.empty t216 a0_2)) ++ (⟨#[32]⟩ : ByteArray)) ++ t220) ++ (⟨#[32]⟩ : ByteArray)).size + t231.size ≤ 9223372036854775807 then (some ((((((((t214 ++ (⟨#[32]⟩ : ByteArray)) ++ t215) ++ (⟨#[32]⟩ : ByteArray)) ++ (rdOf ByteArray.empty t216 a0_2)) ++ (⟨#[32]⟩ : ByteArray)) ++ t220) ++ (⟨#[32]⟩ : ByteArray)) ++ t231)) else (none))) else (none)) else (some ((((((t214 ++ (⟨#[32]⟩ : ByteArray)) ++ t215) ++ (⟨#[32]⟩ : ByteArray)) ++ (rdOf ByteArray.empty t216 a0_2)) ++ (⟨#[32]⟩ : ByteArray)) ++ t220)))))) = some r := by rw [if_neg (show ¬ (false = true) by decide)] at H; exact H
                        clear H
                        have H := H1
                        clear H1
                        by_cases c29 : a0_2 = 3
                        · rw [if_pos c29] at H
                          have c29b0 : (a0_2 == 3) = true := beq_iff_eq.mpr c29
                          have c29b1 : (a0_2 != 3) = false := bne_eq_false_iff_eq.mpr c29
                          clear c29
                          by_cases c30 : ((((((t214 ++ (⟨#[32]⟩ : ByteArray)) ++ t215) ++ (⟨#[32]⟩ : ByteArray)) ++ (rdOf ByteArray.empty t216 a0_2)) ++ (⟨#[32]⟩ : ByteArray)) ++ t220).size + 1 ≤ 9223372036854775807
                          · rw [if_pos c30] at H
                            have c30b0 := eq_true c30
                            have c30b1 : decide (((((((t214 ++ (⟨#[32]⟩ : ByteArray)) ++ t215) ++ (⟨#[32]⟩ : ByteArray)) ++ (rdOf ByteArray.empty t216 a0_2)) ++ (⟨#[32]⟩ : ByteArray)) ++ t220).size + 1 ≤ 9223372036854775807) = true := decide_eq_true c30
                            try have c30b2 : (9223372036854775807 < ((((((t214 ++ (⟨#[32]⟩ : ByteArray)) ++ t215) ++ (⟨#[32]⟩ : ByteArray)) ++ (rdOf ByteArray.empty t216 a0_2)) ++ (⟨#[32]⟩ : ByteArray)) ++ t220).size + 1) = False := eq_false (Nat.not_lt.2 c30)
                            try have c30b3 := c30b2
                            try simp only [ByteArray.size_append, show (⟨#[32]⟩ : ByteArray).size = 1 from rfl, show (⟨#[10]⟩ : ByteArray).size = 1 from rfl] at c30b3
                            replace H := Option.bind_eq_some_iff.mp H
                            obtain ⟨t223, A310, H⟩ := H
                            replace H : (if 0 ≤ a0_4 then (if a0_4 < (t223.length : Int) then (if (((((((t214 ++ (⟨#[32]⟩ : ByteArray)) ++ t215) ++ (⟨#[32]⟩ : ByteArray)) ++ (rdOf ByteArray.empty t216 a0_2)) ++ (⟨#[32]⟩ : ByteArray)) ++ t220) ++ (⟨#[32]⟩ : ByteArray)).size + (rdOf ByteArray.empty t223 a0_4).size ≤ 9223372036854775807 then (if ((((((((t214 ++ (⟨#[32]⟩ : ByteArray)) ++ t215) ++ (⟨#[32]⟩ : ByteArray)) ++ (rdOf ByteArray.empty t216 a0_2)) ++ (⟨#[32]⟩ : ByteArray)) ++ t220) ++ (⟨#[32]⟩ : ByteArray)) ++ (rdOf ByteArray.empty t223 a0_4)).size + 1 ≤ 9223372036854775807 then ((cloisterref22_hex.f kj13 a0_5).bind fun t227 => (if (((((((((t214 ++ (⟨#[32]⟩ : ByteArray)) ++ t215) ++ (⟨#[32]⟩ : ByteArray)) ++ (rdOf ByteArray.empty t216 a0_2)) ++ (⟨#[32]⟩ : ByteArray)) ++ t220) ++ (⟨#[32]⟩ : ByteArray)) ++ (rdOf ByteArray.empty t223 a0_4)) ++ (⟨#[32]⟩ : ByteArray)).size + t227.size ≤ 9223372036854775807 then (some ((((((((((t214 ++ (⟨#[32]⟩ : ByteArray)) ++ t215) ++ (⟨#[32]⟩ : ByteArray)) ++ (rdOf ByteArray.empty t216 a0_2)) ++ (⟨#[32]⟩ : ByteArray)) ++ t220) ++ (⟨#[32]⟩ : ByteArray)) ++ (rdOf ByteArray.empty t223 a0_4)) ++ (⟨#[32]⟩ : ByteArray)) ++ t227)) else (none))) else (none)) else (none)) else (none)) else (none)) = some r := H
                            have A31 := Aside0.mk A310
                            clear A310
                            by_cases c32 : 0 ≤ a0_4
                            · rw [if_pos c32] at H
                              have c32b0 : decide (0 ≤ a0_4) = true := decide_eq_true c32
                              clear c32
                              by_cases c33 : a0_4 < (t223.length : Int)
                              · rw [if_pos c33] at H
                                have c33b0 : decide (a0_4 < (t223.length : Int)) = true := decide_eq_true c33
                                clear c33
                                by_cases c34 : (((((((t214 ++ (⟨#[32]⟩ : ByteArray)) ++ t215) ++ (⟨#[32]⟩ : ByteArray)) ++ (rdOf ByteArray.empty t216 a0_2)) ++ (⟨#[32]⟩ : ByteArray)) ++ t220) ++ (⟨#[32]⟩ : ByteArray)).size + (rdOf ByteArray.empty t223 a0_4).size ≤ 9223372036854775807
                                · rw [if_pos c34] at H
                                  have c34b0 := eq_true c34
                                  have c34b1 : decide ((((((((t214 ++ (⟨#[32]⟩ : ByteArray)) ++ t215) ++ (⟨#[32]⟩ : ByteArray)) ++ (rdOf ByteArray.empty t216 a0_2)) ++ (⟨#[32]⟩ : ByteArray)) ++ t220) ++ (⟨#[32]⟩ : ByteArray)).size + (rdOf ByteArray.empty t223 a0_4).size ≤ 9223372036854775807) = true := decide_eq_true c34
                                  try have c34b2 : (9223372036854775807 < (((((((t214 ++ (⟨#[32]⟩ : ByteArray)) ++ t215) ++ (⟨#[32]⟩ : ByteArray)) ++ (rdOf ByteArray.empty t216 a0_2)) ++ (⟨#[32]⟩ : ByteArray)) ++ t220) ++ (⟨#[32]⟩ : ByteArray)).size + (rdOf ByteArray.empty t223 a0_4).size) = False := eq_false (Nat.not_lt.2 c34)
                                  try have c34b3 := c34b2
                                  try simp only [ByteArray.size_append, show (⟨#[32]⟩ : ByteArray).size = 1 from rfl, show (⟨#[10]⟩ : ByteArray).size = 1 from rfl] at c34b3
                                  by_cases c35 : ((((((((t214 ++ (⟨#[32]⟩ : ByteArray)) ++ t215) ++ (⟨#[32]⟩ : ByteArray)) ++ (rdOf ByteArray.empty t216 a0_2)) ++ (⟨#[32]⟩ : ByteArray)) ++ t220) ++ (⟨#[32]⟩ : ByteArray)) ++ (rdOf ByteArray.empty t223 a0_4)).size + 1 ≤ 9223372036854775807
                                  · rw [if_pos c35] at H
                                    have c35b0 := eq_true c35
                                    have c35b1 : decide (((((((((t214 ++ (⟨#[32]⟩ : ByteArray)) ++ t215) ++ (⟨#[32]⟩ : ByteArray)) ++ (rdOf ByteArray.empty t216 a0_2)) ++ (⟨#[32]⟩ : ByteArray)) ++ t220) ++ (⟨#[32]⟩ : ByteArray)) ++ (rdOf ByteArray.empty t223 a0_4)).size + 1 ≤ 9223372036854775807) = true := decide_eq_true c35
                                    try have c35b2 : (9223372036854775807 < ((((((((t214 ++ (⟨#[32]⟩ : ByteArray)) ++ t215) ++ (⟨#[32]⟩ : ByteArray)) ++ (rdOf ByteArray.empty t216 a0_2)) ++ (⟨#[32]⟩ : ByteArray)) ++ t220) ++ (⟨#[32]⟩ : ByteArray)) ++ (rdOf ByteArray.empty t223 a0_4)).size + 1) = False := eq_false (Nat.not_lt.2 c35)
                                    try have c35b3 := c35b2
                                    try simp only [ByteArray.size_append, show (⟨#[32]⟩ : ByteArray).size = 1 from rfl, show (⟨#[10]⟩ : ByteArray).size = 1 from rfl] at c35b3
                                    replace H := Option.bind_eq_some_iff.mp H
                                    obtain ⟨t227, A360, H⟩ := H
                                    replace H : (if (((((((((t214 ++ (⟨#[32]⟩ : ByteArray)) ++ t215) ++ (⟨#[32]⟩ : ByteArray)) ++ (rdOf ByteArray.empty t216 a0_2)) ++ (⟨#[32]⟩ : ByteArray)) ++ t220) ++ (⟨#[32]⟩ : ByteArray)) ++ (rdOf ByteArray.empty t223 a0_4)) ++ (⟨#[32]⟩ : ByteArray)).size + t227.size ≤ 9223372036854775807 then (some ((((((((((t214 ++ (⟨#[32]⟩ : ByteArray)) ++ t215) ++ (⟨#[32]⟩ : ByteArray)) ++ (rdOf ByteArray.empty t216 a0_2)) ++ (⟨#[32]⟩ : ByteArray)) ++ t220) ++ (⟨#[32]⟩ : ByteArray)) ++ (rdOf ByteArray.empty t223 a0_4)) ++ (⟨#[32]⟩ : ByteArray)) ++ t227)) else (none)) = some r := H
                                    have A36 := Aside0.mk A360
                                    clear A360
                                    by_cases c37 : (((((((((t214 ++ (⟨#[32]⟩ : ByteArray)) ++ t215) ++ (⟨#[32]⟩ : ByteArray)) ++ (rdOf ByteArray.empty t216 a0_2)) ++ (⟨#[32]⟩ : ByteArray)) ++ t220) ++ (⟨#[32]⟩ : ByteArray)) ++ (rdOf ByteArray.empty t223 a0_4)) ++ (⟨#[32]⟩ : ByteArray)).size + t227.size ≤ 9223372036854775807
                                    · rw [if_pos c37] at H
                                      have c37b0 := eq_true c37
                                      have c37b1 : decide ((((((((((t214 ++ (⟨#[32]⟩ : ByteArray)) ++ t215) ++ (⟨#[32]⟩ : ByteArray)) ++ (rdOf ByteArray.empty t216 a0_2)) ++ (⟨#[32]⟩ : ByteArray)) ++ t220) ++ (⟨#[32]⟩ : ByteArray)) ++ (rdOf ByteArray.empty t223 a0_4)) ++ (⟨#[32]⟩ : ByteArray)).size + t227.size ≤ 9223372036854775807) = true := decide_eq_true c37
                                      try have c37b2 : (9223372036854775807 < (((((((((t214 ++ (⟨#[32]⟩ : ByteArray)) ++ t215) ++ (⟨#[32]⟩ : ByteArray)) ++ (rdOf ByteArray.empty t216 a0_2)) ++ (⟨#[32]⟩ : ByteArray)) ++ t220) ++ (⟨#[32]⟩ : ByteArray)) ++ (rdOf ByteArray.empty t223 a0_4)) ++ (⟨#[32]⟩ : ByteArray)).size + t227.size) = False := eq_false (Nat.not_lt.2 c37)
                                      try have c37b3 := c37b2
                                      try simp only [ByteArray.size_append, show (⟨#[32]⟩ : ByteArray).size = 1 from rfl, show (⟨#[10]⟩ : ByteArray).size = 1 from rfl] at c37b3
                                      obtain rfl := Option.some.inj H
                                      try go_wp2
                                      have n0_ := Aside0.mk (blk_drew BK213.out)
                                      have n1_ := Aside0.mk (below_drew1 HB.out)
                                      clear BK213
                                      clear HB
                                      have BK213 := n0_
                                      have HB := n1_
                                      clear n0_ n1_
                                      refine start_ (n := 14) (S := fun w' => w'.cell? ⟨gb213, 0, none⟩ = some (.int .u64 a0_0) ∧ w'.cell? ⟨gb213, 1, none⟩ = some (.int .i64 a0_1) ∧ w'.cell? ⟨gb213, 2, none⟩ = some (.int .i64 a0_2) ∧ w'.cell? ⟨gb213, 3, none⟩ = some (.int .u32 a0_3) ∧ w'.cell? ⟨gb213, 4, none⟩ = some (.int .u32 a0_4) ∧ w'.cell? ⟨gb213, 5, none⟩ = some (.int .u32 a0_5)) (ds := []) #[false, false, false, false, false, false, false, false, false, false, false, false, false, false] (by kernel_rfl) rfl rfl ⟨(blk_cell BK213.out 0).trans rfl, (blk_cell BK213.out 1).trans rfl, (blk_cell BK213.out 2).trans rfl, (blk_cell BK213.out 3).trans rfl, (blk_cell BK213.out 4).trans rfl, (blk_cell BK213.out 5).trans rfl⟩ (fun hHeld => ?_); refine with_tabW cloisterref22_line.tab7 cloisterref22_line.bits7 (fun HT_ HW_ => ?_)
                                      generalize wc.drew = w38 at BK213 HB hHeld ⊢
                                      refine pure_ (i := 0) (N := some 43) (v := ?_) (a' := ?_) #[true, false, false, false, false, false, false, false, false, false, false, false, false, false] rfl rfl (any_of HT_.out (by kernel_rfl)) (fun _ _ _ h => h) (Or.inl ⟨by rfl, ?_⟩) ?_ ?_
                                      rotate_left
                                      · intro w'
                                        go_simp
                                        with_reducible rfl
                                      rotate_left
                                      · simp only [Act.put, List.setIfInBounds_toArray, List.set_cons_zero, List.set_cons_succ, i64_w, i32_w]
                                        rfl
                                      refine pure_ (i := 1) (N := some 44) (v := ?_) (a' := ?_) #[true, true, false, false, false, false, false, false, false, false, false, false, false, false] rfl rfl (any_of HT_.out (by kernel_rfl)) (fun _ _ _ h => h) (Or.inl ⟨by rfl, ?_⟩) ?_ ?_
                                      rotate_left
                                      · intro w'
                                        go_simp
                                        with_reducible rfl
                                      rotate_left
                                      · simp only [Act.put, List.setIfInBounds_toArray, List.set_cons_zero, List.set_cons_succ, i64_w, i32_w]
                                        rfl
                                      refine pure_ (i := 3) (N := some 46) (v := ?_) (a' := ?_) #[true, true, false, true, false, false, false, false, false, false, false, false, false, false] rfl rfl (any_of HT_.out (by kernel_rfl)) (fun _ _ _ h => h) (Or.inl ⟨by rfl, ?_⟩) ?_ ?_
                                      rotate_left
                                      · intro w'
                                        go_simp
                                        with_reducible rfl
                                      rotate_left
                                      · simp only [Act.put, List.setIfInBounds_toArray, List.set_cons_zero, List.set_cons_succ, i64_w, i32_w]
                                        rfl
                                      refine pure_ (i := 9) (N := some 52) (v := ?_) (a' := ?_) #[true, true, false, true, false, false, false, false, false, true, false, false, false, false] rfl rfl (any_of HT_.out (by kernel_rfl)) (fun _ _ _ h => h) (Or.inl ⟨by rfl, ?_⟩) ?_ ?_
                                      rotate_left
                                      · intro w'
                                        go_simp
                                        with_reducible rfl
                                      rotate_left
                                      · simp only [Act.put, List.setIfInBounds_toArray, List.set_cons_zero, List.set_cons_succ, i64_w, i32_w]
                                        rfl
                                      refine take_ (i := 4) (N := some 47) (v := ?_) (a' := ?_) #[true, true, false, true, true, false, false, false, false, true, false, false, false, false] rfl rfl (take_ofW HT_.out HW_.out (by kernel_rfl)) (fun _ _ _ h => h) (Or.inl ⟨by rfl, ?_⟩) hHeld ?_ ?_
                                      rotate_left
                                      · rintro w' ⟨s0, s1, s2, s3, s4, s5⟩
                                        go_simp
                                        with_reducible rfl
                                      rotate_left
                                      · simp only [Act.put, List.setIfInBounds_toArray, List.set_cons_zero, List.set_cons_succ, i64_w, i32_w]
                                        rfl
                                      refine take_ (i := 10) (N := some 53) (v := ?_) (a' := ?_) #[true, true, false, true, true, false, false, false, false, true, true, false, false, false] rfl rfl (take_ofW HT_.out HW_.out (by kernel_rfl)) (fun _ _ _ h => h) (Or.inl ⟨by rfl, ?_⟩) hHeld ?_ ?_
                                      rotate_left
                                      · rintro w' ⟨s0, s1, s2, s3, s4, s5⟩
                                        go_simp
                                        with_reducible rfl
                                      rotate_left
                                      · simp only [Act.put, List.setIfInBounds_toArray, List.set_cons_zero, List.set_cons_succ, i64_w, i32_w]
                                        rfl
                                      refine one_ (i := 2) (N := some 45) #[true, true, true, true, true, false, false, false, false, true, true, false, false, false] rfl rfl (one_of HT_.out (by kernel_rfl)) (by decide) (fun K hK => ?_)
                                      refine goes_ Tryz.func93 (by kernel_rfl) rfl #[] (by rfl) rfl rfl (by (try simp only [List.map_toArray, List.map_cons, List.map_nil]); first | done | rfl | (simp only [List.length_drop, List.length_take]; rfl)) ?_
                                      with_reducible refine (cloisterref22_faults.calls  t223 _ A31.out).mono ?_
                                      rintro e w39 ⟨v224, rfl, ho0, hb⟩
                                      refine ⟨_, rfl, ?_⟩
                                      have n0_ := Aside0.mk (Kd.R_lower ho0 (below_size (by repeat (first | (with_reducible first | exact HB.out | apply below_alloc | apply pw_below_drewN | apply below_drew1 | refine below_set ?_ GE213.out) | exact HB.out))))
                                      have n1_ := Aside0.mk (blk_below (g := gb213) (o := .cells #[.int .u64 a0_0, .int .i64 a0_1, .int .i64 a0_2, .int .u32 a0_3, .int .u32 a0_4, .int .u32 a0_5] 35 (0, 0)) (by (with_reducible repeat (first | refine blk_drewN ?_ _ | refine blk_drew ?_ | refine blk_alloc ?_ _)); exact BK213.out) hb)
                                      have n2_ := Aside0.mk (below_step (by repeat (first | (with_reducible first | exact HB.out | apply below_alloc | apply pw_below_drewN | apply below_drew1 | refine below_set ?_ GE213.out) | exact HB.out)) hb)
                                      clear BK213
                                      clear HB
                                      have HO225 := n0_
                                      have BK213 := n1_
                                      have HB := n2_
                                      clear n0_ n1_ n2_
                                      (try clear hb)
                                      (try clear hb2)
                                      (try clear hk)
                                      (try clear hi)
                                      (try clear ho0)
                                      obtain ⟨Ao40, co40, eo40⟩ := Kd.R_slice HO225.out
                                      (first | subst eo40 | (injection eo40 with f1_ f2_ f3_; have f4_ := f1_.symm; have f5_ := f3_.symm; clear f1_ f2_ f3_; subst f4_; subst f5_))
                                      have p226 : 0 ≤ (a0_4 : Int) := of_decide_eq_true (by first | (with_reducible assumption) | assumption)
                                      have q226 : a0_4 < (t223.length : Int) := of_decide_eq_true (by first | (with_reducible assumption) | assumption)
                                      obtain ⟨ad226, e226, hx226_0⟩ := Kd.at_string (Kd.R_reads' HO225.out).2.2 a0_4 p226 q226
                                      cases e226
                                      replace p226 := eq_true p226
                                      replace q226 := eq_true q226
                                      refine hK.out _ _ ⟨(blk_cell BK213.out 0).trans rfl, (blk_cell BK213.out 1).trans rfl, (blk_cell BK213.out 2).trans rfl, (blk_cell BK213.out 3).trans rfl, (blk_cell BK213.out 4).trans rfl, (blk_cell BK213.out 5).trans rfl⟩ (fun hHeld => ?_)
                                      clear hK K
                                      refine wpAnyLast_more (S' := fun w' => w'.cell? ⟨gb213, 0, none⟩ = some (.int .u64 a0_0) ∧ w'.cell? ⟨gb213, 1, none⟩ = some (.int .i64 a0_1) ∧ w'.cell? ⟨gb213, 2, none⟩ = some (.int .i64 a0_2) ∧ w'.cell? ⟨gb213, 3, none⟩ = some (.int .u32 a0_3) ∧ w'.cell? ⟨gb213, 4, none⟩ = some (.int .u32 a0_4) ∧ w'.cell? ⟨gb213, 5, none⟩ = some (.int .u32 a0_5) ∧ w'.cell? (ad226.add (a0_4).toNat) = some (.string (rdOf ByteArray.empty t223 a0_4))) (fun x h => ⟨h.1, h.2.1, h.2.2.1, h.2.2.2.1, h.2.2.2.2.1, h.2.2.2.2.2.1⟩) _ _ _ _ ⟨hHeld.1, hHeld.2.1, hHeld.2.2.1, hHeld.2.2.2.1, hHeld.2.2.2.2.1, hHeld.2.2.2.2.2, hx226_0⟩ ?_
                                      replace hHeld := And.intro hHeld.1 (And.intro hHeld.2.1 (And.intro hHeld.2.2.1 (And.intro hHeld.2.2.2.1 (And.intro hHeld.2.2.2.2.1 (And.intro hHeld.2.2.2.2.2 hx226_0)))))
                                      refine norm_ (a' := ?_) ?_ ?_
                                      rotate_left
                                      · show Act.put _ (some 45) _ = _
                                        simp only [Act.put, List.setIfInBounds_toArray, List.set_cons_zero, List.set_cons_succ, i64_w, i32_w]
                                        rfl
                                      refine pure_ (i := 5) (N := some 48) (v := ?_) (a' := ?_) #[true, true, true, true, true, true, false, false, false, true, true, false, false, false] rfl rfl (any_of HT_.out (by kernel_rfl)) (fun _ _ _ h => h) (Or.inl ⟨by rfl, ?_⟩) ?_ ?_
                                      rotate_left
                                      · intro w'
                                        go_simp
                                        with_reducible rfl
                                      rotate_left
                                      · simp only [Act.put, List.setIfInBounds_toArray, List.set_cons_zero, List.set_cons_succ, i64_w, i32_w]
                                        rfl
                                      refine take_ (i := 6) (N := some 49) (v := ?_) (a' := ?_) #[true, true, true, true, true, true, true, false, false, true, true, false, false, false] rfl rfl (take_ofW HT_.out HW_.out (by kernel_rfl)) (fun _ _ _ h => h) (Or.inl ⟨by rfl, ?_⟩) hHeld ?_ ?_
                                      rotate_left
                                      · rintro w' ⟨s0, s1, s2, s3, s4, s5, s6⟩
                                        go_simp
                                        with_reducible rfl
                                      rotate_left
                                      · simp only [Act.put, List.setIfInBounds_toArray, List.set_cons_zero, List.set_cons_succ, i64_w, i32_w]
                                        rfl
                                      refine pure_ (i := 7) (N := some 50) (v := ?_) (a' := ?_) #[true, true, true, true, true, true, true, true, false, true, true, false, false, false] rfl rfl (any_of HT_.out (by kernel_rfl)) (fun _ _ _ h => h) (Or.inl ⟨by rfl, ?_⟩) ?_ ?_
                                      rotate_left
                                      · intro w'
                                        go_simp
                                        with_reducible rfl
                                      rotate_left
                                      · simp only [Act.put, List.setIfInBounds_toArray, List.set_cons_zero, List.set_cons_succ, i64_w, i32_w]
                                        rfl
                                      refine pure_ (i := 8) (N := some 51) (v := ?_) (a' := ?_) #[true, true, true, true, true, true, true, true, true, true, true, false, false, false] rfl rfl (any_of HT_.out (by kernel_rfl)) (fun _ _ _ h => h) (Or.inl ⟨by rfl, ?_⟩) ?_ ?_
                                      rotate_left
                                      · intro w'
                                        go_simp
                                        with_reducible rfl
                                      rotate_left
                                      · simp only [Act.put, List.setIfInBounds_toArray, List.set_cons_zero, List.set_cons_succ, i64_w, i32_w]
                                        rfl
                                      refine one_ (i := 11) (N := some 54) #[true, true, true, true, true, true, true, true, true, true, true, true, false, false] rfl rfl (one_of HT_.out (by kernel_rfl)) (by decide) (fun K hK => ?_)
                                      refine goes_ Tryz.func92 (by kernel_rfl) rfl #[.int .u32 a0_5] (by rfl) rfl rfl (by (try simp only [List.map_toArray, List.map_cons, List.map_nil]); first | done | rfl | (simp only [List.length_drop, List.length_take]; rfl)) ?_
                                      with_reducible refine (cloisterref22_hex.calls kj13 a0_5 t227 _ A36.out).mono ?_
                                      rintro e w' ⟨rfl, ⟨nd, rfl⟩⟩
                                      refine ⟨_, rfl, ?_⟩
                                      refine hK.out _ _ ⟨(blk_cell BK213.out 0).trans rfl, (blk_cell BK213.out 1).trans rfl, (blk_cell BK213.out 2).trans rfl, (blk_cell BK213.out 3).trans rfl, (blk_cell BK213.out 4).trans rfl, (blk_cell BK213.out 5).trans rfl, hHeld.2.2.2.2.2.2⟩ (fun hHeld => ?_)
                                      clear hK K
                                      refine norm_ (a' := ?_) ?_ ?_
                                      rotate_left
                                      · show Act.put _ (some 54) _ = _
                                        simp only [Act.put, List.setIfInBounds_toArray, List.set_cons_zero, List.set_cons_succ, i64_w, i32_w]
                                        rfl
                                      refine pure_ (i := 12) (N := some 55) (v := ?_) (a' := ?_) #[true, true, true, true, true, true, true, true, true, true, true, true, true, false] rfl rfl (any_of HT_.out (by kernel_rfl)) (fun _ _ _ h => h) (Or.inl ⟨by rfl, ?_⟩) ?_ ?_
                                      rotate_left
                                      · intro w'
                                        go_simp
                                        with_reducible rfl
                                      rotate_left
                                      · simp only [Act.put, List.setIfInBounds_toArray, List.set_cons_zero, List.set_cons_succ, i64_w, i32_w]
                                        rfl
                                      refine pure_ (i := 13) (N := some 3) (v := ?_) (a' := ?_) #[true, true, true, true, true, true, true, true, true, true, true, true, true, true] rfl rfl (any_of HT_.out (by kernel_rfl)) (fun _ _ _ h => h) (Or.inl ⟨by rfl, ?_⟩) ?_ ?_
                                      rotate_left
                                      · intro w'
                                        go_simp
                                        with_reducible rfl
                                      rotate_left
                                      · simp only [Act.put, List.setIfInBounds_toArray, List.set_cons_zero, List.set_cons_succ, i64_w, i32_w]
                                        rfl
                                      refine done_ (done_of HT_.out (by kernel_rfl)) ?_
                                      try go_wp2
                                      go_ret
                                      exact ⟨by first | rfl | (simp [errW_none, errW_some] <;> rfl) | (simp [*, errW_none, errW_some] <;> rfl), by repeat (first | (with_reducible first | exact HB.out | apply below_alloc | apply pw_below_drewN | apply below_drew1 | refine below_set ?_ GE213.out) | exact HB.out)⟩
                                    · rw [if_neg c37] at H
                                      exact absurd H (by simp)
                                  · rw [if_neg c35] at H
                                    exact absurd H (by simp)
                                · rw [if_neg c34] at H
                                  exact absurd H (by simp)
                              · rw [if_neg c33] at H
                                exact absurd H (by simp)
                            · rw [if_neg c32] at H
                              exact absurd H (by simp)
                          · rw [if_neg c30] at H
                            exact absurd H (by simp)
                        · rw [if_neg c29] at H
                          have c29b0 : (a0_2 == 3) = false := beq_eq_false_iff_ne.mpr c29
                          have c29b1 : (a0_2 != 3) = true := bne_iff_ne.mpr c29
                          by_cases c41 : a0_2 = 4
                          · rw [if_pos c41] at H
                            have c41b0 : (a0_2 == 4) = true := beq_iff_eq.mpr c41
                            have c41b1 : (a0_2 != 4) = false := bne_eq_false_iff_eq.mpr c41
                            clear c41
                            by_cases c42 : ((((((t214 ++ (⟨#[32]⟩ : ByteArray)) ++ t215) ++ (⟨#[32]⟩ : ByteArray)) ++ (rdOf ByteArray.empty t216 a0_2)) ++ (⟨#[32]⟩ : ByteArray)) ++ t220).size + 1 ≤ 9223372036854775807
                            · rw [if_pos c42] at H
                              have c42b0 := eq_true c42
                              have c42b1 : decide (((((((t214 ++ (⟨#[32]⟩ : ByteArray)) ++ t215) ++ (⟨#[32]⟩ : ByteArray)) ++ (rdOf ByteArray.empty t216 a0_2)) ++ (⟨#[32]⟩ : ByteArray)) ++ t220).size + 1 ≤ 9223372036854775807) = true := decide_eq_true c42
                              try have c42b2 : (9223372036854775807 < ((((((t214 ++ (⟨#[32]⟩ : ByteArray)) ++ t215) ++ (⟨#[32]⟩ : ByteArray)) ++ (rdOf ByteArray.empty t216 a0_2)) ++ (⟨#[32]⟩ : ByteArray)) ++ t220).size + 1) = False := eq_false (Nat.not_lt.2 c42)
                              try have c42b3 := c42b2
                              try simp only [ByteArray.size_append, show (⟨#[32]⟩ : ByteArray).size = 1 from rfl, show (⟨#[10]⟩ : ByteArray).size = 1 from rfl] at c42b3
                              replace H := Option.bind_eq_some_iff.mp H
                              obtain ⟨t228, A430, H⟩ := H
                              replace H : (if (((((((t214 ++ (⟨#[32]⟩ : ByteArray)) ++ t215) ++ (⟨#[32]⟩ : ByteArray)) ++ (rdOf ByteArray.empty t216 a0_2)) ++ (⟨#[32]⟩ : ByteArray)) ++ t220) ++ (⟨#[32]⟩ : ByteArray)).size + t228.size ≤ 9223372036854775807 then (some ((((((((t214 ++ (⟨#[32]⟩ : ByteArray)) ++ t215) ++ (⟨#[32]⟩ : ByteArray)) ++ (rdOf ByteArray.empty t216 a0_2)) ++ (⟨#[32]⟩ : ByteArray)) ++ t220) ++ (⟨#[32]⟩ : ByteArray)) ++ t228)) else (none)) = some r := H
                              have A43 := Aside0.mk A430
                              clear A430
                              by_cases c44 : (((((((t214 ++ (⟨#[32]⟩ : ByteArray)) ++ t215) ++ (⟨#[32]⟩ : ByteArray)) ++ (rdOf ByteArray.empty t216 a0_2)) ++ (⟨#[32]⟩ : ByteArray)) ++ t220) ++ (⟨#[32]⟩ : ByteArray)).size + t228.size ≤ 9223372036854775807
                              · rw [if_pos c44] at H
                                have c44b0 := eq_true c44
                                have c44b1 : decide ((((((((t214 ++ (⟨#[32]⟩ : ByteArray)) ++ t215) ++ (⟨#[32]⟩ : ByteArray)) ++ (rdOf ByteArray.empty t216 a0_2)) ++ (⟨#[32]⟩ : ByteArray)) ++ t220) ++ (⟨#[32]⟩ : ByteArray)).size + t228.size ≤ 9223372036854775807) = true := decide_eq_true c44
                                try have c44b2 : (9223372036854775807 < (((((((t214 ++ (⟨#[32]⟩ : ByteArray)) ++ t215) ++ (⟨#[32]⟩ : ByteArray)) ++ (rdOf ByteArray.empty t216 a0_2)) ++ (⟨#[32]⟩ : ByteArray)) ++ t220) ++ (⟨#[32]⟩ : ByteArray)).size + t228.size) = False := eq_false (Nat.not_lt.2 c44)
                                try have c44b3 := c44b2
                                try simp only [ByteArray.size_append, show (⟨#[32]⟩ : ByteArray).size = 1 from rfl, show (⟨#[10]⟩ : ByteArray).size = 1 from rfl] at c44b3
                                obtain rfl := Option.some.inj H
                                have hcz45_0 : wc.cell? ⟨gb213, 0, none⟩ = some (.int .u64 a0_0) := (blk_cell BK213.out 0).trans rfl
                                have hcz45_1 : wc.cell? ⟨gb213, 1, none⟩ = some (.int .i64 a0_1) := (blk_cell BK213.out 1).trans rfl
                                have hcz45_2 : wc.cell? ⟨gb213, 2, none⟩ = some (.int .i64 a0_2) := (blk_cell BK213.out 2).trans rfl
                                have hcz45_3 : wc.cell? ⟨gb213, 3, none⟩ = some (.int .u32 a0_3) := (blk_cell BK213.out 3).trans rfl
                                have hcz45_4 : wc.cell? ⟨gb213, 4, none⟩ = some (.int .u32 a0_4) := (blk_cell BK213.out 4).trans rfl
                                have hcz45_5 : wc.cell? ⟨gb213, 5, none⟩ = some (.int .u32 a0_5) := (blk_cell BK213.out 5).trans rfl
                                have hfz45_0 := blk_frozen BK213.out 0
                                have hfz45_1 := blk_frozen BK213.out 1
                                have hfz45_2 := blk_frozen BK213.out 2
                                have hfz45_3 := blk_frozen BK213.out 3
                                have hfz45_4 := blk_frozen BK213.out 4
                                have hfz45_5 := blk_frozen BK213.out 5
                                go_wp2_with (first | ((with_reducible refine gate_callee (f := 90) rfl ?_); refine goesL_ (some 63) rfl rfl Tryz.func90 (by kernel_rfl) rfl #[.int .u64 (IntKind.u64.wrap (a0_4))] rfl (by (try simp only [List.map_toArray, List.map_cons, List.map_nil]); first | done | rfl | (simp only [List.length_drop, List.length_take]; rfl)) ?_; (with_reducible refine (cloisterref22_decimal.calls kj13 (IntKind.u64.wrap (a0_4)) t228 _ A43.out).mono ?_); rintro e w' ⟨rfl, ⟨nd, rfl⟩⟩; refine ⟨_, rfl, ?_⟩))
                                go_ret
                                exact ⟨by first | rfl | (simp [errW_none, errW_some] <;> rfl) | (simp [*, errW_none, errW_some] <;> rfl), by repeat (first | (with_reducible first | exact HB.out | apply below_alloc | apply pw_below_drewN | apply below_drew1 | refine below_set ?_ GE213.out) | exact HB.out)⟩
                              · rw [if_neg c44] at H
                                exact absurd H (by simp)
                            · rw [if_neg c42] at H
                              exact absurd H (by simp)
                          · rw [if_neg c41] at H
                            have c41b0 : (a0_2 == 4) = false := beq_eq_false_iff_ne.mpr c41
                            have c41b1 : (a0_2 != 4) = true := bne_iff_ne.mpr c41
                            by_cases c46 : a0_2 = 5
                            · rw [if_pos c46] at H
                              have c46b0 : (a0_2 == 5) = true := beq_iff_eq.mpr c46
                              have c46b1 : (a0_2 != 5) = false := bne_eq_false_iff_eq.mpr c46
                              clear c46
                              by_cases c47 : ((((((t214 ++ (⟨#[32]⟩ : ByteArray)) ++ t215) ++ (⟨#[32]⟩ : ByteArray)) ++ (rdOf ByteArray.empty t216 a0_2)) ++ (⟨#[32]⟩ : ByteArray)) ++ t220).size + 1 ≤ 9223372036854775807
                              · rw [if_pos c47] at H
                                have c47b0 := eq_true c47
                                have c47b1 : decide (((((((t214 ++ (⟨#[32]⟩ : ByteArray)) ++ t215) ++ (⟨#[32]⟩ : ByteArray)) ++ (rdOf ByteArray.empty t216 a0_2)) ++ (⟨#[32]⟩ : ByteArray)) ++ t220).size + 1 ≤ 9223372036854775807) = true := decide_eq_true c47
                                try have c47b2 : (9223372036854775807 < ((((((t214 ++ (⟨#[32]⟩ : ByteArray)) ++ t215) ++ (⟨#[32]⟩ : ByteArray)) ++ (rdOf ByteArray.empty t216 a0_2)) ++ (⟨#[32]⟩ : ByteArray)) ++ t220).size + 1) = False := eq_false (Nat.not_lt.2 c47)
                                try have c47b3 := c47b2
                                try simp only [ByteArray.size_append, show (⟨#[32]⟩ : ByteArray).size = 1 from rfl, show (⟨#[10]⟩ : ByteArray).size = 1 from rfl] at c47b3
                                replace H := Option.bind_eq_some_iff.mp H
                                obtain ⟨t229, A480, H⟩ := H
                                replace H : (if (((((((t214 ++ (⟨#[32]⟩ : ByteArray)) ++ t215) ++ (⟨#[32]⟩ : ByteArray)) ++ (rdOf ByteArray.empty t216 a0_2)) ++ (⟨#[32]⟩ : ByteArray)) ++ t220) ++ (⟨#[32]⟩ : ByteArray)).size + t229.size ≤ 9223372036854775807 then ((cloisterref22_hex.f kj13 a0_4).bind fun t230 => (if ((((((((t214 ++ (⟨#[32]⟩ : ByteArray)) ++ t215) ++ (⟨#[32]⟩ : ByteArray)) ++ (rdOf ByteArray.empty t216 a0_2)) ++ (⟨#[32]⟩ : ByteArray)) ++ t220) ++ (⟨#[32]⟩ : ByteArray)) ++ t229).size + t230.size ≤ 9223372036854775807 then (some (((((((((t214 ++ (⟨#[32]⟩ : ByteArray)) ++ t215) ++ (⟨#[32]⟩ : ByteArray)) ++ (rdOf ByteArray.empty t216 a0_2)) ++ (⟨#[32]⟩ : ByteArray)) ++ t220) ++ (⟨#[32]⟩ : ByteArray)) ++ t229) ++ t230)) else (none))) else (none)) = some r := H
                                have A48 := Aside0.mk A480
                                clear A480
                                by_cases c49 : (((((((t214 ++ (⟨#[32]⟩ : ByteArray)) ++ t215) ++ (⟨#[32]⟩ : ByteArray)) ++ (rdOf ByteArray.empty t216 a0_2)) ++ (⟨#[32]⟩ : ByteArray)) ++ t220) ++ (⟨#[32]⟩ : ByteArray)).size + t229.size ≤ 9223372036854775807
                                · rw [if_pos c49] at H
                                  have c49b0 := eq_true c49
                                  have c49b1 : decide ((((((((t214 ++ (⟨#[32]⟩ : ByteArray)) ++ t215) ++ (⟨#[32]⟩ : ByteArray)) ++ (rdOf ByteArray.empty t216 a0_2)) ++ (⟨#[32]⟩ : ByteArray)) ++ t220) ++ (⟨#[32]⟩ : ByteArray)).size + t229.size ≤ 9223372036854775807) = true := decide_eq_true c49
                                  try have c49b2 : (9223372036854775807 < (((((((t214 ++ (⟨#[32]⟩ : ByteArray)) ++ t215) ++ (⟨#[32]⟩ : ByteArray)) ++ (rdOf ByteArray.empty t216 a0_2)) ++ (⟨#[32]⟩ : ByteArray)) ++ t220) ++ (⟨#[32]⟩ : ByteArray)).size + t229.size) = False := eq_false (Nat.not_lt.2 c49)
                                  try have c49b3 := c49b2
                                  try simp only [ByteArray.size_append, show (⟨#[32]⟩ : ByteArray).size = 1 from rfl, show (⟨#[10]⟩ : ByteArray).size = 1 from rfl] at c49b3
                                  replace H := Option.bind_eq_some_iff.mp H
                                  obtain ⟨t230, A500, H⟩ := H
                                  replace H : (if ((((((((t214 ++ (⟨#[32]⟩ : ByteArray)) ++ t215) ++ (⟨#[32]⟩ : ByteArray)) ++ (rdOf ByteArray.empty t216 a0_2)) ++ (⟨#[32]⟩ : ByteArray)) ++ t220) ++ (⟨#[32]⟩ : ByteArray)) ++ t229).size + t230.size ≤ 9223372036854775807 then (some (((((((((t214 ++ (⟨#[32]⟩ : ByteArray)) ++ t215) ++ (⟨#[32]⟩ : ByteArray)) ++ (rdOf ByteArray.empty t216 a0_2)) ++ (⟨#[32]⟩ : ByteArray)) ++ t220) ++ (⟨#[32]⟩ : ByteArray)) ++ t229) ++ t230)) else (none)) = some r := H
                                  have A50 := Aside0.mk A500
                                  clear A500
                                  by_cases c51 : ((((((((t214 ++ (⟨#[32]⟩ : ByteArray)) ++ t215) ++ (⟨#[32]⟩ : ByteArray)) ++ (rdOf ByteArray.empty t216 a0_2)) ++ (⟨#[32]⟩ : ByteArray)) ++ t220) ++ (⟨#[32]⟩ : ByteArray)) ++ t229).size + t230.size ≤ 9223372036854775807
                                  · rw [if_pos c51] at H
                                    have c51b0 := eq_true c51
                                    have c51b1 : decide (((((((((t214 ++ (⟨#[32]⟩ : ByteArray)) ++ t215) ++ (⟨#[32]⟩ : ByteArray)) ++ (rdOf ByteArray.empty t216 a0_2)) ++ (⟨#[32]⟩ : ByteArray)) ++ t220) ++ (⟨#[32]⟩ : ByteArray)) ++ t229).size + t230.size ≤ 9223372036854775807) = true := decide_eq_true c51
                                    try have c51b2 : (9223372036854775807 < ((((((((t214 ++ (⟨#[32]⟩ : ByteArray)) ++ t215) ++ (⟨#[32]⟩ : ByteArray)) ++ (rdOf ByteArray.empty t216 a0_2)) ++ (⟨#[32]⟩ : ByteArray)) ++ t220) ++ (⟨#[32]⟩ : ByteArray)) ++ t229).size + t230.size) = False := eq_false (Nat.not_lt.2 c51)
                                    try have c51b3 := c51b2
                                    try simp only [ByteArray.size_append, show (⟨#[32]⟩ : ByteArray).size = 1 from rfl, show (⟨#[10]⟩ : ByteArray).size = 1 from rfl] at c51b3
                                    obtain rfl := Option.some.inj H
                                    try go_wp2
                                    have n0_ := Aside0.mk (blk_drew BK213.out)
                                    have n1_ := Aside0.mk (below_drew1 HB.out)
                                    clear BK213
                                    clear HB
                                    have BK213 := n0_
                                    have HB := n1_
                                    clear n0_ n1_
                                    refine start_ (n := 11) (S := fun w' => w'.cell? ⟨gb213, 0, none⟩ = some (.int .u64 a0_0) ∧ w'.cell? ⟨gb213, 1, none⟩ = some (.int .i64 a0_1) ∧ w'.cell? ⟨gb213, 2, none⟩ = some (.int .i64 a0_2) ∧ w'.cell? ⟨gb213, 3, none⟩ = some (.int .u32 a0_3) ∧ w'.cell? ⟨gb213, 4, none⟩ = some (.int .u32 a0_4) ∧ w'.cell? ⟨gb213, 5, none⟩ = some (.int .u32 a0_5)) (ds := []) #[false, false, false, false, false, false, false, false, false, false, false] (by kernel_rfl) rfl rfl ⟨(blk_cell BK213.out 0).trans rfl, (blk_cell BK213.out 1).trans rfl, (blk_cell BK213.out 2).trans rfl, (blk_cell BK213.out 3).trans rfl, (blk_cell BK213.out 4).trans rfl, (blk_cell BK213.out 5).trans rfl⟩ (fun hHeld => ?_); refine with_tabW cloisterref22_line.tab11 cloisterref22_line.bits11 (fun HT_ HW_ => ?_)
                                    generalize wc.drew = w52 at BK213 HB hHeld ⊢
                                    refine pure_ (i := 0) (N := some 67) (v := ?_) (a' := ?_) #[true, false, false, false, false, false, false, false, false, false, false] rfl rfl (any_of HT_.out (by kernel_rfl)) (fun _ _ _ h => h) (Or.inl ⟨by rfl, ?_⟩) ?_ ?_
                                    rotate_left
                                    · intro w'
                                      go_simp
                                      with_reducible rfl
                                    rotate_left
                                    · simp only [Act.put, List.setIfInBounds_toArray, List.set_cons_zero, List.set_cons_succ, i64_w, i32_w]
                                      rfl
                                    refine pure_ (i := 1) (N := some 68) (v := ?_) (a' := ?_) #[true, true, false, false, false, false, false, false, false, false, false] rfl rfl (any_of HT_.out (by kernel_rfl)) (fun _ _ _ h => h) (Or.inl ⟨by rfl, ?_⟩) ?_ ?_
                                    rotate_left
                                    · intro w'
                                      go_simp
                                      with_reducible rfl
                                    rotate_left
                                    · simp only [Act.put, List.setIfInBounds_toArray, List.set_cons_zero, List.set_cons_succ, i64_w, i32_w]
                                      rfl
                                    refine pure_ (i := 2) (N := some 69) (v := ?_) (a' := ?_) #[true, true, true, false, false, false, false, false, false, false, false] rfl rfl (any_of HT_.out (by kernel_rfl)) (fun _ _ _ h => h) (Or.inl ⟨by rfl, ?_⟩) ?_ ?_
                                    rotate_left
                                    · intro w'
                                      go_simp
                                      with_reducible rfl
                                    rotate_left
                                    · simp only [Act.put, List.setIfInBounds_toArray, List.set_cons_zero, List.set_cons_succ, i64_w, i32_w]
                                      rfl
                                    refine pure_ (i := 6) (N := some 73) (v := ?_) (a' := ?_) #[true, true, true, false, false, false, true, false, false, false, false] rfl rfl (any_of HT_.out (by kernel_rfl)) (fun _ _ _ h => h) (Or.inl ⟨by rfl, ?_⟩) ?_ ?_
                                    rotate_left
                                    · intro w'
                                      go_simp
                                      with_reducible rfl
                                    rotate_left
                                    · simp only [Act.put, List.setIfInBounds_toArray, List.set_cons_zero, List.set_cons_succ, i64_w, i32_w]
                                      rfl
                                    refine take_ (i := 3) (N := some 70) (v := ?_) (a' := ?_) #[true, true, true, true, false, false, true, false, false, false, false] rfl rfl (take_ofW HT_.out HW_.out (by kernel_rfl)) (fun _ _ _ h => h) (Or.inl ⟨by rfl, ?_⟩) hHeld ?_ ?_
                                    rotate_left
                                    · rintro w' ⟨s0, s1, s2, s3, s4, s5⟩
                                      go_simp
                                      with_reducible rfl
                                    rotate_left
                                    · simp only [Act.put, List.setIfInBounds_toArray, List.set_cons_zero, List.set_cons_succ, i64_w, i32_w]
                                      rfl
                                    refine take_ (i := 7) (N := some 74) (v := ?_) (a' := ?_) #[true, true, true, true, false, false, true, true, false, false, false] rfl rfl (take_ofW HT_.out HW_.out (by kernel_rfl)) (fun _ _ _ h => h) (Or.inl ⟨by rfl, ?_⟩) hHeld ?_ ?_
                                    rotate_left
                                    · rintro w' ⟨s0, s1, s2, s3, s4, s5⟩
                                      go_simp
                                      with_reducible rfl
                                    rotate_left
                                    · simp only [Act.put, List.setIfInBounds_toArray, List.set_cons_zero, List.set_cons_succ, i64_w, i32_w]
                                      rfl
                                    refine one_ (i := 4) (N := some 71) #[true, true, true, true, true, false, true, true, false, false, false] rfl rfl (one_of HT_.out (by kernel_rfl)) (by decide) (fun K hK => ?_)
                                    refine goes_ Tryz.func92 (by kernel_rfl) rfl #[.int .u32 a0_5] (by rfl) rfl rfl (by (try simp only [List.map_toArray, List.map_cons, List.map_nil]); first | done | rfl | (simp only [List.length_drop, List.length_take]; rfl)) ?_
                                    with_reducible refine (cloisterref22_hex.calls kj13 a0_5 t229 _ A48.out).mono ?_
                                    rintro e w' ⟨rfl, ⟨nd, rfl⟩⟩
                                    refine ⟨_, rfl, ?_⟩
                                    refine hK.out _ _ ⟨(blk_cell BK213.out 0).trans rfl, (blk_cell BK213.out 1).trans rfl, (blk_cell BK213.out 2).trans rfl, (blk_cell BK213.out 3).trans rfl, (blk_cell BK213.out 4).trans rfl, (blk_cell BK213.out 5).trans rfl⟩ (fun hHeld => ?_)
                                    clear hK K
                                    refine norm_ (a' := ?_) ?_ ?_
                                    rotate_left
                                    · show Act.put _ (some 71) _ = _
                                      simp only [Act.put, List.setIfInBounds_toArray, List.set_cons_zero, List.set_cons_succ, i64_w, i32_w]
                                      rfl
                                    refine pure_ (i := 5) (N := some 72) (v := ?_) (a' := ?_) #[true, true, true, true, true, true, true, true, false, false, false] rfl rfl (any_of HT_.out (by kernel_rfl)) (fun _ _ _ h => h) (Or.inl ⟨by rfl, ?_⟩) ?_ ?_
                                    rotate_left
                                    · intro w'
                                      go_simp
                                      with_reducible rfl
                                    rotate_left
                                    · simp only [Act.put, List.setIfInBounds_toArray, List.set_cons_zero, List.set_cons_succ, i64_w, i32_w]
                                      rfl
                                    refine one_ (i := 8) (N := some 75) #[true, true, true, true, true, true, true, true, true, false, false] rfl rfl (one_of HT_.out (by kernel_rfl)) (by decide) (fun K hK => ?_)
                                    refine goes_ Tryz.func92 (by kernel_rfl) rfl #[.int .u32 a0_4] (by rfl) rfl rfl (by (try simp only [List.map_toArray, List.map_cons, List.map_nil]); first | done | rfl | (simp only [List.length_drop, List.length_take]; rfl)) ?_
                                    with_reducible refine (cloisterref22_hex.calls kj13 a0_4 t230 _ A50.out).mono ?_
                                    rintro e w' ⟨rfl, ⟨nd, rfl⟩⟩
                                    refine ⟨_, rfl, ?_⟩
                                    refine hK.out _ _ ⟨(blk_cell BK213.out 0).trans rfl, (blk_cell BK213.out 1).trans rfl, (blk_cell BK213.out 2).trans rfl, (blk_cell BK213.out 3).trans rfl, (blk_cell BK213.out 4).trans rfl, (blk_cell BK213.out 5).trans rfl⟩ (fun hHeld => ?_)
                                    clear hK K
                                    refine norm_ (a' := ?_) ?_ ?_
                                    rotate_left
                                    · show Act.put _ (some 75) _ = _
                                      simp only [Act.put, List.setIfInBounds_toArray, List.set_cons_zero, List.set_cons_succ, i64_w, i32_w]
                                      rfl
                                    refine pure_ (i := 9) (N := some 76) (v := ?_) (a' := ?_) #[true, true, true, true, true, true, true, true, true, true, false] rfl rfl (any_of HT_.out (by kernel_rfl)) (fun _ _ _ h => h) (Or.inl ⟨by rfl, ?_⟩) ?_ ?_
                                    rotate_left
                                    · intro w'
                                      go_simp
                                      with_reducible rfl
                                    rotate_left
                                    · simp only [Act.put, List.setIfInBounds_toArray, List.set_cons_zero, List.set_cons_succ, i64_w, i32_w]
                                      rfl
                                    refine pure_ (i := 10) (N := some 3) (v := ?_) (a' := ?_) #[true, true, true, true, true, true, true, true, true, true, true] rfl rfl (any_of HT_.out (by kernel_rfl)) (fun _ _ _ h => h) (Or.inl ⟨by rfl, ?_⟩) ?_ ?_
                                    rotate_left
                                    · intro w'
                                      go_simp
                                      with_reducible rfl
                                    rotate_left
                                    · simp only [Act.put, List.setIfInBounds_toArray, List.set_cons_zero, List.set_cons_succ, i64_w, i32_w]
                                      rfl
                                    refine done_ (done_of HT_.out (by kernel_rfl)) ?_
                                    try go_wp2
                                    go_ret
                                    exact ⟨by first | rfl | (simp [errW_none, errW_some] <;> rfl) | (simp [*, errW_none, errW_some] <;> rfl), by repeat (first | (with_reducible first | exact HB.out | apply below_alloc | apply pw_below_drewN | apply below_drew1 | refine below_set ?_ GE213.out) | exact HB.out)⟩
                                  · rw [if_neg c51] at H
                                    exact absurd H (by simp)
                                · rw [if_neg c49] at H
                                  exact absurd H (by simp)
                              · rw [if_neg c47] at H
                                exact absurd H (by simp)
                            · rw [if_neg c46] at H
                              have c46b0 : (a0_2 == 5) = false := beq_eq_false_iff_ne.mpr c46
                              have c46b1 : (a0_2 != 5) = true := bne_iff_ne.mpr c46
                              by_cases c53 : a0_2 = 7
                              · rw [if_pos c53] at H
                                have c53b0 : (a0_2 == 7) = true := beq_iff_eq.mpr c53
                                have c53b1 : (a0_2 != 7) = false := bne_eq_false_iff_eq.mpr c53
                                clear c53
                                by_cases c54 : ((((((t214 ++ (⟨#[32]⟩ : ByteArray)) ++ t215) ++ (⟨#[32]⟩ : ByteArray)) ++ (rdOf ByteArray.empty t216 a0_2)) ++ (⟨#[32]⟩ : ByteArray)) ++ t220).size + 1 ≤ 9223372036854775807
                                · rw [if_pos c54] at H
                                  have c54b0 := eq_true c54
                                  have c54b1 : decide (((((((t214 ++ (⟨#[32]⟩ : ByteArray)) ++ t215) ++ (⟨#[32]⟩ : ByteArray)) ++ (rdOf ByteArray.empty t216 a0_2)) ++ (⟨#[32]⟩ : ByteArray)) ++ t220).size + 1 ≤ 9223372036854775807) = true := decide_eq_true c54
                                  try have c54b2 : (9223372036854775807 < ((((((t214 ++ (⟨#[32]⟩ : ByteArray)) ++ t215) ++ (⟨#[32]⟩ : ByteArray)) ++ (rdOf ByteArray.empty t216 a0_2)) ++ (⟨#[32]⟩ : ByteArray)) ++ t220).size + 1) = False := eq_false (Nat.not_lt.2 c54)
                                  try have c54b3 := c54b2
                                  try simp only [ByteArray.size_append, show (⟨#[32]⟩ : ByteArray).size = 1 from rfl, show (⟨#[10]⟩ : ByteArray).size = 1 from rfl] at c54b3
                                  replace H := Option.bind_eq_some_iff.mp H
                                  obtain ⟨t231, A550, H⟩ := H
                                  replace H : (if (((((((t214 ++ (⟨#[32]⟩ : ByteArray)) ++ t215) ++ (⟨#[32]⟩ : ByteArray)) ++ (rdOf ByteArray.empty t216 a0_2)) ++ (⟨#[32]⟩ : ByteArray)) ++ t220) ++ (⟨#[32]⟩ : ByteArray)).size + t231.size ≤ 9223372036854775807 then (some ((((((((t214 ++ (⟨#[32]⟩ : ByteArray)) ++ t215) ++ (⟨#[32]⟩ : ByteArray)) ++ (rdOf ByteArray.empty t216 a0_2)) ++ (⟨#[32]⟩ : ByteArray)) ++ t220) ++ (⟨#[32]⟩ : ByteArray)) ++ t231)) else (none)) = some r := H
                                  have A55 := Aside0.mk A550
                                  clear A550
                                  by_cases c56 : (((((((t214 ++ (⟨#[32]⟩ : ByteArray)) ++ t215) ++ (⟨#[32]⟩ : ByteArray)) ++ (rdOf ByteArray.empty t216 a0_2)) ++ (⟨#[32]⟩ : ByteArray)) ++ t220) ++ (⟨#[32]⟩ : ByteArray)).size + t231.size ≤ 9223372036854775807
                                  · rw [if_pos c56] at H
                                    have c56b0 := eq_true c56
                                    have c56b1 : decide ((((((((t214 ++ (⟨#[32]⟩ : ByteArray)) ++ t215) ++ (⟨#[32]⟩ : ByteArray)) ++ (rdOf ByteArray.empty t216 a0_2)) ++ (⟨#[32]⟩ : ByteArray)) ++ t220) ++ (⟨#[32]⟩ : ByteArray)).size + t231.size ≤ 9223372036854775807) = true := decide_eq_true c56
                                    try have c56b2 : (9223372036854775807 < (((((((t214 ++ (⟨#[32]⟩ : ByteArray)) ++ t215) ++ (⟨#[32]⟩ : ByteArray)) ++ (rdOf ByteArray.empty t216 a0_2)) ++ (⟨#[32]⟩ : ByteArray)) ++ t220) ++ (⟨#[32]⟩ : ByteArray)).size + t231.size) = False := eq_false (Nat.not_lt.2 c56)
                                    try have c56b3 := c56b2
                                    try simp only [ByteArray.size_append, show (⟨#[32]⟩ : ByteArray).size = 1 from rfl, show (⟨#[10]⟩ : ByteArray).size = 1 from rfl] at c56b3
                                    obtain rfl := Option.some.inj H
                                    have hcz57_0 : wc.cell? ⟨gb213, 0, none⟩ = some (.int .u64 a0_0) := (blk_cell BK213.out 0).trans rfl
                                    have hcz57_1 : wc.cell? ⟨gb213, 1, none⟩ = some (.int .i64 a0_1) := (blk_cell BK213.out 1).trans rfl
                                    have hcz57_2 : wc.cell? ⟨gb213, 2, none⟩ = some (.int .i64 a0_2) := (blk_cell BK213.out 2).trans rfl
                                    have hcz57_3 : wc.cell? ⟨gb213, 3, none⟩ = some (.int .u32 a0_3) := (blk_cell BK213.out 3).trans rfl
                                    have hcz57_4 : wc.cell? ⟨gb213, 4, none⟩ = some (.int .u32 a0_4) := (blk_cell BK213.out 4).trans rfl
                                    have hcz57_5 : wc.cell? ⟨gb213, 5, none⟩ = some (.int .u32 a0_5) := (blk_cell BK213.out 5).trans rfl
                                    have hfz57_0 := blk_frozen BK213.out 0
                                    have hfz57_1 := blk_frozen BK213.out 1
                                    have hfz57_2 := blk_frozen BK213.out 2
                                    have hfz57_3 := blk_frozen BK213.out 3
                                    have hfz57_4 := blk_frozen BK213.out 4
                                    have hfz57_5 := blk_frozen BK213.out 5
                                    go_wp2_with (first | ((with_reducible refine gate_callee (f := 92) rfl ?_); refine goesL_ (some 83) rfl rfl Tryz.func92 (by kernel_rfl) rfl #[.int .u32 a0_4] rfl (by (try simp only [List.map_toArray, List.map_cons, List.map_nil]); first | done | rfl | (simp only [List.length_drop, List.length_take]; rfl)) ?_; (with_reducible refine (cloisterref22_hex.calls kj13 a0_4 t231 _ A55.out).mono ?_); rintro e w' ⟨rfl, ⟨nd, rfl⟩⟩; refine ⟨_, rfl, ?_⟩))
                                    go_ret
                                    exact ⟨by first | rfl | (simp [errW_none, errW_some] <;> rfl) | (simp [*, errW_none, errW_some] <;> rfl), by repeat (first | (with_reducible first | exact HB.out | apply below_alloc | apply pw_below_drewN | apply below_drew1 | refine below_set ?_ GE213.out) | exact HB.out)⟩
                                  · rw [if_neg c56] at H
                                    exact absurd H (by simp)
                                · rw [if_neg c54] at H
                                  exact absurd H (by simp)
                              · rw [if_neg c53] at H
                                have c53b0 : (a0_2 == 7) = false := beq_eq_false_iff_ne.mpr c53
                                have c53b1 : (a0_2 != 7) = true := bne_iff_ne.mpr c53
                                obtain rfl := Option.some.inj H
                                go_wp2
                                go_ret
                                exact ⟨by first | rfl | (simp [errW_none, errW_some] <;> rfl) | (simp [*, errW_none, errW_some] <;> rfl), by repeat (first | (with_reducible first | exact HB.out | apply below_alloc | apply pw_below_drewN | apply below_drew1 | refine below_set ?_ GE213.out) | exact HB.out)⟩
                · rw [if_neg c13] at H
                  exact absurd H (by simp)
              · rw [if_neg c11] at H
                exact absurd H (by simp)
            · rw [if_neg c10] at H
              exact absurd H (by simp)
          · rw [if_neg c9] at H
            exact absurd H (by simp)
        · rw [if_neg c8] at H
          exact absurd H (by simp)
      · rw [if_neg c6] at H
        exact absurd H (by simp)
    · rw [if_neg c5] at H
      exact absurd H (by simp)
  · rw [if_neg c3] at H
    exact absurd H (by simp)

end Go.Proofs.YtohighedgdlflaaGreatDoor.PR
