-- PRINTED by print.py (a twelfth state) out of the translation. Not trusted: Lean checks it.
import Derived.Test.YtohighedgdlflaaGreatDoorLPRx0
import Derived.Test.YtohighedgdlflaaGreatDoorLPRx3
namespace Go.Proofs.YtohighedgdlflaaGreatDoor.PR
open Go.RowKit Go.Proofs.YtohighedgdlflaaGreatDoorW.PrintWords Go.Proofs.YtohighedgdlflaaGreatDoorW.PrintLast Go.Proofs.YtohighedgdlflaaGreatDoorW.PrintMore
attribute [local go_sem] max2_int min2_int max_two min_two max_three min_three max_four min_four   -- for this text's walks alone
set_option linter.unusedVariables false
set_option linter.unusedSimpArgs false

/-! ### cloisterref22_May: function 40 -/
mutual
def cloisterref22_May.j0 : Nat → Bool → Int → Int → Int → Int → Int → Int → Option (Bool)
  | 0, _, _, _, _, _, _, _ => none
  | k + 1, x15, x155000, x155001, x155002, x155003, x155004, x155005 => if x15 = true then (some false) else (if x155002 = 1 then (cloisterref22_May.j1 k x155002 (x155002 == 1) x155000 x155001 x155002 x155003 x155004 x155005) else (cloisterref22_May.j1 k x155002 (x155002 == 2) x155000 x155001 x155002 x155003 x155004 x155005))
def cloisterref22_May.j1 : Nat → Int → Bool → Int → Int → Int → Int → Int → Int → Option (Bool)
  | 0, _, _, _, _, _, _, _, _ => none
  | k + 1, x17, x18, x155000, x155001, x155002, x155003, x155004, x155005 => if x18 = true then (some true) else (if x17 = 3 then (if x155004 ≥ 1 then (some (decide (x155004 ≤ 6))) else (some false)) else (if x17 = 4 then (if x155004 ≤ 31 then (some (x155005 == 0)) else (some false)) else (if x17 = 5 then (some (decide (x155005 ≤ 2147483647))) else (if x17 = 6 then (if x155004 = 0 then (some (x155005 == 0)) else (some false)) else (if x17 = 7 then (some (x155005 == 0)) else (some false))))))
end
def cloisterref22_May.f (k : Nat) (a0_0 : Int) (a0_1 : Int) (a0_2 : Int) (a0_3 : Int) (a0_4 : Int) (a0_5 : Int) : Option (Bool) := if a0_1 < 1 then (cloisterref22_May.j0 k true a0_0 a0_1 a0_2 a0_3 a0_4 a0_5) else (if a0_1 > 8 then (cloisterref22_May.j0 k true a0_0 a0_1 a0_2 a0_3 a0_4 a0_5) else (cloisterref22_May.j0 k (decide (a0_0 > 9223372036854775807)) a0_0 a0_1 a0_2 a0_3 a0_4 a0_5))
theorem cloisterref22_May.mono_l : ∀ k, (∀ y0 y1 y2 y3 y4 y5 y6, LeO (cloisterref22_May.j0 k y0 y1 y2 y3 y4 y5 y6) (cloisterref22_May.j0 (k + 1) y0 y1 y2 y3 y4 y5 y6)) ∧ (∀ y0 y1 y2 y3 y4 y5 y6 y7, LeO (cloisterref22_May.j1 k y0 y1 y2 y3 y4 y5 y6 y7) (cloisterref22_May.j1 (k + 1) y0 y1 y2 y3 y4 y5 y6 y7))
  | 0 => ⟨fun _ _ _ _ _ _ _ r h => by simp [cloisterref22_May.j0] at h, fun _ _ _ _ _ _ _ _ r h => by simp [cloisterref22_May.j1] at h⟩
  | k + 1 => by
    obtain ⟨ih0, ih1⟩ := cloisterref22_May.mono_l k
    refine ⟨?_, ?_⟩
    · intro y0 y1 y2 y3 y4 y5 y6
      unfold cloisterref22_May.j0
      repeat' first
      | (with_reducible exact ih0 _ _ _ _ _ _ _)
      | (with_reducible exact ih1 _ _ _ _ _ _ _ _)
      | (with_reducible exact LeO.refl _)
      | (with_reducible exact LeO.none _)
      | (with_reducible refine LeO.ite ?_ ?_)
      | (with_reducible refine LeO.bind ?_ (fun _ => ?_))
      | exact ih0 _ _ _ _ _ _ _
      | exact ih1 _ _ _ _ _ _ _ _
      | exact LeO.none _
      | refine LeO.ite ?_ ?_
      | refine LeO.bind ?_ (fun _ => ?_)
    · intro y0 y1 y2 y3 y4 y5 y6 y7
      unfold cloisterref22_May.j1
      repeat' first
      | (with_reducible exact ih0 _ _ _ _ _ _ _)
      | (with_reducible exact ih1 _ _ _ _ _ _ _ _)
      | (with_reducible exact LeO.refl _)
      | (with_reducible exact LeO.none _)
      | (with_reducible refine LeO.ite ?_ ?_)
      | (with_reducible refine LeO.bind ?_ (fun _ => ?_))
      | exact ih0 _ _ _ _ _ _ _
      | exact ih1 _ _ _ _ _ _ _ _
      | exact LeO.none _
      | refine LeO.ite ?_ ?_
      | refine LeO.bind ?_ (fun _ => ?_)
theorem cloisterref22_May.mono : ∀ a0 a1 a2 a3 a4 a5 k, LeO (cloisterref22_May.f k a0 a1 a2 a3 a4 a5) (cloisterref22_May.f (k + 1) a0 a1 a2 a3 a4 a5) := by
  intro a0 a1 a2 a3 a4 a5 k
  obtain ⟨ih0, ih1⟩ := cloisterref22_May.mono_l k
  unfold cloisterref22_May.f
  repeat' first
      | (with_reducible exact ih0 _ _ _ _ _ _ _)
      | (with_reducible exact ih1 _ _ _ _ _ _ _ _)
      | (with_reducible exact LeO.refl _)
      | (with_reducible exact LeO.none _)
      | (with_reducible refine LeO.ite ?_ ?_)
      | (with_reducible refine LeO.bind ?_ (fun _ => ?_))
      | exact ih0 _ _ _ _ _ _ _
      | exact ih1 _ _ _ _ _ _ _ _
      | exact LeO.none _
      | refine LeO.ite ?_ ?_
      | refine LeO.bind ?_ (fun _ => ?_)
set_option maxHeartbeats 8000000 in
set_option maxRecDepth 100000 in
theorem cloisterref22_May.calls (k : Nat) (a0_0 : Int) (a0_1 : Int) (a0_2 : Int) (a0_3 : Int) (a0_4 : Int) (a0_5 : Int) (r : Bool) (w : World) (h : cloisterref22_May.f k a0_0 a0_1 a0_2 a0_3 a0_4 a0_5 = some r) :
    Calls Tryz.prog 40 #[.agg #[.int .u64 a0_0, .int .i64 a0_1, .int .i64 a0_2, .int .u32 a0_3, .int .u32 a0_4, .int .u32 a0_5]] w fun e w' => e = .returned (.bool r) ∧ Below w.heap.size w w' := by
  have hu35 := Tryz.underlying35
  have HB := Aside0.mk (Below.refl w.heap.size w)
  have H : (if a0_1 < 1 then (cloisterref22_May.j0 k true a0_0 a0_1 a0_2 a0_3 a0_4 a0_5) else (if a0_1 > 8 then (cloisterref22_May.j0 k true a0_0 a0_1 a0_2 a0_3 a0_4 a0_5) else (cloisterref22_May.j0 k (decide (a0_0 > 9223372036854775807)) a0_0 a0_1 a0_2 a0_3 a0_4 a0_5))) = some r := h
  clear h
  have HC2 := Aside0.mk H
  clear H
  go_enter Tryz.func40, Tryz.ntmps40
  go_upto_region 1 with (first | ((with_reducible refine gate_dst (N := 1) rfl ?_); refine box_event ?hg (N := 1) ?hd (cs := #[.int .u64 a0_0, .int .i64 a0_1, .int .i64 a0_2, .int .u32 a0_3, .int .u32 a0_4, .int .u32 a0_5]) (t := 35) ?hr ?_; (case hd => rfl); (case hg => rfl); (case hr => first | (go_simp; done) | (go_simp; rfl)); intro gb154 hg w3 hbox hb; have n0_ := Aside0.mk (below_step (by repeat (first | (with_reducible first | exact HB.out | apply below_alloc | apply pw_below_drewN | apply below_drew1) | exact HB.out)) hb); have n1_ := Aside0.mk (hbox); have n2_ := Aside0.mk ((by rw [hg]; exact (below_size (by repeat (first | (with_reducible first | exact HB.out | apply below_alloc | apply pw_below_drewN | apply below_drew1) | exact HB.out))) : w.heap.size ≤ gb154)); have n3_ := Aside0.mk ((by rw [hg]; exact (below_size (by repeat (first | (with_reducible first | exact HB.out | apply below_alloc | apply pw_below_drewN | apply below_drew1) | exact HB.out))) : w.heap.size ≤ gb154)); clear HB; have HB := n0_; have BK154 := n1_; have GW154 := n2_; have GE154 := n3_; clear n0_ n1_ n2_ n3_; clear hb hbox hg))
  (try simp only [Act.put, List.setIfInBounds_toArray, List.set_cons_zero, List.set_cons_succ])
  go_cut [15] (fun v15 wc => ∃ (kq : Nat) (x15_1 : Bool), v15 = .bool x15_1 ∧ Aside0 (cloisterref22_May.j0 kq x15_1 a0_0 a0_1 a0_2 a0_3 a0_4 a0_5 = some r) ∧ Aside0 (kq ≤ k) ∧ Aside0 (wc.heap[gb154]? = some (.cells #[.int .u64 a0_0, .int .i64 a0_1, .int .i64 a0_2, .int .u32 a0_3, .int .u32 a0_4, .int .u32 a0_5] 35 (0, 0))) ∧ Aside0 (Below w.heap.size w wc))
  case first =>
    have H := HC2.out
    clear HC2
    by_cases c4 : a0_1 < 1
    · rw [if_pos c4] at H
      have c4b0 : decide (a0_1 < 1) = true := decide_eq_true c4
      clear c4
      (first | rw [c4b0] | (simp only [i64_w, i32_w]; rw [c4b0]) | skip)
      have H' := Aside0.mk H
      clear H
      have hcz5_0 : w3.cell? ⟨gb154, 0, none⟩ = some (.int .u64 a0_0) := (blk_cell BK154.out 0).trans rfl
      have hcz5_1 : w3.cell? ⟨gb154, 1, none⟩ = some (.int .i64 a0_1) := (blk_cell BK154.out 1).trans rfl
      have hcz5_2 : w3.cell? ⟨gb154, 2, none⟩ = some (.int .i64 a0_2) := (blk_cell BK154.out 2).trans rfl
      have hcz5_3 : w3.cell? ⟨gb154, 3, none⟩ = some (.int .u32 a0_3) := (blk_cell BK154.out 3).trans rfl
      have hcz5_4 : w3.cell? ⟨gb154, 4, none⟩ = some (.int .u32 a0_4) := (blk_cell BK154.out 4).trans rfl
      have hcz5_5 : w3.cell? ⟨gb154, 5, none⟩ = some (.int .u32 a0_5) := (blk_cell BK154.out 5).trans rfl
      have hfz5_0 := blk_frozen BK154.out 0
      have hfz5_1 := blk_frozen BK154.out 1
      have hfz5_2 := blk_frozen BK154.out 2
      have hfz5_3 := blk_frozen BK154.out 3
      have hfz5_4 := blk_frozen BK154.out 4
      have hfz5_5 := blk_frozen BK154.out 5
      go_wp2
      go_meet
      case rel => exact ⟨_, (true), (by first | rfl | (simp; done) | (simp [*]; done)), H', ⟨by first | omega | exact Nat.le_refl _⟩, ⟨by (with_reducible repeat (first | refine blk_drewN ?_ _ | refine blk_drew ?_ | refine blk_alloc ?_ _)); exact BK154.out⟩, ⟨by repeat (first | (with_reducible first | exact HB.out | apply below_alloc | apply pw_below_drewN | apply below_drew1 | refine below_set ?_ GE154.out) | exact HB.out)⟩⟩
    · rw [if_neg c4] at H
      have c4b0 : decide (a0_1 < 1) = false := decide_eq_false c4
      clear c4
      (first | rw [c4b0] | (simp only [i64_w, i32_w]; rw [c4b0]) | skip)
      by_cases c6 : a0_1 > 8
      · rw [if_pos c6] at H
        have c6b0 : decide (8 < a0_1) = true := decide_eq_true c6
        clear c6
        have H' := Aside0.mk H
        clear H
        have hcz7_0 : w3.cell? ⟨gb154, 0, none⟩ = some (.int .u64 a0_0) := (blk_cell BK154.out 0).trans rfl
        have hcz7_1 : w3.cell? ⟨gb154, 1, none⟩ = some (.int .i64 a0_1) := (blk_cell BK154.out 1).trans rfl
        have hcz7_2 : w3.cell? ⟨gb154, 2, none⟩ = some (.int .i64 a0_2) := (blk_cell BK154.out 2).trans rfl
        have hcz7_3 : w3.cell? ⟨gb154, 3, none⟩ = some (.int .u32 a0_3) := (blk_cell BK154.out 3).trans rfl
        have hcz7_4 : w3.cell? ⟨gb154, 4, none⟩ = some (.int .u32 a0_4) := (blk_cell BK154.out 4).trans rfl
        have hcz7_5 : w3.cell? ⟨gb154, 5, none⟩ = some (.int .u32 a0_5) := (blk_cell BK154.out 5).trans rfl
        have hfz7_0 := blk_frozen BK154.out 0
        have hfz7_1 := blk_frozen BK154.out 1
        have hfz7_2 := blk_frozen BK154.out 2
        have hfz7_3 := blk_frozen BK154.out 3
        have hfz7_4 := blk_frozen BK154.out 4
        have hfz7_5 := blk_frozen BK154.out 5
        go_wp2
        go_meet
        case rel => exact ⟨_, (true), (by first | rfl | (simp; done) | (simp [*]; done)), H', ⟨by first | omega | exact Nat.le_refl _⟩, ⟨by (with_reducible repeat (first | refine blk_drewN ?_ _ | refine blk_drew ?_ | refine blk_alloc ?_ _)); exact BK154.out⟩, ⟨by repeat (first | (with_reducible first | exact HB.out | apply below_alloc | apply pw_below_drewN | apply below_drew1 | refine below_set ?_ GE154.out) | exact HB.out)⟩⟩
      · rw [if_neg c6] at H
        have c6b0 : decide (8 < a0_1) = false := decide_eq_false c6
        clear c6
        have H' := Aside0.mk H
        clear H
        have hcz8_0 : w3.cell? ⟨gb154, 0, none⟩ = some (.int .u64 a0_0) := (blk_cell BK154.out 0).trans rfl
        have hcz8_1 : w3.cell? ⟨gb154, 1, none⟩ = some (.int .i64 a0_1) := (blk_cell BK154.out 1).trans rfl
        have hcz8_2 : w3.cell? ⟨gb154, 2, none⟩ = some (.int .i64 a0_2) := (blk_cell BK154.out 2).trans rfl
        have hcz8_3 : w3.cell? ⟨gb154, 3, none⟩ = some (.int .u32 a0_3) := (blk_cell BK154.out 3).trans rfl
        have hcz8_4 : w3.cell? ⟨gb154, 4, none⟩ = some (.int .u32 a0_4) := (blk_cell BK154.out 4).trans rfl
        have hcz8_5 : w3.cell? ⟨gb154, 5, none⟩ = some (.int .u32 a0_5) := (blk_cell BK154.out 5).trans rfl
        have hfz8_0 := blk_frozen BK154.out 0
        have hfz8_1 := blk_frozen BK154.out 1
        have hfz8_2 := blk_frozen BK154.out 2
        have hfz8_3 := blk_frozen BK154.out 3
        have hfz8_4 := blk_frozen BK154.out 4
        have hfz8_5 := blk_frozen BK154.out 5
        go_wp2
        go_meet
        case rel => exact ⟨_, (decide (a0_0 > 9223372036854775807)), (by first | rfl | (simp; done) | (simp [*]; done)), H', ⟨by first | omega | exact Nat.le_refl _⟩, ⟨by (with_reducible repeat (first | refine blk_drewN ?_ _ | refine blk_drew ?_ | refine blk_alloc ?_ _)); exact BK154.out⟩, ⟨by repeat (first | (with_reducible first | exact HB.out | apply below_alloc | apply pw_below_drewN | apply below_drew1 | refine below_set ?_ GE154.out) | exact HB.out)⟩⟩
  case rest =>
    clear HC2
    try clear p2
    try clear c4
    try clear c4b0
    try clear c6
    try clear c6b0
    try clear hcz5_0
    try clear hcz5_1
    try clear hcz5_2
    try clear hcz5_3
    try clear hcz5_4
    try clear hcz5_5
    try clear hcz7_0
    try clear hcz7_1
    try clear hcz7_2
    try clear hcz7_3
    try clear hcz7_4
    try clear hcz7_5
    try clear hcz8_0
    try clear hcz8_1
    try clear hcz8_2
    try clear hcz8_3
    try clear hcz8_4
    try clear hcz8_5
    try clear hfz5_0
    try clear hfz5_1
    try clear hfz5_2
    try clear hfz5_3
    try clear hfz5_4
    try clear hfz5_5
    try clear hfz7_0
    try clear hfz7_1
    try clear hfz7_2
    try clear hfz7_3
    try clear hfz7_4
    try clear hfz7_5
    try clear hfz8_0
    try clear hfz8_1
    try clear hfz8_2
    try clear hfz8_3
    try clear hfz8_4
    try clear hfz8_5
    obtain ⟨kq, x15_1, rfl, HA, HJ1, BK154, HB⟩ := hcut
    cases kq with
    | zero => exact absurd HA.out (by simp [cloisterref22_May.j0])
    | succ kj1 =>
      have H := HA.out
      clear HA
      simp only [cloisterref22_May.j0] at H
      by_cases c9 : x15_1 = true
      · subst c9
        have H1 : (some false) = some r := by rw [if_pos rfl] at H; exact H
        clear H
        have H := H1
        clear H1
        obtain rfl := Option.some.inj H
        go_wp2
        go_ret
        exact ⟨by first | rfl | (simp [errW_none, errW_some] <;> rfl) | (simp [*, errW_none, errW_some] <;> rfl), by repeat (first | (with_reducible first | exact HB.out | apply below_alloc | apply pw_below_drewN | apply below_drew1 | refine below_set ?_ GE154.out) | exact HB.out)⟩
      · replace c9 := Bool.eq_false_iff.mpr c9
        subst c9
        have H1 : (if a0_2 = 1 then (cloisterref22_May.j1 kj1 a0_2 (a0_2 == 1) a0_0 a0_1 a0_2 a0_3 a0_4 a0_5) else (cloisterref22_May.j1 kj1 a0_2 (a0_2 == 2) a0_0 a0_1 a0_2 a0_3 a0_4 a0_5)) = some r := by rw [if_neg (show ¬ (false = true) by decide)] at H; exact H
        clear H
        have H := H1
        clear H1
        have HC10 := Aside0.mk H
        clear H
        have hcz11_0 : wc.cell? ⟨gb154, 0, none⟩ = some (.int .u64 a0_0) := (blk_cell BK154.out 0).trans rfl
        have hcz11_1 : wc.cell? ⟨gb154, 1, none⟩ = some (.int .i64 a0_1) := (blk_cell BK154.out 1).trans rfl
        have hcz11_2 : wc.cell? ⟨gb154, 2, none⟩ = some (.int .i64 a0_2) := (blk_cell BK154.out 2).trans rfl
        have hcz11_3 : wc.cell? ⟨gb154, 3, none⟩ = some (.int .u32 a0_3) := (blk_cell BK154.out 3).trans rfl
        have hcz11_4 : wc.cell? ⟨gb154, 4, none⟩ = some (.int .u32 a0_4) := (blk_cell BK154.out 4).trans rfl
        have hcz11_5 : wc.cell? ⟨gb154, 5, none⟩ = some (.int .u32 a0_5) := (blk_cell BK154.out 5).trans rfl
        have hfz11_0 := blk_frozen BK154.out 0
        have hfz11_1 := blk_frozen BK154.out 1
        have hfz11_2 := blk_frozen BK154.out 2
        have hfz11_3 := blk_frozen BK154.out 3
        have hfz11_4 := blk_frozen BK154.out 4
        have hfz11_5 := blk_frozen BK154.out 5
        go_upto_if 18 with (fail)
        go_cut [18] (fun v18 wc => ∃ (kq : Nat) (x18_9 : Bool), v18 = .bool x18_9 ∧ Aside0 (cloisterref22_May.j1 kq a0_2 x18_9 a0_0 a0_1 a0_2 a0_3 a0_4 a0_5 = some r) ∧ Aside0 (kq ≤ kj1) ∧ Aside0 (wc.heap[gb154]? = some (.cells #[.int .u64 a0_0, .int .i64 a0_1, .int .i64 a0_2, .int .u32 a0_3, .int .u32 a0_4, .int .u32 a0_5] 35 (0, 0))) ∧ Aside0 (Below w.heap.size w wc))
        case first =>
          have H := HC10.out
          clear HC10
          by_cases c12 : a0_2 = 1
          · rw [if_pos c12] at H
            have c12b0 : (a0_2 == 1) = true := beq_iff_eq.mpr c12
            have c12b1 : (a0_2 != 1) = false := bne_eq_false_iff_eq.mpr c12
            clear c12
            (first | rw [c12b0] | (simp only [i64_w, i32_w]; rw [c12b0]) | skip)
            have H' := Aside0.mk H
            clear H
            go_wp2
            go_meet
            case rel => exact ⟨_, ((a0_2 == 1)), (by first | rfl | (simp; done) | (simp [*]; done)), H', ⟨by have := HJ1.out; first | omega | exact Nat.le_refl _⟩, ⟨by (with_reducible repeat (first | refine blk_drewN ?_ _ | refine blk_drew ?_ | refine blk_alloc ?_ _)); exact BK154.out⟩, ⟨by repeat (first | (with_reducible first | exact HB.out | apply below_alloc | apply pw_below_drewN | apply below_drew1 | refine below_set ?_ GE154.out) | exact HB.out)⟩⟩
          · rw [if_neg c12] at H
            have c12b0 : (a0_2 == 1) = false := beq_eq_false_iff_ne.mpr c12
            have c12b1 : (a0_2 != 1) = true := bne_iff_ne.mpr c12
            (first | rw [c12b0] | (simp only [i64_w, i32_w]; rw [c12b0]) | skip)
            have H' := Aside0.mk H
            clear H
            go_wp2
            go_meet
            case rel => exact ⟨_, ((a0_2 == 2)), (by first | rfl | (simp; done) | (simp [*]; done)), H', ⟨by have := HJ1.out; first | omega | exact Nat.le_refl _⟩, ⟨by (with_reducible repeat (first | refine blk_drewN ?_ _ | refine blk_drew ?_ | refine blk_alloc ?_ _)); exact BK154.out⟩, ⟨by repeat (first | (with_reducible first | exact HB.out | apply below_alloc | apply pw_below_drewN | apply below_drew1 | refine below_set ?_ GE154.out) | exact HB.out)⟩⟩
        case rest =>
          clear HC10
          try clear c1
          try clear p2
          try clear c4
          try clear c4b0
          try clear c6
          try clear c6b0
          try clear c9
          try clear c12
          try clear c12b0
          try clear c12b1
          try clear hcz11_0
          try clear hcz11_1
          try clear hcz11_2
          try clear hcz11_3
          try clear hcz11_4
          try clear hcz11_5
          try clear hcz5_0
          try clear hcz5_1
          try clear hcz5_2
          try clear hcz5_3
          try clear hcz5_4
          try clear hcz5_5
          try clear hcz7_0
          try clear hcz7_1
          try clear hcz7_2
          try clear hcz7_3
          try clear hcz7_4
          try clear hcz7_5
          try clear hcz8_0
          try clear hcz8_1
          try clear hcz8_2
          try clear hcz8_3
          try clear hcz8_4
          try clear hcz8_5
          try clear hfz11_0
          try clear hfz11_1
          try clear hfz11_2
          try clear hfz11_3
          try clear hfz11_4
          try clear hfz11_5
          try clear hfz5_0
          try clear hfz5_1
          try clear hfz5_2
          try clear hfz5_3
          try clear hfz5_4
          try clear hfz5_5
          try clear hfz7_0
          try clear hfz7_1
          try clear hfz7_2
          try clear hfz7_3
          try clear hfz7_4
          try clear hfz7_5
          try clear hfz8_0
          try clear hfz8_1
          try clear hfz8_2
          try clear hfz8_3
          try clear hfz8_4
          try clear hfz8_5
          try clear p2
          obtain ⟨kq, x18_9, rfl, HA, HJ9, BK154, HB⟩ := hcut
          cases kq with
          | zero => exact absurd HA.out (by simp [cloisterref22_May.j1])
          | succ kj9 =>
            have H := HA.out
            clear HA
            simp only [cloisterref22_May.j1] at H
            by_cases c13 : x18_9 = true
            · subst c13
              have H1 : (some true) = some r := by rw [if_pos rfl] at H; exact H
              clear H
              have H := H1
              clear H1
              obtain rfl := Option.some.inj H
              go_wp2
              go_ret
              exact ⟨by first | rfl | (simp [errW_none, errW_some] <;> rfl) | (simp [*, errW_none, errW_some] <;> rfl), by repeat (first | (with_reducible first | exact HB.out | apply below_alloc | apply pw_below_drewN | apply below_drew1 | refine below_set ?_ GE154.out) | exact HB.out)⟩
            · replace c13 := Bool.eq_false_iff.mpr c13
              subst c13
              have H1 : (if a0_2 = 3 then (if a0_4 ≥ 1 then (some (decide (a0_4 ≤ 6))) else (some false)) else (if a0_2 = 4 then (if a0_4 ≤ 31 then (some (a0_5 == 0)) else (some false)) else (if a0_2 = 5 then (some (decide (a0_5 ≤ 2147483647))) else (if a0_2 = 6 then (if a0_4 = 0 then (some (a0_5 == 0)) else (some false)) else (if a0_2 = 7 then (some (a0_5 == 0)) else (some false)))))) = some r := by rw [if_neg (show ¬ (false = true) by decide)] at H; exact H
              clear H
              have H := H1
              clear H1
              by_cases c14 : a0_2 = 3
              · rw [if_pos c14] at H
                have c14b0 : (a0_2 == 3) = true := beq_iff_eq.mpr c14
                have c14b1 : (a0_2 != 3) = false := bne_eq_false_iff_eq.mpr c14
                clear c14
                by_cases c15 : a0_4 ≥ 1
                · rw [if_pos c15] at H
                  have c15b0 : decide (1 ≤ a0_4) = true := decide_eq_true c15
                  clear c15
                  obtain rfl := Option.some.inj H
                  have hcz16_0 : wc.cell? ⟨gb154, 0, none⟩ = some (.int .u64 a0_0) := (blk_cell BK154.out 0).trans rfl
                  have hcz16_1 : wc.cell? ⟨gb154, 1, none⟩ = some (.int .i64 a0_1) := (blk_cell BK154.out 1).trans rfl
                  have hcz16_2 : wc.cell? ⟨gb154, 2, none⟩ = some (.int .i64 a0_2) := (blk_cell BK154.out 2).trans rfl
                  have hcz16_3 : wc.cell? ⟨gb154, 3, none⟩ = some (.int .u32 a0_3) := (blk_cell BK154.out 3).trans rfl
                  have hcz16_4 : wc.cell? ⟨gb154, 4, none⟩ = some (.int .u32 a0_4) := (blk_cell BK154.out 4).trans rfl
                  have hcz16_5 : wc.cell? ⟨gb154, 5, none⟩ = some (.int .u32 a0_5) := (blk_cell BK154.out 5).trans rfl
                  have hfz16_0 := blk_frozen BK154.out 0
                  have hfz16_1 := blk_frozen BK154.out 1
                  have hfz16_2 := blk_frozen BK154.out 2
                  have hfz16_3 := blk_frozen BK154.out 3
                  have hfz16_4 := blk_frozen BK154.out 4
                  have hfz16_5 := blk_frozen BK154.out 5
                  go_wp2
                  go_ret
                  exact ⟨by first | rfl | (simp [errW_none, errW_some] <;> rfl) | (simp [*, errW_none, errW_some] <;> rfl), by repeat (first | (with_reducible first | exact HB.out | apply below_alloc | apply pw_below_drewN | apply below_drew1 | refine below_set ?_ GE154.out) | exact HB.out)⟩
                · rw [if_neg c15] at H
                  have c15b0 : decide (1 ≤ a0_4) = false := decide_eq_false c15
                  clear c15
                  obtain rfl := Option.some.inj H
                  have hcz17_0 : wc.cell? ⟨gb154, 0, none⟩ = some (.int .u64 a0_0) := (blk_cell BK154.out 0).trans rfl
                  have hcz17_1 : wc.cell? ⟨gb154, 1, none⟩ = some (.int .i64 a0_1) := (blk_cell BK154.out 1).trans rfl
                  have hcz17_2 : wc.cell? ⟨gb154, 2, none⟩ = some (.int .i64 a0_2) := (blk_cell BK154.out 2).trans rfl
                  have hcz17_3 : wc.cell? ⟨gb154, 3, none⟩ = some (.int .u32 a0_3) := (blk_cell BK154.out 3).trans rfl
                  have hcz17_4 : wc.cell? ⟨gb154, 4, none⟩ = some (.int .u32 a0_4) := (blk_cell BK154.out 4).trans rfl
                  have hcz17_5 : wc.cell? ⟨gb154, 5, none⟩ = some (.int .u32 a0_5) := (blk_cell BK154.out 5).trans rfl
                  have hfz17_0 := blk_frozen BK154.out 0
                  have hfz17_1 := blk_frozen BK154.out 1
                  have hfz17_2 := blk_frozen BK154.out 2
                  have hfz17_3 := blk_frozen BK154.out 3
                  have hfz17_4 := blk_frozen BK154.out 4
                  have hfz17_5 := blk_frozen BK154.out 5
                  go_wp2
                  go_ret
                  exact ⟨by first | rfl | (simp [errW_none, errW_some] <;> rfl) | (simp [*, errW_none, errW_some] <;> rfl), by repeat (first | (with_reducible first | exact HB.out | apply below_alloc | apply pw_below_drewN | apply below_drew1 | refine below_set ?_ GE154.out) | exact HB.out)⟩
              · rw [if_neg c14] at H
                have c14b0 : (a0_2 == 3) = false := beq_eq_false_iff_ne.mpr c14
                have c14b1 : (a0_2 != 3) = true := bne_iff_ne.mpr c14
                by_cases c18 : a0_2 = 4
                · rw [if_pos c18] at H
                  have c18b0 : (a0_2 == 4) = true := beq_iff_eq.mpr c18
                  have c18b1 : (a0_2 != 4) = false := bne_eq_false_iff_eq.mpr c18
                  clear c18
                  by_cases c19 : a0_4 ≤ 31
                  · rw [if_pos c19] at H
                    have c19b0 : decide (a0_4 ≤ 31) = true := decide_eq_true c19
                    clear c19
                    obtain rfl := Option.some.inj H
                    have hcz20_0 : wc.cell? ⟨gb154, 0, none⟩ = some (.int .u64 a0_0) := (blk_cell BK154.out 0).trans rfl
                    have hcz20_1 : wc.cell? ⟨gb154, 1, none⟩ = some (.int .i64 a0_1) := (blk_cell BK154.out 1).trans rfl
                    have hcz20_2 : wc.cell? ⟨gb154, 2, none⟩ = some (.int .i64 a0_2) := (blk_cell BK154.out 2).trans rfl
                    have hcz20_3 : wc.cell? ⟨gb154, 3, none⟩ = some (.int .u32 a0_3) := (blk_cell BK154.out 3).trans rfl
                    have hcz20_4 : wc.cell? ⟨gb154, 4, none⟩ = some (.int .u32 a0_4) := (blk_cell BK154.out 4).trans rfl
                    have hcz20_5 : wc.cell? ⟨gb154, 5, none⟩ = some (.int .u32 a0_5) := (blk_cell BK154.out 5).trans rfl
                    have hfz20_0 := blk_frozen BK154.out 0
                    have hfz20_1 := blk_frozen BK154.out 1
                    have hfz20_2 := blk_frozen BK154.out 2
                    have hfz20_3 := blk_frozen BK154.out 3
                    have hfz20_4 := blk_frozen BK154.out 4
                    have hfz20_5 := blk_frozen BK154.out 5
                    go_wp2
                    go_ret
                    exact ⟨by first | rfl | (simp [errW_none, errW_some] <;> rfl) | (simp [*, errW_none, errW_some] <;> rfl), by repeat (first | (with_reducible first | exact HB.out | apply below_alloc | apply pw_below_drewN | apply below_drew1 | refine below_set ?_ GE154.out) | exact HB.out)⟩
                  · rw [if_neg c19] at H
                    have c19b0 : decide (a0_4 ≤ 31) = false := decide_eq_false c19
                    clear c19
                    obtain rfl := Option.some.inj H
                    have hcz21_0 : wc.cell? ⟨gb154, 0, none⟩ = some (.int .u64 a0_0) := (blk_cell BK154.out 0).trans rfl
                    have hcz21_1 : wc.cell? ⟨gb154, 1, none⟩ = some (.int .i64 a0_1) := (blk_cell BK154.out 1).trans rfl
                    have hcz21_2 : wc.cell? ⟨gb154, 2, none⟩ = some (.int .i64 a0_2) := (blk_cell BK154.out 2).trans rfl
                    have hcz21_3 : wc.cell? ⟨gb154, 3, none⟩ = some (.int .u32 a0_3) := (blk_cell BK154.out 3).trans rfl
                    have hcz21_4 : wc.cell? ⟨gb154, 4, none⟩ = some (.int .u32 a0_4) := (blk_cell BK154.out 4).trans rfl
                    have hcz21_5 : wc.cell? ⟨gb154, 5, none⟩ = some (.int .u32 a0_5) := (blk_cell BK154.out 5).trans rfl
                    have hfz21_0 := blk_frozen BK154.out 0
                    have hfz21_1 := blk_frozen BK154.out 1
                    have hfz21_2 := blk_frozen BK154.out 2
                    have hfz21_3 := blk_frozen BK154.out 3
                    have hfz21_4 := blk_frozen BK154.out 4
                    have hfz21_5 := blk_frozen BK154.out 5
                    go_wp2
                    go_ret
                    exact ⟨by first | rfl | (simp [errW_none, errW_some] <;> rfl) | (simp [*, errW_none, errW_some] <;> rfl), by repeat (first | (with_reducible first | exact HB.out | apply below_alloc | apply pw_below_drewN | apply below_drew1 | refine below_set ?_ GE154.out) | exact HB.out)⟩
                · rw [if_neg c18] at H
                  have c18b0 : (a0_2 == 4) = false := beq_eq_false_iff_ne.mpr c18
                  have c18b1 : (a0_2 != 4) = true := bne_iff_ne.mpr c18
                  by_cases c22 : a0_2 = 5
                  · rw [if_pos c22] at H
                    have c22b0 : (a0_2 == 5) = true := beq_iff_eq.mpr c22
                    have c22b1 : (a0_2 != 5) = false := bne_eq_false_iff_eq.mpr c22
                    clear c22
                    obtain rfl := Option.some.inj H
                    have hcz23_0 : wc.cell? ⟨gb154, 0, none⟩ = some (.int .u64 a0_0) := (blk_cell BK154.out 0).trans rfl
                    have hcz23_1 : wc.cell? ⟨gb154, 1, none⟩ = some (.int .i64 a0_1) := (blk_cell BK154.out 1).trans rfl
                    have hcz23_2 : wc.cell? ⟨gb154, 2, none⟩ = some (.int .i64 a0_2) := (blk_cell BK154.out 2).trans rfl
                    have hcz23_3 : wc.cell? ⟨gb154, 3, none⟩ = some (.int .u32 a0_3) := (blk_cell BK154.out 3).trans rfl
                    have hcz23_4 : wc.cell? ⟨gb154, 4, none⟩ = some (.int .u32 a0_4) := (blk_cell BK154.out 4).trans rfl
                    have hcz23_5 : wc.cell? ⟨gb154, 5, none⟩ = some (.int .u32 a0_5) := (blk_cell BK154.out 5).trans rfl
                    have hfz23_0 := blk_frozen BK154.out 0
                    have hfz23_1 := blk_frozen BK154.out 1
                    have hfz23_2 := blk_frozen BK154.out 2
                    have hfz23_3 := blk_frozen BK154.out 3
                    have hfz23_4 := blk_frozen BK154.out 4
                    have hfz23_5 := blk_frozen BK154.out 5
                    go_wp2
                    go_ret
                    exact ⟨by first | rfl | (simp [errW_none, errW_some] <;> rfl) | (simp [*, errW_none, errW_some] <;> rfl), by repeat (first | (with_reducible first | exact HB.out | apply below_alloc | apply pw_below_drewN | apply below_drew1 | refine below_set ?_ GE154.out) | exact HB.out)⟩
                  · rw [if_neg c22] at H
                    have c22b0 : (a0_2 == 5) = false := beq_eq_false_iff_ne.mpr c22
                    have c22b1 : (a0_2 != 5) = true := bne_iff_ne.mpr c22
                    by_cases c24 : a0_2 = 6
                    · rw [if_pos c24] at H
                      have c24b0 : (a0_2 == 6) = true := beq_iff_eq.mpr c24
                      have c24b1 : (a0_2 != 6) = false := bne_eq_false_iff_eq.mpr c24
                      clear c24
                      by_cases c25 : a0_4 = 0
                      · rw [if_pos c25] at H
                        have c25b0 : (a0_4 == 0) = true := beq_iff_eq.mpr c25
                        have c25b1 : (a0_4 != 0) = false := bne_eq_false_iff_eq.mpr c25
                        clear c25
                        obtain rfl := Option.some.inj H
                        have hcz26_0 : wc.cell? ⟨gb154, 0, none⟩ = some (.int .u64 a0_0) := (blk_cell BK154.out 0).trans rfl
                        have hcz26_1 : wc.cell? ⟨gb154, 1, none⟩ = some (.int .i64 a0_1) := (blk_cell BK154.out 1).trans rfl
                        have hcz26_2 : wc.cell? ⟨gb154, 2, none⟩ = some (.int .i64 a0_2) := (blk_cell BK154.out 2).trans rfl
                        have hcz26_3 : wc.cell? ⟨gb154, 3, none⟩ = some (.int .u32 a0_3) := (blk_cell BK154.out 3).trans rfl
                        have hcz26_4 : wc.cell? ⟨gb154, 4, none⟩ = some (.int .u32 a0_4) := (blk_cell BK154.out 4).trans rfl
                        have hcz26_5 : wc.cell? ⟨gb154, 5, none⟩ = some (.int .u32 a0_5) := (blk_cell BK154.out 5).trans rfl
                        have hfz26_0 := blk_frozen BK154.out 0
                        have hfz26_1 := blk_frozen BK154.out 1
                        have hfz26_2 := blk_frozen BK154.out 2
                        have hfz26_3 := blk_frozen BK154.out 3
                        have hfz26_4 := blk_frozen BK154.out 4
                        have hfz26_5 := blk_frozen BK154.out 5
                        go_wp2
                        go_ret
                        exact ⟨by first | rfl | (simp [errW_none, errW_some] <;> rfl) | (simp [*, errW_none, errW_some] <;> rfl), by repeat (first | (with_reducible first | exact HB.out | apply below_alloc | apply pw_below_drewN | apply below_drew1 | refine below_set ?_ GE154.out) | exact HB.out)⟩
                      · rw [if_neg c25] at H
                        have c25b0 : (a0_4 == 0) = false := beq_eq_false_iff_ne.mpr c25
                        have c25b1 : (a0_4 != 0) = true := bne_iff_ne.mpr c25
                        obtain rfl := Option.some.inj H
                        have hcz27_0 : wc.cell? ⟨gb154, 0, none⟩ = some (.int .u64 a0_0) := (blk_cell BK154.out 0).trans rfl
                        have hcz27_1 : wc.cell? ⟨gb154, 1, none⟩ = some (.int .i64 a0_1) := (blk_cell BK154.out 1).trans rfl
                        have hcz27_2 : wc.cell? ⟨gb154, 2, none⟩ = some (.int .i64 a0_2) := (blk_cell BK154.out 2).trans rfl
                        have hcz27_3 : wc.cell? ⟨gb154, 3, none⟩ = some (.int .u32 a0_3) := (blk_cell BK154.out 3).trans rfl
                        have hcz27_4 : wc.cell? ⟨gb154, 4, none⟩ = some (.int .u32 a0_4) := (blk_cell BK154.out 4).trans rfl
                        have hcz27_5 : wc.cell? ⟨gb154, 5, none⟩ = some (.int .u32 a0_5) := (blk_cell BK154.out 5).trans rfl
                        have hfz27_0 := blk_frozen BK154.out 0
                        have hfz27_1 := blk_frozen BK154.out 1
                        have hfz27_2 := blk_frozen BK154.out 2
                        have hfz27_3 := blk_frozen BK154.out 3
                        have hfz27_4 := blk_frozen BK154.out 4
                        have hfz27_5 := blk_frozen BK154.out 5
                        go_wp2
                        go_ret
                        exact ⟨by first | rfl | (simp [errW_none, errW_some] <;> rfl) | (simp [*, errW_none, errW_some] <;> rfl), by repeat (first | (with_reducible first | exact HB.out | apply below_alloc | apply pw_below_drewN | apply below_drew1 | refine below_set ?_ GE154.out) | exact HB.out)⟩
                    · rw [if_neg c24] at H
                      have c24b0 : (a0_2 == 6) = false := beq_eq_false_iff_ne.mpr c24
                      have c24b1 : (a0_2 != 6) = true := bne_iff_ne.mpr c24
                      by_cases c28 : a0_2 = 7
                      · rw [if_pos c28] at H
                        have c28b0 : (a0_2 == 7) = true := beq_iff_eq.mpr c28
                        have c28b1 : (a0_2 != 7) = false := bne_eq_false_iff_eq.mpr c28
                        clear c28
                        obtain rfl := Option.some.inj H
                        have hcz29_0 : wc.cell? ⟨gb154, 0, none⟩ = some (.int .u64 a0_0) := (blk_cell BK154.out 0).trans rfl
                        have hcz29_1 : wc.cell? ⟨gb154, 1, none⟩ = some (.int .i64 a0_1) := (blk_cell BK154.out 1).trans rfl
                        have hcz29_2 : wc.cell? ⟨gb154, 2, none⟩ = some (.int .i64 a0_2) := (blk_cell BK154.out 2).trans rfl
                        have hcz29_3 : wc.cell? ⟨gb154, 3, none⟩ = some (.int .u32 a0_3) := (blk_cell BK154.out 3).trans rfl
                        have hcz29_4 : wc.cell? ⟨gb154, 4, none⟩ = some (.int .u32 a0_4) := (blk_cell BK154.out 4).trans rfl
                        have hcz29_5 : wc.cell? ⟨gb154, 5, none⟩ = some (.int .u32 a0_5) := (blk_cell BK154.out 5).trans rfl
                        have hfz29_0 := blk_frozen BK154.out 0
                        have hfz29_1 := blk_frozen BK154.out 1
                        have hfz29_2 := blk_frozen BK154.out 2
                        have hfz29_3 := blk_frozen BK154.out 3
                        have hfz29_4 := blk_frozen BK154.out 4
                        have hfz29_5 := blk_frozen BK154.out 5
                        go_wp2
                        go_ret
                        exact ⟨by first | rfl | (simp [errW_none, errW_some] <;> rfl) | (simp [*, errW_none, errW_some] <;> rfl), by repeat (first | (with_reducible first | exact HB.out | apply below_alloc | apply pw_below_drewN | apply below_drew1 | refine below_set ?_ GE154.out) | exact HB.out)⟩
                      · rw [if_neg c28] at H
                        have c28b0 : (a0_2 == 7) = false := beq_eq_false_iff_ne.mpr c28
                        have c28b1 : (a0_2 != 7) = true := bne_iff_ne.mpr c28
                        obtain rfl := Option.some.inj H
                        go_wp2
                        go_ret
                        exact ⟨by first | rfl | (simp [errW_none, errW_some] <;> rfl) | (simp [*, errW_none, errW_some] <;> rfl), by repeat (first | (with_reducible first | exact HB.out | apply below_alloc | apply pw_below_drewN | apply below_drew1 | refine below_set ?_ GE154.out) | exact HB.out)⟩

/-! ### cloisterref22_Sum: function 50 -/
mutual
def cloisterref22_Sum.l0 : Nat → List Int → Int → Int → Option (Int)
  | 0, _, _, _ => none
  | k + 1, x0, x3, x4 => if x4 < (x0.length : Int) then (if 0 ≤ x4 then (cloisterref22_Sum.l1 k x0 (Go.bits .xor .u32 x3 ((rd x0 x4) % 4294967296)) x4 0) else (none)) else (some (Go.bits .xor .u32 x3 4294967295))
def cloisterref22_Sum.l1 : Nat → List Int → Int → Int → Int → Option (Int)
  | 0, _, _, _, _ => none
  | k + 1, x0, x3, x4, x5 => if x5 < 8 then (if (Int.tmod x3 2) = 1 then (cloisterref22_Sum.l1 k x0 (Go.bits .xor .u32 ((Int.tdiv x3 2) % 4294967296) 3988292384) x4 (wrap64 (x5 + 1))) else (cloisterref22_Sum.l1 k x0 ((Int.tdiv x3 2) % 4294967296) x4 (wrap64 (x5 + 1)))) else (cloisterref22_Sum.l0 k x0 x3 (wrap64 (x4 + 1)))
end
def cloisterref22_Sum.f (k : Nat) (l0 : List Int) : Option (Int) := cloisterref22_Sum.l0 k l0 4294967295 0
theorem cloisterref22_Sum.mono_l : ∀ k, (∀ y0 y1 y2, LeO (cloisterref22_Sum.l0 k y0 y1 y2) (cloisterref22_Sum.l0 (k + 1) y0 y1 y2)) ∧ (∀ y0 y1 y2 y3, LeO (cloisterref22_Sum.l1 k y0 y1 y2 y3) (cloisterref22_Sum.l1 (k + 1) y0 y1 y2 y3))
  | 0 => ⟨fun _ _ _ r h => by simp [cloisterref22_Sum.l0] at h, fun _ _ _ _ r h => by simp [cloisterref22_Sum.l1] at h⟩
  | k + 1 => by
    obtain ⟨ih0, ih1⟩ := cloisterref22_Sum.mono_l k
    refine ⟨?_, ?_⟩
    · intro y0 y1 y2
      unfold cloisterref22_Sum.l0
      repeat' first
      | (with_reducible exact ih0 _ _ _)
      | (with_reducible exact ih1 _ _ _ _)
      | (with_reducible exact LeO.refl _)
      | (with_reducible exact LeO.none _)
      | (with_reducible refine LeO.ite ?_ ?_)
      | (with_reducible refine LeO.bind ?_ (fun _ => ?_))
      | exact ih0 _ _ _
      | exact ih1 _ _ _ _
      | exact LeO.none _
      | refine LeO.ite ?_ ?_
      | refine LeO.bind ?_ (fun _ => ?_)
    · intro y0 y1 y2 y3
      unfold cloisterref22_Sum.l1
      repeat' first
      | (with_reducible exact ih0 _ _ _)
      | (with_reducible exact ih1 _ _ _ _)
      | (with_reducible exact LeO.refl _)
      | (with_reducible exact LeO.none _)
      | (with_reducible refine LeO.ite ?_ ?_)
      | (with_reducible refine LeO.bind ?_ (fun _ => ?_))
      | exact ih0 _ _ _
      | exact ih1 _ _ _ _
      | exact LeO.none _
      | refine LeO.ite ?_ ?_
      | refine LeO.bind ?_ (fun _ => ?_)
theorem cloisterref22_Sum.mono : ∀ a0 k, LeO (cloisterref22_Sum.f k a0) (cloisterref22_Sum.f (k + 1) a0) := by
  intro a0 k
  obtain ⟨ih0, ih1⟩ := cloisterref22_Sum.mono_l k
  unfold cloisterref22_Sum.f
  repeat' first
      | (with_reducible exact ih0 _ _ _)
      | (with_reducible exact ih1 _ _ _ _)
      | (with_reducible exact LeO.refl _)
      | (with_reducible exact LeO.none _)
      | (with_reducible refine LeO.ite ?_ ?_)
      | (with_reducible refine LeO.bind ?_ (fun _ => ?_))
      | exact ih0 _ _ _
      | exact ih1 _ _ _ _
      | exact LeO.none _
      | refine LeO.ite ?_ ?_
      | refine LeO.bind ?_ (fun _ => ?_)
set_option maxHeartbeats 8000000 in
set_option maxRecDepth 100000 in
theorem cloisterref22_Sum.calls (k : Nat) (A0 : Option Addr) (c0 : Nat) (l0 : List Int) (r : Int) (w : World) (hr0 : Kd.C (Kd.int .u8) w A0 l0.length l0) (hc0 : l0.length ≤ c0) (h : cloisterref22_Sum.f k l0 = some r) :
    Calls Tryz.prog 50 #[.slice A0 l0.length c0] w fun e w' => e = .returned (.int .u32 r) ∧ Drawn0 w w' := by
  have HR0 := Aside0.mk hr0
  have HC0 := Aside0.mk hc0
  clear hr0 hc0
  have H : (cloisterref22_Sum.l0 k l0 4294967295 0) = some r := h
  clear h
  have H' := Aside0.mk H
  clear H
  go_enter Tryz.func50, Tryz.ntmps50
  go_wp2
  go_loopg [3, 4] k (fun kq v3 v4 w' => ∃ (x3_1 : Int) (x4_1 : Int), v3 = .int .u32 x3_1 ∧ v4 = .int .i64 x4_1 ∧ Aside0 (cloisterref22_Sum.l0 kq l0 x3_1 x4_1 = some r) ∧ Aside0 (kq ≤ k) ∧ Drawn0 w w')
  case atStart => exact ⟨(4294967295), (0), (by first | rfl | (simp; done) | (simp [*]; done)), (by first | rfl | (simp; done) | (simp [*]; done)), H', ⟨Nat.le_refl _⟩, by repeat (first | exact Drawn0.refl _ | apply Drawn0.step)⟩
  case round =>
    clear H'
    obtain ⟨x3_1, x4_1, rfl, rfl, HA, HK1, ⟨m1, rfl⟩⟩ := hrel
    cases gk with
    | zero => exact absurd HA.out (by simp [cloisterref22_Sum.l0])
    | succ k1 =>
      have H := HA.out
      clear HA
      simp only [cloisterref22_Sum.l0] at H
      by_cases c2 : x4_1 < (l0.length : Int)
      · rw [if_pos c2] at H
        have c2b0 : decide (x4_1 < (l0.length : Int)) = true := decide_eq_true c2
        clear c2
        by_cases c3 : 0 ≤ x4_1
        · rw [if_pos c3] at H
          have c3b0 : decide (0 ≤ x4_1) = true := decide_eq_true c3
          clear c3
          have H' := Aside0.mk H
          clear H
          have p155 : 0 ≤ (x4_1 : Int) := of_decide_eq_true (by first | (with_reducible assumption) | assumption)
          have q155 : x4_1 < (l0.length : Int) := of_decide_eq_true (by first | (with_reducible assumption) | assumption)
          obtain ⟨ad155, e155, hx155_0⟩ := Kd.at_int HR0.out x4_1 p155 q155
          cases e155
          replace p155 := eq_true p155
          replace q155 := eq_true q155
          go_wp2
          go_loopg [3, 5] k1 (fun kq v3 v5 w' => ∃ (x3_2 : Int) (x5_2 : Int), v3 = .int .u32 x3_2 ∧ v5 = .int .i64 x5_2 ∧ Aside0 (cloisterref22_Sum.l1 kq l0 x3_2 x4_1 x5_2 = some r) ∧ Aside0 (kq ≤ k1) ∧ Drawn0 w w')
          case atStart => exact ⟨(Go.bits .xor .u32 x3_1 ((rd l0 x4_1) % 4294967296)), (0), (by first | rfl | (simp; done) | (simp [*]; done)), (by first | rfl | (simp; done) | (simp [*]; done)), H', ⟨Nat.le_refl _⟩, by repeat (first | exact Drawn0.refl _ | apply Drawn0.step)⟩
          case round =>
            clear H'
            try clear p1
            try clear q1
            try clear hx1
            try clear c2
            try clear c2b0
            try clear p2
            try clear c3
            try clear c3b0
            try clear hx155_0
            try clear p155
            try clear q155
            obtain ⟨x3_2, x5_2, rfl, rfl, HA, HK2, ⟨m2, rfl⟩⟩ := hrel
            cases gk with
            | zero => exact absurd HA.out (by simp [cloisterref22_Sum.l1])
            | succ k2 =>
              have H := HA.out
              clear HA
              simp only [cloisterref22_Sum.l1] at H
              by_cases c4 : x5_2 < 8
              · rw [if_pos c4] at H
                have c4b0 : decide (x5_2 < 8) = true := decide_eq_true c4
                clear c4
                by_cases c5 : (Int.tmod x3_2 2) = 1
                · rw [if_pos c5] at H
                  have c5b0 : ((Int.tmod x3_2 2) == 1) = true := beq_iff_eq.mpr c5
                  have c5b1 : ((Int.tmod x3_2 2) != 1) = false := bne_eq_false_iff_eq.mpr c5
                  clear c5
                  have H' := Aside0.mk H
                  clear H
                  go_wp2
                  go_roundg k2
                  case measure => have := HK1.out; have := HK2.out; omega
                  case rel => exact ⟨(Go.bits .xor .u32 ((Int.tdiv x3_2 2) % 4294967296) 3988292384), (wrap64 (x5_2 + 1)), (by first | rfl | (simp; done) | (simp [*]; done)), (by first | rfl | (simp; done) | (simp [*]; done)), H', ⟨by have := HK1.out; have := HK2.out; omega⟩, by repeat (first | exact Drawn0.refl _ | apply Drawn0.step)⟩
                · rw [if_neg c5] at H
                  have c5b0 : ((Int.tmod x3_2 2) == 1) = false := beq_eq_false_iff_ne.mpr c5
                  have c5b1 : ((Int.tmod x3_2 2) != 1) = true := bne_iff_ne.mpr c5
                  have H' := Aside0.mk H
                  clear H
                  go_wp2
                  go_roundg k2
                  case measure => have := HK1.out; have := HK2.out; omega
                  case rel => exact ⟨((Int.tdiv x3_2 2) % 4294967296), (wrap64 (x5_2 + 1)), (by first | rfl | (simp; done) | (simp [*]; done)), (by first | rfl | (simp; done) | (simp [*]; done)), H', ⟨by have := HK1.out; have := HK2.out; omega⟩, by repeat (first | exact Drawn0.refl _ | apply Drawn0.step)⟩
              · rw [if_neg c4] at H
                have c4b0 : decide (x5_2 < 8) = false := decide_eq_false c4
                clear c4
                have H' := Aside0.mk H
                clear H
                go_wp2
                go_roundg k2
                case measure => have := HK1.out; have := HK2.out; omega
                case rel => exact ⟨(x3_2), (wrap64 (x4_1 + 1)), (by first | rfl | (simp; done) | (simp [*]; done)), (by first | rfl | (simp; done) | (simp [*]; done)), H', ⟨by have := HK1.out; have := HK2.out; omega⟩, by repeat (first | exact Drawn0.refl _ | apply Drawn0.step)⟩
        · rw [if_neg c3] at H
          exact absurd H (by simp)
      · rw [if_neg c2] at H
        have c2b0 : decide (x4_1 < (l0.length : Int)) = false := decide_eq_false c2
        clear c2
        obtain rfl := Option.some.inj H
        go_wp2
        go_ret
        exact ⟨by first | rfl | (simp; done) | (simp [*]; done), by repeat (first | exact Drawn0.refl _ | apply Drawn0.step)⟩

/-! ### cloisterref22_Digest: function 25 -/
def cloisterref22_Digest.l0 : Nat → List Int → List (S35) → Int → Option (Int)
  | 0, _, _, _ => none
  | k + 1, x5, x6, x7 => if x7 < (x6.length : Int) then (if 0 ≤ x7 then ((cloisterref22_May.f k ((rd_T35 x6 x7).f0) ((rd_T35 x6 x7).f1) ((rd_T35 x6 x7).f2) ((rd_T35 x6 x7).f3) ((rd_T35 x6 x7).f4) ((rd_T35 x6 x7).f5)).bind fun t161 => (if t161 = true then ((cloisterref22_Row.f k ((rd_T35 x6 x7).f0) ((rd_T35 x6 x7).f1) ((rd_T35 x6 x7).f2) ((rd_T35 x6 x7).f3) ((rd_T35 x6 x7).f4) ((rd_T35 x6 x7).f5)).bind fun t163 => (if x5.length + t163.length < 140737488355328 then (cloisterref22_Digest.l0 k (x5 ++ t163) x6 (wrap64 (x7 + 1))) else (none))) else (cloisterref22_Digest.l0 k x5 x6 (wrap64 (x7 + 1))))) else (none)) else ((cloisterref22_Sum.f k x5).bind fun t159 => (some t159))
def cloisterref22_Digest.f (k : Nat) (a0 : Int) (l1 : List (S35)) : Option (Int) := (cloisterref22_Of.f k a0 l1).bind fun t156 => (cloisterref22_Digest.l0 k ([] : List Int) t156 0)
theorem cloisterref22_Digest.mono_l : ∀ k, (∀ y0 y1 y2, LeO (cloisterref22_Digest.l0 k y0 y1 y2) (cloisterref22_Digest.l0 (k + 1) y0 y1 y2))
  | 0 => fun _ _ _ r h => by simp [cloisterref22_Digest.l0] at h
  | k + 1 => by
    have ih0 := cloisterref22_Digest.mono_l k
    · intro y0 y1 y2
      unfold cloisterref22_Digest.l0
      repeat' first
      | (with_reducible exact ih0 _ _ _)
      | (with_reducible exact cloisterref22_May.mono _ _ _ _ _ _ _)
      | (with_reducible exact cloisterref22_Of.mono _ _ _)
      | (with_reducible exact cloisterref22_Row.mono _ _ _ _ _ _ _)
      | (with_reducible exact cloisterref22_Sum.mono _ _)
      | (with_reducible exact LeO.refl _)
      | (with_reducible exact LeO.none _)
      | (with_reducible refine LeO.ite ?_ ?_)
      | (with_reducible refine LeO.bind ?_ (fun _ => ?_))
      | exact ih0 _ _ _
      | exact cloisterref22_May.mono _ _ _ _ _ _ _
      | exact cloisterref22_Of.mono _ _ _
      | exact cloisterref22_Row.mono _ _ _ _ _ _ _
      | exact cloisterref22_Sum.mono _ _
      | exact LeO.none _
      | refine LeO.ite ?_ ?_
      | refine LeO.bind ?_ (fun _ => ?_)
theorem cloisterref22_Digest.mono : ∀ a0 a1 k, LeO (cloisterref22_Digest.f k a0 a1) (cloisterref22_Digest.f (k + 1) a0 a1) := by
  intro a0 a1 k
  have ih0 := cloisterref22_Digest.mono_l k
  unfold cloisterref22_Digest.f
  repeat' first
      | (with_reducible exact ih0 _ _ _)
      | (with_reducible exact cloisterref22_May.mono _ _ _ _ _ _ _)
      | (with_reducible exact cloisterref22_Of.mono _ _ _)
      | (with_reducible exact cloisterref22_Row.mono _ _ _ _ _ _ _)
      | (with_reducible exact cloisterref22_Sum.mono _ _)
      | (with_reducible exact LeO.refl _)
      | (with_reducible exact LeO.none _)
      | (with_reducible refine LeO.ite ?_ ?_)
      | (with_reducible refine LeO.bind ?_ (fun _ => ?_))
      | exact ih0 _ _ _
      | exact cloisterref22_May.mono _ _ _ _ _ _ _
      | exact cloisterref22_Of.mono _ _ _
      | exact cloisterref22_Row.mono _ _ _ _ _ _ _
      | exact cloisterref22_Sum.mono _ _
      | exact LeO.none _
      | refine LeO.ite ?_ ?_
      | refine LeO.bind ?_ (fun _ => ?_)
set_option maxHeartbeats 8000000 in
set_option maxRecDepth 100000 in
theorem cloisterref22_Digest.calls (k : Nat) (a0 : Int) (A1 : Option Addr) (c1 : Nat) (l1 : List (S35)) (r : Int) (w : World) (hr1 : Kd.C k35 w A1 l1.length l1) (hc1 : l1.length ≤ c1) (h : cloisterref22_Digest.f k a0 l1 = some r) :
    Calls Tryz.prog 25 #[.int .i64 a0, .slice A1 l1.length c1] w fun e w' => e = .returned (.int .u32 r) ∧ Below w.heap.size w w' := by
  have hu35 := Tryz.underlying35
  have HR1 := Aside0.mk hr1
  have HC1 := Aside0.mk hc1
  clear hr1 hc1
  have HB := Aside0.mk (Below.refl w.heap.size w)
  have H : ((cloisterref22_Of.f k a0 l1).bind fun t156 => (cloisterref22_Digest.l0 k ([] : List Int) t156 0)) = some r := h
  clear h
  replace H := Option.bind_eq_some_iff.mp H
  obtain ⟨t156, A30, H⟩ := H
  replace H : (cloisterref22_Digest.l0 k ([] : List Int) t156 0) = some r := H
  have A3 := Aside0.mk A30
  clear A30
  have H' := Aside0.mk H
  clear H
  go_enter Tryz.func25, Tryz.ntmps25
  go_wp2_with (first | ((with_reducible refine gate_callee (f := 27) rfl ?_); refine goesL_ (some 11) rfl rfl Tryz.func27 (by kernel_rfl) rfl #[.int .i64 a0, .slice A1 l1.length c1] rfl (by (try simp only [List.map_toArray, List.map_cons, List.map_nil]); first | done | rfl | (simp only [List.length_drop, List.length_take]; rfl)) ?_; (with_reducible refine (cloisterref22_Of.calls k a0 _ _ l1 t156 _ ?side1 ?side2 A3.out).mono ?_); (case side1 => repeat (first | exact HR1.out | (with_reducible refine Kd.C_alloc ?_ _) | (with_reducible refine Kd.C_drewN ?_ _) | (with_reducible refine Kd.C_drew ?_))); (case side2 => exact HC1.out); rintro e w4 ⟨v157, rfl, ho0, hb⟩; refine ⟨_, rfl, ?_⟩; have n0_ := Aside0.mk (Kd.R_lower ho0 (below_size (by repeat (first | (with_reducible first | exact HB.out | apply below_alloc | apply pw_below_drewN | apply below_drew1) | exact HB.out)))); have n1_ := Aside0.mk (below_step (by repeat (first | (with_reducible first | exact HB.out | apply below_alloc | apply pw_below_drewN | apply below_drew1) | exact HB.out)) hb); clear HB; have HO158 := n0_; have HB := n1_; clear n0_ n1_; (try clear hb); (try clear hb2); (try clear hk); (try clear hi); (try clear ho0)))
  go_loopg [5, 7] k (fun kq v5 v7 w' => ∃ (x5_1 : List Int) (x7_1 : Int), v7 = .int .i64 x7_1 ∧ Aside0 (cloisterref22_Digest.l0 kq x5_1 t156 x7_1 = some r) ∧ Aside0 (kq ≤ k) ∧ Aside0 (Kd.R (Kd.int .u8) 5 w' w.heap.size (fun _ => True) v5 x5_1) ∧ Aside0 (Kd.R k35 35 w' w.heap.size (fun _ => True) v157 t156) ∧ Aside0 (Below w.heap.size w w'))
  case atStart => exact ⟨(([] : List Int)), (0), (by first | rfl | (simp; done) | (simp [*]; done)), H', ⟨Nat.le_refl _⟩, ⟨by first | exact Kd.R_nil _ _ _ _ _ | exact Kd.N_nil _ _ _ _ _ | exact Kd.V_nil _ _ _ _ _ | exact Kd.Q_nil _ _ _ _ _ | exact Kd.S_nil _ _ _ _ _⟩, ⟨by (with_reducible repeat (first | apply Kd.R_alloc | apply Kd.R_drewN | apply Kd.R_drew)); exact HO158.out⟩, ⟨by repeat (first | (with_reducible first | exact HB.out | apply below_alloc | apply pw_below_drewN | apply below_drew1) | exact HB.out)⟩⟩
  case round =>
    clear H'
    try clear c1
    try clear c2
    try clear p2
    obtain ⟨x5_1, x7_1, rfl, HA, HK1, HO_5, HO_6, HB⟩ := hrel
    cases gk with
    | zero => exact absurd HA.out (by simp [cloisterref22_Digest.l0])
    | succ k1 =>
      have H := HA.out
      clear HA
      simp only [cloisterref22_Digest.l0] at H
      by_cases c5 : x7_1 < (t156.length : Int)
      · rw [if_pos c5] at H
        have c5b0 : decide (x7_1 < (t156.length : Int)) = true := decide_eq_true c5
        clear c5
        by_cases c6 : 0 ≤ x7_1
        · rw [if_pos c6] at H
          have c6b0 : decide (0 ≤ x7_1) = true := decide_eq_true c6
          clear c6
          replace H := Option.bind_eq_some_iff.mp H
          obtain ⟨t161, A70, H⟩ := H
          replace H : (if t161 = true then ((cloisterref22_Row.f k1 ((rd_T35 t156 x7_1).f0) ((rd_T35 t156 x7_1).f1) ((rd_T35 t156 x7_1).f2) ((rd_T35 t156 x7_1).f3) ((rd_T35 t156 x7_1).f4) ((rd_T35 t156 x7_1).f5)).bind fun t163 => (if x5_1.length + t163.length < 140737488355328 then (cloisterref22_Digest.l0 k1 (x5_1 ++ t163) t156 (wrap64 (x7_1 + 1))) else (none))) else (cloisterref22_Digest.l0 k1 x5_1 t156 (wrap64 (x7_1 + 1)))) = some r := H
          have A7 := Aside0.mk A70
          clear A70
          by_cases c8 : t161 = true
          · subst c8
            have H1 : ((cloisterref22_Row.f k1 ((rd_T35 t156 x7_1).f0) ((rd_T35 t156 x7_1).f1) ((rd_T35 t156 x7_1).f2) ((rd_T35 t156 x7_1).f3) ((rd_T35 t156 x7_1).f4) ((rd_T35 t156 x7_1).f5)).bind fun t163 => (if x5_1.length + t163.length < 140737488355328 then (cloisterref22_Digest.l0 k1 (x5_1 ++ t163) t156 (wrap64 (x7_1 + 1))) else (none))) = some r := by rw [if_pos rfl] at H; exact H
            clear H
            have H := H1
            clear H1
            replace H := Option.bind_eq_some_iff.mp H
            obtain ⟨t163, A90, H⟩ := H
            replace H : (if x5_1.length + t163.length < 140737488355328 then (cloisterref22_Digest.l0 k1 (x5_1 ++ t163) t156 (wrap64 (x7_1 + 1))) else (none)) = some r := H
            have A9 := Aside0.mk A90
            clear A90
            by_cases c10 : x5_1.length + t163.length < 140737488355328
            · rw [if_pos c10] at H
              have LMc10 := Aside0.mk c10
              clear c10
              obtain ⟨y166, hy166⟩ : ∃ y_ : List Int, y_ = (x5_1 ++ t163) := ⟨_, rfl⟩
              replace H : (cloisterref22_Digest.l0 k1 y166 t156 (wrap64 (x7_1 + 1))) = some r := by first | (rw [hy166]; with_reducible exact H) | (have H2_ := (Option.bind_some _ _).symm.trans H; rw [hy166]; with_reducible exact H2_) | (have H2_ := (Option.bind_some _ _).symm.trans H; with_reducible exact H2_) | with_reducible exact H | (rw [hy166]; exact H) | exact H
              have Ny166 := Aside0.mk hy166
              clear hy166
              have H' := Aside0.mk H
              clear H
              obtain ⟨Ao11, co11, eo11⟩ := Kd.R_slice HO_6.out
              subst eo11
              have p160 : 0 ≤ (x7_1 : Int) := of_decide_eq_true (by first | (with_reducible assumption) | assumption)
              have q160 : x7_1 < (t156.length : Int) := of_decide_eq_true (by first | (with_reducible assumption) | assumption)
              obtain ⟨ad160, e160, hx160_0, hx160_1, hx160_2, hx160_3, hx160_4, hx160_5⟩ := at_T35 (Kd.R_reads' HO_6.out).2.2 x7_1 p160 q160
              cases e160
              replace p160 := eq_true p160
              replace q160 := eq_true q160
              go_wp2_with (first | ((with_reducible refine gate_callee (f := 40) rfl ?_); refine goesL_ (some 22) rfl rfl Tryz.func40 (by kernel_rfl) rfl #[.agg #[.int .u64 ((rd_T35 t156 x7_1).f0), .int .i64 ((rd_T35 t156 x7_1).f1), .int .i64 ((rd_T35 t156 x7_1).f2), .int .u32 ((rd_T35 t156 x7_1).f3), .int .u32 ((rd_T35 t156 x7_1).f4), .int .u32 ((rd_T35 t156 x7_1).f5)]] rfl (by (try simp only [List.map_toArray, List.map_cons, List.map_nil]); first | done | rfl | (simp only [List.length_drop, List.length_take]; rfl)) ?_; (with_reducible refine (cloisterref22_May.calls k1 ((rd_T35 t156 x7_1).f0) ((rd_T35 t156 x7_1).f1) ((rd_T35 t156 x7_1).f2) ((rd_T35 t156 x7_1).f3) ((rd_T35 t156 x7_1).f4) ((rd_T35 t156 x7_1).f5) true _ A7.out).mono ?_); rintro e w12 ⟨rfl, hb⟩; refine ⟨_, rfl, ?_⟩; have n0_ := Aside0.mk (Kd.R_below (by (with_reducible repeat (first | apply Kd.R_alloc | apply Kd.R_drewN | apply Kd.R_drew)); exact HO_5.out) hb); have n1_ := Aside0.mk (Kd.R_below (by (with_reducible repeat (first | apply Kd.R_alloc | apply Kd.R_drewN | apply Kd.R_drew)); exact HO_6.out) hb); have n2_ := Aside0.mk (below_step (by repeat (first | (with_reducible first | exact HB.out | apply below_alloc | apply pw_below_drewN | apply below_drew1) | exact HB.out)) hb); clear HO_5; clear HO_6; clear HB; have HO_5 := n0_; have HO_6 := n1_; have HB := n2_; clear n0_ n1_ n2_; (try clear hb); (try clear hb2); (try clear hk); (try clear hi); have p162 : 0 ≤ (x7_1 : Int) := of_decide_eq_true (by first | (with_reducible assumption) | assumption); have q162 : x7_1 < (t156.length : Int) := of_decide_eq_true (by first | (with_reducible assumption) | assumption); obtain ⟨ad162, e162, hx162_0, hx162_1, hx162_2, hx162_3, hx162_4, hx162_5⟩ := at_T35 (Kd.R_reads' HO_6.out).2.2 x7_1 p162 q162; obtain rfl : ad160 = ad162 := (by injection e162); replace p162 := eq_true p162; replace q162 := eq_true q162) | ((with_reducible refine gate_callee (f := 52) rfl ?_); refine goesL_ (some 29) rfl rfl Tryz.func52 (by kernel_rfl) rfl #[.agg #[.int .u64 ((rd_T35 t156 x7_1).f0), .int .i64 ((rd_T35 t156 x7_1).f1), .int .i64 ((rd_T35 t156 x7_1).f2), .int .u32 ((rd_T35 t156 x7_1).f3), .int .u32 ((rd_T35 t156 x7_1).f4), .int .u32 ((rd_T35 t156 x7_1).f5)]] rfl (by (try simp only [List.map_toArray, List.map_cons, List.map_nil]); first | done | rfl | (simp only [List.length_drop, List.length_take]; rfl)) ?_; (with_reducible refine (cloisterref22_Row.calls k1 ((rd_T35 t156 x7_1).f0) ((rd_T35 t156 x7_1).f1) ((rd_T35 t156 x7_1).f2) ((rd_T35 t156 x7_1).f3) ((rd_T35 t156 x7_1).f4) ((rd_T35 t156 x7_1).f5) t163 _ A9.out).mono ?_); rintro e w13 ⟨v164, rfl, ho0, hb⟩; refine ⟨_, rfl, ?_⟩; have n0_ := Aside0.mk (Kd.R_elder' (by (with_reducible repeat (first | apply Kd.R_alloc | apply Kd.R_drewN | apply Kd.R_drew)); exact HO_5.out) (Kd.R_base ho0) hb); have n1_ := Aside0.mk (Kd.R_below (by (with_reducible repeat (first | apply Kd.R_alloc | apply Kd.R_drewN | apply Kd.R_drew)); exact HO_6.out) hb); have n2_ := Aside0.mk (Kd.R_lower (Kd.R_new' ho0 (Kd.R_lt (by (with_reducible repeat (first | apply Kd.R_alloc | apply Kd.R_drewN | apply Kd.R_drew)); exact HO_5.out))) (below_size (by repeat (first | (with_reducible first | exact HB.out | apply below_alloc | apply pw_below_drewN | apply below_drew1) | exact HB.out)))); have n3_ := Aside0.mk (below_step (by repeat (first | (with_reducible first | exact HB.out | apply below_alloc | apply pw_below_drewN | apply below_drew1) | exact HB.out)) hb); clear HO_5; clear HO_6; clear HB; have HO_5 := n0_; have HO_6 := n1_; have HO165 := n2_; have HB := n3_; clear n0_ n1_ n2_ n3_; (try clear hb); (try clear hb2); (try clear hk); (try clear hi); (try clear ho0); obtain ⟨Ao15, co15, eo15⟩ := Kd.R_slice HO165.out; subst eo15) | ((with_reducible refine gate_builtin (b := .append) (xs := #[.tmp 24, .tmp 29]) rfl ?_); at_builtin; refine Kd.R_append_rows (Kd.int .u8) (w0 := w) w.heap.size rfl (.tmp 24) (.tmp 29) 37 5 (.int .u8 0) 1 rfl Tryz.underlying37 info5 rfl (by decide) (by omega) u5 x5_1 t163 _ _ _ (fun k_ => some k_ ≠ (.slice Ao15 t163.length co15 : Value).ownBlock) (fun _ => False) rfl rfl ?aO ?aR (fun _ _ h => h) (fun _ h => h.elim) ?aF ?aB ?aS ?aL ?_; (case aR => repeat (first | exact (Kd.R_reads' HO165.out).2.2 | (with_reducible refine Kd.C_alloc ?_ _) | (with_reducible refine Kd.C_drewN ?_ _) | (with_reducible refine Kd.C_drew ?_))); (case aB => exact (by repeat (first | (with_reducible first | exact HB.out | apply below_alloc | apply pw_below_drewN | apply below_drew1) | exact HB.out))); (case aF => exact (fun k_ hk => Kd.fresh' (Kd.R_lt (by (with_reducible repeat (first | apply Kd.R_alloc | apply Kd.R_drewN | apply Kd.R_drew)); exact HO165.out)) k_ hk)); (case aO => exact (by (with_reducible repeat (first | apply Kd.R_alloc | apply Kd.R_drewN | apply Kd.R_drew)); exact Kd.R_mono HO_5.out (fun _ hk => hk.2))); (case aS => exact (below_size (by repeat (first | (with_reducible first | exact HB.out | apply below_alloc | apply pw_below_drewN | apply below_drew1) | exact HB.out)))); (case aL => have := LMc10.out; omega); intro v167 w14 ho hb hg hat; rw [← Ny166.out] at ho; have n0_ := Aside0.mk (Kd.R_over' (by (with_reducible repeat (first | apply Kd.R_alloc | apply Kd.R_drewN | apply Kd.R_drew)); exact HO_6.out) (Kd.R_typed (by (with_reducible repeat (first | apply Kd.R_alloc | apply Kd.R_drewN | apply Kd.R_drew)); exact HO_5.out)) (by decide) hg); have n1_ := Aside0.mk (Kd.R_after (ok := (fun _ => True)) (by (with_reducible repeat (first | apply Kd.R_alloc | apply Kd.R_drewN | apply Kd.R_drew)); exact HO165.out) hg hat); have n2_ := Aside0.mk (hb); have n3_ := Aside0.mk (ho); clear HO_6; clear HO165; clear HB; clear HO_5; have HO_6 := n0_; have HO165 := n1_; have HB := n2_; have HO168 := n3_; clear n0_ n1_ n2_ n3_; clear ho hb hg hat))
              go_roundg k1
              case measure => have := HK1.out; omega
              case rel => exact ⟨(y166), (wrap64 (x7_1 + 1)), (by first | rfl | (simp; done) | (simp [*]; done)), H', ⟨by have := HK1.out; omega⟩, ⟨by (with_reducible repeat (first | apply Kd.R_alloc | apply Kd.R_drewN | apply Kd.R_drew)); exact Kd.R_mono HO168.out (fun _ hk => trivial)⟩, ⟨by (with_reducible repeat (first | apply Kd.R_alloc | apply Kd.R_drewN | apply Kd.R_drew)); exact HO_6.out⟩, ⟨by repeat (first | (with_reducible first | exact HB.out | apply below_alloc | apply pw_below_drewN | apply below_drew1) | exact HB.out)⟩⟩
            · rw [if_neg c10] at H
              exact absurd H (by simp)
          · replace c8 := Bool.eq_false_iff.mpr c8
            subst c8
            have H1 : (cloisterref22_Digest.l0 k1 x5_1 t156 (wrap64 (x7_1 + 1))) = some r := by rw [if_neg (show ¬ (false = true) by decide)] at H; exact H
            clear H
            have H := H1
            clear H1
            have H' := Aside0.mk H
            clear H
            obtain ⟨Ao16, co16, eo16⟩ := Kd.R_slice HO_6.out
            subst eo16
            have p160 : 0 ≤ (x7_1 : Int) := of_decide_eq_true (by first | (with_reducible assumption) | assumption)
            have q160 : x7_1 < (t156.length : Int) := of_decide_eq_true (by first | (with_reducible assumption) | assumption)
            obtain ⟨ad160, e160, hx160_0, hx160_1, hx160_2, hx160_3, hx160_4, hx160_5⟩ := at_T35 (Kd.R_reads' HO_6.out).2.2 x7_1 p160 q160
            cases e160
            replace p160 := eq_true p160
            replace q160 := eq_true q160
            go_wp2_with (first | ((with_reducible refine gate_callee (f := 40) rfl ?_); refine goesL_ (some 22) rfl rfl Tryz.func40 (by kernel_rfl) rfl #[.agg #[.int .u64 ((rd_T35 t156 x7_1).f0), .int .i64 ((rd_T35 t156 x7_1).f1), .int .i64 ((rd_T35 t156 x7_1).f2), .int .u32 ((rd_T35 t156 x7_1).f3), .int .u32 ((rd_T35 t156 x7_1).f4), .int .u32 ((rd_T35 t156 x7_1).f5)]] rfl (by (try simp only [List.map_toArray, List.map_cons, List.map_nil]); first | done | rfl | (simp only [List.length_drop, List.length_take]; rfl)) ?_; (with_reducible refine (cloisterref22_May.calls k1 ((rd_T35 t156 x7_1).f0) ((rd_T35 t156 x7_1).f1) ((rd_T35 t156 x7_1).f2) ((rd_T35 t156 x7_1).f3) ((rd_T35 t156 x7_1).f4) ((rd_T35 t156 x7_1).f5) false _ A7.out).mono ?_); rintro e w17 ⟨rfl, hb⟩; refine ⟨_, rfl, ?_⟩; have n0_ := Aside0.mk (Kd.R_below (by (with_reducible repeat (first | apply Kd.R_alloc | apply Kd.R_drewN | apply Kd.R_drew)); exact HO_5.out) hb); have n1_ := Aside0.mk (Kd.R_below (by (with_reducible repeat (first | apply Kd.R_alloc | apply Kd.R_drewN | apply Kd.R_drew)); exact HO_6.out) hb); have n2_ := Aside0.mk (below_step (by repeat (first | (with_reducible first | exact HB.out | apply below_alloc | apply pw_below_drewN | apply below_drew1) | exact HB.out)) hb); clear HO_5; clear HO_6; clear HB; have HO_5 := n0_; have HO_6 := n1_; have HB := n2_; clear n0_ n1_ n2_; (try clear hb); (try clear hb2); (try clear hk); (try clear hi)))
            go_roundg k1
            case measure => have := HK1.out; omega
            case rel => exact ⟨(x5_1), (wrap64 (x7_1 + 1)), (by first | rfl | (simp; done) | (simp [*]; done)), H', ⟨by have := HK1.out; omega⟩, ⟨by (with_reducible repeat (first | apply Kd.R_alloc | apply Kd.R_drewN | apply Kd.R_drew)); exact HO_5.out⟩, ⟨by (with_reducible repeat (first | apply Kd.R_alloc | apply Kd.R_drewN | apply Kd.R_drew)); exact HO_6.out⟩, ⟨by repeat (first | (with_reducible first | exact HB.out | apply below_alloc | apply pw_below_drewN | apply below_drew1) | exact HB.out)⟩⟩
        · rw [if_neg c6] at H
          exact absurd H (by simp)
      · rw [if_neg c5] at H
        have c5b0 : decide (x7_1 < (t156.length : Int)) = false := decide_eq_false c5
        clear c5
        replace H := Option.bind_eq_some_iff.mp H
        obtain ⟨t159, A180, H⟩ := H
        replace H : (some t159) = some r := H
        have A18 := Aside0.mk A180
        clear A180
        obtain rfl := Option.some.inj H
        obtain ⟨Ao19, co19, eo19⟩ := Kd.R_slice HO_6.out
        subst eo19
        obtain ⟨Ao20, co20, eo20⟩ := Kd.R_slice HO_5.out
        subst eo20
        go_wp2_with (first | ((with_reducible refine gate_callee (f := 50) rfl ?_); refine goesL_ (some 32) rfl rfl Tryz.func50 (by kernel_rfl) rfl #[.slice Ao20 x5_1.length co20] rfl (by (try simp only [List.map_toArray, List.map_cons, List.map_nil]); first | done | rfl | (simp only [List.length_drop, List.length_take]; rfl)) ?_; (with_reducible refine (cloisterref22_Sum.calls k1 _ _ x5_1 t159 _ ?side1 ?side2 A18.out).mono ?_); (case side1 => repeat (first | exact (Kd.R_reads' HO_5.out).2.2 | (with_reducible refine Kd.C_alloc ?_ _) | (with_reducible refine Kd.C_drewN ?_ _) | (with_reducible refine Kd.C_drew ?_))); (case side2 => exact (Kd.R_reads' HO_5.out).2.1); rintro e w' ⟨rfl, ⟨nd, rfl⟩⟩; refine ⟨_, rfl, ?_⟩))
        go_ret
        exact ⟨by first | rfl | (simp [errW_none, errW_some] <;> rfl) | (simp [*, errW_none, errW_some] <;> rfl), by repeat (first | (with_reducible first | exact HB.out | apply below_alloc | apply pw_below_drewN | apply below_drew1) | exact HB.out)⟩

end Go.Proofs.YtohighedgdlflaaGreatDoor.PR
