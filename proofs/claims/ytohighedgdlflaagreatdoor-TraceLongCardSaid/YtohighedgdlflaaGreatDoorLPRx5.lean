-- PRINTED by print.py (a twelfth state) out of the translation. Not trusted: Lean checks it.
import Derived.Test.YtohighedgdlflaaGreatDoorLPRx0
import Derived.Test.YtohighedgdlflaaGreatDoorLPRx1
import Derived.Test.YtohighedgdlflaaGreatDoorLPRx3
namespace Go.Proofs.YtohighedgdlflaaGreatDoor.PR
open Go.RowKit Go.Proofs.YtohighedgdlflaaGreatDoorW.PrintWords Go.Proofs.YtohighedgdlflaaGreatDoorW.PrintLast Go.Proofs.YtohighedgdlflaaGreatDoorW.PrintMore
attribute [local go_sem] max2_int min2_int max_two min_two max_three min_three max_four min_four   -- for this text's walks alone
set_option linter.unusedVariables false
set_option linter.unusedSimpArgs false

attribute [local go_sem high] eqA35
/-! ### cloisterref22_Part: function 26 -/
def cloisterref22_Part.l0 : Nat → List (S35) → List (S35) → Int → Option (Int)
  | 0, _, _, _ => none
  | k + 1, x7, x8, x9 => if x9 < (x7.length : Int) then (if x9 < (x8.length : Int) then (if 0 ≤ x9 then (if (((rd_T35 x7 x9).f0) == ((rd_T35 x8 x9).f0) && (((rd_T35 x7 x9).f1) == ((rd_T35 x8 x9).f1) && (((rd_T35 x7 x9).f2) == ((rd_T35 x8 x9).f2) && (((rd_T35 x7 x9).f3) == ((rd_T35 x8 x9).f3) && (((rd_T35 x7 x9).f4) == ((rd_T35 x8 x9).f4) && (((rd_T35 x7 x9).f5) == ((rd_T35 x8 x9).f5))))))) = true then (cloisterref22_Part.l0 k x7 x8 (wrap64 (x9 + 1))) else (if x9 = (x7.length : Int) then (if x9 = (x8.length : Int) then (some (-1)) else (some x9)) else (some x9))) else (none)) else (if x9 = (x7.length : Int) then (if x9 = (x8.length : Int) then (some (-1)) else (some x9)) else (some x9))) else (if x9 = (x7.length : Int) then (if x9 = (x8.length : Int) then (some (-1)) else (some x9)) else (some x9))
def cloisterref22_Part.f (k : Nat) (a0 : Int) (l1 : List (S35)) (l2 : List (S35)) : Option (Int) := (cloisterref22_Of.f k a0 l1).bind fun t169 => ((cloisterref22_Of.f k a0 l2).bind fun t172 => (cloisterref22_Part.l0 k t169 t172 0))
theorem cloisterref22_Part.mono_l : ∀ k, (∀ y0 y1 y2, LeO (cloisterref22_Part.l0 k y0 y1 y2) (cloisterref22_Part.l0 (k + 1) y0 y1 y2))
  | 0 => fun _ _ _ r h => by simp [cloisterref22_Part.l0] at h
  | k + 1 => by
    have ih0 := cloisterref22_Part.mono_l k
    · intro y0 y1 y2
      unfold cloisterref22_Part.l0
      repeat' first
      | (with_reducible exact ih0 _ _ _)
      | (with_reducible exact cloisterref22_Of.mono _ _ _)
      | (with_reducible exact LeO.refl _)
      | (with_reducible exact LeO.none _)
      | (with_reducible refine LeO.ite ?_ ?_)
      | (with_reducible refine LeO.bind ?_ (fun _ => ?_))
      | exact ih0 _ _ _
      | exact cloisterref22_Of.mono _ _ _
      | exact LeO.none _
      | refine LeO.ite ?_ ?_
      | refine LeO.bind ?_ (fun _ => ?_)
theorem cloisterref22_Part.mono : ∀ a0 a1 a2 k, LeO (cloisterref22_Part.f k a0 a1 a2) (cloisterref22_Part.f (k + 1) a0 a1 a2) := by
  intro a0 a1 a2 k
  have ih0 := cloisterref22_Part.mono_l k
  unfold cloisterref22_Part.f
  repeat' first
      | (with_reducible exact ih0 _ _ _)
      | (with_reducible exact cloisterref22_Of.mono _ _ _)
      | (with_reducible exact LeO.refl _)
      | (with_reducible exact LeO.none _)
      | (with_reducible refine LeO.ite ?_ ?_)
      | (with_reducible refine LeO.bind ?_ (fun _ => ?_))
      | exact ih0 _ _ _
      | exact cloisterref22_Of.mono _ _ _
      | exact LeO.none _
      | refine LeO.ite ?_ ?_
      | refine LeO.bind ?_ (fun _ => ?_)
set_option maxHeartbeats 8000000 in
set_option maxRecDepth 100000 in
theorem cloisterref22_Part.calls (k : Nat) (a0 : Int) (A1 : Option Addr) (c1 : Nat) (l1 : List (S35)) (A2 : Option Addr) (c2 : Nat) (l2 : List (S35)) (r : Int) (w : World) (hr1 : Kd.C k35 w A1 l1.length l1) (hc1 : l1.length ≤ c1) (hr2 : Kd.C k35 w A2 l2.length l2) (hc2 : l2.length ≤ c2) (h : cloisterref22_Part.f k a0 l1 l2 = some r) :
    Calls Tryz.prog 26 #[.int .i64 a0, .slice A1 l1.length c1, .slice A2 l2.length c2] w fun e w' => e = .returned (.int .i64 r) ∧ Below w.heap.size w w' := by
  have hu35 := Tryz.underlying35
  have HR1 := Aside0.mk hr1
  have HC1 := Aside0.mk hc1
  clear hr1 hc1
  have HR2 := Aside0.mk hr2
  have HC2 := Aside0.mk hc2
  clear hr2 hc2
  have HB := Aside0.mk (Below.refl w.heap.size w)
  have H : ((cloisterref22_Of.f k a0 l1).bind fun t169 => ((cloisterref22_Of.f k a0 l2).bind fun t172 => (cloisterref22_Part.l0 k t169 t172 0))) = some r := h
  clear h
  replace H := Option.bind_eq_some_iff.mp H
  obtain ⟨t169, A40, H⟩ := H
  replace H : ((cloisterref22_Of.f k a0 l2).bind fun t172 => (cloisterref22_Part.l0 k t169 t172 0)) = some r := H
  have A4 := Aside0.mk A40
  clear A40
  replace H := Option.bind_eq_some_iff.mp H
  obtain ⟨t172, A50, H⟩ := H
  replace H : (cloisterref22_Part.l0 k t169 t172 0) = some r := H
  have A5 := Aside0.mk A50
  clear A50
  have H' := Aside0.mk H
  clear H
  go_enter Tryz.func26, Tryz.ntmps26
  go_wp2_with (first | (go_at_call 27; (with_reducible refine (cloisterref22_Of.calls k a0 _ _ l1 t169 _ ?side1 ?side2 A4.out).mono ?_); (case side1 => repeat (first | exact HR1.out | (with_reducible refine Kd.C_alloc ?_ _) | (with_reducible refine Kd.C_drewN ?_ _) | (with_reducible refine Kd.C_drew ?_))); (case side2 => exact HC1.out); rintro e w6 ⟨v170, rfl, ho0, hb⟩; have n0_ := Aside0.mk (Kd.R_lower ho0 (below_size (by repeat (first | (with_reducible first | exact HB.out | apply below_alloc | apply pw_below_drewN | apply below_drew1) | exact HB.out)))); have n1_ := Aside0.mk (below_step (by repeat (first | (with_reducible first | exact HB.out | apply below_alloc | apply pw_below_drewN | apply below_drew1) | exact HB.out)) hb); clear HB; have HO171 := n0_; have HB := n1_; clear n0_ n1_; (try clear hb); (try clear hb2); (try clear hk); (try clear hi); (try clear ho0)) | (go_at_call 27; (with_reducible refine (cloisterref22_Of.calls k a0 _ _ l2 t172 _ ?side1 ?side2 A5.out).mono ?_); (case side1 => repeat (first | exact (Kd.C_below HR2.out HB.out) | (with_reducible refine Kd.C_alloc ?_ _) | (with_reducible refine Kd.C_drewN ?_ _) | (with_reducible refine Kd.C_drew ?_))); (case side2 => exact HC2.out); rintro e w7 ⟨v173, rfl, ho0, hb⟩; have n0_ := Aside0.mk (Kd.R_elder' (by (with_reducible repeat (first | apply Kd.R_alloc | apply Kd.R_drewN | apply Kd.R_drew)); exact HO171.out) (Kd.R_base ho0) hb); have n1_ := Aside0.mk (Kd.R_lower (Kd.R_new' ho0 (Kd.R_lt (by (with_reducible repeat (first | apply Kd.R_alloc | apply Kd.R_drewN | apply Kd.R_drew)); exact HO171.out))) (below_size (by repeat (first | (with_reducible first | exact HB.out | apply below_alloc | apply pw_below_drewN | apply below_drew1) | exact HB.out)))); have n2_ := Aside0.mk (below_step (by repeat (first | (with_reducible first | exact HB.out | apply below_alloc | apply pw_below_drewN | apply below_drew1) | exact HB.out)) hb); clear HO171; clear HB; have HO171 := n0_; have HO174 := n1_; have HB := n2_; clear n0_ n1_ n2_; (try clear hb); (try clear hb2); (try clear hk); (try clear hi); (try clear ho0)))
  repeat (go_quiet (first | (go_at_call 27; (with_reducible refine (cloisterref22_Of.calls k a0 _ _ l1 t169 _ ?side1 ?side2 A4.out).mono ?_); (case side1 => repeat (first | exact HR1.out | (with_reducible refine Kd.C_alloc ?_ _) | (with_reducible refine Kd.C_drewN ?_ _) | (with_reducible refine Kd.C_drew ?_))); (case side2 => exact HC1.out); rintro e w6 ⟨v170, rfl, ho0, hb⟩; have n0_ := Aside0.mk (Kd.R_lower ho0 (below_size (by repeat (first | (with_reducible first | exact HB.out | apply below_alloc | apply pw_below_drewN | apply below_drew1) | exact HB.out)))); have n1_ := Aside0.mk (below_step (by repeat (first | (with_reducible first | exact HB.out | apply below_alloc | apply pw_below_drewN | apply below_drew1) | exact HB.out)) hb); clear HB; have HO171 := n0_; have HB := n1_; clear n0_ n1_; (try clear hb); (try clear hb2); (try clear hk); (try clear hi); (try clear ho0)) | (go_at_call 27; (with_reducible refine (cloisterref22_Of.calls k a0 _ _ l2 t172 _ ?side1 ?side2 A5.out).mono ?_); (case side1 => repeat (first | exact (Kd.C_below HR2.out HB.out) | (with_reducible refine Kd.C_alloc ?_ _) | (with_reducible refine Kd.C_drewN ?_ _) | (with_reducible refine Kd.C_drew ?_))); (case side2 => exact HC2.out); rintro e w7 ⟨v173, rfl, ho0, hb⟩; have n0_ := Aside0.mk (Kd.R_elder' (by (with_reducible repeat (first | apply Kd.R_alloc | apply Kd.R_drewN | apply Kd.R_drew)); exact HO171.out) (Kd.R_base ho0) hb); have n1_ := Aside0.mk (Kd.R_lower (Kd.R_new' ho0 (Kd.R_lt (by (with_reducible repeat (first | apply Kd.R_alloc | apply Kd.R_drewN | apply Kd.R_drew)); exact HO171.out))) (below_size (by repeat (first | (with_reducible first | exact HB.out | apply below_alloc | apply pw_below_drewN | apply below_drew1) | exact HB.out)))); have n2_ := Aside0.mk (below_step (by repeat (first | (with_reducible first | exact HB.out | apply below_alloc | apply pw_below_drewN | apply below_drew1) | exact HB.out)) hb); clear HO171; clear HB; have HO171 := n0_; have HO174 := n1_; have HB := n2_; clear n0_ n1_ n2_; (try clear hb); (try clear hb2); (try clear hk); (try clear hi); (try clear ho0))); try go_wp2_with (first | (go_at_call 27; (with_reducible refine (cloisterref22_Of.calls k a0 _ _ l1 t169 _ ?side1 ?side2 A4.out).mono ?_); (case side1 => repeat (first | exact HR1.out | (with_reducible refine Kd.C_alloc ?_ _) | (with_reducible refine Kd.C_drewN ?_ _) | (with_reducible refine Kd.C_drew ?_))); (case side2 => exact HC1.out); rintro e w6 ⟨v170, rfl, ho0, hb⟩; have n0_ := Aside0.mk (Kd.R_lower ho0 (below_size (by repeat (first | (with_reducible first | exact HB.out | apply below_alloc | apply pw_below_drewN | apply below_drew1) | exact HB.out)))); have n1_ := Aside0.mk (below_step (by repeat (first | (with_reducible first | exact HB.out | apply below_alloc | apply pw_below_drewN | apply below_drew1) | exact HB.out)) hb); clear HB; have HO171 := n0_; have HB := n1_; clear n0_ n1_; (try clear hb); (try clear hb2); (try clear hk); (try clear hi); (try clear ho0)) | (go_at_call 27; (with_reducible refine (cloisterref22_Of.calls k a0 _ _ l2 t172 _ ?side1 ?side2 A5.out).mono ?_); (case side1 => repeat (first | exact (Kd.C_below HR2.out HB.out) | (with_reducible refine Kd.C_alloc ?_ _) | (with_reducible refine Kd.C_drewN ?_ _) | (with_reducible refine Kd.C_drew ?_))); (case side2 => exact HC2.out); rintro e w7 ⟨v173, rfl, ho0, hb⟩; have n0_ := Aside0.mk (Kd.R_elder' (by (with_reducible repeat (first | apply Kd.R_alloc | apply Kd.R_drewN | apply Kd.R_drew)); exact HO171.out) (Kd.R_base ho0) hb); have n1_ := Aside0.mk (Kd.R_lower (Kd.R_new' ho0 (Kd.R_lt (by (with_reducible repeat (first | apply Kd.R_alloc | apply Kd.R_drewN | apply Kd.R_drew)); exact HO171.out))) (below_size (by repeat (first | (with_reducible first | exact HB.out | apply below_alloc | apply pw_below_drewN | apply below_drew1) | exact HB.out)))); have n2_ := Aside0.mk (below_step (by repeat (first | (with_reducible first | exact HB.out | apply below_alloc | apply pw_below_drewN | apply below_drew1) | exact HB.out)) hb); clear HO171; clear HB; have HO171 := n0_; have HO174 := n1_; have HB := n2_; clear n0_ n1_ n2_; (try clear hb); (try clear hb2); (try clear hk); (try clear hi); (try clear ho0))))
  go_loopg [9] k (fun kq v9 w' => ∃ (x9_1 : Int), v9 = .int .i64 x9_1 ∧ Aside0 (cloisterref22_Part.l0 kq t169 t172 x9_1 = some r) ∧ Aside0 (kq ≤ k) ∧ Aside0 (Kd.R k35 35 w' w.heap.size (fun k_ => some k_ ≠ (v173 : Value).ownBlock) v170 t169) ∧ Aside0 (Kd.R k35 35 w' w.heap.size (fun k_ => some k_ ≠ (v170 : Value).ownBlock) v173 t172) ∧ Aside0 (Below w.heap.size w w'))
  case atStart => exact ⟨(0), (by first | rfl | (simp; done) | (simp [*]; done)), H', ⟨Nat.le_refl _⟩, ⟨by (with_reducible repeat (first | apply Kd.R_alloc | apply Kd.R_drewN | apply Kd.R_drew)); exact Kd.R_mono HO171.out (fun _ hk => hk.2)⟩, ⟨by (with_reducible repeat (first | apply Kd.R_alloc | apply Kd.R_drewN | apply Kd.R_drew)); exact Kd.R_mono HO174.out (fun _ hk => hk.2)⟩, ⟨by repeat (first | (with_reducible first | exact HB.out | apply below_alloc | apply pw_below_drewN | apply below_drew1) | exact HB.out)⟩⟩
  case round =>
    clear H'
    try clear c1
    try clear c2
    try clear p2
    obtain ⟨x9_1, rfl, HA, HK1, HO_7, HO_8, HB⟩ := hrel
    cases gk with
    | zero => exact absurd HA.out (by simp [cloisterref22_Part.l0])
    | succ k1 =>
      have H := HA.out
      clear HA
      simp only [cloisterref22_Part.l0] at H
      by_cases c8 : x9_1 < (t169.length : Int)
      · rw [if_pos c8] at H
        have c8b0 : decide (x9_1 < (t169.length : Int)) = true := decide_eq_true c8
        clear c8
        by_cases c9 : x9_1 < (t172.length : Int)
        · rw [if_pos c9] at H
          have c9b0 : decide (x9_1 < (t172.length : Int)) = true := decide_eq_true c9
          clear c9
          by_cases c10 : 0 ≤ x9_1
          · rw [if_pos c10] at H
            have c10b0 : decide (0 ≤ x9_1) = true := decide_eq_true c10
            clear c10
            by_cases c11 : (((rd_T35 t169 x9_1).f0) == ((rd_T35 t172 x9_1).f0) && (((rd_T35 t169 x9_1).f1) == ((rd_T35 t172 x9_1).f1) && (((rd_T35 t169 x9_1).f2) == ((rd_T35 t172 x9_1).f2) && (((rd_T35 t169 x9_1).f3) == ((rd_T35 t172 x9_1).f3) && (((rd_T35 t169 x9_1).f4) == ((rd_T35 t172 x9_1).f4) && (((rd_T35 t169 x9_1).f5) == ((rd_T35 t172 x9_1).f5))))))) = true
            · rw [if_pos c11] at H
              have c11b0 : (((rd_T35 t169 x9_1).f0) == ((rd_T35 t172 x9_1).f0) && (((rd_T35 t169 x9_1).f1) == ((rd_T35 t172 x9_1).f1) && (((rd_T35 t169 x9_1).f2) == ((rd_T35 t172 x9_1).f2) && (((rd_T35 t169 x9_1).f3) == ((rd_T35 t172 x9_1).f3) && (((rd_T35 t169 x9_1).f4) == ((rd_T35 t172 x9_1).f4) && (((rd_T35 t169 x9_1).f5) == ((rd_T35 t172 x9_1).f5))))))) = true := c11
              (try (have c11b1 : decide (((rd_T35 t169 x9_1).f0) = ((rd_T35 t172 x9_1).f0) && (((rd_T35 t169 x9_1).f1) == ((rd_T35 t172 x9_1).f1) && (((rd_T35 t169 x9_1).f2) == ((rd_T35 t172 x9_1).f2) && (((rd_T35 t169 x9_1).f3) == ((rd_T35 t172 x9_1).f3) && (((rd_T35 t169 x9_1).f4) == ((rd_T35 t172 x9_1).f4) && (((rd_T35 t169 x9_1).f5) == ((rd_T35 t172 x9_1).f5))))))) = true := by simpa using c11))
              (try (have c11b2 : (((rd_T35 t169 x9_1).f0) == ((rd_T35 t172 x9_1).f0) && (((rd_T35 t169 x9_1).f1) == ((rd_T35 t172 x9_1).f1) && (((rd_T35 t169 x9_1).f2) == ((rd_T35 t172 x9_1).f2) && (((rd_T35 t169 x9_1).f3) == ((rd_T35 t172 x9_1).f3) && (((rd_T35 t169 x9_1).f4) == ((rd_T35 t172 x9_1).f4) && (((rd_T35 t169 x9_1).f5) == ((rd_T35 t172 x9_1).f5))))))) = true := by simpa using c11))
              clear c11
              have H' := Aside0.mk H
              clear H
              obtain ⟨Ao12, co12, eo12⟩ := Kd.R_slice HO_7.out
              subst eo12
              obtain ⟨Ao13, co13, eo13⟩ := Kd.R_slice HO_8.out
              subst eo13
              have p175 : 0 ≤ (x9_1 : Int) := of_decide_eq_true (by first | (with_reducible assumption) | assumption)
              have q175 : x9_1 < (t169.length : Int) := of_decide_eq_true (by first | (with_reducible assumption) | assumption)
              obtain ⟨ad175, e175, hx175_0, hx175_1, hx175_2, hx175_3, hx175_4, hx175_5⟩ := at_T35 (Kd.R_reads' HO_7.out).2.2 x9_1 p175 q175
              cases e175
              replace p175 := eq_true p175
              replace q175 := eq_true q175
              have p176 : 0 ≤ (x9_1 : Int) := of_decide_eq_true (by first | (with_reducible assumption) | assumption)
              have q176 : x9_1 < (t172.length : Int) := of_decide_eq_true (by first | (with_reducible assumption) | assumption)
              obtain ⟨ad176, e176, hx176_0, hx176_1, hx176_2, hx176_3, hx176_4, hx176_5⟩ := at_T35 (Kd.R_reads' HO_8.out).2.2 x9_1 p176 q176
              cases e176
              replace p176 := eq_true p176
              replace q176 := eq_true q176
              go_wp2
              repeat (go_quiet (fail); try go_wp2)
              go_roundg k1
              case measure => have := HK1.out; omega
              case rel => exact ⟨(wrap64 (x9_1 + 1)), (by first | rfl | (simp; done) | (simp [*]; done)), H', ⟨by have := HK1.out; omega⟩, ⟨by (with_reducible repeat (first | apply Kd.R_alloc | apply Kd.R_drewN | apply Kd.R_drew)); exact HO_7.out⟩, ⟨by (with_reducible repeat (first | apply Kd.R_alloc | apply Kd.R_drewN | apply Kd.R_drew)); exact HO_8.out⟩, ⟨by repeat (first | (with_reducible first | exact HB.out | apply below_alloc | apply pw_below_drewN | apply below_drew1) | exact HB.out)⟩⟩
            · rw [if_neg c11] at H
              have c11b0 : (((rd_T35 t169 x9_1).f0) == ((rd_T35 t172 x9_1).f0) && (((rd_T35 t169 x9_1).f1) == ((rd_T35 t172 x9_1).f1) && (((rd_T35 t169 x9_1).f2) == ((rd_T35 t172 x9_1).f2) && (((rd_T35 t169 x9_1).f3) == ((rd_T35 t172 x9_1).f3) && (((rd_T35 t169 x9_1).f4) == ((rd_T35 t172 x9_1).f4) && (((rd_T35 t169 x9_1).f5) == ((rd_T35 t172 x9_1).f5))))))) = false := by simpa using c11
              (try (have c11b1 : decide (((rd_T35 t169 x9_1).f0) = ((rd_T35 t172 x9_1).f0) && (((rd_T35 t169 x9_1).f1) == ((rd_T35 t172 x9_1).f1) && (((rd_T35 t169 x9_1).f2) == ((rd_T35 t172 x9_1).f2) && (((rd_T35 t169 x9_1).f3) == ((rd_T35 t172 x9_1).f3) && (((rd_T35 t169 x9_1).f4) == ((rd_T35 t172 x9_1).f4) && (((rd_T35 t169 x9_1).f5) == ((rd_T35 t172 x9_1).f5))))))) = false := by simpa using c11))
              (try (have c11b2 : (((rd_T35 t169 x9_1).f0) == ((rd_T35 t172 x9_1).f0) && (((rd_T35 t169 x9_1).f1) == ((rd_T35 t172 x9_1).f1) && (((rd_T35 t169 x9_1).f2) == ((rd_T35 t172 x9_1).f2) && (((rd_T35 t169 x9_1).f3) == ((rd_T35 t172 x9_1).f3) && (((rd_T35 t169 x9_1).f4) == ((rd_T35 t172 x9_1).f4) && (((rd_T35 t169 x9_1).f5) == ((rd_T35 t172 x9_1).f5))))))) = false := by simpa using c11))
              (try (have c11b3 : ¬ (((rd_T35 t169 x9_1).f0) = ((rd_T35 t172 x9_1).f0) && (((rd_T35 t169 x9_1).f1) == ((rd_T35 t172 x9_1).f1) && (((rd_T35 t169 x9_1).f2) == ((rd_T35 t172 x9_1).f2) && (((rd_T35 t169 x9_1).f3) == ((rd_T35 t172 x9_1).f3) && (((rd_T35 t169 x9_1).f4) == ((rd_T35 t172 x9_1).f4) && (((rd_T35 t169 x9_1).f5) == ((rd_T35 t172 x9_1).f5))))))) := by simpa using c11))
              clear c11
              by_cases c14 : x9_1 = (t169.length : Int)
              · rw [if_pos c14] at H
                have c14b0 : (x9_1 == (t169.length : Int)) = true := beq_iff_eq.mpr c14
                have c14b1 : (x9_1 != (t169.length : Int)) = false := bne_eq_false_iff_eq.mpr c14
                clear c14
                by_cases c15 : x9_1 = (t172.length : Int)
                · rw [if_pos c15] at H
                  have c15b0 : (x9_1 == (t172.length : Int)) = true := beq_iff_eq.mpr c15
                  have c15b1 : (x9_1 != (t172.length : Int)) = false := bne_eq_false_iff_eq.mpr c15
                  clear c15
                  obtain rfl := Option.some.inj H
                  obtain ⟨Ao16, co16, eo16⟩ := Kd.R_slice HO_7.out
                  subst eo16
                  obtain ⟨Ao17, co17, eo17⟩ := Kd.R_slice HO_8.out
                  subst eo17
                  have p175 : 0 ≤ (x9_1 : Int) := of_decide_eq_true (by first | (with_reducible assumption) | assumption)
                  have q175 : x9_1 < (t169.length : Int) := of_decide_eq_true (by first | (with_reducible assumption) | assumption)
                  obtain ⟨ad175, e175, hx175_0, hx175_1, hx175_2, hx175_3, hx175_4, hx175_5⟩ := at_T35 (Kd.R_reads' HO_7.out).2.2 x9_1 p175 q175
                  cases e175
                  replace p175 := eq_true p175
                  replace q175 := eq_true q175
                  have p176 : 0 ≤ (x9_1 : Int) := of_decide_eq_true (by first | (with_reducible assumption) | assumption)
                  have q176 : x9_1 < (t172.length : Int) := of_decide_eq_true (by first | (with_reducible assumption) | assumption)
                  obtain ⟨ad176, e176, hx176_0, hx176_1, hx176_2, hx176_3, hx176_4, hx176_5⟩ := at_T35 (Kd.R_reads' HO_8.out).2.2 x9_1 p176 q176
                  cases e176
                  replace p176 := eq_true p176
                  replace q176 := eq_true q176
                  go_wp2
                  repeat (go_quiet (fail); try go_wp2)
                  go_ret
                  exact ⟨by first | rfl | (simp [errW_none, errW_some] <;> rfl) | (simp [*, errW_none, errW_some] <;> rfl), by repeat (first | (with_reducible first | exact HB.out | apply below_alloc | apply pw_below_drewN | apply below_drew1) | exact HB.out)⟩
                · rw [if_neg c15] at H
                  have c15b0 : (x9_1 == (t172.length : Int)) = false := beq_eq_false_iff_ne.mpr c15
                  have c15b1 : (x9_1 != (t172.length : Int)) = true := bne_iff_ne.mpr c15
                  obtain rfl := Option.some.inj H
                  obtain ⟨Ao18, co18, eo18⟩ := Kd.R_slice HO_7.out
                  subst eo18
                  obtain ⟨Ao19, co19, eo19⟩ := Kd.R_slice HO_8.out
                  subst eo19
                  have p175 : 0 ≤ (x9_1 : Int) := of_decide_eq_true (by first | (with_reducible assumption) | assumption)
                  have q175 : x9_1 < (t169.length : Int) := of_decide_eq_true (by first | (with_reducible assumption) | assumption)
                  obtain ⟨ad175, e175, hx175_0, hx175_1, hx175_2, hx175_3, hx175_4, hx175_5⟩ := at_T35 (Kd.R_reads' HO_7.out).2.2 x9_1 p175 q175
                  cases e175
                  replace p175 := eq_true p175
                  replace q175 := eq_true q175
                  have p176 : 0 ≤ (x9_1 : Int) := of_decide_eq_true (by first | (with_reducible assumption) | assumption)
                  have q176 : x9_1 < (t172.length : Int) := of_decide_eq_true (by first | (with_reducible assumption) | assumption)
                  obtain ⟨ad176, e176, hx176_0, hx176_1, hx176_2, hx176_3, hx176_4, hx176_5⟩ := at_T35 (Kd.R_reads' HO_8.out).2.2 x9_1 p176 q176
                  cases e176
                  replace p176 := eq_true p176
                  replace q176 := eq_true q176
                  go_wp2
                  repeat (go_quiet (fail); try go_wp2)
                  go_ret
                  exact ⟨by first | rfl | (simp [errW_none, errW_some] <;> rfl) | (simp [*, errW_none, errW_some] <;> rfl), by repeat (first | (with_reducible first | exact HB.out | apply below_alloc | apply pw_below_drewN | apply below_drew1) | exact HB.out)⟩
              · rw [if_neg c14] at H
                have c14b0 : (x9_1 == (t169.length : Int)) = false := beq_eq_false_iff_ne.mpr c14
                have c14b1 : (x9_1 != (t169.length : Int)) = true := bne_iff_ne.mpr c14
                obtain rfl := Option.some.inj H
                obtain ⟨Ao20, co20, eo20⟩ := Kd.R_slice HO_7.out
                subst eo20
                obtain ⟨Ao21, co21, eo21⟩ := Kd.R_slice HO_8.out
                subst eo21
                have p175 : 0 ≤ (x9_1 : Int) := of_decide_eq_true (by first | (with_reducible assumption) | assumption)
                have q175 : x9_1 < (t169.length : Int) := of_decide_eq_true (by first | (with_reducible assumption) | assumption)
                obtain ⟨ad175, e175, hx175_0, hx175_1, hx175_2, hx175_3, hx175_4, hx175_5⟩ := at_T35 (Kd.R_reads' HO_7.out).2.2 x9_1 p175 q175
                cases e175
                replace p175 := eq_true p175
                replace q175 := eq_true q175
                have p176 : 0 ≤ (x9_1 : Int) := of_decide_eq_true (by first | (with_reducible assumption) | assumption)
                have q176 : x9_1 < (t172.length : Int) := of_decide_eq_true (by first | (with_reducible assumption) | assumption)
                obtain ⟨ad176, e176, hx176_0, hx176_1, hx176_2, hx176_3, hx176_4, hx176_5⟩ := at_T35 (Kd.R_reads' HO_8.out).2.2 x9_1 p176 q176
                cases e176
                replace p176 := eq_true p176
                replace q176 := eq_true q176
                go_wp2
                repeat (go_quiet (fail); try go_wp2)
                go_ret
                exact ⟨by first | rfl | (simp [errW_none, errW_some] <;> rfl) | (simp [*, errW_none, errW_some] <;> rfl), by repeat (first | (with_reducible first | exact HB.out | apply below_alloc | apply pw_below_drewN | apply below_drew1) | exact HB.out)⟩
          · rw [if_neg c10] at H
            exact absurd H (by simp)
        · rw [if_neg c9] at H
          have c9b0 : decide (x9_1 < (t172.length : Int)) = false := decide_eq_false c9
          clear c9
          by_cases c22 : x9_1 = (t169.length : Int)
          · rw [if_pos c22] at H
            have c22b0 : (x9_1 == (t169.length : Int)) = true := beq_iff_eq.mpr c22
            have c22b1 : (x9_1 != (t169.length : Int)) = false := bne_eq_false_iff_eq.mpr c22
            clear c22
            by_cases c23 : x9_1 = (t172.length : Int)
            · rw [if_pos c23] at H
              have c23b0 : (x9_1 == (t172.length : Int)) = true := beq_iff_eq.mpr c23
              have c23b1 : (x9_1 != (t172.length : Int)) = false := bne_eq_false_iff_eq.mpr c23
              clear c23
              obtain rfl := Option.some.inj H
              obtain ⟨Ao24, co24, eo24⟩ := Kd.R_slice HO_7.out
              subst eo24
              obtain ⟨Ao25, co25, eo25⟩ := Kd.R_slice HO_8.out
              subst eo25
              go_wp2
              repeat (go_quiet (fail); try go_wp2)
              go_ret
              exact ⟨by first | rfl | (simp [errW_none, errW_some] <;> rfl) | (simp [*, errW_none, errW_some] <;> rfl), by repeat (first | (with_reducible first | exact HB.out | apply below_alloc | apply pw_below_drewN | apply below_drew1) | exact HB.out)⟩
            · rw [if_neg c23] at H
              have c23b0 : (x9_1 == (t172.length : Int)) = false := beq_eq_false_iff_ne.mpr c23
              have c23b1 : (x9_1 != (t172.length : Int)) = true := bne_iff_ne.mpr c23
              obtain rfl := Option.some.inj H
              obtain ⟨Ao26, co26, eo26⟩ := Kd.R_slice HO_7.out
              subst eo26
              obtain ⟨Ao27, co27, eo27⟩ := Kd.R_slice HO_8.out
              subst eo27
              go_wp2
              repeat (go_quiet (fail); try go_wp2)
              go_ret
              exact ⟨by first | rfl | (simp [errW_none, errW_some] <;> rfl) | (simp [*, errW_none, errW_some] <;> rfl), by repeat (first | (with_reducible first | exact HB.out | apply below_alloc | apply pw_below_drewN | apply below_drew1) | exact HB.out)⟩
          · rw [if_neg c22] at H
            have c22b0 : (x9_1 == (t169.length : Int)) = false := beq_eq_false_iff_ne.mpr c22
            have c22b1 : (x9_1 != (t169.length : Int)) = true := bne_iff_ne.mpr c22
            obtain rfl := Option.some.inj H
            obtain ⟨Ao28, co28, eo28⟩ := Kd.R_slice HO_7.out
            subst eo28
            obtain ⟨Ao29, co29, eo29⟩ := Kd.R_slice HO_8.out
            subst eo29
            go_wp2
            repeat (go_quiet (fail); try go_wp2)
            go_ret
            exact ⟨by first | rfl | (simp [errW_none, errW_some] <;> rfl) | (simp [*, errW_none, errW_some] <;> rfl), by repeat (first | (with_reducible first | exact HB.out | apply below_alloc | apply pw_below_drewN | apply below_drew1) | exact HB.out)⟩
      · rw [if_neg c8] at H
        have c8b0 : decide (x9_1 < (t169.length : Int)) = false := decide_eq_false c8
        clear c8
        by_cases c30 : x9_1 = (t169.length : Int)
        · rw [if_pos c30] at H
          have c30b0 : (x9_1 == (t169.length : Int)) = true := beq_iff_eq.mpr c30
          have c30b1 : (x9_1 != (t169.length : Int)) = false := bne_eq_false_iff_eq.mpr c30
          clear c30
          by_cases c31 : x9_1 = (t172.length : Int)
          · rw [if_pos c31] at H
            have c31b0 : (x9_1 == (t172.length : Int)) = true := beq_iff_eq.mpr c31
            have c31b1 : (x9_1 != (t172.length : Int)) = false := bne_eq_false_iff_eq.mpr c31
            clear c31
            obtain rfl := Option.some.inj H
            obtain ⟨Ao32, co32, eo32⟩ := Kd.R_slice HO_7.out
            subst eo32
            obtain ⟨Ao33, co33, eo33⟩ := Kd.R_slice HO_8.out
            subst eo33
            go_wp2
            repeat (go_quiet (fail); try go_wp2)
            go_ret
            exact ⟨by first | rfl | (simp [errW_none, errW_some] <;> rfl) | (simp [*, errW_none, errW_some] <;> rfl), by repeat (first | (with_reducible first | exact HB.out | apply below_alloc | apply pw_below_drewN | apply below_drew1) | exact HB.out)⟩
          · rw [if_neg c31] at H
            have c31b0 : (x9_1 == (t172.length : Int)) = false := beq_eq_false_iff_ne.mpr c31
            have c31b1 : (x9_1 != (t172.length : Int)) = true := bne_iff_ne.mpr c31
            obtain rfl := Option.some.inj H
            obtain ⟨Ao34, co34, eo34⟩ := Kd.R_slice HO_7.out
            subst eo34
            obtain ⟨Ao35, co35, eo35⟩ := Kd.R_slice HO_8.out
            subst eo35
            go_wp2
            repeat (go_quiet (fail); try go_wp2)
            go_ret
            exact ⟨by first | rfl | (simp [errW_none, errW_some] <;> rfl) | (simp [*, errW_none, errW_some] <;> rfl), by repeat (first | (with_reducible first | exact HB.out | apply below_alloc | apply pw_below_drewN | apply below_drew1) | exact HB.out)⟩
        · rw [if_neg c30] at H
          have c30b0 : (x9_1 == (t169.length : Int)) = false := beq_eq_false_iff_ne.mpr c30
          have c30b1 : (x9_1 != (t169.length : Int)) = true := bne_iff_ne.mpr c30
          obtain rfl := Option.some.inj H
          obtain ⟨Ao36, co36, eo36⟩ := Kd.R_slice HO_7.out
          subst eo36
          go_wp2
          repeat (go_quiet (fail); try go_wp2)
          go_ret
          exact ⟨by first | rfl | (simp [errW_none, errW_some] <;> rfl) | (simp [*, errW_none, errW_some] <;> rfl), by repeat (first | (with_reducible first | exact HB.out | apply below_alloc | apply pw_below_drewN | apply below_drew1) | exact HB.out)⟩

end Go.Proofs.YtohighedgdlflaaGreatDoor.PR
