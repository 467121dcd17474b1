/- The law TraceLong of package trace answers true, for every two numbers. -/
import Derived.Test.YtohighedgdlflaaGreatDoorLPRx0
import Derived.Test.YtohighedgdlflaaGreatDoorLPRx3
import Derived.Test.YtohighedgdlflaaGreatDoorLPRx4
import Derived.Test.YtohighedgdlflaaGreatDoorLML16
import Derived.Lib.SlBytesConst
import Derived.Test.YtohighedgdlflaaGreatDoorLML1
import Derived.Test.YtohighedgdlflaaGreatDoorLML14
import Derived.Test.YtohighedgdlflaaGreatDoorLML5
import Derived.Test.YtohighedgdlflaaGreatDoorLML12
import Derived.Laws.IdiomStrings
import Derived.Lib.BufferRead
-- PRINTED by print.py (a twelfth state) out of the translation. Not trusted: Lean checks it.
namespace Go.Proofs.YtohighedgdlflaaGreatDoor.PR
open Go.RowKit Go.Proofs.YtohighedgdlflaaGreatDoorW.PrintWords Go.Proofs.YtohighedgdlflaaGreatDoorW.PrintLast Go.Proofs.YtohighedgdlflaaGreatDoorW.PrintMore
attribute [local go_sem] max2_int min2_int max_two min_two max_three min_three max_four min_four   -- for this text's walks alone
set_option linter.unusedVariables false
set_option linter.unusedSimpArgs false

/-! ### cloisterref22_Encode: function 19 -/
def cloisterref22_Encode.l0 : Nat → List (S35) → List Int → Int → Option (List Int × Bool)
  | 0, _, _, _ => none
  | k + 1, x0, x4, x5 => if x5 < (x0.length : Int) then (if 0 ≤ x5 then ((cloisterref22_May.f k ((rd_T35 x0 x5).f0) ((rd_T35 x0 x5).f1) ((rd_T35 x0 x5).f2) ((rd_T35 x0 x5).f3) ((rd_T35 x0 x5).f4) ((rd_T35 x0 x5).f5)).bind fun t247 => (if t247 = true then ((cloisterref22_Row.f k ((rd_T35 x0 x5).f0) ((rd_T35 x0 x5).f1) ((rd_T35 x0 x5).f2) ((rd_T35 x0 x5).f3) ((rd_T35 x0 x5).f4) ((rd_T35 x0 x5).f5)).bind fun t249 => (if x4.length + t249.length < 140737488355328 then (cloisterref22_Encode.l0 k x0 (x4 ++ t249) (wrap64 (x5 + 1))) else (none))) else (some (([] : List Int), false)))) else (none)) else ((cloisterref22_Sum.f k x4).bind fun t242 => ((cloisterref22_put.f k x4 (IntKind.u64.wrap (t242)) 4).bind fun t243 => (some (t243, true))))
def cloisterref22_Encode.f (k : Nat) (l0 : List (S35)) : Option (List Int × Bool) := if (l0.length : Int) > 1000000 then (some (([] : List Int), false)) else ((cloisterref22_put.f k (([67, 76, 84, 82] : List Int)) (IntKind.u64.wrap ((l0.length : Int))) 4).bind fun t239 => (cloisterref22_Encode.l0 k l0 t239 0))
theorem cloisterref22_Encode.mono_l : ∀ k, (∀ y0 y1 y2, LeO (cloisterref22_Encode.l0 k y0 y1 y2) (cloisterref22_Encode.l0 (k + 1) y0 y1 y2))
  | 0 => fun _ _ _ r h => by simp [cloisterref22_Encode.l0] at h
  | k + 1 => by
    have ih0 := cloisterref22_Encode.mono_l k
    · intro y0 y1 y2
      unfold cloisterref22_Encode.l0
      repeat' first
      | (with_reducible exact ih0 _ _ _)
      | (with_reducible exact cloisterref22_May.mono _ _ _ _ _ _ _)
      | (with_reducible exact cloisterref22_Row.mono _ _ _ _ _ _ _)
      | (with_reducible exact cloisterref22_Sum.mono _ _)
      | (with_reducible exact cloisterref22_put.mono _ _ _ _)
      | (with_reducible exact LeO.refl _)
      | (with_reducible exact LeO.none _)
      | (with_reducible refine LeO.ite ?_ ?_)
      | (with_reducible refine LeO.bind ?_ (fun _ => ?_))
      | exact ih0 _ _ _
      | exact cloisterref22_May.mono _ _ _ _ _ _ _
      | exact cloisterref22_Row.mono _ _ _ _ _ _ _
      | exact cloisterref22_Sum.mono _ _
      | exact cloisterref22_put.mono _ _ _ _
      | exact LeO.none _
      | refine LeO.ite ?_ ?_
      | refine LeO.bind ?_ (fun _ => ?_)
theorem cloisterref22_Encode.mono : ∀ a0 k, LeO (cloisterref22_Encode.f k a0) (cloisterref22_Encode.f (k + 1) a0) := by
  intro a0 k
  have ih0 := cloisterref22_Encode.mono_l k
  unfold cloisterref22_Encode.f
  repeat' first
      | (with_reducible exact ih0 _ _ _)
      | (with_reducible exact cloisterref22_May.mono _ _ _ _ _ _ _)
      | (with_reducible exact cloisterref22_Row.mono _ _ _ _ _ _ _)
      | (with_reducible exact cloisterref22_Sum.mono _ _)
      | (with_reducible exact cloisterref22_put.mono _ _ _ _)
      | (with_reducible exact LeO.refl _)
      | (with_reducible exact LeO.none _)
      | (with_reducible refine LeO.ite ?_ ?_)
      | (with_reducible refine LeO.bind ?_ (fun _ => ?_))
      | exact ih0 _ _ _
      | exact cloisterref22_May.mono _ _ _ _ _ _ _
      | exact cloisterref22_Row.mono _ _ _ _ _ _ _
      | exact cloisterref22_Sum.mono _ _
      | exact cloisterref22_put.mono _ _ _ _
      | exact LeO.none _
      | refine LeO.ite ?_ ?_
      | refine LeO.bind ?_ (fun _ => ?_)
theorem lit_cells (w : World) : ∀ j v, (([67, 76, 84, 82] : List Int).map (Value.int .u8))[j]? = some v → (w.alloc (.cells #[.int .u8 67, .int .u8 76, .int .u8 84, .int .u8 82] 5 (4, 5))).cell? ((⟨w.heap.size, 0, none⟩ : Addr).add j) = some v := by
  intro j v hj
  match j, hj with
  | 0, hj => rw [← hj]; show (w.alloc _).cell? ⟨w.heap.size, 0, none⟩ = _; simp only [World.cell?, heap_alloc_new]; rfl
  | 1, hj => rw [← hj]; show (w.alloc _).cell? ⟨w.heap.size, 1, none⟩ = _; simp only [World.cell?, heap_alloc_new]; rfl
  | 2, hj => rw [← hj]; show (w.alloc _).cell? ⟨w.heap.size, 2, none⟩ = _; simp only [World.cell?, heap_alloc_new]; rfl
  | 3, hj => rw [← hj]; show (w.alloc _).cell? ⟨w.heap.size, 3, none⟩ = _; simp only [World.cell?, heap_alloc_new]; rfl
  | j + 4, hj => simp at hj
set_option maxHeartbeats 8000000 in
set_option maxRecDepth 100000 in
theorem cloisterref22_Encode.calls (k : Nat) (A0 : Option Addr) (c0 : Nat) (l0 : List (S35)) (r1 : List Int) (r2 : Bool) (w : World) (hr0 : Kd.C k35 w A0 l0.length l0) (hc0 : l0.length ≤ c0) (h : cloisterref22_Encode.f k l0 = some (r1, r2)) :
    Calls Tryz.prog 19 #[.slice A0 l0.length c0] w fun e w' => ∃ v0_ : Value, e = .returned (.tuple #[v0_, .bool r2]) ∧ Kd.R (Kd.int .u8) 5 w' w.heap.size (fun _ => True) v0_ r1 ∧ Below w.heap.size w w' := by
  have hu35 := Tryz.underlying35
  have HR0 := Aside0.mk hr0
  have HC0 := Aside0.mk hc0
  clear hr0 hc0
  have HB := Aside0.mk (Below.refl w.heap.size w)
  have H : (if (l0.length : Int) > 1000000 then (some (([] : List Int), false)) else ((cloisterref22_put.f k (([67, 76, 84, 82] : List Int)) (IntKind.u64.wrap ((l0.length : Int))) 4).bind fun t239 => (cloisterref22_Encode.l0 k l0 t239 0))) = some (r1, r2) := h
  clear h
  by_cases c2 : (l0.length : Int) > 1000000
  · rw [if_pos c2] at H
    have c2b0 : decide (1000000 < (l0.length : Int)) = true := decide_eq_true c2
    have c2b1 : decide (1000000 < l0.length) = true := decide_eq_true (by omega)
    clear c2
    simp only [Option.some.injEq, Prod.mk.injEq] at H
    obtain ⟨rfl, rfl⟩ := H
    go_enter Tryz.func19, Tryz.ntmps19
    go_wp2
    go_ret2
    exact ⟨_, by first | rfl | (simp [errW_none, errW_some] <;> rfl) | (simp [*, errW_none, errW_some] <;> rfl), by first | exact Kd.R_nil _ _ _ _ _ | exact Kd.N_nil _ _ _ _ _ | exact Kd.V_nil _ _ _ _ _ | exact Kd.Q_nil _ _ _ _ _ | exact Kd.S_nil _ _ _ _ _, by repeat (first | (with_reducible first | exact HB.out | apply below_alloc | apply pw_below_drewN | apply below_drew1) | exact HB.out)⟩
  · rw [if_neg c2] at H
    have c2b0 : decide (1000000 < (l0.length : Int)) = false := decide_eq_false c2
    have c2b1 : decide (1000000 < l0.length) = false := decide_eq_false (by omega)
    clear c2
    obtain ⟨y236, hy236⟩ : ∃ y_ : List Int, y_ = (([67, 76, 84, 82] : List Int)) := ⟨_, rfl⟩
    replace H : ((cloisterref22_put.f k y236 (IntKind.u64.wrap ((l0.length : Int))) 4).bind fun t239 => (cloisterref22_Encode.l0 k l0 t239 0)) = some (r1, r2) := by first | (rw [hy236]; with_reducible exact H) | (have H2_ := (Option.bind_some _ _).symm.trans H; rw [hy236]; with_reducible exact H2_) | (have H2_ := (Option.bind_some _ _).symm.trans H; with_reducible exact H2_) | with_reducible exact H | (rw [hy236]; exact H) | exact H
    have Ny236 := Aside0.mk hy236
    clear hy236
    replace H := Option.bind_eq_some_iff.mp H
    obtain ⟨t239, A30, H⟩ := H
    replace H : (cloisterref22_Encode.l0 k l0 t239 0) = some (r1, r2) := H
    have A3 := Aside0.mk A30
    clear A30
    have H' := Aside0.mk H
    clear H
    have kc := fun (w : World) (C : Array Value) (n c : Nat) => Lib.run_convert_bytes_const (P := Tryz.prog) w 37 5 C n c Tryz.underlying37 Tryz.underlying5
    rw [Ny236.out] at A3
    go_enter Tryz.func19, Tryz.ntmps19
    go_wp2_with fail
    have hq : Calls Tryz.prog 51 #[.slice (some ⟨w.heap.size, 0, none⟩) 4 4, .int .u64 (IntKind.u64.wrap ((l0.length : Int))), .int .i64 4] _ _ := putF_ok k ⟨w.heap.size, 0, none⟩ [67, 76, 84, 82] (IntKind.u64.wrap ((l0.length : Int))) 4 t239 w _ (below_alloc HB.out _) (by decide) (lit_cells w) A3.out
    with_reducible refine hq.mono ?_
    clear hq
    rintro e w7 ⟨v240, rfl, ho0, hb⟩
    have HO241 := Aside0.mk (Kd.R_mono (ok' := fun k_ => True) ho0 (fun k_ hk_ => trivial))
    clear HB ho0
    have HB := Aside0.mk hb
    clear hb
    go_wp2
    clear kc
    go_loopg [4, 5] k (fun kq v4 v5 w' => ∃ (x4_1 : List Int) (x5_1 : Int), v5 = .int .i64 x5_1 ∧ Aside0 (cloisterref22_Encode.l0 kq l0 x4_1 x5_1 = some (r1, r2)) ∧ Aside0 (kq ≤ k) ∧ Aside0 (Kd.R (Kd.int .u8) 5 w' w.heap.size (fun _ => True) v4 x4_1) ∧ Aside0 (Below w.heap.size w w'))
    case atStart => exact ⟨(t239), (0), (by first | rfl | (simp; done) | (simp [*]; done)), H', ⟨Nat.le_refl _⟩, ⟨by (with_reducible repeat (first | apply Kd.R_alloc | apply Kd.R_drewN | apply Kd.R_drew)); exact HO241.out⟩, ⟨by repeat (first | (with_reducible first | exact HB.out | apply below_alloc | apply pw_below_drewN | apply below_drew1) | exact HB.out)⟩⟩
    case round =>
      clear H'
      try clear c1
      try clear c2
      try clear c2b0
      try clear c2b1
      try clear p2
      try clear c5
      obtain ⟨x4_1, x5_1, rfl, HA, HK1, HO_4, HB⟩ := hrel
      cases gk with
      | zero => exact absurd HA.out (by simp [cloisterref22_Encode.l0])
      | succ k1 =>
        have H := HA.out
        clear HA
        simp only [cloisterref22_Encode.l0] at H
        by_cases c8 : x5_1 < (l0.length : Int)
        · rw [if_pos c8] at H
          have c8b0 : decide (x5_1 < (l0.length : Int)) = true := decide_eq_true c8
          clear c8
          by_cases c9 : 0 ≤ x5_1
          · rw [if_pos c9] at H
            have c9b0 : decide (0 ≤ x5_1) = true := decide_eq_true c9
            clear c9
            replace H := Option.bind_eq_some_iff.mp H
            obtain ⟨t247, A100, H⟩ := H
            replace H : (if t247 = true then ((cloisterref22_Row.f k1 ((rd_T35 l0 x5_1).f0) ((rd_T35 l0 x5_1).f1) ((rd_T35 l0 x5_1).f2) ((rd_T35 l0 x5_1).f3) ((rd_T35 l0 x5_1).f4) ((rd_T35 l0 x5_1).f5)).bind fun t249 => (if x4_1.length + t249.length < 140737488355328 then (cloisterref22_Encode.l0 k1 l0 (x4_1 ++ t249) (wrap64 (x5_1 + 1))) else (none))) else (some (([] : List Int), false))) = some (r1, r2) := H
            have A10 := Aside0.mk A100
            clear A100
            by_cases c11 : t247 = true
            · subst c11
              have H1 : ((cloisterref22_Row.f k1 ((rd_T35 l0 x5_1).f0) ((rd_T35 l0 x5_1).f1) ((rd_T35 l0 x5_1).f2) ((rd_T35 l0 x5_1).f3) ((rd_T35 l0 x5_1).f4) ((rd_T35 l0 x5_1).f5)).bind fun t249 => (if x4_1.length + t249.length < 140737488355328 then (cloisterref22_Encode.l0 k1 l0 (x4_1 ++ t249) (wrap64 (x5_1 + 1))) else (none))) = some (r1, r2) := by rw [if_pos rfl] at H; exact H
              clear H
              have H := H1
              clear H1
              replace H := Option.bind_eq_some_iff.mp H
              obtain ⟨t249, A120, H⟩ := H
              replace H : (if x4_1.length + t249.length < 140737488355328 then (cloisterref22_Encode.l0 k1 l0 (x4_1 ++ t249) (wrap64 (x5_1 + 1))) else (none)) = some (r1, r2) := H
              have A12 := Aside0.mk A120
              clear A120
              by_cases c13 : x4_1.length + t249.length < 140737488355328
              · rw [if_pos c13] at H
                have LMc13 := Aside0.mk c13
                clear c13
                obtain ⟨y252, hy252⟩ : ∃ y_ : List Int, y_ = (x4_1 ++ t249) := ⟨_, rfl⟩
                replace H : (cloisterref22_Encode.l0 k1 l0 y252 (wrap64 (x5_1 + 1))) = some (r1, r2) := by first | (rw [hy252]; with_reducible exact H) | (have H2_ := (Option.bind_some _ _).symm.trans H; rw [hy252]; with_reducible exact H2_) | (have H2_ := (Option.bind_some _ _).symm.trans H; with_reducible exact H2_) | with_reducible exact H | (rw [hy252]; exact H) | exact H
                have Ny252 := Aside0.mk hy252
                clear hy252
                have H' := Aside0.mk H
                clear H
                have p246 : 0 ≤ (x5_1 : Int) := of_decide_eq_true (by first | (with_reducible assumption) | assumption)
                have q246 : x5_1 < (l0.length : Int) := of_decide_eq_true (by first | (with_reducible assumption) | assumption)
                obtain ⟨ad246, e246, hx246_0, hx246_1, hx246_2, hx246_3, hx246_4, hx246_5⟩ := at_T35 HR0.out x5_1 p246 q246
                cases e246
                replace hx246_0 := (HB.out.cell (World.block_lt_of_cell? w _ hx246_0)).trans hx246_0
                replace hx246_1 := (HB.out.cell (World.block_lt_of_cell? w _ hx246_1)).trans hx246_1
                replace hx246_2 := (HB.out.cell (World.block_lt_of_cell? w _ hx246_2)).trans hx246_2
                replace hx246_3 := (HB.out.cell (World.block_lt_of_cell? w _ hx246_3)).trans hx246_3
                replace hx246_4 := (HB.out.cell (World.block_lt_of_cell? w _ hx246_4)).trans hx246_4
                replace hx246_5 := (HB.out.cell (World.block_lt_of_cell? w _ hx246_5)).trans hx246_5
                replace p246 := eq_true p246
                replace q246 := eq_true q246
                go_wp2_with (first | ((with_reducible refine gate_callee (f := 40) rfl ?_); refine goesL_ (some 27) rfl rfl Tryz.func40 (by kernel_rfl) rfl #[.agg #[.int .u64 ((rd_T35 l0 x5_1).f0), .int .i64 ((rd_T35 l0 x5_1).f1), .int .i64 ((rd_T35 l0 x5_1).f2), .int .u32 ((rd_T35 l0 x5_1).f3), .int .u32 ((rd_T35 l0 x5_1).f4), .int .u32 ((rd_T35 l0 x5_1).f5)]] rfl (by (try simp only [List.map_toArray, List.map_cons, List.map_nil]); first | done | rfl | (simp only [List.length_drop, List.length_take]; rfl)) ?_; (with_reducible refine (cloisterref22_May.calls k1 ((rd_T35 l0 x5_1).f0) ((rd_T35 l0 x5_1).f1) ((rd_T35 l0 x5_1).f2) ((rd_T35 l0 x5_1).f3) ((rd_T35 l0 x5_1).f4) ((rd_T35 l0 x5_1).f5) true _ A10.out).mono ?_); rintro e w14 ⟨rfl, hb⟩; refine ⟨_, rfl, ?_⟩; have n0_ := Aside0.mk (Kd.R_below (by (with_reducible repeat (first | apply Kd.R_alloc | apply Kd.R_drewN | apply Kd.R_drew)); exact HO_4.out) hb); have n1_ := Aside0.mk (below_step (by repeat (first | (with_reducible first | exact HB.out | apply below_alloc | apply pw_below_drewN | apply below_drew1) | exact HB.out)) hb); clear HO_4; clear HB; have HO_4 := n0_; have HB := n1_; clear n0_ n1_; (try clear hb); (try clear hb2); (try clear hk); (try clear hi); have p248 : 0 ≤ (x5_1 : Int) := of_decide_eq_true (by first | (with_reducible assumption) | assumption); have q248 : x5_1 < (l0.length : Int) := of_decide_eq_true (by first | (with_reducible assumption) | assumption); obtain ⟨ad248, e248, hx248_0, hx248_1, hx248_2, hx248_3, hx248_4, hx248_5⟩ := at_T35 HR0.out x5_1 p248 q248; obtain rfl : ad246 = ad248 := (by injection e248); replace hx248_0 := (HB.out.cell (World.block_lt_of_cell? w _ hx248_0)).trans hx248_0; replace hx248_1 := (HB.out.cell (World.block_lt_of_cell? w _ hx248_1)).trans hx248_1; replace hx248_2 := (HB.out.cell (World.block_lt_of_cell? w _ hx248_2)).trans hx248_2; replace hx248_3 := (HB.out.cell (World.block_lt_of_cell? w _ hx248_3)).trans hx248_3; replace hx248_4 := (HB.out.cell (World.block_lt_of_cell? w _ hx248_4)).trans hx248_4; replace hx248_5 := (HB.out.cell (World.block_lt_of_cell? w _ hx248_5)).trans hx248_5; replace p248 := eq_true p248; replace q248 := eq_true q248) | ((with_reducible refine gate_callee (f := 52) rfl ?_); refine goesL_ (some 35) rfl rfl Tryz.func52 (by kernel_rfl) rfl #[.agg #[.int .u64 ((rd_T35 l0 x5_1).f0), .int .i64 ((rd_T35 l0 x5_1).f1), .int .i64 ((rd_T35 l0 x5_1).f2), .int .u32 ((rd_T35 l0 x5_1).f3), .int .u32 ((rd_T35 l0 x5_1).f4), .int .u32 ((rd_T35 l0 x5_1).f5)]] rfl (by (try simp only [List.map_toArray, List.map_cons, List.map_nil]); first | done | rfl | (simp only [List.length_drop, List.length_take]; rfl)) ?_; (with_reducible refine (cloisterref22_Row.calls k1 ((rd_T35 l0 x5_1).f0) ((rd_T35 l0 x5_1).f1) ((rd_T35 l0 x5_1).f2) ((rd_T35 l0 x5_1).f3) ((rd_T35 l0 x5_1).f4) ((rd_T35 l0 x5_1).f5) t249 _ A12.out).mono ?_); rintro e w15 ⟨v250, rfl, ho0, hb⟩; refine ⟨_, rfl, ?_⟩; have n0_ := Aside0.mk (Kd.R_elder' (by (with_reducible repeat (first | apply Kd.R_alloc | apply Kd.R_drewN | apply Kd.R_drew)); exact HO_4.out) (Kd.R_base ho0) hb); have n1_ := Aside0.mk (Kd.R_lower (Kd.R_new' ho0 (Kd.R_lt (by (with_reducible repeat (first | apply Kd.R_alloc | apply Kd.R_drewN | apply Kd.R_drew)); exact HO_4.out))) (below_size (by repeat (first | (with_reducible first | exact HB.out | apply below_alloc | apply pw_below_drewN | apply below_drew1) | exact HB.out)))); have n2_ := Aside0.mk (below_step (by repeat (first | (with_reducible first | exact HB.out | apply below_alloc | apply pw_below_drewN | apply below_drew1) | exact HB.out)) hb); clear HO_4; clear HB; have HO_4 := n0_; have HO251 := n1_; have HB := n2_; clear n0_ n1_ n2_; (try clear hb); (try clear hb2); (try clear hk); (try clear hi); (try clear ho0); obtain ⟨Ao17, co17, eo17⟩ := Kd.R_slice HO251.out; subst eo17) | ((with_reducible refine gate_builtin (b := .append) (xs := #[.tmp 30, .tmp 35]) rfl ?_); at_builtin; refine Kd.R_append_rows (Kd.int .u8) (w0 := w) w.heap.size rfl (.tmp 30) (.tmp 35) 37 5 (.int .u8 0) 1 rfl Tryz.underlying37 info5 rfl (by decide) (by omega) u4 x4_1 t249 _ _ _ (fun k_ => some k_ ≠ (.slice Ao17 t249.length co17 : Value).ownBlock) (fun _ => False) rfl rfl ?aO ?aR (fun _ _ h => h) (fun _ h => h.elim) ?aF ?aB ?aS ?aL ?_; (case aR => repeat (first | exact (Kd.R_reads' HO251.out).2.2 | (with_reducible refine Kd.C_alloc ?_ _) | (with_reducible refine Kd.C_drewN ?_ _) | (with_reducible refine Kd.C_drew ?_))); (case aB => exact (by repeat (first | (with_reducible first | exact HB.out | apply below_alloc | apply pw_below_drewN | apply below_drew1) | exact HB.out))); (case aF => exact (fun k_ hk => Kd.fresh' (Kd.R_lt (by (with_reducible repeat (first | apply Kd.R_alloc | apply Kd.R_drewN | apply Kd.R_drew)); exact HO251.out)) k_ hk)); (case aO => exact (by (with_reducible repeat (first | apply Kd.R_alloc | apply Kd.R_drewN | apply Kd.R_drew)); exact Kd.R_mono HO_4.out (fun _ hk => hk.2))); (case aS => exact (below_size (by repeat (first | (with_reducible first | exact HB.out | apply below_alloc | apply pw_below_drewN | apply below_drew1) | exact HB.out)))); (case aL => have := LMc13.out; omega); intro v253 w16 ho hb hg hat; rw [← Ny252.out] at ho; have n0_ := Aside0.mk (Kd.R_after (ok := (fun _ => True)) (by (with_reducible repeat (first | apply Kd.R_alloc | apply Kd.R_drewN | apply Kd.R_drew)); exact HO251.out) hg hat); have n1_ := Aside0.mk (hb); have n2_ := Aside0.mk (ho); clear HO251; clear HB; clear HO_4; have HO251 := n0_; have HB := n1_; have HO254 := n2_; clear n0_ n1_ n2_; clear ho hb hg hat))
                go_roundg k1
                case measure => have := HK1.out; omega
                case rel => exact ⟨(y252), (wrap64 (x5_1 + 1)), (by first | rfl | (simp; done) | (simp [*]; done)), H', ⟨by have := HK1.out; omega⟩, ⟨by (with_reducible repeat (first | apply Kd.R_alloc | apply Kd.R_drewN | apply Kd.R_drew)); exact Kd.R_mono HO254.out (fun _ hk => trivial)⟩, ⟨by repeat (first | (with_reducible first | exact HB.out | apply below_alloc | apply pw_below_drewN | apply below_drew1) | exact HB.out)⟩⟩
              · rw [if_neg c13] at H
                exact absurd H (by simp)
            · replace c11 := Bool.eq_false_iff.mpr c11
              subst c11
              have H1 : (some (([] : List Int), false)) = some (r1, r2) := by rw [if_neg (show ¬ (false = true) by decide)] at H; exact H
              clear H
              have H := H1
              clear H1
              simp only [Option.some.injEq, Prod.mk.injEq] at H
              obtain ⟨rfl, rfl⟩ := H
              have p246 : 0 ≤ (x5_1 : Int) := of_decide_eq_true (by first | (with_reducible assumption) | assumption)
              have q246 : x5_1 < (l0.length : Int) := of_decide_eq_true (by first | (with_reducible assumption) | assumption)
              obtain ⟨ad246, e246, hx246_0, hx246_1, hx246_2, hx246_3, hx246_4, hx246_5⟩ := at_T35 HR0.out x5_1 p246 q246
              cases e246
              replace hx246_0 := (HB.out.cell (World.block_lt_of_cell? w _ hx246_0)).trans hx246_0
              replace hx246_1 := (HB.out.cell (World.block_lt_of_cell? w _ hx246_1)).trans hx246_1
              replace hx246_2 := (HB.out.cell (World.block_lt_of_cell? w _ hx246_2)).trans hx246_2
              replace hx246_3 := (HB.out.cell (World.block_lt_of_cell? w _ hx246_3)).trans hx246_3
              replace hx246_4 := (HB.out.cell (World.block_lt_of_cell? w _ hx246_4)).trans hx246_4
              replace hx246_5 := (HB.out.cell (World.block_lt_of_cell? w _ hx246_5)).trans hx246_5
              replace p246 := eq_true p246
              replace q246 := eq_true q246
              go_wp2_with (first | ((with_reducible refine gate_callee (f := 40) rfl ?_); refine goesL_ (some 27) rfl rfl Tryz.func40 (by kernel_rfl) rfl #[.agg #[.int .u64 ((rd_T35 l0 x5_1).f0), .int .i64 ((rd_T35 l0 x5_1).f1), .int .i64 ((rd_T35 l0 x5_1).f2), .int .u32 ((rd_T35 l0 x5_1).f3), .int .u32 ((rd_T35 l0 x5_1).f4), .int .u32 ((rd_T35 l0 x5_1).f5)]] rfl (by (try simp only [List.map_toArray, List.map_cons, List.map_nil]); first | done | rfl | (simp only [List.length_drop, List.length_take]; rfl)) ?_; (with_reducible refine (cloisterref22_May.calls k1 ((rd_T35 l0 x5_1).f0) ((rd_T35 l0 x5_1).f1) ((rd_T35 l0 x5_1).f2) ((rd_T35 l0 x5_1).f3) ((rd_T35 l0 x5_1).f4) ((rd_T35 l0 x5_1).f5) false _ A10.out).mono ?_); rintro e w18 ⟨rfl, hb⟩; refine ⟨_, rfl, ?_⟩; have n0_ := Aside0.mk (Kd.R_below (by (with_reducible repeat (first | apply Kd.R_alloc | apply Kd.R_drewN | apply Kd.R_drew)); exact HO_4.out) hb); have n1_ := Aside0.mk (below_step (by repeat (first | (with_reducible first | exact HB.out | apply below_alloc | apply pw_below_drewN | apply below_drew1) | exact HB.out)) hb); clear HO_4; clear HB; have HO_4 := n0_; have HB := n1_; clear n0_ n1_; (try clear hb); (try clear hb2); (try clear hk); (try clear hi)))
              go_ret2
              exact ⟨_, by first | rfl | (simp [errW_none, errW_some] <;> rfl) | (simp [*, errW_none, errW_some] <;> rfl), by first | exact Kd.R_nil _ _ _ _ _ | exact Kd.N_nil _ _ _ _ _ | exact Kd.V_nil _ _ _ _ _ | exact Kd.Q_nil _ _ _ _ _ | exact Kd.S_nil _ _ _ _ _, by repeat (first | (with_reducible first | exact HB.out | apply below_alloc | apply pw_below_drewN | apply below_drew1) | exact HB.out)⟩
          · rw [if_neg c9] at H
            exact absurd H (by simp)
        · rw [if_neg c8] at H
          have c8b0 : decide (x5_1 < (l0.length : Int)) = false := decide_eq_false c8
          clear c8
          replace H := Option.bind_eq_some_iff.mp H
          obtain ⟨t242, A190, H⟩ := H
          replace H : ((cloisterref22_put.f k1 x4_1 (IntKind.u64.wrap (t242)) 4).bind fun t243 => (some (t243, true))) = some (r1, r2) := H
          have A19 := Aside0.mk A190
          clear A190
          replace H := Option.bind_eq_some_iff.mp H
          obtain ⟨t243, A200, H⟩ := H
          replace H : (some (t243, true)) = some (r1, r2) := H
          have A20 := Aside0.mk A200
          clear A200
          simp only [Option.some.injEq, Prod.mk.injEq] at H
          obtain ⟨rfl, rfl⟩ := H
          obtain ⟨Ao21, co21, eo21⟩ := Kd.R_slice HO_4.out
          subst eo21
          go_wp2_with (first | ((with_reducible refine gate_callee (f := 50) rfl ?_); refine goesL_ (some 39) rfl rfl Tryz.func50 (by kernel_rfl) rfl #[.slice Ao21 x4_1.length co21] rfl (by (try simp only [List.map_toArray, List.map_cons, List.map_nil]); first | done | rfl | (simp only [List.length_drop, List.length_take]; rfl)) ?_; (with_reducible refine (cloisterref22_Sum.calls k1 _ _ x4_1 t242 _ ?side1 ?side2 A19.out).mono ?_); (case side1 => repeat (first | exact (Kd.R_reads' HO_4.out).2.2 | (with_reducible refine Kd.C_alloc ?_ _) | (with_reducible refine Kd.C_drewN ?_ _) | (with_reducible refine Kd.C_drew ?_))); (case side2 => exact (Kd.R_reads' HO_4.out).2.1); rintro e w' ⟨rfl, ⟨nd, rfl⟩⟩; refine ⟨_, rfl, ?_⟩) | ((with_reducible refine gate_callee (f := 51) rfl ?_); refine goesL_ (some 41) rfl rfl Tryz.func51 (by kernel_rfl) rfl #[.slice Ao21 x4_1.length co21, .int .u64 (IntKind.u64.wrap (t242)), .int .i64 4] rfl (by (try simp only [List.map_toArray, List.map_cons, List.map_nil]); first | done | rfl | (simp only [List.length_drop, List.length_take]; rfl)) ?_; (with_reducible refine (cloisterref22_put.calls k1 (fun k_ => some k_ = (.slice Ao21 x4_1.length co21 : Value).ownBlock) (.slice Ao21 x4_1.length co21) x4_1 (IntKind.u64.wrap (t242)) 4 t243 w _ ?side1 ?side2 A20.out).mono ?_); (case side1 => repeat (first | (with_reducible first | exact HB.out | apply below_alloc | apply pw_below_drewN | apply below_drew1) | exact HB.out)); (case side2 => exact Kd.R_tight rfl HO_4.out); rintro e w22 ⟨v244, rfl, ho0, hb, hkp⟩; refine ⟨_, rfl, ?_⟩; have n0_ := Aside0.mk (Kd.R_mono (ok' := fun k_ => True) ho0 (fun k_ hk_ => trivial)); have n1_ := Aside0.mk (hb); clear HB; clear HO_4; have HO245 := n0_; have HB := n1_; clear n0_ n1_; (try clear hb); (try clear hkp); (try clear ho0)))
          go_ret2
          exact ⟨_, by first | rfl | (simp [errW_none, errW_some] <;> rfl) | (simp [*, errW_none, errW_some] <;> rfl), by (with_reducible repeat (first | apply Kd.R_alloc | apply Kd.R_drewN | apply Kd.R_drew)); exact HO245.out, by repeat (first | (with_reducible first | exact HB.out | apply below_alloc | apply pw_below_drewN | apply below_drew1) | exact HB.out)⟩

end Go.Proofs.YtohighedgdlflaaGreatDoor.PR

/- A small number as an unsigned word. -/
namespace Go.Proofs.YtohighedgdlflaaGreatDoor
set_option linter.unusedVariables false
theorem u64w (n : Nat) (h : n < 18446744073709551616) : IntKind.u64.wrap (n : Int) = (n : Int) := by
  show (n : Int) % 18446744073709551616 = _
  omega
end Go.Proofs.YtohighedgdlflaaGreatDoor

/- The document's Encode, in plain Lean: encBytes, if all may be. -/
namespace Go.Proofs.YtohighedgdlflaaGreatDoor
open Go.Shelf Go.RowKit Go.Sort Go.Lib Go.Proofs.YtohighedgdlflaaGreatDoorW.PrintWords Go.Proofs.YtohighedgdlflaaGreatDoor.PR
set_option linter.unusedVariables false
set_option linter.unusedSimpArgs false
def encPre (l : List S35) (i : Nat) : List Int := leb 4 1381256259 ++ leb 4 l.length ++ (l.take i).flatMap rowB
theorem encPre_len (l : List S35) (i : Nat) : (encPre l i).length ≤ 8 + 22 * l.length := by
  simp only [encPre, List.length_append, leb_length, flat_len, List.length_take]; omega
theorem encR_l (l : List S35) (hF : ∀ o ∈ l, FitsT o) (hl : l.length ≤ 1000000) (F : Nat) (hFu : F = 10 * (8 + 22 * l.length) + 1) : ∀ j : Nat, j ≤ l.length → (l.take (l.length - j)).all mayB = true →
    cloisterref22_Encode.l0 (j + F + 1) l (encPre l (l.length - j)) ((l.length - j : Nat) : Int) = some (if l.all mayB = true then (encBytes l, true) else ([], false))
  | 0, _, hall => by
    rw [Nat.sub_zero, List.take_length] at *
    have e0 : encPre l l.length = encBody l := by simp [encPre, encBody]
    have hlen := encBody_len l
    have hs := sum_f (encBody l) (encBody_bytes l) (by omega)
    have hc := crc_b (encBody_bytes l)
    obtain ⟨n, hn⟩ : ∃ n : Nat, Crc.crc (encBody l) = (n : Int) := ⟨(Crc.crc (encBody l)).toNat, by omega⟩
    rw [e0, Nat.zero_add, cloisterref22_Encode.l0, if_neg (by omega), if_pos hall]
    rw [hlen, ← hFu] at hs
    rw [hs, Option.bind_some, hn, u64w n (by omega)]
    have p4 : cloisterref22_put.f F (encBody l) (n : Int) 4 = some (encBody l ++ leb 4 (n : Int)) := put_f (encBody l) (n : Int) 4 F (by omega) (by omega) (by decide) (by omega) (by omega)
    rw [p4, Option.bind_some]
    unfold encBytes
    rw [hn]
  | j + 1, hj, hall => by
    have ih := encR_l l hF hl F hFu j (by omega)
    obtain ⟨i, hi⟩ : ∃ i, i = l.length - (j + 1) := ⟨_, rfl⟩
    have e8 : l.length - j = i + 1 := by omega
    rw [e8] at ih
    rw [← hi] at hall ⊢
    obtain ⟨o, ho⟩ : ∃ o, o = rd_T35 l i := ⟨_, rfl⟩
    have ho2 : l[i]? = some o := by
      rw [ho]; simp [rd_T35, List.getD_eq_getElem?_getD, List.getElem?_eq_getElem (show i < l.length by omega)]
    have hm := List.mem_of_getElem? ho2
    have hfu : j + F + 1 = (j + F - 1) + 2 := by omega
    rw [show j + 1 + F + 1 = (j + F + 1) + 1 by omega, cloisterref22_Encode.l0, if_pos (by omega), if_pos (by omega), ← ho]
    have hmf := refMay_f o (j + F - 1)
    rw [← hfu] at hmf
    rw [hmf, Option.bind_some]
    cases hmb : mayB o with
    | false =>
      rw [if_neg (by decide)]
      have : ¬ l.all mayB = true := by
        intro h
        rw [List.all_eq_true.1 h o hm] at hmb
        cases hmb
      rw [if_neg this]
    | true =>
      obtain ⟨t, cl, q, p, a, b, hob, hG⟩ := good_of_may hmb (hF o hm)
      have hr := row_f (j + F + 1) (by omega) hG
      have hle := encPre_len l i
      have hro := rowB_length o
      rw [if_pos rfl, hob]
      show ((cloisterref22_Row.f (j + F + 1) (t : Int) (cl : Int) (q : Int) (p : Int) (a : Int) (b : Int)).bind _) = _
      rw [hr, Option.bind_some, ← hob, if_pos (by omega), w64_succ i (by omega)]
      have hnext : encPre l (i + 1) = encPre l i ++ rowB o := by
        unfold encPre
        rw [List.take_add_one, ho2]
        simp
      rw [← hnext]
      refine ih ?_
      rw [List.take_add_one, ho2]
      simp [hall, hmb]
theorem encR_f (l : List S35) (hF : ∀ o ∈ l, FitsT o) (hl : l.length ≤ 1000000) : cloisterref22_Encode.f (l.length + (10 * (8 + 22 * l.length) + 1) + 1) l = some (if l.all mayB = true then (encBytes l, true) else ([], false)) := by
  have h := encR_l l hF hl _ rfl l.length (Nat.le_refl _) (by simp)
  rw [Nat.sub_self] at h
  have e0 : encPre l 0 = [67, 76, 84, 82] ++ leb 4 (l.length : Int) := by
    simp only [encPre, List.take_zero, List.flatMap_nil, List.append_nil]
    rfl
  rw [e0] at h
  unfold cloisterref22_Encode.f
  have p4 : cloisterref22_put.f (l.length + (10 * (8 + 22 * l.length) + 1) + 1) [67, 76, 84, 82] ((l.length : Nat) : Int) 4 = some ([67, 76, 84, 82] ++ leb 4 (l.length : Int)) := put_f [67, 76, 84, 82] ((l.length : Nat) : Int) 4 _ (by omega) (by omega) (by decide) (by omega) (by simp)
  rw [if_neg (by omega), u64w l.length (by omega), p4, Option.bind_some]
  exact h
/-- cloisterref22.Encode (19). -/
theorem refEncode_ok (l : List S35) (A : Option Addr) (c : Nat) (w : World) (hr : Kd.C k35 w A l.length l) (hc : l.length ≤ c) (hF : ∀ o ∈ l, FitsT o) (hl : l.length ≤ 1000000) :
    Calls Tryz.prog 19 #[.slice A l.length c] w fun e w' => ∃ v, e = .returned (.tuple #[v, .bool (l.all mayB)]) ∧ Kd.R (Kd.int .u8) 5 w' w.heap.size (fun _ => True) v (if l.all mayB = true then encBytes l else []) ∧ Below w.heap.size w w' := by
  refine cloisterref22_Encode.calls (l.length + (10 * (8 + 22 * l.length) + 1) + 1) A c l _ _ w hr hc ?_
  rw [encR_f l hF hl]
  cases l.all mayB <;> rfl
end Go.Proofs.YtohighedgdlflaaGreatDoor

/- Both Encodes as the laws call them; bytes as a string. -/
namespace Go.Proofs.YtohighedgdlflaaGreatDoor
open Go.RowKit Go.Proofs.YtohighedgdlflaaGreatDoorW.PrintWords Go.Proofs.YtohighedgdlflaaGreatDoor.PR
set_option linter.unusedVariables false
set_option linter.unusedSimpArgs false
def strOf (xs : List Int) : ByteArray := ⟨(xs.map fun x => UInt8.ofNat x.toNat).toArray⟩
/-- Bytes as a string. -/
theorem str_conv {W : World} {A : Option Addr} {xs : List Int} {c : Nat} (h : Kd.C (Kd.int .u8) W A xs.length xs) (hb : Crc.Bytes xs) : (convert 37 9 (.slice A xs.length c)).run Tryz.prog W = .ok (.string (strOf xs)) W := by
  by_cases h0 : xs.length = 0
  · have hx : xs = [] := List.eq_nil_of_length_eq_zero h0
    subst hx
    cases A with
    | none => exact Lib.run_convert_nil_bytes (P := Tryz.prog) W 37 9 5 c Tryz.underlying37 Tryz.underlying5 Tryz.underlying9
    | some a =>
      have := run_convert_bytes_back (P := Tryz.prog) W 37 9 5 a c [] Tryz.underlying37 Tryz.underlying5 Tryz.underlying9 (fun j hj => by simp at hj)
      exact this
  · obtain ⟨ad, rfl, hc⟩ := h.2.2 (by omega)
    have hl : (xs.map fun x => UInt8.ofNat x.toNat).length = xs.length := List.length_map _
    have := run_convert_bytes_back (P := Tryz.prog) W 37 9 5 ad c (xs.map fun x => UInt8.ofNat x.toNat) Tryz.underlying37 Tryz.underlying5 Tryz.underlying9 (fun j hj => by
      have hj' : j < xs.length := by omega
      obtain ⟨cs, _, hK, hcell⟩ := hc j xs[j] (List.getElem?_eq_getElem hj')
      have hcs : cs = [Value.int .u8 xs[j]] := hK
      subst hcs
      have h1 := hcell 0 _ rfl
      rw [show j * (Kd.int .u8).sz + 0 = j from Nat.mul_one j] at h1
      have h2 := hb _ (List.getElem_mem hj')
      rw [h1, List.getElem_map]
      congr 2
      rw [UInt8.toNat_ofNat']
      omega)
    rw [hl] at this
    exact this
end Go.Proofs.YtohighedgdlflaaGreatDoor
