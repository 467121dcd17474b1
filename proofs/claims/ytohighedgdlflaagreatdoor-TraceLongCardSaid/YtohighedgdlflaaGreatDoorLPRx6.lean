-- PRINTED by print.py (a twelfth state) out of the translation. Not trusted: Lean checks it.
import Derived.Test.YtohighedgdlflaaGreatDoorLPRx0
import Derived.Test.YtohighedgdlflaaGreatDoorLPRx3
namespace Go.Proofs.YtohighedgdlflaaGreatDoor.PR
open Go.RowKit Go.Proofs.YtohighedgdlflaaGreatDoorW.PrintWords Go.Proofs.YtohighedgdlflaaGreatDoorW.PrintLast Go.Proofs.YtohighedgdlflaaGreatDoorW.PrintMore
attribute [local go_sem] max2_int min2_int max_two min_two max_three min_three max_four min_four   -- for this text's walks alone
set_option linter.unusedVariables false
set_option linter.unusedSimpArgs false

/-! ### cloisterlaw22_Raw_made: function 63 -/
def cloisterlaw22_Raw_made.j0 : Nat → Int → Bool → Int → Int → Int → Int → Int → Int → Int → Int → Int → Int → Int → Int → Option (Int × Int × Int × Int × Int × Int)
  | 0, _, _, _, _, _, _, _, _, _, _, _, _, _, _ => none
  | k + 1, x21, x22, x178000, x178001, x178002, x178003, x178004, x178005, x183000, x183001, x183002, x183003, x183004, x183005 => if x22 = true then (some (x183000, x183001, x183002, x183003, (x178004) % 4294967296, (x178005) % 4294967296)) else (if x21 = 3 then ((cloisterlaw22_pick.f x178004 6).bind fun t183 => (some (x183000, x183001, x183002, x183003, (wrap64 (1 + t183)) % 4294967296, (x178005) % 4294967296))) else (if x21 = 4 then ((cloisterlaw22_pick.f x178004 32).bind fun t184 => (some (x183000, x183001, x183002, x183003, (t184) % 4294967296, x183005))) else (if x21 = 5 then ((cloisterlaw22_pick.f x178005 2147483648).bind fun t185 => (some (x183000, x183001, x183002, x183003, (x178004) % 4294967296, (t185) % 4294967296))) else (if x21 = 7 then (some (x183000, x183001, x183002, x183003, (x178004) % 4294967296, x183005)) else (some (x183000, x183001, x183002, x183003, x183004, x183005))))))
def cloisterlaw22_Raw_made.f (k : Nat) (a0_0 : Int) (a0_1 : Int) (a0_2 : Int) (a0_3 : Int) (a0_4 : Int) (a0_5 : Int) : Option (Int × Int × Int × Int × Int × Int) := (cloisterlaw22_pick.f a0_0 9223372036854775807).bind fun t179 => ((cloisterlaw22_pick.f a0_1 8).bind fun t180 => ((cloisterlaw22_pick.f a0_2 7).bind fun t181 => (if (wrap64 (1 + t181)) = 1 then (cloisterlaw22_Raw_made.j0 k (wrap64 (1 + t181)) ((wrap64 (1 + t181)) == 1) a0_0 a0_1 a0_2 a0_3 a0_4 a0_5 (IntKind.u64.wrap (t179)) (wrap64 (1 + t180)) (wrap64 (1 + t181)) ((a0_3) % 4294967296) 0 0) else (cloisterlaw22_Raw_made.j0 k (wrap64 (1 + t181)) ((wrap64 (1 + t181)) == 2) a0_0 a0_1 a0_2 a0_3 a0_4 a0_5 (IntKind.u64.wrap (t179)) (wrap64 (1 + t180)) (wrap64 (1 + t181)) ((a0_3) % 4294967296) 0 0))))
theorem cloisterlaw22_Raw_made.mono_l : ∀ k, (∀ y0 y1 y2 y3 y4 y5 y6 y7 y8 y9 y10 y11 y12 y13, LeO (cloisterlaw22_Raw_made.j0 k y0 y1 y2 y3 y4 y5 y6 y7 y8 y9 y10 y11 y12 y13) (cloisterlaw22_Raw_made.j0 (k + 1) y0 y1 y2 y3 y4 y5 y6 y7 y8 y9 y10 y11 y12 y13))
  | 0 => fun _ _ _ _ _ _ _ _ _ _ _ _ _ _ r h => by simp [cloisterlaw22_Raw_made.j0] at h
  | k + 1 => by
    have ih0 := cloisterlaw22_Raw_made.mono_l k
    · intro y0 y1 y2 y3 y4 y5 y6 y7 y8 y9 y10 y11 y12 y13
      unfold cloisterlaw22_Raw_made.j0
      repeat' first
      | (with_reducible exact ih0 _ _ _ _ _ _ _ _ _ _ _ _ _ _)
      | (with_reducible exact LeO.refl _)
      | (with_reducible exact LeO.none _)
      | (with_reducible refine LeO.ite ?_ ?_)
      | (with_reducible refine LeO.bind ?_ (fun _ => ?_))
      | exact ih0 _ _ _ _ _ _ _ _ _ _ _ _ _ _
      | exact LeO.none _
      | refine LeO.ite ?_ ?_
      | refine LeO.bind ?_ (fun _ => ?_)
theorem cloisterlaw22_Raw_made.mono : ∀ a0 a1 a2 a3 a4 a5 k, LeO (cloisterlaw22_Raw_made.f k a0 a1 a2 a3 a4 a5) (cloisterlaw22_Raw_made.f (k + 1) a0 a1 a2 a3 a4 a5) := by
  intro a0 a1 a2 a3 a4 a5 k
  have ih0 := cloisterlaw22_Raw_made.mono_l k
  unfold cloisterlaw22_Raw_made.f
  repeat' first
      | (with_reducible exact ih0 _ _ _ _ _ _ _ _ _ _ _ _ _ _)
      | (with_reducible exact LeO.refl _)
      | (with_reducible exact LeO.none _)
      | (with_reducible refine LeO.ite ?_ ?_)
      | (with_reducible refine LeO.bind ?_ (fun _ => ?_))
      | exact ih0 _ _ _ _ _ _ _ _ _ _ _ _ _ _
      | exact LeO.none _
      | refine LeO.ite ?_ ?_
      | refine LeO.bind ?_ (fun _ => ?_)
def cloisterlaw22_Raw_made.T1 : Bool × List (List Nat × List Nat) := (true, [([], []), ([0], [0]), ([1], [1]), ([2], [2]), ([], []), ([4], [4]), ([5, 2], [5]), ([6], [6]), ([], []), ([8], [8]), ([9, 6], [9]), ([10], [10]), ([], []), ([12], [12]), ([13], [13]), ([3, 7, 11, 14], [3, 7, 11, 14]), ([], []), ([16, 15, 10, 0, 1, 2, 3, 4, 5, 6, 7, 8, 9, 10, 11, 12, 13, 14, 15, 16], [15, 16])])
def cloisterlaw22_Raw_made.B1 : List Nat := [0, 1, 3, 7, 0, 16, 55, 119, 0, 256, 887, 1911, 0, 4096, 12288, 32767, 0, 131071]
theorem cloisterlaw22_Raw_made.tab1 : rtab .any (opsOf Tryz.f63 1) = cloisterlaw22_Raw_made.T1 := by kernel_rfl
theorem cloisterlaw22_Raw_made.bits1 : waitsOk cloisterlaw22_Raw_made.T1.2 cloisterlaw22_Raw_made.B1 = true := by kernel_rfl
set_option maxHeartbeats 8000000 in
set_option maxRecDepth 100000 in
theorem cloisterlaw22_Raw_made.calls (k : Nat) (a0_0 : Int) (a0_1 : Int) (a0_2 : Int) (a0_3 : Int) (a0_4 : Int) (a0_5 : Int) (r1 : Int) (r2 : Int) (r3 : Int) (r4 : Int) (r5 : Int) (r6 : Int) (w : World) (h : cloisterlaw22_Raw_made.f k a0_0 a0_1 a0_2 a0_3 a0_4 a0_5 = some (r1, r2, r3, r4, r5, r6)) :
    Calls Tryz.prog 63 #[.agg #[.int .i64 a0_0, .int .i64 a0_1, .int .i64 a0_2, .int .i64 a0_3, .int .i64 a0_4, .int .i64 a0_5]] w fun e w' => e = .returned (.agg #[.int .u64 r1, .int .i64 r2, .int .i64 r3, .int .u32 r4, .int .u32 r5, .int .u32 r6]) ∧ Below w.heap.size w w' := by
  have hu108 := Tryz.underlying108
  have hu35 := Tryz.underlying35
  have HB := Aside0.mk (Below.refl w.heap.size w)
  have H : ((cloisterlaw22_pick.f a0_0 9223372036854775807).bind fun t179 => ((cloisterlaw22_pick.f a0_1 8).bind fun t180 => ((cloisterlaw22_pick.f a0_2 7).bind fun t181 => (if (wrap64 (1 + t181)) = 1 then (cloisterlaw22_Raw_made.j0 k (wrap64 (1 + t181)) ((wrap64 (1 + t181)) == 1) a0_0 a0_1 a0_2 a0_3 a0_4 a0_5 (IntKind.u64.wrap (t179)) (wrap64 (1 + t180)) (wrap64 (1 + t181)) ((a0_3) % 4294967296) 0 0) else (cloisterlaw22_Raw_made.j0 k (wrap64 (1 + t181)) ((wrap64 (1 + t181)) == 2) a0_0 a0_1 a0_2 a0_3 a0_4 a0_5 (IntKind.u64.wrap (t179)) (wrap64 (1 + t180)) (wrap64 (1 + t181)) ((a0_3) % 4294967296) 0 0))))) = some (r1, r2, r3, r4, r5, r6) := h
  clear h
  replace H := Option.bind_eq_some_iff.mp H
  obtain ⟨t179, A20, H⟩ := H
  replace H : ((cloisterlaw22_pick.f a0_1 8).bind fun t180 => ((cloisterlaw22_pick.f a0_2 7).bind fun t181 => (if (wrap64 (1 + t181)) = 1 then (cloisterlaw22_Raw_made.j0 k (wrap64 (1 + t181)) ((wrap64 (1 + t181)) == 1) a0_0 a0_1 a0_2 a0_3 a0_4 a0_5 (IntKind.u64.wrap (t179)) (wrap64 (1 + t180)) (wrap64 (1 + t181)) ((a0_3) % 4294967296) 0 0) else (cloisterlaw22_Raw_made.j0 k (wrap64 (1 + t181)) ((wrap64 (1 + t181)) == 2) a0_0 a0_1 a0_2 a0_3 a0_4 a0_5 (IntKind.u64.wrap (t179)) (wrap64 (1 + t180)) (wrap64 (1 + t181)) ((a0_3) % 4294967296) 0 0)))) = some (r1, r2, r3, r4, r5, r6) := H
  have A2 := Aside0.mk A20
  clear A20
  replace H := Option.bind_eq_some_iff.mp H
  obtain ⟨t180, A30, H⟩ := H
  replace H : ((cloisterlaw22_pick.f a0_2 7).bind fun t181 => (if (wrap64 (1 + t181)) = 1 then (cloisterlaw22_Raw_made.j0 k (wrap64 (1 + t181)) ((wrap64 (1 + t181)) == 1) a0_0 a0_1 a0_2 a0_3 a0_4 a0_5 (IntKind.u64.wrap (t179)) (wrap64 (1 + t180)) (wrap64 (1 + t181)) ((a0_3) % 4294967296) 0 0) else (cloisterlaw22_Raw_made.j0 k (wrap64 (1 + t181)) ((wrap64 (1 + t181)) == 2) a0_0 a0_1 a0_2 a0_3 a0_4 a0_5 (IntKind.u64.wrap (t179)) (wrap64 (1 + t180)) (wrap64 (1 + t181)) ((a0_3) % 4294967296) 0 0))) = some (r1, r2, r3, r4, r5, r6) := H
  have A3 := Aside0.mk A30
  clear A30
  replace H := Option.bind_eq_some_iff.mp H
  obtain ⟨t181, A40, H⟩ := H
  replace H : (if (wrap64 (1 + t181)) = 1 then (cloisterlaw22_Raw_made.j0 k (wrap64 (1 + t181)) ((wrap64 (1 + t181)) == 1) a0_0 a0_1 a0_2 a0_3 a0_4 a0_5 (IntKind.u64.wrap (t179)) (wrap64 (1 + t180)) (wrap64 (1 + t181)) ((a0_3) % 4294967296) 0 0) else (cloisterlaw22_Raw_made.j0 k (wrap64 (1 + t181)) ((wrap64 (1 + t181)) == 2) a0_0 a0_1 a0_2 a0_3 a0_4 a0_5 (IntKind.u64.wrap (t179)) (wrap64 (1 + t180)) (wrap64 (1 + t181)) ((a0_3) % 4294967296) 0 0)) = some (r1, r2, r3, r4, r5, r6) := H
  have A4 := Aside0.mk A40
  clear A40
  have HC5 := Aside0.mk H
  clear H
  go_enter Tryz.func63, Tryz.ntmps63
  try go_wp2_with (first | ((with_reducible refine gate_dst (N := 1) rfl ?_); refine box_event ?hg (N := 1) ?hd (cs := #[.int .i64 a0_0, .int .i64 a0_1, .int .i64 a0_2, .int .i64 a0_3, .int .i64 a0_4, .int .i64 a0_5]) (t := 108) ?hr ?_; (case hd => rfl); (case hg => rfl); (case hr => first | (go_simp; done) | (go_simp; rfl)); intro gb177 hg w6 hbox hb; have n0_ := Aside0.mk (below_step (by repeat (first | (with_reducible first | exact HB.out | apply below_alloc | apply pw_below_drewN | apply below_drew1) | exact HB.out)) hb); have n1_ := Aside0.mk (hbox); have n2_ := Aside0.mk ((by rw [hg]; exact (below_size (by repeat (first | (with_reducible first | exact HB.out | apply below_alloc | apply pw_below_drewN | apply below_drew1) | exact HB.out))) : w.heap.size ≤ gb177)); have n3_ := Aside0.mk ((by rw [hg]; exact (below_size (by repeat (first | (with_reducible first | exact HB.out | apply below_alloc | apply pw_below_drewN | apply below_drew1) | exact HB.out))) : w.heap.size ≤ gb177)); clear HB; have HB := n0_; have BK177 := n1_; have GW177 := n2_; have GE177 := n3_; clear n0_ n1_ n2_ n3_; clear hb hbox hg) | ((with_reducible refine gate_dst (N := 2) rfl ?_); refine box_event ?hg (N := 2) ?hd (cs := #[.int .u64 0, .int .i64 0, .int .i64 0, .int .u32 0, .int .u32 0, .int .u32 0]) (t := 35) ?hr ?_; (case hd => rfl); (case hg => rfl); (case hr => first | (go_simp; done) | (go_simp; rfl)); intro gb178 hg w7 hbox hb; have n0_ := Aside0.mk (blk_below (g := gb177) (o := .cells #[.int .i64 a0_0, .int .i64 a0_1, .int .i64 a0_2, .int .i64 a0_3, .int .i64 a0_4, .int .i64 a0_5] 108 (0, 0)) (by (with_reducible repeat (first | refine blk_drewN ?_ _ | refine blk_drew ?_ | refine blk_alloc ?_ _)); exact BK177.out) hb); have n1_ := Aside0.mk (below_step (by repeat (first | (with_reducible first | exact HB.out | apply below_alloc | apply pw_below_drewN | apply below_drew1 | refine below_set ?_ GE177.out) | exact HB.out)) hb); have n2_ := Aside0.mk (hbox); have n3_ := Aside0.mk ((by rw [hg]; exact (below_size (by repeat (first | (with_reducible first | exact HB.out | apply below_alloc | apply pw_below_drewN | apply below_drew1 | refine below_set ?_ GE177.out) | exact HB.out))) : w.heap.size ≤ gb178)); have n4_ := Aside0.mk ((by rw [hg]; exact (below_size (by repeat (first | (with_reducible first | exact HB.out | apply below_alloc | apply pw_below_drewN | apply below_drew1 | refine below_set ?_ GE177.out) | exact HB.out))) : w.heap.size ≤ gb178)); have n5_ := Aside0.mk ((by rw [hg]; exact Nat.ne_of_lt (blk_lt (g := gb177) (o := .cells #[.int .i64 a0_0, .int .i64 a0_1, .int .i64 a0_2, .int .i64 a0_3, .int .i64 a0_4, .int .i64 a0_5] 108 (0, 0)) (by (with_reducible repeat (first | refine blk_drewN ?_ _ | refine blk_drew ?_ | refine blk_alloc ?_ _)); exact BK177.out)) : gb177 ≠ gb178)); have n6_ := Aside0.mk ((by rw [hg]; exact Nat.ne_of_gt (blk_lt (g := gb177) (o := .cells #[.int .i64 a0_0, .int .i64 a0_1, .int .i64 a0_2, .int .i64 a0_3, .int .i64 a0_4, .int .i64 a0_5] 108 (0, 0)) (by (with_reducible repeat (first | refine blk_drewN ?_ _ | refine blk_drew ?_ | refine blk_alloc ?_ _)); exact BK177.out)) : gb178 ≠ gb177)); clear BK177; clear HB; have BK177 := n0_; have HB := n1_; have BK178 := n2_; have GW178 := n3_; have GE178 := n4_; have NB177_178 := n5_; have NB178_177 := n6_; clear n0_ n1_ n2_ n3_ n4_ n5_ n6_; clear hb hbox hg))
  have n0_ := Aside0.mk (blk_drew BK177.out)
  have n1_ := Aside0.mk (blk_drew BK178.out)
  have n2_ := Aside0.mk (below_drew1 HB.out)
  clear BK177
  clear BK178
  clear HB
  have BK177 := n0_
  have BK178 := n1_
  have HB := n2_
  clear n0_ n1_ n2_
  refine start_ (n := 18) (S := fun w' => w'.cell? ⟨gb177, 0, none⟩ = some (.int .i64 a0_0) ∧ w'.cell? ⟨gb177, 1, none⟩ = some (.int .i64 a0_1) ∧ w'.cell? ⟨gb177, 2, none⟩ = some (.int .i64 a0_2) ∧ w'.cell? ⟨gb177, 3, none⟩ = some (.int .i64 a0_3) ∧ w'.cell? ⟨gb177, 4, none⟩ = some (.int .i64 a0_4) ∧ w'.cell? ⟨gb177, 5, none⟩ = some (.int .i64 a0_5)) (ds := []) #[false, false, false, false, false, false, false, false, false, false, false, false, false, false, false, false, false, false] (by kernel_rfl) rfl rfl ⟨(blk_cell BK177.out 0).trans rfl, (blk_cell BK177.out 1).trans rfl, (blk_cell BK177.out 2).trans rfl, (blk_cell BK177.out 3).trans rfl, (blk_cell BK177.out 4).trans rfl, (blk_cell BK177.out 5).trans rfl⟩ (fun hHeld => ?_); refine with_tabW cloisterlaw22_Raw_made.tab1 cloisterlaw22_Raw_made.bits1 (fun HT_ HW_ => ?_)
  generalize w7.drew = w8 at BK177 BK178 HB hHeld ⊢
  refine pure_ (i := 0) (N := some 4) (v := ?_) (a' := ?_) #[true, false, false, false, false, false, false, false, false, false, false, false, false, false, false, false, false, false] rfl rfl (any_of HT_.out (by kernel_rfl)) (fun _ _ _ h => h) (Or.inl ⟨by rfl, ?_⟩) ?_ ?_
  rotate_left
  · intro w'
    go_simp
    with_reducible rfl
  rotate_left
  · simp only [Act.put, List.setIfInBounds_toArray, List.set_cons_zero, List.set_cons_succ, i64_w, i32_w]
    rfl
  refine pure_ (i := 4) (N := some 8) (v := ?_) (a' := ?_) #[true, false, false, false, true, false, false, false, false, false, false, false, false, false, false, false, false, false] rfl rfl (any_of HT_.out (by kernel_rfl)) (fun _ _ _ h => h) (Or.inl ⟨by rfl, ?_⟩) ?_ ?_
  rotate_left
  · intro w'
    go_simp
    with_reducible rfl
  rotate_left
  · simp only [Act.put, List.setIfInBounds_toArray, List.set_cons_zero, List.set_cons_succ, i64_w, i32_w]
    rfl
  refine pure_ (i := 8) (N := some 12) (v := ?_) (a' := ?_) #[true, false, false, false, true, false, false, false, true, false, false, false, false, false, false, false, false, false] rfl rfl (any_of HT_.out (by kernel_rfl)) (fun _ _ _ h => h) (Or.inl ⟨by rfl, ?_⟩) ?_ ?_
  rotate_left
  · intro w'
    go_simp
    with_reducible rfl
  rotate_left
  · simp only [Act.put, List.setIfInBounds_toArray, List.set_cons_zero, List.set_cons_succ, i64_w, i32_w]
    rfl
  refine pure_ (i := 12) (N := some 16) (v := ?_) (a' := ?_) #[true, false, false, false, true, false, false, false, true, false, false, false, true, false, false, false, false, false] rfl rfl (any_of HT_.out (by kernel_rfl)) (fun _ _ _ h => h) (Or.inl ⟨by rfl, ?_⟩) ?_ ?_
  rotate_left
  · intro w'
    go_simp
    with_reducible rfl
  rotate_left
  · simp only [Act.put, List.setIfInBounds_toArray, List.set_cons_zero, List.set_cons_succ, i64_w, i32_w]
    rfl
  refine take_ (i := 1) (N := some 5) (v := ?_) (a' := ?_) #[true, true, false, false, true, false, false, false, true, false, false, false, true, false, false, false, false, false] rfl rfl (take_ofW HT_.out HW_.out (by kernel_rfl)) (fun _ _ _ h => h) (Or.inl ⟨by rfl, ?_⟩) hHeld ?_ ?_
  rotate_left
  · rintro w' ⟨s0, s1, s2, s3, s4, s5⟩
    go_simp
    with_reducible rfl
  rotate_left
  · simp only [Act.put, List.setIfInBounds_toArray, List.set_cons_zero, List.set_cons_succ, i64_w, i32_w]
    rfl
  refine take_ (i := 5) (N := some 9) (v := ?_) (a' := ?_) #[true, true, false, false, true, true, false, false, true, false, false, false, true, false, false, false, false, false] rfl rfl (take_ofW HT_.out HW_.out (by kernel_rfl)) (fun _ _ _ h => h) (Or.inl ⟨by rfl, ?_⟩) hHeld ?_ ?_
  rotate_left
  · rintro w' ⟨s0, s1, s2, s3, s4, s5⟩
    go_simp
    with_reducible rfl
  rotate_left
  · simp only [Act.put, List.setIfInBounds_toArray, List.set_cons_zero, List.set_cons_succ, i64_w, i32_w]
    rfl
  refine take_ (i := 9) (N := some 13) (v := ?_) (a' := ?_) #[true, true, false, false, true, true, false, false, true, true, false, false, true, false, false, false, false, false] rfl rfl (take_ofW HT_.out HW_.out (by kernel_rfl)) (fun _ _ _ h => h) (Or.inl ⟨by rfl, ?_⟩) hHeld ?_ ?_
  rotate_left
  · rintro w' ⟨s0, s1, s2, s3, s4, s5⟩
    go_simp
    with_reducible rfl
  rotate_left
  · simp only [Act.put, List.setIfInBounds_toArray, List.set_cons_zero, List.set_cons_succ, i64_w, i32_w]
    rfl
  refine take_ (i := 13) (N := some 17) (v := ?_) (a' := ?_) #[true, true, false, false, true, true, false, false, true, true, false, false, true, true, false, false, false, false] rfl rfl (take_ofW HT_.out HW_.out (by kernel_rfl)) (fun _ _ _ h => h) (Or.inl ⟨by rfl, ?_⟩) hHeld ?_ ?_
  rotate_left
  · rintro w' ⟨s0, s1, s2, s3, s4, s5⟩
    go_simp
    with_reducible rfl
  rotate_left
  · simp only [Act.put, List.setIfInBounds_toArray, List.set_cons_zero, List.set_cons_succ, i64_w, i32_w]
    rfl
  refine pure_ (i := 14) (N := some 18) (v := ?_) (a' := ?_) #[true, true, false, false, true, true, false, false, true, true, false, false, true, true, true, false, false, false] rfl rfl (any_of HT_.out (by kernel_rfl)) (fun _ _ _ h => h) (Or.inl ⟨by rfl, ?_⟩) ?_ ?_
  rotate_left
  · intro w'
    go_simp
    with_reducible rfl
  rotate_left
  · simp only [Act.put, List.setIfInBounds_toArray, List.set_cons_zero, List.set_cons_succ, i64_w, i32_w]
    rfl
  refine join_ (σ := Nat) 1 #[true, true, true, true, true, true, true, true, true, true, true, true, true, true, true, true, true, false] (fun s_ => [(6, .int .i64 t179), (10, .int .i64 t180), (14, .int .i64 t181), (3, .pointer (some ⟨s_, 0, none⟩)), (7, .int .u64 (IntKind.u64.wrap (t179))), (11, .int .i64 (wrap64 (1 + t180))), (15, .int .i64 (wrap64 (1 + t181))), (19, .agg #[.int .u64 (IntKind.u64.wrap (t179)), .int .i64 (wrap64 (1 + t180)), .int .i64 (wrap64 (1 + t181)), .int .u32 ((a0_3) % 4294967296), .int .u32 0, .int .u32 0])]) (fun s_ w' => (w'.cell? ⟨gb177, 0, none⟩ = some (.int .i64 a0_0) ∧ w'.cell? ⟨gb177, 1, none⟩ = some (.int .i64 a0_1) ∧ w'.cell? ⟨gb177, 2, none⟩ = some (.int .i64 a0_2) ∧ w'.cell? ⟨gb177, 3, none⟩ = some (.int .i64 a0_3) ∧ w'.cell? ⟨gb177, 4, none⟩ = some (.int .i64 a0_4) ∧ w'.cell? ⟨gb177, 5, none⟩ = some (.int .i64 a0_5)) ∧ (w'.heap[gb177]? = some (.cells #[.int .i64 a0_0, .int .i64 a0_1, .int .i64 a0_2, .int .i64 a0_3, .int .i64 a0_4, .int .i64 a0_5] 108 (0, 0))) ∧ (w'.heap[gb178]? = some (.cells #[.int .u64 0, .int .i64 0, .int .i64 0, .int .u32 0, .int .u32 0, .int .u32 0] 35 (0, 0))) ∧ (w'.heap[s_]? = some (.cells #[.int .u64 0, .int .i64 0, .int .i64 0, .int .u32 0, .int .u32 0, .int .u32 0] 35 (0, 0))) ∧ (w.heap.size ≤ s_) ∧ (w.heap.size ≤ s_) ∧ (gb177 ≠ s_) ∧ (s_ ≠ gb177) ∧ (gb178 ≠ s_) ∧ (s_ ≠ gb178) ∧ (Below w.heap.size w w')) ?_ ?_
  rotate_left
  · intro hCont
    refine two_ (i := 2) (j := 16) (Ni := some 6) (Nj := some 3) #[true, true, true, false, true, true, false, false, true, true, false, false, true, true, true, false, false, false] #[true, true, false, false, true, true, false, false, true, true, false, false, true, true, true, false, true, false] rfl rfl rfl rfl (two_of HT_.out (by kernel_rfl)) (by decide) (by decide) (fun K hK => ?_) (fun K hK => ?_)
    · skip
      refine goes_ Tryz.func29 (by kernel_rfl) rfl #[.int .i64 a0_0, .int .i64 9223372036854775807] (by rfl) rfl rfl (by (try simp only [List.map_toArray, List.map_cons, List.map_nil]); first | done | rfl | (simp only [List.length_drop, List.length_take]; rfl)) ?_
      with_reducible refine (cloisterlaw22_pick.calls a0_0 9223372036854775807 t179 _ A2.out).mono ?_
      rintro e w' ⟨rfl, ⟨nd, rfl⟩⟩
      refine ⟨_, rfl, ?_⟩
      refine hK.out _ _ ⟨(blk_cell BK177.out 0).trans rfl, (blk_cell BK177.out 1).trans rfl, (blk_cell BK177.out 2).trans rfl, (blk_cell BK177.out 3).trans rfl, (blk_cell BK177.out 4).trans rfl, (blk_cell BK177.out 5).trans rfl⟩ (fun hHeld => ?_)
      clear hK K
      refine norm_ (a' := ?_) ?_ ?_
      rotate_left
      · show Act.put _ (some 6) _ = _
        simp only [Act.put, List.setIfInBounds_toArray, List.set_cons_zero, List.set_cons_succ, i64_w, i32_w]
        rfl
      refine pure_ (i := 3) (N := some 7) (v := ?_) (a' := ?_) #[true, true, true, true, true, true, false, false, true, true, false, false, true, true, true, false, false, false] rfl rfl (any_of HT_.out (by kernel_rfl)) (fun _ _ _ h => h) (Or.inl ⟨by rfl, ?_⟩) ?_ ?_
      rotate_left
      · intro w'
        go_simp
        with_reducible rfl
      rotate_left
      · simp only [Act.put, List.setIfInBounds_toArray, List.set_cons_zero, List.set_cons_succ, i64_w, i32_w]
        rfl
      refine two_ (i := 6) (j := 16) (Ni := some 10) (Nj := some 3) #[true, true, true, true, true, true, true, false, true, true, false, false, true, true, true, false, false, false] #[true, true, true, true, true, true, false, false, true, true, false, false, true, true, true, false, true, false] rfl rfl rfl rfl (two_of HT_.out (by kernel_rfl)) (by decide) (by decide) (fun K hK => ?_) (fun K hK => ?_)
      · skip
        refine goes_ Tryz.func29 (by kernel_rfl) rfl #[.int .i64 a0_1, .int .i64 8] (by rfl) rfl rfl (by (try simp only [List.map_toArray, List.map_cons, List.map_nil]); first | done | rfl | (simp only [List.length_drop, List.length_take]; rfl)) ?_
        with_reducible refine (cloisterlaw22_pick.calls a0_1 8 t180 _ A3.out).mono ?_
        rintro e w' ⟨rfl, ⟨nd, rfl⟩⟩
        refine ⟨_, rfl, ?_⟩
        refine hK.out _ _ ⟨(blk_cell BK177.out 0).trans rfl, (blk_cell BK177.out 1).trans rfl, (blk_cell BK177.out 2).trans rfl, (blk_cell BK177.out 3).trans rfl, (blk_cell BK177.out 4).trans rfl, (blk_cell BK177.out 5).trans rfl⟩ (fun hHeld => ?_)
        clear hK K
        refine norm_ (a' := ?_) ?_ ?_
        rotate_left
        · show Act.put _ (some 10) _ = _
          simp only [Act.put, List.setIfInBounds_toArray, List.set_cons_zero, List.set_cons_succ, i64_w, i32_w]
          rfl
        refine pure_ (i := 7) (N := some 11) (v := ?_) (a' := ?_) #[true, true, true, true, true, true, true, true, true, true, false, false, true, true, true, false, false, false] rfl rfl (any_of HT_.out (by kernel_rfl)) (fun _ _ _ h => h) (Or.inl ⟨by rfl, ?_⟩) ?_ ?_
        rotate_left
        · intro w'
          go_simp
          with_reducible rfl
        rotate_left
        · simp only [Act.put, List.setIfInBounds_toArray, List.set_cons_zero, List.set_cons_succ, i64_w, i32_w]
          rfl
        refine two_ (i := 10) (j := 16) (Ni := some 14) (Nj := some 3) #[true, true, true, true, true, true, true, true, true, true, true, false, true, true, true, false, false, false] #[true, true, true, true, true, true, true, true, true, true, false, false, true, true, true, false, true, false] rfl rfl rfl rfl (two_of HT_.out (by kernel_rfl)) (by decide) (by decide) (fun K hK => ?_) (fun K hK => ?_)
        · skip
          refine goes_ Tryz.func29 (by kernel_rfl) rfl #[.int .i64 a0_2, .int .i64 7] (by rfl) rfl rfl (by (try simp only [List.map_toArray, List.map_cons, List.map_nil]); first | done | rfl | (simp only [List.length_drop, List.length_take]; rfl)) ?_
          with_reducible refine (cloisterlaw22_pick.calls a0_2 7 t181 _ A4.out).mono ?_
          rintro e w' ⟨rfl, ⟨nd, rfl⟩⟩
          refine ⟨_, rfl, ?_⟩
          refine hK.out _ _ ⟨(blk_cell BK177.out 0).trans rfl, (blk_cell BK177.out 1).trans rfl, (blk_cell BK177.out 2).trans rfl, (blk_cell BK177.out 3).trans rfl, (blk_cell BK177.out 4).trans rfl, (blk_cell BK177.out 5).trans rfl⟩ (fun hHeld => ?_)
          clear hK K
          refine norm_ (a' := ?_) ?_ ?_
          rotate_left
          · show Act.put _ (some 14) _ = _
            simp only [Act.put, List.setIfInBounds_toArray, List.set_cons_zero, List.set_cons_succ, i64_w, i32_w]
            rfl
          refine pure_ (i := 11) (N := some 15) (v := ?_) (a' := ?_) #[true, true, true, true, true, true, true, true, true, true, true, true, true, true, true, false, false, false] rfl rfl (any_of HT_.out (by kernel_rfl)) (fun _ _ _ h => h) (Or.inl ⟨by rfl, ?_⟩) ?_ ?_
          rotate_left
          · intro w'
            go_simp
            with_reducible rfl
          rotate_left
          · simp only [Act.put, List.setIfInBounds_toArray, List.set_cons_zero, List.set_cons_succ, i64_w, i32_w]
            rfl
          refine pure_ (i := 15) (N := some 19) (v := ?_) (a' := ?_) #[true, true, true, true, true, true, true, true, true, true, true, true, true, true, true, true, false, false] rfl rfl (any_of HT_.out (by kernel_rfl)) (fun _ _ _ h => h) (Or.inl ⟨by rfl, ?_⟩) ?_ ?_
          rotate_left
          · intro w'
            go_simp
            with_reducible rfl
          rotate_left
          · simp only [Act.put, List.setIfInBounds_toArray, List.set_cons_zero, List.set_cons_succ, i64_w, i32_w]
            rfl
          refine one_ (i := 16) (N := some 3) #[true, true, true, true, true, true, true, true, true, true, true, true, true, true, true, true, true, false] rfl rfl (one_of HT_.out (by kernel_rfl)) (by decide) (fun K hK => ?_)
          refine box_step ?hg (N := 3) ?hd (cs := #[.int .u64 0, .int .i64 0, .int .i64 0, .int .u32 0, .int .u32 0, .int .u32 0]) (t := 35) ?hr ?_; (case hd => rfl); (case hg => rfl); (case hr => first | (go_simp; done) | (go_simp; rfl))
          intro gb182 hg w9 hbox hb
          have n0_ := Aside0.mk (blk_below (g := gb177) (o := .cells #[.int .i64 a0_0, .int .i64 a0_1, .int .i64 a0_2, .int .i64 a0_3, .int .i64 a0_4, .int .i64 a0_5] 108 (0, 0)) (by (with_reducible repeat (first | refine blk_drewN ?_ _ | refine blk_drew ?_ | refine blk_alloc ?_ _)); exact BK177.out) hb)
          have n1_ := Aside0.mk (blk_below (g := gb178) (o := .cells #[.int .u64 0, .int .i64 0, .int .i64 0, .int .u32 0, .int .u32 0, .int .u32 0] 35 (0, 0)) (by (with_reducible repeat (first | refine blk_drewN ?_ _ | refine blk_drew ?_ | refine blk_alloc ?_ _)); exact BK178.out) hb)
          have n2_ := Aside0.mk (below_step (by repeat (first | (with_reducible first | exact HB.out | apply below_alloc | apply pw_below_drewN | apply below_drew1 | refine below_set ?_ GE177.out | refine below_set ?_ GE178.out) | exact HB.out)) hb)
          have n3_ := Aside0.mk (hbox)
          have n4_ := Aside0.mk ((by rw [hg]; exact (below_size (by repeat (first | (with_reducible first | exact HB.out | apply below_alloc | apply pw_below_drewN | apply below_drew1 | refine below_set ?_ GE177.out | refine below_set ?_ GE178.out) | exact HB.out))) : w.heap.size ≤ gb182))
          have n5_ := Aside0.mk ((by rw [hg]; exact (below_size (by repeat (first | (with_reducible first | exact HB.out | apply below_alloc | apply pw_below_drewN | apply below_drew1 | refine below_set ?_ GE177.out | refine below_set ?_ GE178.out) | exact HB.out))) : w.heap.size ≤ gb182))
          have n6_ := Aside0.mk ((by rw [hg]; exact Nat.ne_of_lt (blk_lt (g := gb177) (o := .cells #[.int .i64 a0_0, .int .i64 a0_1, .int .i64 a0_2, .int .i64 a0_3, .int .i64 a0_4, .int .i64 a0_5] 108 (0, 0)) (by (with_reducible repeat (first | refine blk_drewN ?_ _ | refine blk_drew ?_ | refine blk_alloc ?_ _)); exact BK177.out)) : gb177 ≠ gb182))
          have n7_ := Aside0.mk ((by rw [hg]; exact Nat.ne_of_gt (blk_lt (g := gb177) (o := .cells #[.int .i64 a0_0, .int .i64 a0_1, .int .i64 a0_2, .int .i64 a0_3, .int .i64 a0_4, .int .i64 a0_5] 108 (0, 0)) (by (with_reducible repeat (first | refine blk_drewN ?_ _ | refine blk_drew ?_ | refine blk_alloc ?_ _)); exact BK177.out)) : gb182 ≠ gb177))
          have n8_ := Aside0.mk ((by rw [hg]; exact Nat.ne_of_lt (blk_lt (g := gb178) (o := .cells #[.int .u64 0, .int .i64 0, .int .i64 0, .int .u32 0, .int .u32 0, .int .u32 0] 35 (0, 0)) (by (with_reducible repeat (first | refine blk_drewN ?_ _ | refine blk_drew ?_ | refine blk_alloc ?_ _)); exact BK178.out)) : gb178 ≠ gb182))
          have n9_ := Aside0.mk ((by rw [hg]; exact Nat.ne_of_gt (blk_lt (g := gb178) (o := .cells #[.int .u64 0, .int .i64 0, .int .i64 0, .int .u32 0, .int .u32 0, .int .u32 0] 35 (0, 0)) (by (with_reducible repeat (first | refine blk_drewN ?_ _ | refine blk_drew ?_ | refine blk_alloc ?_ _)); exact BK178.out)) : gb182 ≠ gb178))
          clear BK177
          clear BK178
          clear HB
          have BK177 := n0_
          have BK178 := n1_
          have HB := n2_
          have BK182 := n3_
          have GW182 := n4_
          have GE182 := n5_
          have NB177_182 := n6_
          have NB182_177 := n7_
          have NB178_182 := n8_
          have NB182_178 := n9_
          clear n0_ n1_ n2_ n3_ n4_ n5_ n6_ n7_ n8_ n9_
          clear hb hbox hg
          refine hK.out _ _ ⟨(blk_cell BK177.out 0).trans rfl, (blk_cell BK177.out 1).trans rfl, (blk_cell BK177.out 2).trans rfl, (blk_cell BK177.out 3).trans rfl, (blk_cell BK177.out 4).trans rfl, (blk_cell BK177.out 5).trans rfl⟩ (fun hHeld => ?_)
          clear hK K
          refine norm_ (a' := ?_) ?_ ?_
          rotate_left
          · show Act.put _ (some 3) _ = _
            simp only [Act.put, List.setIfInBounds_toArray, List.set_cons_zero, List.set_cons_succ, i64_w, i32_w]
            rfl
          exact norm_ (by first | (simp only [putAll, Act.put, List.setIfInBounds_toArray, List.set_cons_zero, List.set_cons_succ]; done) | (simp only [putAll, Act.put, List.setIfInBounds_toArray, List.set_cons_zero, List.set_cons_succ]; rfl)) (hCont (gb182) _ ⟨hHeld, (by (with_reducible repeat (first | refine blk_drewN ?_ _ | refine blk_drew ?_ | refine blk_alloc ?_ _)); exact BK177.out), (by (with_reducible repeat (first | refine blk_drewN ?_ _ | refine blk_drew ?_ | refine blk_alloc ?_ _)); exact BK178.out), (by (with_reducible repeat (first | refine blk_drewN ?_ _ | refine blk_drew ?_ | refine blk_alloc ?_ _)); exact BK182.out), GW182.out, GE182.out, NB177_182.out, NB182_177.out, NB178_182.out, NB182_178.out, (by repeat (first | (with_reducible first | exact HB.out | apply below_alloc | apply pw_below_drewN | apply below_drew1 | refine below_set ?_ GE177.out | refine below_set ?_ GE178.out | refine below_set ?_ GE182.out) | exact HB.out))⟩)
        · skip
          refine box_step ?hg (N := 3) ?hd (cs := #[.int .u64 0, .int .i64 0, .int .i64 0, .int .u32 0, .int .u32 0, .int .u32 0]) (t := 35) ?hr ?_; (case hd => rfl); (case hg => rfl); (case hr => first | (go_simp; done) | (go_simp; rfl))
          intro gb182 hg w9 hbox hb
          have n0_ := Aside0.mk (blk_below (g := gb177) (o := .cells #[.int .i64 a0_0, .int .i64 a0_1, .int .i64 a0_2, .int .i64 a0_3, .int .i64 a0_4, .int .i64 a0_5] 108 (0, 0)) (by (with_reducible repeat (first | refine blk_drewN ?_ _ | refine blk_drew ?_ | refine blk_alloc ?_ _)); exact BK177.out) hb)
          have n1_ := Aside0.mk (blk_below (g := gb178) (o := .cells #[.int .u64 0, .int .i64 0, .int .i64 0, .int .u32 0, .int .u32 0, .int .u32 0] 35 (0, 0)) (by (with_reducible repeat (first | refine blk_drewN ?_ _ | refine blk_drew ?_ | refine blk_alloc ?_ _)); exact BK178.out) hb)
          have n2_ := Aside0.mk (below_step (by repeat (first | (with_reducible first | exact HB.out | apply below_alloc | apply pw_below_drewN | apply below_drew1 | refine below_set ?_ GE177.out | refine below_set ?_ GE178.out) | exact HB.out)) hb)
          have n3_ := Aside0.mk (hbox)
          have n4_ := Aside0.mk ((by rw [hg]; exact (below_size (by repeat (first | (with_reducible first | exact HB.out | apply below_alloc | apply pw_below_drewN | apply below_drew1 | refine below_set ?_ GE177.out | refine below_set ?_ GE178.out) | exact HB.out))) : w.heap.size ≤ gb182))
          have n5_ := Aside0.mk ((by rw [hg]; exact (below_size (by repeat (first | (with_reducible first | exact HB.out | apply below_alloc | apply pw_below_drewN | apply below_drew1 | refine below_set ?_ GE177.out | refine below_set ?_ GE178.out) | exact HB.out))) : w.heap.size ≤ gb182))
          have n6_ := Aside0.mk ((by rw [hg]; exact Nat.ne_of_lt (blk_lt (g := gb177) (o := .cells #[.int .i64 a0_0, .int .i64 a0_1, .int .i64 a0_2, .int .i64 a0_3, .int .i64 a0_4, .int .i64 a0_5] 108 (0, 0)) (by (with_reducible repeat (first | refine blk_drewN ?_ _ | refine blk_drew ?_ | refine blk_alloc ?_ _)); exact BK177.out)) : gb177 ≠ gb182))
          have n7_ := Aside0.mk ((by rw [hg]; exact Nat.ne_of_gt (blk_lt (g := gb177) (o := .cells #[.int .i64 a0_0, .int .i64 a0_1, .int .i64 a0_2, .int .i64 a0_3, .int .i64 a0_4, .int .i64 a0_5] 108 (0, 0)) (by (with_reducible repeat (first | refine blk_drewN ?_ _ | refine blk_drew ?_ | refine blk_alloc ?_ _)); exact BK177.out)) : gb182 ≠ gb177))
          have n8_ := Aside0.mk ((by rw [hg]; exact Nat.ne_of_lt (blk_lt (g := gb178) (o := .cells #[.int .u64 0, .int .i64 0, .int .i64 0, .int .u32 0, .int .u32 0, .int .u32 0] 35 (0, 0)) (by (with_reducible repeat (first | refine blk_drewN ?_ _ | refine blk_drew ?_ | refine blk_alloc ?_ _)); exact BK178.out)) : gb178 ≠ gb182))
          have n9_ := Aside0.mk ((by rw [hg]; exact Nat.ne_of_gt (blk_lt (g := gb178) (o := .cells #[.int .u64 0, .int .i64 0, .int .i64 0, .int .u32 0, .int .u32 0, .int .u32 0] 35 (0, 0)) (by (with_reducible repeat (first | refine blk_drewN ?_ _ | refine blk_drew ?_ | refine blk_alloc ?_ _)); exact BK178.out)) : gb182 ≠ gb178))
          clear BK177
          clear BK178
          clear HB
          have BK177 := n0_
          have BK178 := n1_
          have HB := n2_
          have BK182 := n3_
          have GW182 := n4_
          have GE182 := n5_
          have NB177_182 := n6_
          have NB182_177 := n7_
          have NB178_182 := n8_
          have NB182_178 := n9_
          clear n0_ n1_ n2_ n3_ n4_ n5_ n6_ n7_ n8_ n9_
          clear hb hbox hg
          refine hK.out _ _ ⟨(blk_cell BK177.out 0).trans rfl, (blk_cell BK177.out 1).trans rfl, (blk_cell BK177.out 2).trans rfl, (blk_cell BK177.out 3).trans rfl, (blk_cell BK177.out 4).trans rfl, (blk_cell BK177.out 5).trans rfl⟩ (fun hHeld => ?_)
          clear hK K
          refine norm_ (a' := ?_) ?_ ?_
          rotate_left
          · show Act.put _ (some 3) _ = _
            simp only [Act.put, List.setIfInBounds_toArray, List.set_cons_zero, List.set_cons_succ, i64_w, i32_w]
            rfl
          refine one_ (i := 10) (N := some 14) #[true, true, true, true, true, true, true, true, true, true, true, false, true, true, true, false, true, false] rfl rfl (one_of HT_.out (by kernel_rfl)) (by decide) (fun K hK => ?_)
          refine goes_ Tryz.func29 (by kernel_rfl) rfl #[.int .i64 a0_2, .int .i64 7] (by rfl) rfl rfl (by (try simp only [List.map_toArray, List.map_cons, List.map_nil]); first | done | rfl | (simp only [List.length_drop, List.length_take]; rfl)) ?_
          with_reducible refine (cloisterlaw22_pick.calls a0_2 7 t181 _ A4.out).mono ?_
          rintro e w' ⟨rfl, ⟨nd, rfl⟩⟩
          refine ⟨_, rfl, ?_⟩
          refine hK.out _ _ ⟨(blk_cell BK177.out 0).trans rfl, (blk_cell BK177.out 1).trans rfl, (blk_cell BK177.out 2).trans rfl, (blk_cell BK177.out 3).trans rfl, (blk_cell BK177.out 4).trans rfl, (blk_cell BK177.out 5).trans rfl⟩ (fun hHeld => ?_)
          clear hK K
          refine norm_ (a' := ?_) ?_ ?_
          rotate_left
          · show Act.put _ (some 14) _ = _
            simp only [Act.put, List.setIfInBounds_toArray, List.set_cons_zero, List.set_cons_succ, i64_w, i32_w]
            rfl
          refine pure_ (i := 11) (N := some 15) (v := ?_) (a' := ?_) #[true, true, true, true, true, true, true, true, true, true, true, true, true, true, true, false, true, false] rfl rfl (any_of HT_.out (by kernel_rfl)) (fun _ _ _ h => h) (Or.inl ⟨by rfl, ?_⟩) ?_ ?_
          rotate_left
          · intro w'
            go_simp
            with_reducible rfl
          rotate_left
          · simp only [Act.put, List.setIfInBounds_toArray, List.set_cons_zero, List.set_cons_succ, i64_w, i32_w]
            rfl
          refine pure_ (i := 15) (N := some 19) (v := ?_) (a' := ?_) #[true, true, true, true, true, true, true, true, true, true, true, true, true, true, true, true, true, false] rfl rfl (any_of HT_.out (by kernel_rfl)) (fun _ _ _ h => h) (Or.inl ⟨by rfl, ?_⟩) ?_ ?_
          rotate_left
          · intro w'
            go_simp
            with_reducible rfl
          rotate_left
          · simp only [Act.put, List.setIfInBounds_toArray, List.set_cons_zero, List.set_cons_succ, i64_w, i32_w]
            rfl
          exact norm_ (by first | (simp only [putAll, Act.put, List.setIfInBounds_toArray, List.set_cons_zero, List.set_cons_succ]; done) | (simp only [putAll, Act.put, List.setIfInBounds_toArray, List.set_cons_zero, List.set_cons_succ]; rfl)) (hCont (gb182) _ ⟨hHeld, (by (with_reducible repeat (first | refine blk_drewN ?_ _ | refine blk_drew ?_ | refine blk_alloc ?_ _)); exact BK177.out), (by (with_reducible repeat (first | refine blk_drewN ?_ _ | refine blk_drew ?_ | refine blk_alloc ?_ _)); exact BK178.out), (by (with_reducible repeat (first | refine blk_drewN ?_ _ | refine blk_drew ?_ | refine blk_alloc ?_ _)); exact BK182.out), GW182.out, GE182.out, NB177_182.out, NB182_177.out, NB178_182.out, NB182_178.out, (by repeat (first | (with_reducible first | exact HB.out | apply below_alloc | apply pw_below_drewN | apply below_drew1 | refine below_set ?_ GE177.out | refine below_set ?_ GE178.out | refine below_set ?_ GE182.out) | exact HB.out))⟩)
      · skip
        refine box_step ?hg (N := 3) ?hd (cs := #[.int .u64 0, .int .i64 0, .int .i64 0, .int .u32 0, .int .u32 0, .int .u32 0]) (t := 35) ?hr ?_; (case hd => rfl); (case hg => rfl); (case hr => first | (go_simp; done) | (go_simp; rfl))
        intro gb182 hg w9 hbox hb
        have n0_ := Aside0.mk (blk_below (g := gb177) (o := .cells #[.int .i64 a0_0, .int .i64 a0_1, .int .i64 a0_2, .int .i64 a0_3, .int .i64 a0_4, .int .i64 a0_5] 108 (0, 0)) (by (with_reducible repeat (first | refine blk_drewN ?_ _ | refine blk_drew ?_ | refine blk_alloc ?_ _)); exact BK177.out) hb)
        have n1_ := Aside0.mk (blk_below (g := gb178) (o := .cells #[.int .u64 0, .int .i64 0, .int .i64 0, .int .u32 0, .int .u32 0, .int .u32 0] 35 (0, 0)) (by (with_reducible repeat (first | refine blk_drewN ?_ _ | refine blk_drew ?_ | refine blk_alloc ?_ _)); exact BK178.out) hb)
        have n2_ := Aside0.mk (below_step (by repeat (first | (with_reducible first | exact HB.out | apply below_alloc | apply pw_below_drewN | apply below_drew1 | refine below_set ?_ GE177.out | refine below_set ?_ GE178.out) | exact HB.out)) hb)
        have n3_ := Aside0.mk (hbox)
        have n4_ := Aside0.mk ((by rw [hg]; exact (below_size (by repeat (first | (with_reducible first | exact HB.out | apply below_alloc | apply pw_below_drewN | apply below_drew1 | refine below_set ?_ GE177.out | refine below_set ?_ GE178.out) | exact HB.out))) : w.heap.size ≤ gb182))
        have n5_ := Aside0.mk ((by rw [hg]; exact (below_size (by repeat (first | (with_reducible first | exact HB.out | apply below_alloc | apply pw_below_drewN | apply below_drew1 | refine below_set ?_ GE177.out | refine below_set ?_ GE178.out) | exact HB.out))) : w.heap.size ≤ gb182))
        have n6_ := Aside0.mk ((by rw [hg]; exact Nat.ne_of_lt (blk_lt (g := gb177) (o := .cells #[.int .i64 a0_0, .int .i64 a0_1, .int .i64 a0_2, .int .i64 a0_3, .int .i64 a0_4, .int .i64 a0_5] 108 (0, 0)) (by (with_reducible repeat (first | refine blk_drewN ?_ _ | refine blk_drew ?_ | refine blk_alloc ?_ _)); exact BK177.out)) : gb177 ≠ gb182))
        have n7_ := Aside0.mk ((by rw [hg]; exact Nat.ne_of_gt (blk_lt (g := gb177) (o := .cells #[.int .i64 a0_0, .int .i64 a0_1, .int .i64 a0_2, .int .i64 a0_3, .int .i64 a0_4, .int .i64 a0_5] 108 (0, 0)) (by (with_reducible repeat (first | refine blk_drewN ?_ _ | refine blk_drew ?_ | refine blk_alloc ?_ _)); exact BK177.out)) : gb182 ≠ gb177))
        have n8_ := Aside0.mk ((by rw [hg]; exact Nat.ne_of_lt (blk_lt (g := gb178) (o := .cells #[.int .u64 0, .int .i64 0, .int .i64 0, .int .u32 0, .int .u32 0, .int .u32 0] 35 (0, 0)) (by (with_reducible repeat (first | refine blk_drewN ?_ _ | refine blk_drew ?_ | refine blk_alloc ?_ _)); exact BK178.out)) : gb178 ≠ gb182))
        have n9_ := Aside0.mk ((by rw [hg]; exact Nat.ne_of_gt (blk_lt (g := gb178) (o := .cells #[.int .u64 0, .int .i64 0, .int .i64 0, .int .u32 0, .int .u32 0, .int .u32 0] 35 (0, 0)) (by (with_reducible repeat (first | refine blk_drewN ?_ _ | refine blk_drew ?_ | refine blk_alloc ?_ _)); exact BK178.out)) : gb182 ≠ gb178))
        clear BK177
        clear BK178
        clear HB
        have BK177 := n0_
        have BK178 := n1_
        have HB := n2_
        have BK182 := n3_
        have GW182 := n4_
        have GE182 := n5_
        have NB177_182 := n6_
        have NB182_177 := n7_
        have NB178_182 := n8_
        have NB182_178 := n9_
        clear n0_ n1_ n2_ n3_ n4_ n5_ n6_ n7_ n8_ n9_
        clear hb hbox hg
        refine hK.out _ _ ⟨(blk_cell BK177.out 0).trans rfl, (blk_cell BK177.out 1).trans rfl, (blk_cell BK177.out 2).trans rfl, (blk_cell BK177.out 3).trans rfl, (blk_cell BK177.out 4).trans rfl, (blk_cell BK177.out 5).trans rfl⟩ (fun hHeld => ?_)
        clear hK K
        refine norm_ (a' := ?_) ?_ ?_
        rotate_left
        · show Act.put _ (some 3) _ = _
          simp only [Act.put, List.setIfInBounds_toArray, List.set_cons_zero, List.set_cons_succ, i64_w, i32_w]
          rfl
        refine one_ (i := 6) (N := some 10) #[true, true, true, true, true, true, true, false, true, true, false, false, true, true, true, false, true, false] rfl rfl (one_of HT_.out (by kernel_rfl)) (by decide) (fun K hK => ?_)
        refine goes_ Tryz.func29 (by kernel_rfl) rfl #[.int .i64 a0_1, .int .i64 8] (by rfl) rfl rfl (by (try simp only [List.map_toArray, List.map_cons, List.map_nil]); first | done | rfl | (simp only [List.length_drop, List.length_take]; rfl)) ?_
        with_reducible refine (cloisterlaw22_pick.calls a0_1 8 t180 _ A3.out).mono ?_
        rintro e w' ⟨rfl, ⟨nd, rfl⟩⟩
        refine ⟨_, rfl, ?_⟩
        refine hK.out _ _ ⟨(blk_cell BK177.out 0).trans rfl, (blk_cell BK177.out 1).trans rfl, (blk_cell BK177.out 2).trans rfl, (blk_cell BK177.out 3).trans rfl, (blk_cell BK177.out 4).trans rfl, (blk_cell BK177.out 5).trans rfl⟩ (fun hHeld => ?_)
        clear hK K
        refine norm_ (a' := ?_) ?_ ?_
        rotate_left
        · show Act.put _ (some 10) _ = _
          simp only [Act.put, List.setIfInBounds_toArray, List.set_cons_zero, List.set_cons_succ, i64_w, i32_w]
          rfl
        refine pure_ (i := 7) (N := some 11) (v := ?_) (a' := ?_) #[true, true, true, true, true, true, true, true, true, true, false, false, true, true, true, false, true, false] rfl rfl (any_of HT_.out (by kernel_rfl)) (fun _ _ _ h => h) (Or.inl ⟨by rfl, ?_⟩) ?_ ?_
        rotate_left
        · intro w'
          go_simp
          with_reducible rfl
        rotate_left
        · simp only [Act.put, List.setIfInBounds_toArray, List.set_cons_zero, List.set_cons_succ, i64_w, i32_w]
          rfl
        refine one_ (i := 10) (N := some 14) #[true, true, true, true, true, true, true, true, true, true, true, false, true, true, true, false, true, false] rfl rfl (one_of HT_.out (by kernel_rfl)) (by decide) (fun K hK => ?_)
        refine goes_ Tryz.func29 (by kernel_rfl) rfl #[.int .i64 a0_2, .int .i64 7] (by rfl) rfl rfl (by (try simp only [List.map_toArray, List.map_cons, List.map_nil]); first | done | rfl | (simp only [List.length_drop, List.length_take]; rfl)) ?_
        with_reducible refine (cloisterlaw22_pick.calls a0_2 7 t181 _ A4.out).mono ?_
        rintro e w' ⟨rfl, ⟨nd, rfl⟩⟩
        refine ⟨_, rfl, ?_⟩
        refine hK.out _ _ ⟨(blk_cell BK177.out 0).trans rfl, (blk_cell BK177.out 1).trans rfl, (blk_cell BK177.out 2).trans rfl, (blk_cell BK177.out 3).trans rfl, (blk_cell BK177.out 4).trans rfl, (blk_cell BK177.out 5).trans rfl⟩ (fun hHeld => ?_)
        clear hK K
        refine norm_ (a' := ?_) ?_ ?_
        rotate_left
        · show Act.put _ (some 14) _ = _
          simp only [Act.put, List.setIfInBounds_toArray, List.set_cons_zero, List.set_cons_succ, i64_w, i32_w]
          rfl
        refine pure_ (i := 11) (N := some 15) (v := ?_) (a' := ?_) #[true, true, true, true, true, true, true, true, true, true, true, true, true, true, true, false, true, false] rfl rfl (any_of HT_.out (by kernel_rfl)) (fun _ _ _ h => h) (Or.inl ⟨by rfl, ?_⟩) ?_ ?_
        rotate_left
        · intro w'
          go_simp
          with_reducible rfl
        rotate_left
        · simp only [Act.put, List.setIfInBounds_toArray, List.set_cons_zero, List.set_cons_succ, i64_w, i32_w]
          rfl
        refine pure_ (i := 15) (N := some 19) (v := ?_) (a' := ?_) #[true, true, true, true, true, true, true, true, true, true, true, true, true, true, true, true, true, false] rfl rfl (any_of HT_.out (by kernel_rfl)) (fun _ _ _ h => h) (Or.inl ⟨by rfl, ?_⟩) ?_ ?_
        rotate_left
        · intro w'
          go_simp
          with_reducible rfl
        rotate_left
        · simp only [Act.put, List.setIfInBounds_toArray, List.set_cons_zero, List.set_cons_succ, i64_w, i32_w]
          rfl
        exact norm_ (by first | (simp only [putAll, Act.put, List.setIfInBounds_toArray, List.set_cons_zero, List.set_cons_succ]; done) | (simp only [putAll, Act.put, List.setIfInBounds_toArray, List.set_cons_zero, List.set_cons_succ]; rfl)) (hCont (gb182) _ ⟨hHeld, (by (with_reducible repeat (first | refine blk_drewN ?_ _ | refine blk_drew ?_ | refine blk_alloc ?_ _)); exact BK177.out), (by (with_reducible repeat (first | refine blk_drewN ?_ _ | refine blk_drew ?_ | refine blk_alloc ?_ _)); exact BK178.out), (by (with_reducible repeat (first | refine blk_drewN ?_ _ | refine blk_drew ?_ | refine blk_alloc ?_ _)); exact BK182.out), GW182.out, GE182.out, NB177_182.out, NB182_177.out, NB178_182.out, NB182_178.out, (by repeat (first | (with_reducible first | exact HB.out | apply below_alloc | apply pw_below_drewN | apply below_drew1 | refine below_set ?_ GE177.out | refine below_set ?_ GE178.out | refine below_set ?_ GE182.out) | exact HB.out))⟩)
    · skip
      refine box_step ?hg (N := 3) ?hd (cs := #[.int .u64 0, .int .i64 0, .int .i64 0, .int .u32 0, .int .u32 0, .int .u32 0]) (t := 35) ?hr ?_; (case hd => rfl); (case hg => rfl); (case hr => first | (go_simp; done) | (go_simp; rfl))
      intro gb182 hg w9 hbox hb
      have n0_ := Aside0.mk (blk_below (g := gb177) (o := .cells #[.int .i64 a0_0, .int .i64 a0_1, .int .i64 a0_2, .int .i64 a0_3, .int .i64 a0_4, .int .i64 a0_5] 108 (0, 0)) (by (with_reducible repeat (first | refine blk_drewN ?_ _ | refine blk_drew ?_ | refine blk_alloc ?_ _)); exact BK177.out) hb)
      have n1_ := Aside0.mk (blk_below (g := gb178) (o := .cells #[.int .u64 0, .int .i64 0, .int .i64 0, .int .u32 0, .int .u32 0, .int .u32 0] 35 (0, 0)) (by (with_reducible repeat (first | refine blk_drewN ?_ _ | refine blk_drew ?_ | refine blk_alloc ?_ _)); exact BK178.out) hb)
      have n2_ := Aside0.mk (below_step (by repeat (first | (with_reducible first | exact HB.out | apply below_alloc | apply pw_below_drewN | apply below_drew1 | refine below_set ?_ GE177.out | refine below_set ?_ GE178.out) | exact HB.out)) hb)
      have n3_ := Aside0.mk (hbox)
      have n4_ := Aside0.mk ((by rw [hg]; exact (below_size (by repeat (first | (with_reducible first | exact HB.out | apply below_alloc | apply pw_below_drewN | apply below_drew1 | refine below_set ?_ GE177.out | refine below_set ?_ GE178.out) | exact HB.out))) : w.heap.size ≤ gb182))
      have n5_ := Aside0.mk ((by rw [hg]; exact (below_size (by repeat (first | (with_reducible first | exact HB.out | apply below_alloc | apply pw_below_drewN | apply below_drew1 | refine below_set ?_ GE177.out | refine below_set ?_ GE178.out) | exact HB.out))) : w.heap.size ≤ gb182))
      have n6_ := Aside0.mk ((by rw [hg]; exact Nat.ne_of_lt (blk_lt (g := gb177) (o := .cells #[.int .i64 a0_0, .int .i64 a0_1, .int .i64 a0_2, .int .i64 a0_3, .int .i64 a0_4, .int .i64 a0_5] 108 (0, 0)) (by (with_reducible repeat (first | refine blk_drewN ?_ _ | refine blk_drew ?_ | refine blk_alloc ?_ _)); exact BK177.out)) : gb177 ≠ gb182))
      have n7_ := Aside0.mk ((by rw [hg]; exact Nat.ne_of_gt (blk_lt (g := gb177) (o := .cells #[.int .i64 a0_0, .int .i64 a0_1, .int .i64 a0_2, .int .i64 a0_3, .int .i64 a0_4, .int .i64 a0_5] 108 (0, 0)) (by (with_reducible repeat (first | refine blk_drewN ?_ _ | refine blk_drew ?_ | refine blk_alloc ?_ _)); exact BK177.out)) : gb182 ≠ gb177))
      have n8_ := Aside0.mk ((by rw [hg]; exact Nat.ne_of_lt (blk_lt (g := gb178) (o := .cells #[.int .u64 0, .int .i64 0, .int .i64 0, .int .u32 0, .int .u32 0, .int .u32 0] 35 (0, 0)) (by (with_reducible repeat (first | refine blk_drewN ?_ _ | refine blk_drew ?_ | refine blk_alloc ?_ _)); exact BK178.out)) : gb178 ≠ gb182))
      have n9_ := Aside0.mk ((by rw [hg]; exact Nat.ne_of_gt (blk_lt (g := gb178) (o := .cells #[.int .u64 0, .int .i64 0, .int .i64 0, .int .u32 0, .int .u32 0, .int .u32 0] 35 (0, 0)) (by (with_reducible repeat (first | refine blk_drewN ?_ _ | refine blk_drew ?_ | refine blk_alloc ?_ _)); exact BK178.out)) : gb182 ≠ gb178))
      clear BK177
      clear BK178
      clear HB
      have BK177 := n0_
      have BK178 := n1_
      have HB := n2_
      have BK182 := n3_
      have GW182 := n4_
      have GE182 := n5_
      have NB177_182 := n6_
      have NB182_177 := n7_
      have NB178_182 := n8_
      have NB182_178 := n9_
      clear n0_ n1_ n2_ n3_ n4_ n5_ n6_ n7_ n8_ n9_
      clear hb hbox hg
      refine hK.out _ _ ⟨(blk_cell BK177.out 0).trans rfl, (blk_cell BK177.out 1).trans rfl, (blk_cell BK177.out 2).trans rfl, (blk_cell BK177.out 3).trans rfl, (blk_cell BK177.out 4).trans rfl, (blk_cell BK177.out 5).trans rfl⟩ (fun hHeld => ?_)
      clear hK K
      refine norm_ (a' := ?_) ?_ ?_
      rotate_left
      · show Act.put _ (some 3) _ = _
        simp only [Act.put, List.setIfInBounds_toArray, List.set_cons_zero, List.set_cons_succ, i64_w, i32_w]
        rfl
      refine one_ (i := 2) (N := some 6) #[true, true, true, false, true, true, false, false, true, true, false, false, true, true, true, false, true, false] rfl rfl (one_of HT_.out (by kernel_rfl)) (by decide) (fun K hK => ?_)
      refine goes_ Tryz.func29 (by kernel_rfl) rfl #[.int .i64 a0_0, .int .i64 9223372036854775807] (by rfl) rfl rfl (by (try simp only [List.map_toArray, List.map_cons, List.map_nil]); first | done | rfl | (simp only [List.length_drop, List.length_take]; rfl)) ?_
      with_reducible refine (cloisterlaw22_pick.calls a0_0 9223372036854775807 t179 _ A2.out).mono ?_
      rintro e w' ⟨rfl, ⟨nd, rfl⟩⟩
      refine ⟨_, rfl, ?_⟩
      refine hK.out _ _ ⟨(blk_cell BK177.out 0).trans rfl, (blk_cell BK177.out 1).trans rfl, (blk_cell BK177.out 2).trans rfl, (blk_cell BK177.out 3).trans rfl, (blk_cell BK177.out 4).trans rfl, (blk_cell BK177.out 5).trans rfl⟩ (fun hHeld => ?_)
      clear hK K
      refine norm_ (a' := ?_) ?_ ?_
      rotate_left
      · show Act.put _ (some 6) _ = _
        simp only [Act.put, List.setIfInBounds_toArray, List.set_cons_zero, List.set_cons_succ, i64_w, i32_w]
        rfl
      refine pure_ (i := 3) (N := some 7) (v := ?_) (a' := ?_) #[true, true, true, true, true, true, false, false, true, true, false, false, true, true, true, false, true, false] rfl rfl (any_of HT_.out (by kernel_rfl)) (fun _ _ _ h => h) (Or.inl ⟨by rfl, ?_⟩) ?_ ?_
      rotate_left
      · intro w'
        go_simp
        with_reducible rfl
      rotate_left
      · simp only [Act.put, List.setIfInBounds_toArray, List.set_cons_zero, List.set_cons_succ, i64_w, i32_w]
        rfl
      refine one_ (i := 6) (N := some 10) #[true, true, true, true, true, true, true, false, true, true, false, false, true, true, true, false, true, false] rfl rfl (one_of HT_.out (by kernel_rfl)) (by decide) (fun K hK => ?_)
      refine goes_ Tryz.func29 (by kernel_rfl) rfl #[.int .i64 a0_1, .int .i64 8] (by rfl) rfl rfl (by (try simp only [List.map_toArray, List.map_cons, List.map_nil]); first | done | rfl | (simp only [List.length_drop, List.length_take]; rfl)) ?_
      with_reducible refine (cloisterlaw22_pick.calls a0_1 8 t180 _ A3.out).mono ?_
      rintro e w' ⟨rfl, ⟨nd, rfl⟩⟩
      refine ⟨_, rfl, ?_⟩
      refine hK.out _ _ ⟨(blk_cell BK177.out 0).trans rfl, (blk_cell BK177.out 1).trans rfl, (blk_cell BK177.out 2).trans rfl, (blk_cell BK177.out 3).trans rfl, (blk_cell BK177.out 4).trans rfl, (blk_cell BK177.out 5).trans rfl⟩ (fun hHeld => ?_)
      clear hK K
      refine norm_ (a' := ?_) ?_ ?_
      rotate_left
      · show Act.put _ (some 10) _ = _
        simp only [Act.put, List.setIfInBounds_toArray, List.set_cons_zero, List.set_cons_succ, i64_w, i32_w]
        rfl
      refine pure_ (i := 7) (N := some 11) (v := ?_) (a' := ?_) #[true, true, true, true, true, true, true, true, true, true, false, false, true, true, true, false, true, false] rfl rfl (any_of HT_.out (by kernel_rfl)) (fun _ _ _ h => h) (Or.inl ⟨by rfl, ?_⟩) ?_ ?_
      rotate_left
      · intro w'
        go_simp
        with_reducible rfl
      rotate_left
      · simp only [Act.put, List.setIfInBounds_toArray, List.set_cons_zero, List.set_cons_succ, i64_w, i32_w]
        rfl
      refine one_ (i := 10) (N := some 14) #[true, true, true, true, true, true, true, true, true, true, true, false, true, true, true, false, true, false] rfl rfl (one_of HT_.out (by kernel_rfl)) (by decide) (fun K hK => ?_)
      refine goes_ Tryz.func29 (by kernel_rfl) rfl #[.int .i64 a0_2, .int .i64 7] (by rfl) rfl rfl (by (try simp only [List.map_toArray, List.map_cons, List.map_nil]); first | done | rfl | (simp only [List.length_drop, List.length_take]; rfl)) ?_
      with_reducible refine (cloisterlaw22_pick.calls a0_2 7 t181 _ A4.out).mono ?_
      rintro e w' ⟨rfl, ⟨nd, rfl⟩⟩
      refine ⟨_, rfl, ?_⟩
      refine hK.out _ _ ⟨(blk_cell BK177.out 0).trans rfl, (blk_cell BK177.out 1).trans rfl, (blk_cell BK177.out 2).trans rfl, (blk_cell BK177.out 3).trans rfl, (blk_cell BK177.out 4).trans rfl, (blk_cell BK177.out 5).trans rfl⟩ (fun hHeld => ?_)
      clear hK K
      refine norm_ (a' := ?_) ?_ ?_
      rotate_left
      · show Act.put _ (some 14) _ = _
        simp only [Act.put, List.setIfInBounds_toArray, List.set_cons_zero, List.set_cons_succ, i64_w, i32_w]
        rfl
      refine pure_ (i := 11) (N := some 15) (v := ?_) (a' := ?_) #[true, true, true, true, true, true, true, true, true, true, true, true, true, true, true, false, true, false] rfl rfl (any_of HT_.out (by kernel_rfl)) (fun _ _ _ h => h) (Or.inl ⟨by rfl, ?_⟩) ?_ ?_
      rotate_left
      · intro w'
        go_simp
        with_reducible rfl
      rotate_left
      · simp only [Act.put, List.setIfInBounds_toArray, List.set_cons_zero, List.set_cons_succ, i64_w, i32_w]
        rfl
      refine pure_ (i := 15) (N := some 19) (v := ?_) (a' := ?_) #[true, true, true, true, true, true, true, true, true, true, true, true, true, true, true, true, true, false] rfl rfl (any_of HT_.out (by kernel_rfl)) (fun _ _ _ h => h) (Or.inl ⟨by rfl, ?_⟩) ?_ ?_
      rotate_left
      · intro w'
        go_simp
        with_reducible rfl
      rotate_left
      · simp only [Act.put, List.setIfInBounds_toArray, List.set_cons_zero, List.set_cons_succ, i64_w, i32_w]
        rfl
      exact norm_ (by first | (simp only [putAll, Act.put, List.setIfInBounds_toArray, List.set_cons_zero, List.set_cons_succ]; done) | (simp only [putAll, Act.put, List.setIfInBounds_toArray, List.set_cons_zero, List.set_cons_succ]; rfl)) (hCont (gb182) _ ⟨hHeld, (by (with_reducible repeat (first | refine blk_drewN ?_ _ | refine blk_drew ?_ | refine blk_alloc ?_ _)); exact BK177.out), (by (with_reducible repeat (first | refine blk_drewN ?_ _ | refine blk_drew ?_ | refine blk_alloc ?_ _)); exact BK178.out), (by (with_reducible repeat (first | refine blk_drewN ?_ _ | refine blk_drew ?_ | refine blk_alloc ?_ _)); exact BK182.out), GW182.out, GE182.out, NB177_182.out, NB182_177.out, NB178_182.out, NB182_178.out, (by repeat (first | (with_reducible first | exact HB.out | apply below_alloc | apply pw_below_drewN | apply below_drew1 | refine below_set ?_ GE177.out | refine below_set ?_ GE178.out | refine below_set ?_ GE182.out) | exact HB.out))⟩)
  rintro gb182 w10 ⟨hS_, h0_, h1_, h2_, h3_, h4_, h5_, h6_, h7_, h8_, h9_⟩
  have n0_ : Aside0 (w10.heap[gb177]? = some (.cells #[.int .i64 a0_0, .int .i64 a0_1, .int .i64 a0_2, .int .i64 a0_3, .int .i64 a0_4, .int .i64 a0_5] 108 (0, 0))) := ⟨h0_⟩
  have n1_ : Aside0 (w10.heap[gb178]? = some (.cells #[.int .u64 0, .int .i64 0, .int .i64 0, .int .u32 0, .int .u32 0, .int .u32 0] 35 (0, 0))) := ⟨h1_⟩
  have n2_ : Aside0 (w10.heap[gb182]? = some (.cells #[.int .u64 0, .int .i64 0, .int .i64 0, .int .u32 0, .int .u32 0, .int .u32 0] 35 (0, 0))) := ⟨h2_⟩
  have n3_ : Aside0 (w.heap.size ≤ gb182) := ⟨h3_⟩
  have n4_ : Aside0 (w.heap.size ≤ gb182) := ⟨h4_⟩
  have n5_ : Aside0 (gb177 ≠ gb182) := ⟨h5_⟩
  have n6_ : Aside0 (gb182 ≠ gb177) := ⟨h6_⟩
  have n7_ : Aside0 (gb178 ≠ gb182) := ⟨h7_⟩
  have n8_ : Aside0 (gb182 ≠ gb178) := ⟨h8_⟩
  have n9_ : Aside0 (Below w.heap.size w w10) := ⟨h9_⟩
  clear BK177
  clear BK178
  clear HB
  clear h0_ h1_ h2_ h3_ h4_ h5_ h6_ h7_ h8_ h9_
  have BK177 := n0_
  have BK178 := n1_
  have BK182 := n2_
  have GW182 := n3_
  have GE182 := n4_
  have NB177_182 := n5_
  have NB182_177 := n6_
  have NB178_182 := n7_
  have NB182_178 := n8_
  have HB := n9_
  clear n0_ n1_ n2_ n3_ n4_ n5_ n6_ n7_ n8_ n9_
  have hHeld : w10.cell? ⟨gb177, 0, none⟩ = some (.int .i64 a0_0) ∧ w10.cell? ⟨gb177, 1, none⟩ = some (.int .i64 a0_1) ∧ w10.cell? ⟨gb177, 2, none⟩ = some (.int .i64 a0_2) ∧ w10.cell? ⟨gb177, 3, none⟩ = some (.int .i64 a0_3) ∧ w10.cell? ⟨gb177, 4, none⟩ = some (.int .i64 a0_4) ∧ w10.cell? ⟨gb177, 5, none⟩ = some (.int .i64 a0_5) := hS_
  refine norm_ (a' := ?_) ?_ ?_
  rotate_left
  · simp only [putAll, Act.put, List.setIfInBounds_toArray, List.set_cons_zero, List.set_cons_succ]
    rfl
  refine one_ (i := 17) (N := none) #[true, true, true, true, true, true, true, true, true, true, true, true, true, true, true, true, true, true] rfl rfl (one_of HT_.out (by kernel_rfl)) (by decide) (fun K hK => ?_)
  have hs11 : w10.cell? ⟨gb182, 0, none⟩ = some (.int .u64 0) := (blk_cell BK182.out 0).trans rfl
  have hfs11 := blk_frozen BK182.out 0
  have hns11_0 := NB177_182.out
  have hns11_1 := NB178_182.out
  have hms11_0 := NB182_177.out
  have hms11_1 := NB182_178.out
  have hs12 : w10.cell? ⟨gb182, 1, none⟩ = some (.int .i64 0) := (blk_cell BK182.out 1).trans rfl
  have hfs12 := blk_frozen BK182.out 1
  have hns12_0 := NB177_182.out
  have hns12_1 := NB178_182.out
  have hms12_0 := NB182_177.out
  have hms12_1 := NB182_178.out
  have hs13 : w10.cell? ⟨gb182, 2, none⟩ = some (.int .i64 0) := (blk_cell BK182.out 2).trans rfl
  have hfs13 := blk_frozen BK182.out 2
  have hns13_0 := NB177_182.out
  have hns13_1 := NB178_182.out
  have hms13_0 := NB182_177.out
  have hms13_1 := NB182_178.out
  have hs14 : w10.cell? ⟨gb182, 3, none⟩ = some (.int .u32 0) := (blk_cell BK182.out 3).trans rfl
  have hfs14 := blk_frozen BK182.out 3
  have hns14_0 := NB177_182.out
  have hns14_1 := NB178_182.out
  have hms14_0 := NB182_177.out
  have hms14_1 := NB182_178.out
  have hs15 : w10.cell? ⟨gb182, 4, none⟩ = some (.int .u32 0) := (blk_cell BK182.out 4).trans rfl
  have hfs15 := blk_frozen BK182.out 4
  have hns15_0 := NB177_182.out
  have hns15_1 := NB178_182.out
  have hms15_0 := NB182_177.out
  have hms15_1 := NB182_178.out
  have hs16 : w10.cell? ⟨gb182, 5, none⟩ = some (.int .u32 0) := (blk_cell BK182.out 5).trans rfl
  have hfs16 := blk_frozen BK182.out 5
  have hns16_0 := NB177_182.out
  have hns16_1 := NB178_182.out
  have hms16_0 := NB182_177.out
  have hms16_1 := NB182_178.out
  refine skip_ (w1 := ?_) (by rfl) rfl ?_ ?_
  rotate_left
  · go_simp
    rfl
  refine hK.out _ _ ⟨((cell_far (p := ⟨gb182, _, none⟩) NB177_182.out _).trans (((cell_far (p := ⟨gb182, _, none⟩) NB177_182.out _).trans (((cell_far (p := ⟨gb182, _, none⟩) NB177_182.out _).trans (((cell_far (p := ⟨gb182, _, none⟩) NB177_182.out _).trans (((cell_far (p := ⟨gb182, _, none⟩) NB177_182.out _).trans (((cell_far (p := ⟨gb182, _, none⟩) NB177_182.out _).trans (hHeld.1)))))))))))), ((cell_far (p := ⟨gb182, _, none⟩) NB177_182.out _).trans (((cell_far (p := ⟨gb182, _, none⟩) NB177_182.out _).trans (((cell_far (p := ⟨gb182, _, none⟩) NB177_182.out _).trans (((cell_far (p := ⟨gb182, _, none⟩) NB177_182.out _).trans (((cell_far (p := ⟨gb182, _, none⟩) NB177_182.out _).trans (((cell_far (p := ⟨gb182, _, none⟩) NB177_182.out _).trans (hHeld.2.1)))))))))))), ((cell_far (p := ⟨gb182, _, none⟩) NB177_182.out _).trans (((cell_far (p := ⟨gb182, _, none⟩) NB177_182.out _).trans (((cell_far (p := ⟨gb182, _, none⟩) NB177_182.out _).trans (((cell_far (p := ⟨gb182, _, none⟩) NB177_182.out _).trans (((cell_far (p := ⟨gb182, _, none⟩) NB177_182.out _).trans (((cell_far (p := ⟨gb182, _, none⟩) NB177_182.out _).trans (hHeld.2.2.1)))))))))))), ((cell_far (p := ⟨gb182, _, none⟩) NB177_182.out _).trans (((cell_far (p := ⟨gb182, _, none⟩) NB177_182.out _).trans (((cell_far (p := ⟨gb182, _, none⟩) NB177_182.out _).trans (((cell_far (p := ⟨gb182, _, none⟩) NB177_182.out _).trans (((cell_far (p := ⟨gb182, _, none⟩) NB177_182.out _).trans (((cell_far (p := ⟨gb182, _, none⟩) NB177_182.out _).trans (hHeld.2.2.2.1)))))))))))), ((cell_far (p := ⟨gb182, _, none⟩) NB177_182.out _).trans (((cell_far (p := ⟨gb182, _, none⟩) NB177_182.out _).trans (((cell_far (p := ⟨gb182, _, none⟩) NB177_182.out _).trans (((cell_far (p := ⟨gb182, _, none⟩) NB177_182.out _).trans (((cell_far (p := ⟨gb182, _, none⟩) NB177_182.out _).trans (((cell_far (p := ⟨gb182, _, none⟩) NB177_182.out _).trans (hHeld.2.2.2.2.1)))))))))))), ((cell_far (p := ⟨gb182, _, none⟩) NB177_182.out _).trans (((cell_far (p := ⟨gb182, _, none⟩) NB177_182.out _).trans (((cell_far (p := ⟨gb182, _, none⟩) NB177_182.out _).trans (((cell_far (p := ⟨gb182, _, none⟩) NB177_182.out _).trans (((cell_far (p := ⟨gb182, _, none⟩) NB177_182.out _).trans (((cell_far (p := ⟨gb182, _, none⟩) NB177_182.out _).trans (hHeld.2.2.2.2.2))))))))))))⟩ (fun hHeld => ?_)
  clear hK K
  refine done_ (done_of HT_.out (by kernel_rfl)) ?_
  have hnb17 := NB182_177.out
  have hnc17 := NB177_182.out
  have hnb18 := NB182_178.out
  have hnc18 := NB178_182.out
  have hcz19_0 : w10.cell? ⟨gb182, 0, none⟩ = some (.int .u64 0) := (blk_cell BK182.out 0).trans rfl
  have hcz19_1 : w10.cell? ⟨gb182, 1, none⟩ = some (.int .i64 0) := (blk_cell BK182.out 1).trans rfl
  have hcz19_2 : w10.cell? ⟨gb182, 2, none⟩ = some (.int .i64 0) := (blk_cell BK182.out 2).trans rfl
  have hcz19_3 : w10.cell? ⟨gb182, 3, none⟩ = some (.int .u32 0) := (blk_cell BK182.out 3).trans rfl
  have hcz19_4 : w10.cell? ⟨gb182, 4, none⟩ = some (.int .u32 0) := (blk_cell BK182.out 4).trans rfl
  have hcz19_5 : w10.cell? ⟨gb182, 5, none⟩ = some (.int .u32 0) := (blk_cell BK182.out 5).trans rfl
  have hfz19_0 := blk_frozen BK182.out 0
  have hfz19_1 := blk_frozen BK182.out 1
  have hfz19_2 := blk_frozen BK182.out 2
  have hfz19_3 := blk_frozen BK182.out 3
  have hfz19_4 := blk_frozen BK182.out 4
  have hfz19_5 := blk_frozen BK182.out 5
  go_upto_if 22 with (fail)
  go_cut [22] (fun v22 wc => ∃ (kq : Nat) (x22_4 : Bool), v22 = .bool x22_4 ∧ Aside0 (cloisterlaw22_Raw_made.j0 kq (wrap64 (1 + t181)) x22_4 a0_0 a0_1 a0_2 a0_3 a0_4 a0_5 (IntKind.u64.wrap (t179)) (wrap64 (1 + t180)) (wrap64 (1 + t181)) ((a0_3) % 4294967296) 0 0 = some (r1, r2, r3, r4, r5, r6)) ∧ Aside0 (kq ≤ k) ∧ Aside0 (wc.heap[gb177]? = some (.cells #[.int .i64 a0_0, .int .i64 a0_1, .int .i64 a0_2, .int .i64 a0_3, .int .i64 a0_4, .int .i64 a0_5] 108 (0, 0))) ∧ Aside0 (wc.heap[gb178]? = some (.cells #[.int .u64 0, .int .i64 0, .int .i64 0, .int .u32 0, .int .u32 0, .int .u32 0] 35 (0, 0))) ∧ Aside0 (wc.heap[gb182]? = some (.cells #[.int .u64 (IntKind.u64.wrap (t179)), .int .i64 (wrap64 (1 + t180)), .int .i64 (wrap64 (1 + t181)), .int .u32 ((a0_3) % 4294967296), .int .u32 0, .int .u32 0] 35 (0, 0))) ∧ Aside0 (Below w.heap.size w wc))
  case first =>
    have H := HC5.out
    clear HC5
    by_cases c20 : (wrap64 (1 + t181)) = 1
    · rw [if_pos c20] at H
      have c20b0 : ((wrap64 (1 + t181)) == 1) = true := beq_iff_eq.mpr c20
      have c20b1 : ((wrap64 (1 + t181)) != 1) = false := bne_eq_false_iff_eq.mpr c20
      clear c20
      (first | rw [c20b0] | (simp only [i64_w, i32_w]; rw [c20b0]) | skip)
      have H' := Aside0.mk H
      clear H
      go_wp2
      go_meet
      case rel => exact ⟨_, (((wrap64 (1 + t181)) == 1)), (by first | rfl | (simp; done) | (simp [*]; done)), H', ⟨by first | omega | exact Nat.le_refl _⟩, ⟨by (with_reducible repeat (first | refine blk_drewN ?_ _ | refine blk_drew ?_ | refine blk_alloc ?_ _)); refine blk_far ?_ NB177_182.out _; (with_reducible repeat (first | refine blk_drewN ?_ _ | refine blk_drew ?_ | refine blk_alloc ?_ _)); refine blk_far ?_ NB177_182.out _; (with_reducible repeat (first | refine blk_drewN ?_ _ | refine blk_drew ?_ | refine blk_alloc ?_ _)); refine blk_far ?_ NB177_182.out _; (with_reducible repeat (first | refine blk_drewN ?_ _ | refine blk_drew ?_ | refine blk_alloc ?_ _)); refine blk_far ?_ NB177_182.out _; (with_reducible repeat (first | refine blk_drewN ?_ _ | refine blk_drew ?_ | refine blk_alloc ?_ _)); refine blk_far ?_ NB177_182.out _; (with_reducible repeat (first | refine blk_drewN ?_ _ | refine blk_drew ?_ | refine blk_alloc ?_ _)); refine blk_far ?_ NB177_182.out _; (with_reducible repeat (first | refine blk_drewN ?_ _ | refine blk_drew ?_ | refine blk_alloc ?_ _)); exact BK177.out⟩, ⟨by (with_reducible repeat (first | refine blk_drewN ?_ _ | refine blk_drew ?_ | refine blk_alloc ?_ _)); refine blk_far ?_ NB178_182.out _; (with_reducible repeat (first | refine blk_drewN ?_ _ | refine blk_drew ?_ | refine blk_alloc ?_ _)); refine blk_far ?_ NB178_182.out _; (with_reducible repeat (first | refine blk_drewN ?_ _ | refine blk_drew ?_ | refine blk_alloc ?_ _)); refine blk_far ?_ NB178_182.out _; (with_reducible repeat (first | refine blk_drewN ?_ _ | refine blk_drew ?_ | refine blk_alloc ?_ _)); refine blk_far ?_ NB178_182.out _; (with_reducible repeat (first | refine blk_drewN ?_ _ | refine blk_drew ?_ | refine blk_alloc ?_ _)); refine blk_far ?_ NB178_182.out _; (with_reducible repeat (first | refine blk_drewN ?_ _ | refine blk_drew ?_ | refine blk_alloc ?_ _)); refine blk_far ?_ NB178_182.out _; (with_reducible repeat (first | refine blk_drewN ?_ _ | refine blk_drew ?_ | refine blk_alloc ?_ _)); exact BK178.out⟩, ⟨by (with_reducible repeat (first | refine blk_drewN ?_ _ | refine blk_drew ?_ | refine blk_alloc ?_ _)); refine blk_put (cs := #[.int .u64 (IntKind.u64.wrap (t179)), .int .i64 (wrap64 (1 + t180)), .int .i64 (wrap64 (1 + t181)), .int .u32 ((a0_3) % 4294967296), .int .u32 0, .int .u32 0]) ?_ 5 _ rfl; (with_reducible repeat (first | refine blk_drewN ?_ _ | refine blk_drew ?_ | refine blk_alloc ?_ _)); refine blk_put (cs := #[.int .u64 (IntKind.u64.wrap (t179)), .int .i64 (wrap64 (1 + t180)), .int .i64 (wrap64 (1 + t181)), .int .u32 ((a0_3) % 4294967296), .int .u32 0, .int .u32 0]) ?_ 4 _ rfl; (with_reducible repeat (first | refine blk_drewN ?_ _ | refine blk_drew ?_ | refine blk_alloc ?_ _)); refine blk_put (cs := #[.int .u64 (IntKind.u64.wrap (t179)), .int .i64 (wrap64 (1 + t180)), .int .i64 (wrap64 (1 + t181)), .int .u32 0, .int .u32 0, .int .u32 0]) ?_ 3 _ rfl; (with_reducible repeat (first | refine blk_drewN ?_ _ | refine blk_drew ?_ | refine blk_alloc ?_ _)); refine blk_put (cs := #[.int .u64 (IntKind.u64.wrap (t179)), .int .i64 (wrap64 (1 + t180)), .int .i64 0, .int .u32 0, .int .u32 0, .int .u32 0]) ?_ 2 _ rfl; (with_reducible repeat (first | refine blk_drewN ?_ _ | refine blk_drew ?_ | refine blk_alloc ?_ _)); refine blk_put (cs := #[.int .u64 (IntKind.u64.wrap (t179)), .int .i64 0, .int .i64 0, .int .u32 0, .int .u32 0, .int .u32 0]) ?_ 1 _ rfl; (with_reducible repeat (first | refine blk_drewN ?_ _ | refine blk_drew ?_ | refine blk_alloc ?_ _)); refine blk_put (cs := #[.int .u64 0, .int .i64 0, .int .i64 0, .int .u32 0, .int .u32 0, .int .u32 0]) ?_ 0 _ rfl; (with_reducible repeat (first | refine blk_drewN ?_ _ | refine blk_drew ?_ | refine blk_alloc ?_ _)); exact BK182.out⟩, ⟨by repeat (first | (with_reducible first | exact HB.out | apply below_alloc | apply pw_below_drewN | apply below_drew1 | refine below_set ?_ GE177.out | refine below_set ?_ GE178.out | refine below_set ?_ GE182.out) | exact HB.out)⟩⟩
    · rw [if_neg c20] at H
      have c20b0 : ((wrap64 (1 + t181)) == 1) = false := beq_eq_false_iff_ne.mpr c20
      have c20b1 : ((wrap64 (1 + t181)) != 1) = true := bne_iff_ne.mpr c20
      (first | rw [c20b0] | (simp only [i64_w, i32_w]; rw [c20b0]) | skip)
      have H' := Aside0.mk H
      clear H
      go_wp2
      go_meet
      case rel => exact ⟨_, (((wrap64 (1 + t181)) == 2)), (by first | rfl | (simp; done) | (simp [*]; done)), H', ⟨by first | omega | exact Nat.le_refl _⟩, ⟨by (with_reducible repeat (first | refine blk_drewN ?_ _ | refine blk_drew ?_ | refine blk_alloc ?_ _)); refine blk_far ?_ NB177_182.out _; (with_reducible repeat (first | refine blk_drewN ?_ _ | refine blk_drew ?_ | refine blk_alloc ?_ _)); refine blk_far ?_ NB177_182.out _; (with_reducible repeat (first | refine blk_drewN ?_ _ | refine blk_drew ?_ | refine blk_alloc ?_ _)); refine blk_far ?_ NB177_182.out _; (with_reducible repeat (first | refine blk_drewN ?_ _ | refine blk_drew ?_ | refine blk_alloc ?_ _)); refine blk_far ?_ NB177_182.out _; (with_reducible repeat (first | refine blk_drewN ?_ _ | refine blk_drew ?_ | refine blk_alloc ?_ _)); refine blk_far ?_ NB177_182.out _; (with_reducible repeat (first | refine blk_drewN ?_ _ | refine blk_drew ?_ | refine blk_alloc ?_ _)); refine blk_far ?_ NB177_182.out _; (with_reducible repeat (first | refine blk_drewN ?_ _ | refine blk_drew ?_ | refine blk_alloc ?_ _)); exact BK177.out⟩, ⟨by (with_reducible repeat (first | refine blk_drewN ?_ _ | refine blk_drew ?_ | refine blk_alloc ?_ _)); refine blk_far ?_ NB178_182.out _; (with_reducible repeat (first | refine blk_drewN ?_ _ | refine blk_drew ?_ | refine blk_alloc ?_ _)); refine blk_far ?_ NB178_182.out _; (with_reducible repeat (first | refine blk_drewN ?_ _ | refine blk_drew ?_ | refine blk_alloc ?_ _)); refine blk_far ?_ NB178_182.out _; (with_reducible repeat (first | refine blk_drewN ?_ _ | refine blk_drew ?_ | refine blk_alloc ?_ _)); refine blk_far ?_ NB178_182.out _; (with_reducible repeat (first | refine blk_drewN ?_ _ | refine blk_drew ?_ | refine blk_alloc ?_ _)); refine blk_far ?_ NB178_182.out _; (with_reducible repeat (first | refine blk_drewN ?_ _ | refine blk_drew ?_ | refine blk_alloc ?_ _)); refine blk_far ?_ NB178_182.out _; (with_reducible repeat (first | refine blk_drewN ?_ _ | refine blk_drew ?_ | refine blk_alloc ?_ _)); exact BK178.out⟩, ⟨by (with_reducible repeat (first | refine blk_drewN ?_ _ | refine blk_drew ?_ | refine blk_alloc ?_ _)); refine blk_put (cs := #[.int .u64 (IntKind.u64.wrap (t179)), .int .i64 (wrap64 (1 + t180)), .int .i64 (wrap64 (1 + t181)), .int .u32 ((a0_3) % 4294967296), .int .u32 0, .int .u32 0]) ?_ 5 _ rfl; (with_reducible repeat (first | refine blk_drewN ?_ _ | refine blk_drew ?_ | refine blk_alloc ?_ _)); refine blk_put (cs := #[.int .u64 (IntKind.u64.wrap (t179)), .int .i64 (wrap64 (1 + t180)), .int .i64 (wrap64 (1 + t181)), .int .u32 ((a0_3) % 4294967296), .int .u32 0, .int .u32 0]) ?_ 4 _ rfl; (with_reducible repeat (first | refine blk_drewN ?_ _ | refine blk_drew ?_ | refine blk_alloc ?_ _)); refine blk_put (cs := #[.int .u64 (IntKind.u64.wrap (t179)), .int .i64 (wrap64 (1 + t180)), .int .i64 (wrap64 (1 + t181)), .int .u32 0, .int .u32 0, .int .u32 0]) ?_ 3 _ rfl; (with_reducible repeat (first | refine blk_drewN ?_ _ | refine blk_drew ?_ | refine blk_alloc ?_ _)); refine blk_put (cs := #[.int .u64 (IntKind.u64.wrap (t179)), .int .i64 (wrap64 (1 + t180)), .int .i64 0, .int .u32 0, .int .u32 0, .int .u32 0]) ?_ 2 _ rfl; (with_reducible repeat (first | refine blk_drewN ?_ _ | refine blk_drew ?_ | refine blk_alloc ?_ _)); refine blk_put (cs := #[.int .u64 (IntKind.u64.wrap (t179)), .int .i64 0, .int .i64 0, .int .u32 0, .int .u32 0, .int .u32 0]) ?_ 1 _ rfl; (with_reducible repeat (first | refine blk_drewN ?_ _ | refine blk_drew ?_ | refine blk_alloc ?_ _)); refine blk_put (cs := #[.int .u64 0, .int .i64 0, .int .i64 0, .int .u32 0, .int .u32 0, .int .u32 0]) ?_ 0 _ rfl; (with_reducible repeat (first | refine blk_drewN ?_ _ | refine blk_drew ?_ | refine blk_alloc ?_ _)); exact BK182.out⟩, ⟨by repeat (first | (with_reducible first | exact HB.out | apply below_alloc | apply pw_below_drewN | apply below_drew1 | refine below_set ?_ GE177.out | refine below_set ?_ GE178.out | refine below_set ?_ GE182.out) | exact HB.out)⟩⟩
  case rest =>
    clear HC5
    try clear c1
    try clear c2
    try clear p2
    try clear c6
    try clear p6
    try clear c17
    try clear c18
    try clear c20
    try clear c20b0
    try clear c20b1
    try clear hcz19_0
    try clear hcz19_1
    try clear hcz19_2
    try clear hcz19_3
    try clear hcz19_4
    try clear hcz19_5
    try clear hfz19_0
    try clear hfz19_1
    try clear hfz19_2
    try clear hfz19_3
    try clear hfz19_4
    try clear hfz19_5
    obtain ⟨kq, x22_4, rfl, HA, HJ4, BK177, BK178, BK182, HB⟩ := hcut
    cases kq with
    | zero => exact absurd HA.out (by simp [cloisterlaw22_Raw_made.j0])
    | succ kj4 =>
      have H := HA.out
      clear HA
      simp only [cloisterlaw22_Raw_made.j0] at H
      by_cases c21 : x22_4 = true
      · subst c21
        have H1 : (some ((IntKind.u64.wrap (t179)), (wrap64 (1 + t180)), (wrap64 (1 + t181)), ((a0_3) % 4294967296), (a0_4) % 4294967296, (a0_5) % 4294967296)) = some (r1, r2, r3, r4, r5, r6) := by rw [if_pos rfl] at H; exact H
        clear H
        have H := H1
        clear H1
        simp only [Option.some.injEq, Prod.mk.injEq] at H
        obtain ⟨rfl, rfl, rfl, rfl, rfl, rfl⟩ := H
        have hnb22 := NB177_178.out
        have hnc22 := NB178_177.out
        have hnb23 := NB177_182.out
        have hnc23 := NB182_177.out
        have hcz24_0 : wc.cell? ⟨gb177, 0, none⟩ = some (.int .i64 a0_0) := (blk_cell BK177.out 0).trans rfl
        have hcz24_1 : wc.cell? ⟨gb177, 1, none⟩ = some (.int .i64 a0_1) := (blk_cell BK177.out 1).trans rfl
        have hcz24_2 : wc.cell? ⟨gb177, 2, none⟩ = some (.int .i64 a0_2) := (blk_cell BK177.out 2).trans rfl
        have hcz24_3 : wc.cell? ⟨gb177, 3, none⟩ = some (.int .i64 a0_3) := (blk_cell BK177.out 3).trans rfl
        have hcz24_4 : wc.cell? ⟨gb177, 4, none⟩ = some (.int .i64 a0_4) := (blk_cell BK177.out 4).trans rfl
        have hcz24_5 : wc.cell? ⟨gb177, 5, none⟩ = some (.int .i64 a0_5) := (blk_cell BK177.out 5).trans rfl
        have hfz24_0 := blk_frozen BK177.out 0
        have hfz24_1 := blk_frozen BK177.out 1
        have hfz24_2 := blk_frozen BK177.out 2
        have hfz24_3 := blk_frozen BK177.out 3
        have hfz24_4 := blk_frozen BK177.out 4
        have hfz24_5 := blk_frozen BK177.out 5
        have hnb25 := NB182_178.out
        have hnc25 := NB178_182.out
        have hcz26_0 : wc.cell? ⟨gb182, 0, none⟩ = some (.int .u64 (IntKind.u64.wrap (t179))) := (blk_cell BK182.out 0).trans rfl
        have hcz26_1 : wc.cell? ⟨gb182, 1, none⟩ = some (.int .i64 (wrap64 (1 + t180))) := (blk_cell BK182.out 1).trans rfl
        have hcz26_2 : wc.cell? ⟨gb182, 2, none⟩ = some (.int .i64 (wrap64 (1 + t181))) := (blk_cell BK182.out 2).trans rfl
        have hcz26_3 : wc.cell? ⟨gb182, 3, none⟩ = some (.int .u32 ((a0_3) % 4294967296)) := (blk_cell BK182.out 3).trans rfl
        have hcz26_4 : wc.cell? ⟨gb182, 4, none⟩ = some (.int .u32 0) := (blk_cell BK182.out 4).trans rfl
        have hcz26_5 : wc.cell? ⟨gb182, 5, none⟩ = some (.int .u32 0) := (blk_cell BK182.out 5).trans rfl
        have hfz26_0 := blk_frozen BK182.out 0
        have hfz26_1 := blk_frozen BK182.out 1
        have hfz26_2 := blk_frozen BK182.out 2
        have hfz26_3 := blk_frozen BK182.out 3
        have hfz26_4 := blk_frozen BK182.out 4
        have hfz26_5 := blk_frozen BK182.out 5
        have hcz27_0 : wc.cell? ⟨gb178, 0, none⟩ = some (.int .u64 0) := (blk_cell BK178.out 0).trans rfl
        have hcz27_1 : wc.cell? ⟨gb178, 1, none⟩ = some (.int .i64 0) := (blk_cell BK178.out 1).trans rfl
        have hcz27_2 : wc.cell? ⟨gb178, 2, none⟩ = some (.int .i64 0) := (blk_cell BK178.out 2).trans rfl
        have hcz27_3 : wc.cell? ⟨gb178, 3, none⟩ = some (.int .u32 0) := (blk_cell BK178.out 3).trans rfl
        have hcz27_4 : wc.cell? ⟨gb178, 4, none⟩ = some (.int .u32 0) := (blk_cell BK178.out 4).trans rfl
        have hcz27_5 : wc.cell? ⟨gb178, 5, none⟩ = some (.int .u32 0) := (blk_cell BK178.out 5).trans rfl
        have hfz27_0 := blk_frozen BK178.out 0
        have hfz27_1 := blk_frozen BK178.out 1
        have hfz27_2 := blk_frozen BK178.out 2
        have hfz27_3 := blk_frozen BK178.out 3
        have hfz27_4 := blk_frozen BK178.out 4
        have hfz27_5 := blk_frozen BK178.out 5
        go_wp2
        refine bodyPost_ret (results_cell_row rfl _ _ gb178 35 #[.int .u64 (IntKind.u64.wrap (t179)), .int .i64 (wrap64 (1 + t180)), .int .i64 (wrap64 (1 + t181)), .int .u32 ((a0_3) % 4294967296), .int .u32 ((a0_4) % 4294967296), .int .u32 ((a0_5) % 4294967296)] (0, 0) _ rfl (by (with_reducible repeat (first | refine blk_drewN ?_ _ | refine blk_drew ?_ | refine blk_alloc ?_ _)); refine blk_put (cs := #[.int .u64 (IntKind.u64.wrap (t179)), .int .i64 (wrap64 (1 + t180)), .int .i64 (wrap64 (1 + t181)), .int .u32 ((a0_3) % 4294967296), .int .u32 ((a0_4) % 4294967296), .int .u32 0]) ?_ 5 _ rfl; (with_reducible repeat (first | refine blk_drewN ?_ _ | refine blk_drew ?_ | refine blk_alloc ?_ _)); refine blk_put (cs := #[.int .u64 (IntKind.u64.wrap (t179)), .int .i64 (wrap64 (1 + t180)), .int .i64 (wrap64 (1 + t181)), .int .u32 ((a0_3) % 4294967296), .int .u32 0, .int .u32 0]) ?_ 4 _ rfl; (with_reducible repeat (first | refine blk_drewN ?_ _ | refine blk_drew ?_ | refine blk_alloc ?_ _)); refine blk_put (cs := #[.int .u64 (IntKind.u64.wrap (t179)), .int .i64 (wrap64 (1 + t180)), .int .i64 (wrap64 (1 + t181)), .int .u32 0, .int .u32 0, .int .u32 0]) ?_ 3 _ rfl; (with_reducible repeat (first | refine blk_drewN ?_ _ | refine blk_drew ?_ | refine blk_alloc ?_ _)); refine blk_put (cs := #[.int .u64 (IntKind.u64.wrap (t179)), .int .i64 (wrap64 (1 + t180)), .int .i64 0, .int .u32 0, .int .u32 0, .int .u32 0]) ?_ 2 _ rfl; (with_reducible repeat (first | refine blk_drewN ?_ _ | refine blk_drew ?_ | refine blk_alloc ?_ _)); refine blk_put (cs := #[.int .u64 (IntKind.u64.wrap (t179)), .int .i64 0, .int .i64 0, .int .u32 0, .int .u32 0, .int .u32 0]) ?_ 1 _ rfl; (with_reducible repeat (first | refine blk_drewN ?_ _ | refine blk_drew ?_ | refine blk_alloc ?_ _)); refine blk_put (cs := #[.int .u64 0, .int .i64 0, .int .i64 0, .int .u32 0, .int .u32 0, .int .u32 0]) ?_ 0 _ rfl; (with_reducible repeat (first | refine blk_drewN ?_ _ | refine blk_drew ?_ | refine blk_alloc ?_ _)); refine blk_far ?_ NB178_182.out _; (with_reducible repeat (first | refine blk_drewN ?_ _ | refine blk_drew ?_ | refine blk_alloc ?_ _)); refine blk_far ?_ NB178_182.out _; (with_reducible repeat (first | refine blk_drewN ?_ _ | refine blk_drew ?_ | refine blk_alloc ?_ _)); exact BK178.out) Tryz.underlying35 rfl (by kernel_rfl)) rfl ?_
        exact ⟨by first | rfl | (simp [errW_none, errW_some] <;> rfl) | (simp [*, errW_none, errW_some] <;> rfl), by repeat (first | (with_reducible first | exact HB.out | apply below_alloc | apply pw_below_drewN | apply below_drew1 | refine below_set ?_ GE177.out | refine below_set ?_ GE178.out | refine below_set ?_ GE182.out) | exact HB.out)⟩
      · replace c21 := Bool.eq_false_iff.mpr c21
        subst c21
        have H1 : (if (wrap64 (1 + t181)) = 3 then ((cloisterlaw22_pick.f a0_4 6).bind fun t183 => (some ((IntKind.u64.wrap (t179)), (wrap64 (1 + t180)), (wrap64 (1 + t181)), ((a0_3) % 4294967296), (wrap64 (1 + t183)) % 4294967296, (a0_5) % 4294967296))) else (if (wrap64 (1 + t181)) = 4 then ((cloisterlaw22_pick.f a0_4 32).bind fun t184 => (some ((IntKind.u64.wrap (t179)), (wrap64 (1 + t180)), (wrap64 (1 + t181)), ((a0_3) % 4294967296), (t184) % 4294967296, 0))) else (if (wrap64 (1 + t181)) = 5 then ((cloisterlaw22_pick.f a0_5 2147483648).bind fun t185 => (some ((IntKind.u64.wrap (t179)), (wrap64 (1 + t180)), (wrap64 (1 + t181)), ((a0_3) % 4294967296), (a0_4) % 4294967296, (t185) % 4294967296))) else (if (wrap64 (1 + t181)) = 7 then (some ((IntKind.u64.wrap (t179)), (wrap64 (1 + t180)), (wrap64 (1 + t181)), ((a0_3) % 4294967296), (a0_4) % 4294967296, 0)) else (some ((IntKind.u64.wrap (t179)), (wrap64 (1 + t180)), (wrap64 (1 + t181)), ((a0_3) % 4294967296), 0, 0)))))) = some (r1, r2, r3, r4, r5, r6) := by rw [if_neg (show ¬ (false = true) by decide)] at H; exact H
        clear H
        have H := H1
        clear H1
        by_cases c28 : (wrap64 (1 + t181)) = 3
        · rw [if_pos c28] at H
          have c28b0 : ((wrap64 (1 + t181)) == 3) = true := beq_iff_eq.mpr c28
          have c28b1 : ((wrap64 (1 + t181)) != 3) = false := bne_eq_false_iff_eq.mpr c28
          clear c28
          replace H := Option.bind_eq_some_iff.mp H
          obtain ⟨t183, A290, H⟩ := H
          replace H : (some ((IntKind.u64.wrap (t179)), (wrap64 (1 + t180)), (wrap64 (1 + t181)), ((a0_3) % 4294967296), (wrap64 (1 + t183)) % 4294967296, (a0_5) % 4294967296)) = some (r1, r2, r3, r4, r5, r6) := H
          have A29 := Aside0.mk A290
          clear A290
          simp only [Option.some.injEq, Prod.mk.injEq] at H
          obtain ⟨rfl, rfl, rfl, rfl, rfl, rfl⟩ := H
          have hnb30 := NB177_178.out
          have hnc30 := NB178_177.out
          have hnb31 := NB177_182.out
          have hnc31 := NB182_177.out
          have hcz32_0 : wc.cell? ⟨gb177, 0, none⟩ = some (.int .i64 a0_0) := (blk_cell BK177.out 0).trans rfl
          have hcz32_1 : wc.cell? ⟨gb177, 1, none⟩ = some (.int .i64 a0_1) := (blk_cell BK177.out 1).trans rfl
          have hcz32_2 : wc.cell? ⟨gb177, 2, none⟩ = some (.int .i64 a0_2) := (blk_cell BK177.out 2).trans rfl
          have hcz32_3 : wc.cell? ⟨gb177, 3, none⟩ = some (.int .i64 a0_3) := (blk_cell BK177.out 3).trans rfl
          have hcz32_4 : wc.cell? ⟨gb177, 4, none⟩ = some (.int .i64 a0_4) := (blk_cell BK177.out 4).trans rfl
          have hcz32_5 : wc.cell? ⟨gb177, 5, none⟩ = some (.int .i64 a0_5) := (blk_cell BK177.out 5).trans rfl
          have hfz32_0 := blk_frozen BK177.out 0
          have hfz32_1 := blk_frozen BK177.out 1
          have hfz32_2 := blk_frozen BK177.out 2
          have hfz32_3 := blk_frozen BK177.out 3
          have hfz32_4 := blk_frozen BK177.out 4
          have hfz32_5 := blk_frozen BK177.out 5
          go_wp2_with (first | ((with_reducible refine gate_callee (f := 29) rfl ?_); refine goesL_ (some 37) rfl rfl Tryz.func29 (by kernel_rfl) rfl #[.int .i64 a0_4, .int .i64 6] rfl (by (try simp only [List.map_toArray, List.map_cons, List.map_nil]); first | done | rfl | (simp only [List.length_drop, List.length_take]; rfl)) ?_; (with_reducible refine (cloisterlaw22_pick.calls a0_4 6 t183 _ A29.out).mono ?_); rintro e w' ⟨rfl, ⟨nd, rfl⟩⟩; refine ⟨_, rfl, ?_⟩; (try (rw [drewN_self wc]; generalize hq_ : World.drewN wc _ = wc; have n0_ : Aside0 (wc.heap[gb177]? = some (.cells #[.int .i64 a0_0, .int .i64 a0_1, .int .i64 a0_2, .int .i64 a0_3, .int .i64 a0_4, .int .i64 a0_5] 108 (0, 0))) := ⟨by rw [← hq_]; exact (by (with_reducible repeat (first | refine blk_drewN ?_ _ | refine blk_drew ?_ | refine blk_alloc ?_ _)); exact BK177.out)⟩; have n1_ : Aside0 (wc.heap[gb178]? = some (.cells #[.int .u64 0, .int .i64 0, .int .i64 0, .int .u32 0, .int .u32 0, .int .u32 0] 35 (0, 0))) := ⟨by rw [← hq_]; exact (by (with_reducible repeat (first | refine blk_drewN ?_ _ | refine blk_drew ?_ | refine blk_alloc ?_ _)); exact BK178.out)⟩; have n2_ : Aside0 (wc.heap[gb182]? = some (.cells #[.int .u64 (IntKind.u64.wrap (t179)), .int .i64 (wrap64 (1 + t180)), .int .i64 (wrap64 (1 + t181)), .int .u32 ((a0_3) % 4294967296), .int .u32 0, .int .u32 0] 35 (0, 0))) := ⟨by rw [← hq_]; exact (by (with_reducible repeat (first | refine blk_drewN ?_ _ | refine blk_drew ?_ | refine blk_alloc ?_ _)); exact BK182.out)⟩; have n3_ : Aside0 (Below w.heap.size w wc) := ⟨by rw [← hq_]; exact (by repeat (first | (with_reducible first | exact HB.out | apply below_alloc | apply pw_below_drewN | apply below_drew1 | refine below_set ?_ GE177.out | refine below_set ?_ GE178.out | refine below_set ?_ GE182.out) | exact HB.out))⟩; clear BK177 BK178 BK182 HB hq_; have BK177 := n0_; have BK178 := n1_; have BK182 := n2_; have HB := n3_; clear n0_ n1_ n2_ n3_)); have hnb33 := NB182_178.out; have hnc33 := NB178_182.out; have hcz34_0 : wc.cell? ⟨gb182, 0, none⟩ = some (.int .u64 (IntKind.u64.wrap (t179))) := (blk_cell BK182.out 0).trans rfl; have hcz34_1 : wc.cell? ⟨gb182, 1, none⟩ = some (.int .i64 (wrap64 (1 + t180))) := (blk_cell BK182.out 1).trans rfl; have hcz34_2 : wc.cell? ⟨gb182, 2, none⟩ = some (.int .i64 (wrap64 (1 + t181))) := (blk_cell BK182.out 2).trans rfl; have hcz34_3 : wc.cell? ⟨gb182, 3, none⟩ = some (.int .u32 ((a0_3) % 4294967296)) := (blk_cell BK182.out 3).trans rfl; have hcz34_4 : wc.cell? ⟨gb182, 4, none⟩ = some (.int .u32 0) := (blk_cell BK182.out 4).trans rfl; have hcz34_5 : wc.cell? ⟨gb182, 5, none⟩ = some (.int .u32 0) := (blk_cell BK182.out 5).trans rfl; have hfz34_0 := blk_frozen BK182.out 0; have hfz34_1 := blk_frozen BK182.out 1; have hfz34_2 := blk_frozen BK182.out 2; have hfz34_3 := blk_frozen BK182.out 3; have hfz34_4 := blk_frozen BK182.out 4; have hfz34_5 := blk_frozen BK182.out 5; have hcz35_0 : wc.cell? ⟨gb178, 0, none⟩ = some (.int .u64 0) := (blk_cell BK178.out 0).trans rfl; have hcz35_1 : wc.cell? ⟨gb178, 1, none⟩ = some (.int .i64 0) := (blk_cell BK178.out 1).trans rfl; have hcz35_2 : wc.cell? ⟨gb178, 2, none⟩ = some (.int .i64 0) := (blk_cell BK178.out 2).trans rfl; have hcz35_3 : wc.cell? ⟨gb178, 3, none⟩ = some (.int .u32 0) := (blk_cell BK178.out 3).trans rfl; have hcz35_4 : wc.cell? ⟨gb178, 4, none⟩ = some (.int .u32 0) := (blk_cell BK178.out 4).trans rfl; have hcz35_5 : wc.cell? ⟨gb178, 5, none⟩ = some (.int .u32 0) := (blk_cell BK178.out 5).trans rfl; have hfz35_0 := blk_frozen BK178.out 0; have hfz35_1 := blk_frozen BK178.out 1; have hfz35_2 := blk_frozen BK178.out 2; have hfz35_3 := blk_frozen BK178.out 3; have hfz35_4 := blk_frozen BK178.out 4; have hfz35_5 := blk_frozen BK178.out 5; have hcq7_0 : wc.cell? ⟨gb177, 0, none⟩ = some (.int .i64 a0_0) := (blk_cell BK177.out 0).trans rfl; have hcq7_1 : wc.cell? ⟨gb177, 1, none⟩ = some (.int .i64 a0_1) := (blk_cell BK177.out 1).trans rfl; have hcq7_2 : wc.cell? ⟨gb177, 2, none⟩ = some (.int .i64 a0_2) := (blk_cell BK177.out 2).trans rfl; have hcq7_3 : wc.cell? ⟨gb177, 3, none⟩ = some (.int .i64 a0_3) := (blk_cell BK177.out 3).trans rfl; have hcq7_4 : wc.cell? ⟨gb177, 4, none⟩ = some (.int .i64 a0_4) := (blk_cell BK177.out 4).trans rfl; have hcq7_5 : wc.cell? ⟨gb177, 5, none⟩ = some (.int .i64 a0_5) := (blk_cell BK177.out 5).trans rfl; have hnq1 := NB177_182.out; have hnq2 := NB182_177.out))
          refine bodyPost_ret (results_cell_row rfl _ _ gb178 35 #[.int .u64 (IntKind.u64.wrap (t179)), .int .i64 (wrap64 (1 + t180)), .int .i64 (wrap64 (1 + t181)), .int .u32 ((a0_3) % 4294967296), .int .u32 ((wrap64 (1 + t183)) % 4294967296), .int .u32 ((a0_5) % 4294967296)] (0, 0) _ rfl (by (with_reducible repeat (first | refine blk_drewN ?_ _ | refine blk_drew ?_ | refine blk_alloc ?_ _)); refine blk_put (cs := #[.int .u64 (IntKind.u64.wrap (t179)), .int .i64 (wrap64 (1 + t180)), .int .i64 (wrap64 (1 + t181)), .int .u32 ((a0_3) % 4294967296), .int .u32 ((wrap64 (1 + t183)) % 4294967296), .int .u32 0]) ?_ 5 _ rfl; (with_reducible repeat (first | refine blk_drewN ?_ _ | refine blk_drew ?_ | refine blk_alloc ?_ _)); refine blk_put (cs := #[.int .u64 (IntKind.u64.wrap (t179)), .int .i64 (wrap64 (1 + t180)), .int .i64 (wrap64 (1 + t181)), .int .u32 ((a0_3) % 4294967296), .int .u32 0, .int .u32 0]) ?_ 4 _ rfl; (with_reducible repeat (first | refine blk_drewN ?_ _ | refine blk_drew ?_ | refine blk_alloc ?_ _)); refine blk_put (cs := #[.int .u64 (IntKind.u64.wrap (t179)), .int .i64 (wrap64 (1 + t180)), .int .i64 (wrap64 (1 + t181)), .int .u32 0, .int .u32 0, .int .u32 0]) ?_ 3 _ rfl; (with_reducible repeat (first | refine blk_drewN ?_ _ | refine blk_drew ?_ | refine blk_alloc ?_ _)); refine blk_put (cs := #[.int .u64 (IntKind.u64.wrap (t179)), .int .i64 (wrap64 (1 + t180)), .int .i64 0, .int .u32 0, .int .u32 0, .int .u32 0]) ?_ 2 _ rfl; (with_reducible repeat (first | refine blk_drewN ?_ _ | refine blk_drew ?_ | refine blk_alloc ?_ _)); refine blk_put (cs := #[.int .u64 (IntKind.u64.wrap (t179)), .int .i64 0, .int .i64 0, .int .u32 0, .int .u32 0, .int .u32 0]) ?_ 1 _ rfl; (with_reducible repeat (first | refine blk_drewN ?_ _ | refine blk_drew ?_ | refine blk_alloc ?_ _)); refine blk_put (cs := #[.int .u64 0, .int .i64 0, .int .i64 0, .int .u32 0, .int .u32 0, .int .u32 0]) ?_ 0 _ rfl; (with_reducible repeat (first | refine blk_drewN ?_ _ | refine blk_drew ?_ | refine blk_alloc ?_ _)); refine blk_far ?_ NB178_182.out _; (with_reducible repeat (first | refine blk_drewN ?_ _ | refine blk_drew ?_ | refine blk_alloc ?_ _)); refine blk_far ?_ NB178_182.out _; (with_reducible repeat (first | refine blk_drewN ?_ _ | refine blk_drew ?_ | refine blk_alloc ?_ _)); exact BK178.out) Tryz.underlying35 rfl (by kernel_rfl)) rfl ?_
          exact ⟨by first | rfl | (simp [errW_none, errW_some] <;> rfl) | (simp [*, errW_none, errW_some] <;> rfl), by repeat (first | (with_reducible first | exact HB.out | apply below_alloc | apply pw_below_drewN | apply below_drew1 | refine below_set ?_ GE177.out | refine below_set ?_ GE178.out | refine below_set ?_ GE182.out) | exact HB.out)⟩
        · rw [if_neg c28] at H
          have c28b0 : ((wrap64 (1 + t181)) == 3) = false := beq_eq_false_iff_ne.mpr c28
          have c28b1 : ((wrap64 (1 + t181)) != 3) = true := bne_iff_ne.mpr c28
          by_cases c36 : (wrap64 (1 + t181)) = 4
          · rw [if_pos c36] at H
            have c36b0 : ((wrap64 (1 + t181)) == 4) = true := beq_iff_eq.mpr c36
            have c36b1 : ((wrap64 (1 + t181)) != 4) = false := bne_eq_false_iff_eq.mpr c36
            clear c36
            replace H := Option.bind_eq_some_iff.mp H
            obtain ⟨t184, A370, H⟩ := H
            replace H : (some ((IntKind.u64.wrap (t179)), (wrap64 (1 + t180)), (wrap64 (1 + t181)), ((a0_3) % 4294967296), (t184) % 4294967296, 0)) = some (r1, r2, r3, r4, r5, r6) := H
            have A37 := Aside0.mk A370
            clear A370
            simp only [Option.some.injEq, Prod.mk.injEq] at H
            obtain ⟨rfl, rfl, rfl, rfl, rfl, rfl⟩ := H
            have hnb38 := NB177_178.out
            have hnc38 := NB178_177.out
            have hnb39 := NB177_182.out
            have hnc39 := NB182_177.out
            have hcz40_0 : wc.cell? ⟨gb177, 0, none⟩ = some (.int .i64 a0_0) := (blk_cell BK177.out 0).trans rfl
            have hcz40_1 : wc.cell? ⟨gb177, 1, none⟩ = some (.int .i64 a0_1) := (blk_cell BK177.out 1).trans rfl
            have hcz40_2 : wc.cell? ⟨gb177, 2, none⟩ = some (.int .i64 a0_2) := (blk_cell BK177.out 2).trans rfl
            have hcz40_3 : wc.cell? ⟨gb177, 3, none⟩ = some (.int .i64 a0_3) := (blk_cell BK177.out 3).trans rfl
            have hcz40_4 : wc.cell? ⟨gb177, 4, none⟩ = some (.int .i64 a0_4) := (blk_cell BK177.out 4).trans rfl
            have hcz40_5 : wc.cell? ⟨gb177, 5, none⟩ = some (.int .i64 a0_5) := (blk_cell BK177.out 5).trans rfl
            have hfz40_0 := blk_frozen BK177.out 0
            have hfz40_1 := blk_frozen BK177.out 1
            have hfz40_2 := blk_frozen BK177.out 2
            have hfz40_3 := blk_frozen BK177.out 3
            have hfz40_4 := blk_frozen BK177.out 4
            have hfz40_5 := blk_frozen BK177.out 5
            go_wp2_with (first | ((with_reducible refine gate_callee (f := 29) rfl ?_); refine goesL_ (some 49) rfl rfl Tryz.func29 (by kernel_rfl) rfl #[.int .i64 a0_4, .int .i64 32] rfl (by (try simp only [List.map_toArray, List.map_cons, List.map_nil]); first | done | rfl | (simp only [List.length_drop, List.length_take]; rfl)) ?_; (with_reducible refine (cloisterlaw22_pick.calls a0_4 32 t184 _ A37.out).mono ?_); rintro e w' ⟨rfl, ⟨nd, rfl⟩⟩; refine ⟨_, rfl, ?_⟩; (try (rw [drewN_self wc]; generalize hq_ : World.drewN wc _ = wc; have n0_ : Aside0 (wc.heap[gb177]? = some (.cells #[.int .i64 a0_0, .int .i64 a0_1, .int .i64 a0_2, .int .i64 a0_3, .int .i64 a0_4, .int .i64 a0_5] 108 (0, 0))) := ⟨by rw [← hq_]; exact (by (with_reducible repeat (first | refine blk_drewN ?_ _ | refine blk_drew ?_ | refine blk_alloc ?_ _)); exact BK177.out)⟩; have n1_ : Aside0 (wc.heap[gb178]? = some (.cells #[.int .u64 0, .int .i64 0, .int .i64 0, .int .u32 0, .int .u32 0, .int .u32 0] 35 (0, 0))) := ⟨by rw [← hq_]; exact (by (with_reducible repeat (first | refine blk_drewN ?_ _ | refine blk_drew ?_ | refine blk_alloc ?_ _)); exact BK178.out)⟩; have n2_ : Aside0 (wc.heap[gb182]? = some (.cells #[.int .u64 (IntKind.u64.wrap (t179)), .int .i64 (wrap64 (1 + t180)), .int .i64 (wrap64 (1 + t181)), .int .u32 ((a0_3) % 4294967296), .int .u32 0, .int .u32 0] 35 (0, 0))) := ⟨by rw [← hq_]; exact (by (with_reducible repeat (first | refine blk_drewN ?_ _ | refine blk_drew ?_ | refine blk_alloc ?_ _)); exact BK182.out)⟩; have n3_ : Aside0 (Below w.heap.size w wc) := ⟨by rw [← hq_]; exact (by repeat (first | (with_reducible first | exact HB.out | apply below_alloc | apply pw_below_drewN | apply below_drew1 | refine below_set ?_ GE177.out | refine below_set ?_ GE178.out | refine below_set ?_ GE182.out) | exact HB.out))⟩; clear BK177 BK178 BK182 HB hq_; have BK177 := n0_; have BK178 := n1_; have BK182 := n2_; have HB := n3_; clear n0_ n1_ n2_ n3_)); have hnb41 := NB182_178.out; have hnc41 := NB178_182.out; have hcz42_0 : wc.cell? ⟨gb182, 0, none⟩ = some (.int .u64 (IntKind.u64.wrap (t179))) := (blk_cell BK182.out 0).trans rfl; have hcz42_1 : wc.cell? ⟨gb182, 1, none⟩ = some (.int .i64 (wrap64 (1 + t180))) := (blk_cell BK182.out 1).trans rfl; have hcz42_2 : wc.cell? ⟨gb182, 2, none⟩ = some (.int .i64 (wrap64 (1 + t181))) := (blk_cell BK182.out 2).trans rfl; have hcz42_3 : wc.cell? ⟨gb182, 3, none⟩ = some (.int .u32 ((a0_3) % 4294967296)) := (blk_cell BK182.out 3).trans rfl; have hcz42_4 : wc.cell? ⟨gb182, 4, none⟩ = some (.int .u32 0) := (blk_cell BK182.out 4).trans rfl; have hcz42_5 : wc.cell? ⟨gb182, 5, none⟩ = some (.int .u32 0) := (blk_cell BK182.out 5).trans rfl; have hfz42_0 := blk_frozen BK182.out 0; have hfz42_1 := blk_frozen BK182.out 1; have hfz42_2 := blk_frozen BK182.out 2; have hfz42_3 := blk_frozen BK182.out 3; have hfz42_4 := blk_frozen BK182.out 4; have hfz42_5 := blk_frozen BK182.out 5; have hcz43_0 : wc.cell? ⟨gb178, 0, none⟩ = some (.int .u64 0) := (blk_cell BK178.out 0).trans rfl; have hcz43_1 : wc.cell? ⟨gb178, 1, none⟩ = some (.int .i64 0) := (blk_cell BK178.out 1).trans rfl; have hcz43_2 : wc.cell? ⟨gb178, 2, none⟩ = some (.int .i64 0) := (blk_cell BK178.out 2).trans rfl; have hcz43_3 : wc.cell? ⟨gb178, 3, none⟩ = some (.int .u32 0) := (blk_cell BK178.out 3).trans rfl; have hcz43_4 : wc.cell? ⟨gb178, 4, none⟩ = some (.int .u32 0) := (blk_cell BK178.out 4).trans rfl; have hcz43_5 : wc.cell? ⟨gb178, 5, none⟩ = some (.int .u32 0) := (blk_cell BK178.out 5).trans rfl; have hfz43_0 := blk_frozen BK178.out 0; have hfz43_1 := blk_frozen BK178.out 1; have hfz43_2 := blk_frozen BK178.out 2; have hfz43_3 := blk_frozen BK178.out 3; have hfz43_4 := blk_frozen BK178.out 4; have hfz43_5 := blk_frozen BK178.out 5))
            refine bodyPost_ret (results_cell_row rfl _ _ gb178 35 #[.int .u64 (IntKind.u64.wrap (t179)), .int .i64 (wrap64 (1 + t180)), .int .i64 (wrap64 (1 + t181)), .int .u32 ((a0_3) % 4294967296), .int .u32 ((t184) % 4294967296), .int .u32 0] (0, 0) _ rfl (by (with_reducible repeat (first | refine blk_drewN ?_ _ | refine blk_drew ?_ | refine blk_alloc ?_ _)); refine blk_put (cs := #[.int .u64 (IntKind.u64.wrap (t179)), .int .i64 (wrap64 (1 + t180)), .int .i64 (wrap64 (1 + t181)), .int .u32 ((a0_3) % 4294967296), .int .u32 ((t184) % 4294967296), .int .u32 0]) ?_ 5 _ rfl; (with_reducible repeat (first | refine blk_drewN ?_ _ | refine blk_drew ?_ | refine blk_alloc ?_ _)); refine blk_put (cs := #[.int .u64 (IntKind.u64.wrap (t179)), .int .i64 (wrap64 (1 + t180)), .int .i64 (wrap64 (1 + t181)), .int .u32 ((a0_3) % 4294967296), .int .u32 0, .int .u32 0]) ?_ 4 _ rfl; (with_reducible repeat (first | refine blk_drewN ?_ _ | refine blk_drew ?_ | refine blk_alloc ?_ _)); refine blk_put (cs := #[.int .u64 (IntKind.u64.wrap (t179)), .int .i64 (wrap64 (1 + t180)), .int .i64 (wrap64 (1 + t181)), .int .u32 0, .int .u32 0, .int .u32 0]) ?_ 3 _ rfl; (with_reducible repeat (first | refine blk_drewN ?_ _ | refine blk_drew ?_ | refine blk_alloc ?_ _)); refine blk_put (cs := #[.int .u64 (IntKind.u64.wrap (t179)), .int .i64 (wrap64 (1 + t180)), .int .i64 0, .int .u32 0, .int .u32 0, .int .u32 0]) ?_ 2 _ rfl; (with_reducible repeat (first | refine blk_drewN ?_ _ | refine blk_drew ?_ | refine blk_alloc ?_ _)); refine blk_put (cs := #[.int .u64 (IntKind.u64.wrap (t179)), .int .i64 0, .int .i64 0, .int .u32 0, .int .u32 0, .int .u32 0]) ?_ 1 _ rfl; (with_reducible repeat (first | refine blk_drewN ?_ _ | refine blk_drew ?_ | refine blk_alloc ?_ _)); refine blk_put (cs := #[.int .u64 0, .int .i64 0, .int .i64 0, .int .u32 0, .int .u32 0, .int .u32 0]) ?_ 0 _ rfl; (with_reducible repeat (first | refine blk_drewN ?_ _ | refine blk_drew ?_ | refine blk_alloc ?_ _)); refine blk_far ?_ NB178_182.out _; (with_reducible repeat (first | refine blk_drewN ?_ _ | refine blk_drew ?_ | refine blk_alloc ?_ _)); exact BK178.out) Tryz.underlying35 rfl (by kernel_rfl)) rfl ?_
            exact ⟨by first | rfl | (simp [errW_none, errW_some] <;> rfl) | (simp [*, errW_none, errW_some] <;> rfl), by repeat (first | (with_reducible first | exact HB.out | apply below_alloc | apply pw_below_drewN | apply below_drew1 | refine below_set ?_ GE177.out | refine below_set ?_ GE178.out | refine below_set ?_ GE182.out) | exact HB.out)⟩
          · rw [if_neg c36] at H
            have c36b0 : ((wrap64 (1 + t181)) == 4) = false := beq_eq_false_iff_ne.mpr c36
            have c36b1 : ((wrap64 (1 + t181)) != 4) = true := bne_iff_ne.mpr c36
            by_cases c44 : (wrap64 (1 + t181)) = 5
            · rw [if_pos c44] at H
              have c44b0 : ((wrap64 (1 + t181)) == 5) = true := beq_iff_eq.mpr c44
              have c44b1 : ((wrap64 (1 + t181)) != 5) = false := bne_eq_false_iff_eq.mpr c44
              clear c44
              replace H := Option.bind_eq_some_iff.mp H
              obtain ⟨t185, A450, H⟩ := H
              replace H : (some ((IntKind.u64.wrap (t179)), (wrap64 (1 + t180)), (wrap64 (1 + t181)), ((a0_3) % 4294967296), (a0_4) % 4294967296, (t185) % 4294967296)) = some (r1, r2, r3, r4, r5, r6) := H
              have A45 := Aside0.mk A450
              clear A450
              simp only [Option.some.injEq, Prod.mk.injEq] at H
              obtain ⟨rfl, rfl, rfl, rfl, rfl, rfl⟩ := H
              have hnb46 := NB177_178.out
              have hnc46 := NB178_177.out
              have hnb47 := NB177_182.out
              have hnc47 := NB182_177.out
              have hcz48_0 : wc.cell? ⟨gb177, 0, none⟩ = some (.int .i64 a0_0) := (blk_cell BK177.out 0).trans rfl
              have hcz48_1 : wc.cell? ⟨gb177, 1, none⟩ = some (.int .i64 a0_1) := (blk_cell BK177.out 1).trans rfl
              have hcz48_2 : wc.cell? ⟨gb177, 2, none⟩ = some (.int .i64 a0_2) := (blk_cell BK177.out 2).trans rfl
              have hcz48_3 : wc.cell? ⟨gb177, 3, none⟩ = some (.int .i64 a0_3) := (blk_cell BK177.out 3).trans rfl
              have hcz48_4 : wc.cell? ⟨gb177, 4, none⟩ = some (.int .i64 a0_4) := (blk_cell BK177.out 4).trans rfl
              have hcz48_5 : wc.cell? ⟨gb177, 5, none⟩ = some (.int .i64 a0_5) := (blk_cell BK177.out 5).trans rfl
              have hfz48_0 := blk_frozen BK177.out 0
              have hfz48_1 := blk_frozen BK177.out 1
              have hfz48_2 := blk_frozen BK177.out 2
              have hfz48_3 := blk_frozen BK177.out 3
              have hfz48_4 := blk_frozen BK177.out 4
              have hfz48_5 := blk_frozen BK177.out 5
              have hnb49 := NB182_178.out
              have hnc49 := NB178_182.out
              have hcz50_0 : wc.cell? ⟨gb182, 0, none⟩ = some (.int .u64 (IntKind.u64.wrap (t179))) := (blk_cell BK182.out 0).trans rfl
              have hcz50_1 : wc.cell? ⟨gb182, 1, none⟩ = some (.int .i64 (wrap64 (1 + t180))) := (blk_cell BK182.out 1).trans rfl
              have hcz50_2 : wc.cell? ⟨gb182, 2, none⟩ = some (.int .i64 (wrap64 (1 + t181))) := (blk_cell BK182.out 2).trans rfl
              have hcz50_3 : wc.cell? ⟨gb182, 3, none⟩ = some (.int .u32 ((a0_3) % 4294967296)) := (blk_cell BK182.out 3).trans rfl
              have hcz50_4 : wc.cell? ⟨gb182, 4, none⟩ = some (.int .u32 0) := (blk_cell BK182.out 4).trans rfl
              have hcz50_5 : wc.cell? ⟨gb182, 5, none⟩ = some (.int .u32 0) := (blk_cell BK182.out 5).trans rfl
              have hfz50_0 := blk_frozen BK182.out 0
              have hfz50_1 := blk_frozen BK182.out 1
              have hfz50_2 := blk_frozen BK182.out 2
              have hfz50_3 := blk_frozen BK182.out 3
              have hfz50_4 := blk_frozen BK182.out 4
              have hfz50_5 := blk_frozen BK182.out 5
              go_wp2_with (first | ((with_reducible refine gate_callee (f := 29) rfl ?_); refine goesL_ (some 60) rfl rfl Tryz.func29 (by kernel_rfl) rfl #[.int .i64 a0_5, .int .i64 2147483648] rfl (by (try simp only [List.map_toArray, List.map_cons, List.map_nil]); first | done | rfl | (simp only [List.length_drop, List.length_take]; rfl)) ?_; (with_reducible refine (cloisterlaw22_pick.calls a0_5 2147483648 t185 _ A45.out).mono ?_); rintro e w' ⟨rfl, ⟨nd, rfl⟩⟩; refine ⟨_, rfl, ?_⟩; have hcz51_0 : wc.cell? ⟨gb178, 0, none⟩ = some (.int .u64 0) := (blk_cell BK178.out 0).trans rfl; have hcz51_1 : wc.cell? ⟨gb178, 1, none⟩ = some (.int .i64 0) := (blk_cell BK178.out 1).trans rfl; have hcz51_2 : wc.cell? ⟨gb178, 2, none⟩ = some (.int .i64 0) := (blk_cell BK178.out 2).trans rfl; have hcz51_3 : wc.cell? ⟨gb178, 3, none⟩ = some (.int .u32 0) := (blk_cell BK178.out 3).trans rfl; have hcz51_4 : wc.cell? ⟨gb178, 4, none⟩ = some (.int .u32 0) := (blk_cell BK178.out 4).trans rfl; have hcz51_5 : wc.cell? ⟨gb178, 5, none⟩ = some (.int .u32 0) := (blk_cell BK178.out 5).trans rfl; have hfz51_0 := blk_frozen BK178.out 0; have hfz51_1 := blk_frozen BK178.out 1; have hfz51_2 := blk_frozen BK178.out 2; have hfz51_3 := blk_frozen BK178.out 3; have hfz51_4 := blk_frozen BK178.out 4; have hfz51_5 := blk_frozen BK178.out 5))
              refine bodyPost_ret (results_cell_row rfl _ _ gb178 35 #[.int .u64 (IntKind.u64.wrap (t179)), .int .i64 (wrap64 (1 + t180)), .int .i64 (wrap64 (1 + t181)), .int .u32 ((a0_3) % 4294967296), .int .u32 ((a0_4) % 4294967296), .int .u32 ((t185) % 4294967296)] (0, 0) _ rfl (by (with_reducible repeat (first | refine blk_drewN ?_ _ | refine blk_drew ?_ | refine blk_alloc ?_ _)); refine blk_put (cs := #[.int .u64 (IntKind.u64.wrap (t179)), .int .i64 (wrap64 (1 + t180)), .int .i64 (wrap64 (1 + t181)), .int .u32 ((a0_3) % 4294967296), .int .u32 ((a0_4) % 4294967296), .int .u32 0]) ?_ 5 _ rfl; (with_reducible repeat (first | refine blk_drewN ?_ _ | refine blk_drew ?_ | refine blk_alloc ?_ _)); refine blk_put (cs := #[.int .u64 (IntKind.u64.wrap (t179)), .int .i64 (wrap64 (1 + t180)), .int .i64 (wrap64 (1 + t181)), .int .u32 ((a0_3) % 4294967296), .int .u32 0, .int .u32 0]) ?_ 4 _ rfl; (with_reducible repeat (first | refine blk_drewN ?_ _ | refine blk_drew ?_ | refine blk_alloc ?_ _)); refine blk_put (cs := #[.int .u64 (IntKind.u64.wrap (t179)), .int .i64 (wrap64 (1 + t180)), .int .i64 (wrap64 (1 + t181)), .int .u32 0, .int .u32 0, .int .u32 0]) ?_ 3 _ rfl; (with_reducible repeat (first | refine blk_drewN ?_ _ | refine blk_drew ?_ | refine blk_alloc ?_ _)); refine blk_put (cs := #[.int .u64 (IntKind.u64.wrap (t179)), .int .i64 (wrap64 (1 + t180)), .int .i64 0, .int .u32 0, .int .u32 0, .int .u32 0]) ?_ 2 _ rfl; (with_reducible repeat (first | refine blk_drewN ?_ _ | refine blk_drew ?_ | refine blk_alloc ?_ _)); refine blk_put (cs := #[.int .u64 (IntKind.u64.wrap (t179)), .int .i64 0, .int .i64 0, .int .u32 0, .int .u32 0, .int .u32 0]) ?_ 1 _ rfl; (with_reducible repeat (first | refine blk_drewN ?_ _ | refine blk_drew ?_ | refine blk_alloc ?_ _)); refine blk_put (cs := #[.int .u64 0, .int .i64 0, .int .i64 0, .int .u32 0, .int .u32 0, .int .u32 0]) ?_ 0 _ rfl; (with_reducible repeat (first | refine blk_drewN ?_ _ | refine blk_drew ?_ | refine blk_alloc ?_ _)); refine blk_far ?_ NB178_182.out _; (with_reducible repeat (first | refine blk_drewN ?_ _ | refine blk_drew ?_ | refine blk_alloc ?_ _)); refine blk_far ?_ NB178_182.out _; (with_reducible repeat (first | refine blk_drewN ?_ _ | refine blk_drew ?_ | refine blk_alloc ?_ _)); exact BK178.out) Tryz.underlying35 rfl (by kernel_rfl)) rfl ?_
              exact ⟨by first | rfl | (simp [errW_none, errW_some] <;> rfl) | (simp [*, errW_none, errW_some] <;> rfl), by repeat (first | (with_reducible first | exact HB.out | apply below_alloc | apply pw_below_drewN | apply below_drew1 | refine below_set ?_ GE177.out | refine below_set ?_ GE178.out | refine below_set ?_ GE182.out) | exact HB.out)⟩
            · rw [if_neg c44] at H
              have c44b0 : ((wrap64 (1 + t181)) == 5) = false := beq_eq_false_iff_ne.mpr c44
              have c44b1 : ((wrap64 (1 + t181)) != 5) = true := bne_iff_ne.mpr c44
              by_cases c52 : (wrap64 (1 + t181)) = 7
              · rw [if_pos c52] at H
                have c52b0 : ((wrap64 (1 + t181)) == 7) = true := beq_iff_eq.mpr c52
                have c52b1 : ((wrap64 (1 + t181)) != 7) = false := bne_eq_false_iff_eq.mpr c52
                clear c52
                simp only [Option.some.injEq, Prod.mk.injEq] at H
                obtain ⟨rfl, rfl, rfl, rfl, rfl, rfl⟩ := H
                have hnb53 := NB177_178.out
                have hnc53 := NB178_177.out
                have hnb54 := NB177_182.out
                have hnc54 := NB182_177.out
                have hcz55_0 : wc.cell? ⟨gb177, 0, none⟩ = some (.int .i64 a0_0) := (blk_cell BK177.out 0).trans rfl
                have hcz55_1 : wc.cell? ⟨gb177, 1, none⟩ = some (.int .i64 a0_1) := (blk_cell BK177.out 1).trans rfl
                have hcz55_2 : wc.cell? ⟨gb177, 2, none⟩ = some (.int .i64 a0_2) := (blk_cell BK177.out 2).trans rfl
                have hcz55_3 : wc.cell? ⟨gb177, 3, none⟩ = some (.int .i64 a0_3) := (blk_cell BK177.out 3).trans rfl
                have hcz55_4 : wc.cell? ⟨gb177, 4, none⟩ = some (.int .i64 a0_4) := (blk_cell BK177.out 4).trans rfl
                have hcz55_5 : wc.cell? ⟨gb177, 5, none⟩ = some (.int .i64 a0_5) := (blk_cell BK177.out 5).trans rfl
                have hfz55_0 := blk_frozen BK177.out 0
                have hfz55_1 := blk_frozen BK177.out 1
                have hfz55_2 := blk_frozen BK177.out 2
                have hfz55_3 := blk_frozen BK177.out 3
                have hfz55_4 := blk_frozen BK177.out 4
                have hfz55_5 := blk_frozen BK177.out 5
                have hnb56 := NB182_178.out
                have hnc56 := NB178_182.out
                have hcz57_0 : wc.cell? ⟨gb182, 0, none⟩ = some (.int .u64 (IntKind.u64.wrap (t179))) := (blk_cell BK182.out 0).trans rfl
                have hcz57_1 : wc.cell? ⟨gb182, 1, none⟩ = some (.int .i64 (wrap64 (1 + t180))) := (blk_cell BK182.out 1).trans rfl
                have hcz57_2 : wc.cell? ⟨gb182, 2, none⟩ = some (.int .i64 (wrap64 (1 + t181))) := (blk_cell BK182.out 2).trans rfl
                have hcz57_3 : wc.cell? ⟨gb182, 3, none⟩ = some (.int .u32 ((a0_3) % 4294967296)) := (blk_cell BK182.out 3).trans rfl
                have hcz57_4 : wc.cell? ⟨gb182, 4, none⟩ = some (.int .u32 0) := (blk_cell BK182.out 4).trans rfl
                have hcz57_5 : wc.cell? ⟨gb182, 5, none⟩ = some (.int .u32 0) := (blk_cell BK182.out 5).trans rfl
                have hfz57_0 := blk_frozen BK182.out 0
                have hfz57_1 := blk_frozen BK182.out 1
                have hfz57_2 := blk_frozen BK182.out 2
                have hfz57_3 := blk_frozen BK182.out 3
                have hfz57_4 := blk_frozen BK182.out 4
                have hfz57_5 := blk_frozen BK182.out 5
                have hcz58_0 : wc.cell? ⟨gb178, 0, none⟩ = some (.int .u64 0) := (blk_cell BK178.out 0).trans rfl
                have hcz58_1 : wc.cell? ⟨gb178, 1, none⟩ = some (.int .i64 0) := (blk_cell BK178.out 1).trans rfl
                have hcz58_2 : wc.cell? ⟨gb178, 2, none⟩ = some (.int .i64 0) := (blk_cell BK178.out 2).trans rfl
                have hcz58_3 : wc.cell? ⟨gb178, 3, none⟩ = some (.int .u32 0) := (blk_cell BK178.out 3).trans rfl
                have hcz58_4 : wc.cell? ⟨gb178, 4, none⟩ = some (.int .u32 0) := (blk_cell BK178.out 4).trans rfl
                have hcz58_5 : wc.cell? ⟨gb178, 5, none⟩ = some (.int .u32 0) := (blk_cell BK178.out 5).trans rfl
                have hfz58_0 := blk_frozen BK178.out 0
                have hfz58_1 := blk_frozen BK178.out 1
                have hfz58_2 := blk_frozen BK178.out 2
                have hfz58_3 := blk_frozen BK178.out 3
                have hfz58_4 := blk_frozen BK178.out 4
                have hfz58_5 := blk_frozen BK178.out 5
                go_wp2
                refine bodyPost_ret (results_cell_row rfl _ _ gb178 35 #[.int .u64 (IntKind.u64.wrap (t179)), .int .i64 (wrap64 (1 + t180)), .int .i64 (wrap64 (1 + t181)), .int .u32 ((a0_3) % 4294967296), .int .u32 ((a0_4) % 4294967296), .int .u32 0] (0, 0) _ rfl (by (with_reducible repeat (first | refine blk_drewN ?_ _ | refine blk_drew ?_ | refine blk_alloc ?_ _)); refine blk_put (cs := #[.int .u64 (IntKind.u64.wrap (t179)), .int .i64 (wrap64 (1 + t180)), .int .i64 (wrap64 (1 + t181)), .int .u32 ((a0_3) % 4294967296), .int .u32 ((a0_4) % 4294967296), .int .u32 0]) ?_ 5 _ rfl; (with_reducible repeat (first | refine blk_drewN ?_ _ | refine blk_drew ?_ | refine blk_alloc ?_ _)); refine blk_put (cs := #[.int .u64 (IntKind.u64.wrap (t179)), .int .i64 (wrap64 (1 + t180)), .int .i64 (wrap64 (1 + t181)), .int .u32 ((a0_3) % 4294967296), .int .u32 0, .int .u32 0]) ?_ 4 _ rfl; (with_reducible repeat (first | refine blk_drewN ?_ _ | refine blk_drew ?_ | refine blk_alloc ?_ _)); refine blk_put (cs := #[.int .u64 (IntKind.u64.wrap (t179)), .int .i64 (wrap64 (1 + t180)), .int .i64 (wrap64 (1 + t181)), .int .u32 0, .int .u32 0, .int .u32 0]) ?_ 3 _ rfl; (with_reducible repeat (first | refine blk_drewN ?_ _ | refine blk_drew ?_ | refine blk_alloc ?_ _)); refine blk_put (cs := #[.int .u64 (IntKind.u64.wrap (t179)), .int .i64 (wrap64 (1 + t180)), .int .i64 0, .int .u32 0, .int .u32 0, .int .u32 0]) ?_ 2 _ rfl; (with_reducible repeat (first | refine blk_drewN ?_ _ | refine blk_drew ?_ | refine blk_alloc ?_ _)); refine blk_put (cs := #[.int .u64 (IntKind.u64.wrap (t179)), .int .i64 0, .int .i64 0, .int .u32 0, .int .u32 0, .int .u32 0]) ?_ 1 _ rfl; (with_reducible repeat (first | refine blk_drewN ?_ _ | refine blk_drew ?_ | refine blk_alloc ?_ _)); refine blk_put (cs := #[.int .u64 0, .int .i64 0, .int .i64 0, .int .u32 0, .int .u32 0, .int .u32 0]) ?_ 0 _ rfl; (with_reducible repeat (first | refine blk_drewN ?_ _ | refine blk_drew ?_ | refine blk_alloc ?_ _)); refine blk_far ?_ NB178_182.out _; (with_reducible repeat (first | refine blk_drewN ?_ _ | refine blk_drew ?_ | refine blk_alloc ?_ _)); exact BK178.out) Tryz.underlying35 rfl (by kernel_rfl)) rfl ?_
                exact ⟨by first | rfl | (simp [errW_none, errW_some] <;> rfl) | (simp [*, errW_none, errW_some] <;> rfl), by repeat (first | (with_reducible first | exact HB.out | apply below_alloc | apply pw_below_drewN | apply below_drew1 | refine below_set ?_ GE177.out | refine below_set ?_ GE178.out | refine below_set ?_ GE182.out) | exact HB.out)⟩
              · rw [if_neg c52] at H
                have c52b0 : ((wrap64 (1 + t181)) == 7) = false := beq_eq_false_iff_ne.mpr c52
                have c52b1 : ((wrap64 (1 + t181)) != 7) = true := bne_iff_ne.mpr c52
                simp only [Option.some.injEq, Prod.mk.injEq] at H
                obtain ⟨rfl, rfl, rfl, rfl, rfl, rfl⟩ := H
                have hnb59 := NB182_177.out
                have hnc59 := NB177_182.out
                have hnb60 := NB182_178.out
                have hnc60 := NB178_182.out
                have hcz61_0 : wc.cell? ⟨gb182, 0, none⟩ = some (.int .u64 (IntKind.u64.wrap (t179))) := (blk_cell BK182.out 0).trans rfl
                have hcz61_1 : wc.cell? ⟨gb182, 1, none⟩ = some (.int .i64 (wrap64 (1 + t180))) := (blk_cell BK182.out 1).trans rfl
                have hcz61_2 : wc.cell? ⟨gb182, 2, none⟩ = some (.int .i64 (wrap64 (1 + t181))) := (blk_cell BK182.out 2).trans rfl
                have hcz61_3 : wc.cell? ⟨gb182, 3, none⟩ = some (.int .u32 ((a0_3) % 4294967296)) := (blk_cell BK182.out 3).trans rfl
                have hcz61_4 : wc.cell? ⟨gb182, 4, none⟩ = some (.int .u32 0) := (blk_cell BK182.out 4).trans rfl
                have hcz61_5 : wc.cell? ⟨gb182, 5, none⟩ = some (.int .u32 0) := (blk_cell BK182.out 5).trans rfl
                have hfz61_0 := blk_frozen BK182.out 0
                have hfz61_1 := blk_frozen BK182.out 1
                have hfz61_2 := blk_frozen BK182.out 2
                have hfz61_3 := blk_frozen BK182.out 3
                have hfz61_4 := blk_frozen BK182.out 4
                have hfz61_5 := blk_frozen BK182.out 5
                have hnb62 := NB178_177.out
                have hnc62 := NB177_178.out
                have hcz63_0 : wc.cell? ⟨gb178, 0, none⟩ = some (.int .u64 0) := (blk_cell BK178.out 0).trans rfl
                have hcz63_1 : wc.cell? ⟨gb178, 1, none⟩ = some (.int .i64 0) := (blk_cell BK178.out 1).trans rfl
                have hcz63_2 : wc.cell? ⟨gb178, 2, none⟩ = some (.int .i64 0) := (blk_cell BK178.out 2).trans rfl
                have hcz63_3 : wc.cell? ⟨gb178, 3, none⟩ = some (.int .u32 0) := (blk_cell BK178.out 3).trans rfl
                have hcz63_4 : wc.cell? ⟨gb178, 4, none⟩ = some (.int .u32 0) := (blk_cell BK178.out 4).trans rfl
                have hcz63_5 : wc.cell? ⟨gb178, 5, none⟩ = some (.int .u32 0) := (blk_cell BK178.out 5).trans rfl
                have hfz63_0 := blk_frozen BK178.out 0
                have hfz63_1 := blk_frozen BK178.out 1
                have hfz63_2 := blk_frozen BK178.out 2
                have hfz63_3 := blk_frozen BK178.out 3
                have hfz63_4 := blk_frozen BK178.out 4
                have hfz63_5 := blk_frozen BK178.out 5
                go_wp2
                refine bodyPost_ret (results_cell_row rfl _ _ gb178 35 #[.int .u64 (IntKind.u64.wrap (t179)), .int .i64 (wrap64 (1 + t180)), .int .i64 (wrap64 (1 + t181)), .int .u32 ((a0_3) % 4294967296), .int .u32 0, .int .u32 0] (0, 0) _ rfl (by (with_reducible repeat (first | refine blk_drewN ?_ _ | refine blk_drew ?_ | refine blk_alloc ?_ _)); refine blk_put (cs := #[.int .u64 (IntKind.u64.wrap (t179)), .int .i64 (wrap64 (1 + t180)), .int .i64 (wrap64 (1 + t181)), .int .u32 ((a0_3) % 4294967296), .int .u32 0, .int .u32 0]) ?_ 5 _ rfl; (with_reducible repeat (first | refine blk_drewN ?_ _ | refine blk_drew ?_ | refine blk_alloc ?_ _)); refine blk_put (cs := #[.int .u64 (IntKind.u64.wrap (t179)), .int .i64 (wrap64 (1 + t180)), .int .i64 (wrap64 (1 + t181)), .int .u32 ((a0_3) % 4294967296), .int .u32 0, .int .u32 0]) ?_ 4 _ rfl; (with_reducible repeat (first | refine blk_drewN ?_ _ | refine blk_drew ?_ | refine blk_alloc ?_ _)); refine blk_put (cs := #[.int .u64 (IntKind.u64.wrap (t179)), .int .i64 (wrap64 (1 + t180)), .int .i64 (wrap64 (1 + t181)), .int .u32 0, .int .u32 0, .int .u32 0]) ?_ 3 _ rfl; (with_reducible repeat (first | refine blk_drewN ?_ _ | refine blk_drew ?_ | refine blk_alloc ?_ _)); refine blk_put (cs := #[.int .u64 (IntKind.u64.wrap (t179)), .int .i64 (wrap64 (1 + t180)), .int .i64 0, .int .u32 0, .int .u32 0, .int .u32 0]) ?_ 2 _ rfl; (with_reducible repeat (first | refine blk_drewN ?_ _ | refine blk_drew ?_ | refine blk_alloc ?_ _)); refine blk_put (cs := #[.int .u64 (IntKind.u64.wrap (t179)), .int .i64 0, .int .i64 0, .int .u32 0, .int .u32 0, .int .u32 0]) ?_ 1 _ rfl; (with_reducible repeat (first | refine blk_drewN ?_ _ | refine blk_drew ?_ | refine blk_alloc ?_ _)); refine blk_put (cs := #[.int .u64 0, .int .i64 0, .int .i64 0, .int .u32 0, .int .u32 0, .int .u32 0]) ?_ 0 _ rfl; (with_reducible repeat (first | refine blk_drewN ?_ _ | refine blk_drew ?_ | refine blk_alloc ?_ _)); exact BK178.out) Tryz.underlying35 rfl (by kernel_rfl)) rfl ?_
                exact ⟨by first | rfl | (simp [errW_none, errW_some] <;> rfl) | (simp [*, errW_none, errW_some] <;> rfl), by repeat (first | (with_reducible first | exact HB.out | apply below_alloc | apply pw_below_drewN | apply below_drew1 | refine below_set ?_ GE177.out | refine below_set ?_ GE178.out | refine below_set ?_ GE182.out) | exact HB.out)⟩

end Go.Proofs.YtohighedgdlflaaGreatDoor.PR
