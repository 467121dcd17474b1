/- Texts of a proof that TraceReads holds, for every row of bytes, merged in order. -/
import Derived.Test.YtohighedgdlflaaGreatDoorTPRx2
import Derived.Test.YtohighedgdlflaaGreatDoorTPRx4
import Derived.Test.YtohighedgdlflaaGreatDoorTMR2
/- Which observations may be: the program's answer, and the document's, are mayB. -/
namespace Go.Proofs.YtohighedgdlflaaGreatDoor
open Go.RowKit Go.Proofs.YtohighedgdlflaaGreatDoorW.PrintWords Go.Proofs.YtohighedgdlflaaGreatDoor.PR
set_option linter.unusedVariables false
set_option linter.unusedSimpArgs false
/-- By its kind. -/
def kindB (k a b : Int) : Bool :=
  if k = 1 then true else if k = 2 then true else if k = 3 then decide (1 ≤ a) && decide (a ≤ 6) else if k = 4 then decide (a < 32) && (b == 0)
  else if k = 5 then decide (b ≤ 2147483647) else if k = 6 then (a == 0) && (b == 0) else if k = 7 then b == 0 else false
def mayB (o : S35) : Bool := decide (1 ≤ o.f1) && decide (o.f1 ≤ 8) && decide (o.f0 ≤ 9223372036854775807) && kindB o.f2 o.f4 o.f5
theorem may_f (o : S35) (k : Nat) : trace_may.f (k + 2) o.f0 o.f1 o.f2 o.f3 o.f4 o.f5 = some (mayB o) := by
  obtain ⟨t, c, q, p, a, b⟩ := o
  simp only [trace_may.f, trace_may.j0, trace_may.j1, mayB, kindB]
  by_cases h1 : c < 1
  · simp [h1, show ¬ 1 ≤ c by omega]
  · by_cases h2 : 8 < c
    · simp [h1, h2, show ¬ c ≤ 8 by omega]
    · by_cases h3 : 9223372036854775807 < t
      · simp [h1, h2, h3, show ¬ t ≤ 9223372036854775807 by omega]
      · have e1 : 1 ≤ c := by omega
        have e2 : c ≤ 8 := by omega
        have e3 : t ≤ 9223372036854775807 := by omega
        simp only [h1, h2, h3, e1, e2, e3, gt_iff_lt, if_false, decide_true, decide_false, Bool.and_true, Bool.true_and, Bool.false_eq_true]
        by_cases k1 : q = 1
        · simp [k1]
        · by_cases k2 : q = 2
          · simp [k2]
          · have b1 : (q == 1) = false := by simpa using k1
            have b2 : (q == 2) = false := by simpa using k2
            simp only [k1, k2, b2, if_false, Bool.false_eq_true]
            by_cases k3 : q = 3
            · simp only [k3, if_true]
              by_cases ha : 1 ≤ a
              · simp [ha, show a ≥ 1 from ha]
              · simp [ha]
            · by_cases k4 : q = 4
              · simp only [k4]
                by_cases ha : a < 32 <;> simp [ha]
              · by_cases k5 : q = 5
                · simp [k5]
                · by_cases k6 : q = 6
                  · simp only [k6]
                    by_cases ha : a = 0 <;> simp [ha]
                  · by_cases k7 : q = 7
                    · simp [k7]
                    · simp [k3, k4, k5, k6, k7]
theorem refMay_f (o : S35) (k : Nat) : cloisterref22_May.f (k + 2) o.f0 o.f1 o.f2 o.f3 o.f4 o.f5 = some (mayB o) := by
  obtain ⟨t, c, q, p, a, b⟩ := o
  simp only [cloisterref22_May.f, cloisterref22_May.j0, cloisterref22_May.j1, mayB, kindB]
  by_cases h1 : c < 1
  · simp [h1, show ¬ 1 ≤ c by omega]
  · by_cases h2 : 8 < c
    · simp [h1, h2, show ¬ c ≤ 8 by omega]
    · by_cases h3 : 9223372036854775807 < t
      · simp [h1, h2, h3, show ¬ t ≤ 9223372036854775807 by omega]
      · have e1 : 1 ≤ c := by omega
        have e2 : c ≤ 8 := by omega
        have e3 : t ≤ 9223372036854775807 := by omega
        simp only [h1, h2, h3, e1, e2, e3, gt_iff_lt, if_false, decide_true, decide_false, Bool.and_true, Bool.true_and, Bool.false_eq_true]
        by_cases k1 : q = 1
        · simp [k1]
        · by_cases k2 : q = 2
          · simp [k2]
          · have b1 : (q == 1) = false := by simpa using k1
            have b2 : (q == 2) = false := by simpa using k2
            simp only [k1, k2, b2, if_false, Bool.false_eq_true]
            by_cases k3 : q = 3
            · simp only [k3, if_true]
              by_cases ha : 1 ≤ a
              · simp [ha, show a ≥ 1 from ha]
              · simp [ha]
            · by_cases k4 : q = 4
              · simp only [k4]
                by_cases ha : a ≤ 31
                · simp [ha, show a < 32 by omega]
                · simp [ha, show ¬ a < 32 by omega]
              · by_cases k5 : q = 5
                · simp [k5]
                · by_cases k6 : q = 6
                  · simp only [k6]
                    by_cases ha : a = 0 <;> simp [ha]
                  · by_cases k7 : q = 7
                    · simp [k7]
                    · simp [k3, k4, k5, k6, k7]
theorem may_ok (o : S35) (w : World) : Calls Tryz.prog 33 #[.agg #[.int .u64 o.f0, .int .i64 o.f1, .int .i64 o.f2, .int .u32 o.f3, .int .u32 o.f4, .int .u32 o.f5]] w fun e w' => e = .returned (.bool (mayB o)) ∧ Below w.heap.size w w' :=
  trace_may.calls 2 _ _ _ _ _ _ _ w (may_f o 0)
theorem refMay_ok (o : S35) (w : World) : Calls Tryz.prog 40 #[.agg #[.int .u64 o.f0, .int .i64 o.f1, .int .i64 o.f2, .int .u32 o.f3, .int .u32 o.f4, .int .u32 o.f5]] w fun e w' => e = .returned (.bool (mayB o)) ∧ Below w.heap.size w w' :=
  cloisterref22_May.calls 2 _ _ _ _ _ _ _ w (refMay_f o 0)
end Go.Proofs.YtohighedgdlflaaGreatDoor

/- What the calls of package wire's Writer that a trace uses come to, where there is room. -/
namespace Go.Proofs.YtohighedgdlflaaGreatDoor
open Go.RowKit Go.Proofs.YtohighedgdlflaaGreatDoorW.PrintWords Go.Proofs.YtohighedgdlflaaGreatDoor.PR
set_option linter.unusedVariables false
set_option linter.unusedSimpArgs false
theorem size32 (w : World) : Calls Tryz.prog 120 #[] w fun e w' => e = .returned (.int .i64 4) ∧ w = w' := by
  have hb : bits .xor .u32 IntKind.u32.max 0 = 4294967295 := by kernel_rfl
  go_enter Tryz.func120, Tryz.ntmps120
  go_wp2
  refine wp_loop_rounds 5 ?_
  iterate 5 (rw [rounds_succ]; go_wp2)
  go_ret
  exact ⟨rfl, rfl⟩
theorem size64 (w : World) : Calls Tryz.prog 121 #[] w fun e w' => e = .returned (.int .i64 8) ∧ w = w' := by
  have hb : bits .xor .u64 IntKind.u64.max 0 = 18446744073709551615 := by kernel_rfl
  go_enter Tryz.func121, Tryz.ntmps121
  go_wp2
  refine wp_loop_rounds 9 ?_
  iterate 9 (rw [rounds_succ]; go_wp2)
  go_ret
  exact ⟨rfl, rfl⟩
theorem size8 (w : World) : Calls Tryz.prog 122 #[] w fun e w' => e = .returned (.int .i64 1) ∧ w = w' := by
  have hb : bits .xor .u8 IntKind.u8.max 0 = 255 := by kernel_rfl
  go_enter Tryz.func122, Tryz.ntmps122
  go_wp2
  refine wp_loop_rounds 2 ?_
  iterate 2 (rw [rounds_succ]; go_wp2)
  go_ret
  exact ⟨rfl, rfl⟩
/-- Writer at block g: limit, bytes so far, open map (empty), no error. -/
structure Wr (w : World) (base g : Nat) (lim : Int) (v : Value) (xs : List Int) : Prop where
  mk' ::
  base_g : base ≤ g
  cells : ∃ mb, w.heap[g]? = some (.cells #[.int .i64 lim, v, .map (some mb), .int .i64 0] 136 (0, 0)) ∧ w.heap[mb]? = some (.map #[] 0) ∧ base ≤ mb
  own : w.ownsRow base 5 1 v xs.length (nums .u8 xs)

theorem own_ne_cells {w : World} {base : Nat} {e t : TypeId} {size n g : Nat} {v : Value} {xs : List Value} {cs : Array Value} {fr : Nat × Nat} (h : w.ownsRow base e size v n xs) (hg : w.heap[g]? = some (.cells cs t fr)) (hne : e ≠ t) : some g ≠ v.ownBlock := by
  intro hk
  obtain ⟨cells, hc⟩ := own_typed h g hk.symm
  rw [hg] at hc
  injection hc with hc
  injection hc with _ hc
  exact hne hc.symm
theorem heap_lt {w : World} {g : Nat} {o : Obj} (h : w.heap[g]? = some o) : g < w.heap.size := (Array.getElem?_eq_some_iff.1 h).1
theorem Wr.below {w W : World} {base g : Nat} {lim : Int} {v : Value} {xs : List Int} (h : Wr w base g lim v xs) (hb : Below w.heap.size w W) : Wr W base g lim v xs := by
  obtain ⟨hbg, ⟨mb, hg, hm, hbm⟩, ho⟩ := h
  exact ⟨hbg, ⟨mb, (hb.block g (heap_lt hg)).trans hg, (hb.block mb (heap_lt hm)).trans hm, hbm⟩, pw_own_below ho hb⟩
/-- What a call on the writer has turned: its own block and its row's. -/
def Wk (w w' : World) (g : Nat) (v v' : Value) : Prop := KeepBut w w' g v.ownBlock ∧ ∀ k, v'.ownBlock = some k → v.ownBlock = some k ∨ w.heap.size ≤ k
theorem Wk.refl (w : World) (g : Nat) (v : Value) : Wk w w g v v := ⟨⟨Nat.le_refl _, fun _ _ _ _ => rfl⟩, fun _ h => .inl h⟩
theorem Wk.trans {w w1 w2 : World} {g : Nat} {v v1 v2 : Value} (h : Wk w w1 g v v1) (k : Wk w1 w2 g v1 v2) : Wk w w2 g v v2 := by
  refine ⟨⟨Nat.le_trans h.1.1 k.1.1, fun i hi hg hr => (k.1.2 i (Nat.lt_of_lt_of_le hi h.1.1) hg (fun e => ?_)).trans (h.1.2 i hi hg hr)⟩, fun i hi => ?_⟩
  · rcases h.2 i e.symm with h' | h'
    · exact hr h'.symm
    · omega
  · rcases k.2 i hi with h' | h'
    · exact h.2 i h'
    · exact .inr (Nat.le_trans h.1.1 h')
theorem Wk.below {w W : World} {g : Nat} {v : Value} (h : Below w.heap.size w W) : Wk w W g v v := ⟨⟨h.size, fun i hi _ _ => h.block i hi⟩, fun _ h => .inl h⟩
/-- A cell of another block. -/
theorem Wk.cell {w w' : World} {g : Nat} {v v' : Value} (h : Wk w w' g v v') {p : Addr} {u : Value} (hc : w.cell? p = some u) (hg : p.block ≠ g) (hr : some p.block ≠ v.ownBlock) : w'.cell? p = some u := by
  have := h.1.2 p.block (World.block_lt_of_cell? w p hc) hg hr
  rw [World.cell?_of_block (w := w) this]; exact hc
end Go.Proofs.YtohighedgdlflaaGreatDoor
