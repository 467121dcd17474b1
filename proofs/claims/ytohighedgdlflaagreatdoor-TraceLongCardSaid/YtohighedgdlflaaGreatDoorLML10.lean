/- The law TraceLong of package trace answers true, for every two numbers. -/
import Derived.Test.YtohighedgdlflaaGreatDoorLML9
import Derived.Test.YtohighedgdlflaaGreatDoorLML4
import Derived.Test.YtohighedgdlflaaGreatDoorLML2
/- trace.line reads the words of an observation that may be. -/
namespace Go.Proofs.YtohighedgdlflaaGreatDoor
open Go.Proofs.YtohighedgdlflaaGreatDoorW.PrintLast Go.Shelf Go.RowKit Go.Sort Go.Lib Go.Proofs.YtohighedgdlflaaGreatDoorW.PrintWords Go.Proofs.YtohighedgdlflaaGreatDoor.PR
set_option linter.unusedVariables false
set_option linter.unusedSimpArgs false
theorem step_b {B : Nat} {w1 X Y : World} (hS : Hid (Below B w1 X)) (hB : B ≤ w1.heap.size) (hb : Below X.heap.size X Y) : Hid (Below B w1 Y) :=
  hS.out.trans (hb.mono (Nat.le_trans hB hS.out.size))
theorem set6b {B O : Nat} {w1 X : World} {v0 v1 v2 v3 v4 v5 : Value} (hS : Below B w1 X) (hO : B ≤ O) : Below B w1 ((((((X.setCell ⟨O, 0, none⟩ v0).setCell ⟨O, 1, none⟩ v1).setCell ⟨O, 2, none⟩ v2).setCell ⟨O, 3, none⟩ v3).setCell ⟨O, 4, none⟩ v4).setCell ⟨O, 5, none⟩ v5) :=
  (((((hS.setCell hO _).setCell hO _).setCell hO _).setCell hO _).setCell hO _).setCell hO _
theorem zero_cells {W : World} {O : Nat} (h : W.heap[O]? = some (.cells #[.int .u64 0, .int .i64 0, .int .i64 0, .int .u32 0, .int .u32 0, .int .u32 0] 35 (0, 0))) : W.cell? ⟨O, 0, none⟩ = some (.int .u64 0) ∧ W.cell? ⟨O, 1, none⟩ = some (.int .i64 0) ∧ W.cell? ⟨O, 2, none⟩ = some (.int .i64 0) ∧ W.cell? ⟨O, 3, none⟩ = some (.int .u32 0) ∧ W.cell? ⟨O, 4, none⟩ = some (.int .u32 0) ∧ W.cell? ⟨O, 5, none⟩ = some (.int .u32 0) := by
  refine ⟨?_, ?_, ?_, ?_, ?_, ?_⟩ <;> simp [World.cell?, h]
theorem zero_frozen {W : World} {O : Nat} (h : W.heap[O]? = some (.cells #[.int .u64 0, .int .i64 0, .int .i64 0, .int .u32 0, .int .u32 0, .int .u32 0] 35 (0, 0))) (j : Nat) : W.frozen? ⟨O, j, none⟩ = false := by
  simp [World.frozen?, h]
theorem zero_sets {W : World} {O : Nat} (h : W.heap[O]? = some (.cells #[.int .u64 0, .int .i64 0, .int .i64 0, .int .u32 0, .int .u32 0, .int .u32 0] 35 (0, 0))) (v0 v1 v2 v3 v4 : Value) :
    (W.setCell ⟨O, 0, none⟩ v0).cell? ⟨O, 1, none⟩ = some (.int .i64 0) ∧
    ((W.setCell ⟨O, 0, none⟩ v0).setCell ⟨O, 1, none⟩ v1).cell? ⟨O, 2, none⟩ = some (.int .i64 0) ∧
    (((W.setCell ⟨O, 0, none⟩ v0).setCell ⟨O, 1, none⟩ v1).setCell ⟨O, 2, none⟩ v2).cell? ⟨O, 3, none⟩ = some (.int .u32 0) ∧
    ((((W.setCell ⟨O, 0, none⟩ v0).setCell ⟨O, 1, none⟩ v1).setCell ⟨O, 2, none⟩ v2).setCell ⟨O, 3, none⟩ v3).cell? ⟨O, 4, none⟩ = some (.int .u32 0) ∧
    (((((W.setCell ⟨O, 0, none⟩ v0).setCell ⟨O, 1, none⟩ v1).setCell ⟨O, 2, none⟩ v2).setCell ⟨O, 3, none⟩ v3).setCell ⟨O, 4, none⟩ v4).cell? ⟨O, 5, none⟩ = some (.int .u32 0) := by
  obtain ⟨z0, z1, z2, z3, z4, z5⟩ := zero_cells h
  refine ⟨?_, ?_, ?_, ?_, ?_⟩
  · rw [World.cell?_setCell_other _ _ _ _ (by simp)]; exact z1
  · rw [World.cell?_setCell_other _ _ _ _ (by simp), World.cell?_setCell_other _ _ _ _ (by simp)]; exact z2
  · rw [World.cell?_setCell_other _ _ _ _ (by simp), World.cell?_setCell_other _ _ _ _ (by simp), World.cell?_setCell_other _ _ _ _ (by simp)]; exact z3
  · rw [World.cell?_setCell_other _ _ _ _ (by simp), World.cell?_setCell_other _ _ _ _ (by simp), World.cell?_setCell_other _ _ _ _ (by simp), World.cell?_setCell_other _ _ _ _ (by simp)]; exact z4
  · rw [World.cell?_setCell_other _ _ _ _ (by simp), World.cell?_setCell_other _ _ _ _ (by simp), World.cell?_setCell_other _ _ _ _ (by simp), World.cell?_setCell_other _ _ _ _ (by simp), World.cell?_setCell_other _ _ _ _ (by simp)]; exact z5
theorem zero_setsf {W : World} {O : Nat} (h : W.heap[O]? = some (.cells #[.int .u64 0, .int .i64 0, .int .i64 0, .int .u32 0, .int .u32 0, .int .u32 0] 35 (0, 0))) (v0 v1 v2 v3 v4 : Value) :
    (W.setCell ⟨O, 0, none⟩ v0).frozen? ⟨O, 1, none⟩ = false ∧
    ((W.setCell ⟨O, 0, none⟩ v0).setCell ⟨O, 1, none⟩ v1).frozen? ⟨O, 2, none⟩ = false ∧
    (((W.setCell ⟨O, 0, none⟩ v0).setCell ⟨O, 1, none⟩ v1).setCell ⟨O, 2, none⟩ v2).frozen? ⟨O, 3, none⟩ = false ∧
    ((((W.setCell ⟨O, 0, none⟩ v0).setCell ⟨O, 1, none⟩ v1).setCell ⟨O, 2, none⟩ v2).setCell ⟨O, 3, none⟩ v3).frozen? ⟨O, 4, none⟩ = false ∧
    (((((W.setCell ⟨O, 0, none⟩ v0).setCell ⟨O, 1, none⟩ v1).setCell ⟨O, 2, none⟩ v2).setCell ⟨O, 3, none⟩ v3).setCell ⟨O, 4, none⟩ v4).frozen? ⟨O, 5, none⟩ = false := by
  refine ⟨?_, ?_, ?_, ?_, ?_⟩ <;> simp only [World.frozen?_setCell] <;> exact zero_frozen h _
theorem frm_words {w : World} {n : Nat} (h : Frm w n) (q : Nat) (hq1 : 1 ≤ q) (hq : q ≤ 7) : w.cell? ⟨n + 2, q * 4 + 2, none⟩ = some (.int .i64 (nWords q)) := by
  rcases (show q = 1 ∨ q = 2 ∨ q = 3 ∨ q = 4 ∨ q = 5 ∨ q = 6 ∨ q = 7 by omega) with h1 | h1 | h1 | h1 | h1 | h1 | h1 <;> subst h1 <;> simp only [World.cell?, h.tab] <;> rfl
theorem set6_ob {W : World} {O : Nat} {o0 o1 o2 o3 o4 o5 : Value} (h : W.heap[O]? = some (.cells #[o0, o1, o2, o3, o4, o5] 35 (0, 0))) (v0 v1 v2 v3 v4 v5 : Value) :
    ((((((W.setCell ⟨O, 0, none⟩ v0).setCell ⟨O, 1, none⟩ v1).setCell ⟨O, 2, none⟩ v2).setCell ⟨O, 3, none⟩ v3).setCell ⟨O, 4, none⟩ v4).setCell ⟨O, 5, none⟩ v5).heap[O]? = some (.cells #[v0, v1, v2, v3, v4, v5] 35 (0, 0)) := by
  have step : ∀ (X : World) (cs : Array Value) (j : Nat) (v : Value), X.heap[O]? = some (.cells cs 35 (0, 0)) → (X.setCell ⟨O, j, none⟩ v).heap[O]? = some (.cells (cs.setIfInBounds j v) 35 (0, 0)) := by
    intro X cs j v hx
    exact heap_setCell_same _ _ _ _ _ _ hx
  have h0 := step _ _ 0 v0 h
  have h1 := step _ _ 1 v1 h0
  have h2 := step _ _ 2 v2 h1
  have h3 := step _ _ 3 v3 h2
  have h4 := step _ _ 4 v4 h3
  exact step _ _ 5 v5 h4
theorem frm_row2 {w : World} {n : Nat} (h : Frm w n) (q : Nat) (hq1 : 1 ≤ q) (hq : q ≤ 7) : ∃ (mr : Nat) (fvr : Array Value), w.cell? ⟨n + 2, q * 4 + 3, none⟩ = some (.func (.func mr) #[] fvr) ∧ (formCells (n + 1))[q * 4 + 3]? = some (.func (.func mr) #[] fvr) := by
  rcases (show q = 1 ∨ q = 2 ∨ q = 3 ∨ q = 4 ∨ q = 5 ∨ q = 6 ∨ q = 7 by omega) with h1 | h1 | h1 | h1 | h1 | h1 | h1 <;> subst h1 <;> exact ⟨_, _, by simp only [World.cell?, h.tab]; rfl, rfl⟩
theorem renter_any {n q mw : Nat} {fvw : Array Value} (hq1 : 1 ≤ q) (hq7 : q ≤ 7) (h : (formCells (n + 1))[q * 4 + 3]? = some (.func (.func mw) #[] fvw)) : ∀ args w, (callFunc mw args).run Tryz.prog w = .ok (.enter mw args) w := by
  rcases (show q = 1 ∨ q = 2 ∨ q = 3 ∨ q = 4 ∨ q = 5 ∨ q = 6 ∨ q = 7 by omega) with h1 | h1 | h1 | h1 | h1 | h1 | h1 <;> subst h1
  · obtain ⟨rfl, rfl⟩ := fn_inv (m := 71) (f := #[]) h; exact enters_of Tryz.func71 (by kernel_rfl) rfl
  · obtain ⟨rfl, rfl⟩ := fn_inv (m := 71) (f := #[]) h; exact enters_of Tryz.func71 (by kernel_rfl) rfl
  · obtain ⟨rfl, rfl⟩ := fn_inv (m := 73) (f := #[.pointer (some ⟨n + 1, 0, none⟩)]) h; exact enters_of Tryz.func73 (by kernel_rfl) rfl
  · obtain ⟨rfl, rfl⟩ := fn_inv (m := 78) (f := #[]) h; exact enters_of Tryz.func78 (by kernel_rfl) rfl
  · obtain ⟨rfl, rfl⟩ := fn_inv (m := 81) (f := #[]) h; exact enters_of Tryz.func81 (by kernel_rfl) rfl
  · obtain ⟨rfl, rfl⟩ := fn_inv (m := 83) (f := #[]) h; exact enters_of Tryz.func83 (by kernel_rfl) rfl
  · obtain ⟨rfl, rfl⟩ := fn_inv (m := 85) (f := #[]) h; exact enters_of Tryz.func85 (by kernel_rfl) rfl
/-- What the table's reader gives. -/
theorem read_any {W : World} {n q mr : Nat} {fvr : Array Value} (hF : Frm W n) {O t cl p a b g c : Nat} {A : Option Addr} (hG : GoodN t cl q p a b) (h : (formCells (n + 1))[q * 4 + 3]? = some (.func (.func mr) #[] fvr)) (hA : nWords q ≠ 0 → A = some ⟨g, 4, none⟩) (hO : ObN W O t cl q p 0 0) (hw : ∀ (j : Nat) x, (wordsN t cl q p a b)[j]? = some x → W.cell? ⟨g, j, none⟩ = some (.string x)) :
    Calls Tryz.prog mr (#[.pointer (some ⟨O, 0, none⟩), .slice A (nWords q) c] ++ fvr) W (RdR W O t cl q p a b) := by
  have h4 := hw 4
  have h5 := hw 5
  obtain ⟨g1, g2, g3, hq1, hq7, g6, g7, g8, k3, k4, k6, k7, k5⟩ := hG
  rcases (show q = 1 ∨ q = 2 ∨ q = 3 ∨ q = 4 ∨ q = 5 ∨ q = 6 ∨ q = 7 by omega) with h1 | h1 | h1 | h1 | h1 | h1 | h1 <;> subst h1
  · obtain ⟨rfl, rfl⟩ := fn_inv (m := 71) (f := #[]) h
    rw [hA (by decide)]
    exact r71_ok O t cl 1 p a b g c W g7 g8 hO (h4 _ rfl) (h5 _ rfl)
  · obtain ⟨rfl, rfl⟩ := fn_inv (m := 71) (f := #[]) h
    rw [hA (by decide)]
    exact r71_ok O t cl 2 p a b g c W g7 g8 hO (h4 _ rfl) (h5 _ rfl)
  · obtain ⟨rfl, rfl⟩ := fn_inv (m := 73) (f := #[.pointer (some ⟨n + 1, 0, none⟩)]) h
    rw [hA (by decide)]
    exact r73_ok O t cl 3 p a b g c n W (k3 rfl).1 (k3 rfl).2 g8 hF hO (h4 _ rfl) (h5 _ rfl)
  · obtain ⟨rfl, rfl⟩ := fn_inv (m := 78) (f := #[]) h
    obtain ⟨ka, rfl⟩ := k4 rfl
    rw [hA (by decide)]
    exact r78_ok O t cl 4 p a g c W ka hO (h4 _ rfl)
  · obtain ⟨rfl, rfl⟩ := fn_inv (m := 81) (f := #[]) h
    rw [hA (by decide)]
    exact r81_ok O t cl 5 p a b g c W g7 g8 hO (h4 _ rfl)
  · obtain ⟨rfl, rfl⟩ := fn_inv (m := 83) (f := #[]) h
    obtain ⟨rfl, rfl⟩ := k6 rfl
    exact r83_ok O t cl 6 p _ W hO
  · obtain ⟨rfl, rfl⟩ := fn_inv (m := 85) (f := #[]) h
    obtain rfl := k7 rfl
    rw [hA (by decide)]
    exact r85_ok O t cl 7 p a g c W g7 hO (h4 _ rfl)
set_option maxRecDepth 100000 in
set_option maxHeartbeats 8000000 in
theorem line_ok (n g c t cl q p a b : Nat) (w : World) (hG : GoodN t cl q p a b) (hF : Frm w n) (hg : g < w.heap.size) (hc : 4 + nWords q ≤ c) (hw : ∀ (j : Nat) x, (wordsN t cl q p a b)[j]? = some x → w.cell? ⟨g, j, none⟩ = some (.string x)) :
    Calls Tryz.prog 68 #[.slice (some ⟨n + 2, 0, none⟩) 8 8, .slice (some ⟨g, 0, none⟩) (4 + nWords q) c] w fun e w' => e = .returned (.agg #[.int .u64 t, .int .i64 cl, .int .i64 q, .int .u32 p, .int .u32 a, .int .u32 b]) ∧ Below w.heap.size w w' := by
  have HF := Lib.hid hF
  have HW := Lib.hid hw
  have HG := Lib.hid hG
  clear hF hw
  obtain ⟨m, hm⟩ : ∃ m, m = nWords q := ⟨_, rfl⟩
  rw [← hm] at hc ⊢
  have hm2 : m ≤ 2 := by rw [hm]; unfold nWords; split <;> (try split) <;> omega
  have Hm := Lib.hid hm
  clear hm
  have hm4 : (4 : Int) ≤ 4 + (m : Int) := by omega
  go_enter Tryz.func68, Tryz.ntmps68
  go_wp2_with fail
  obtain ⟨hq1, hq7⟩ := And.intro hG.q1 hG.q7
  have hcell : Hid (∀ W, Below (w.heap.size + 2) ((w.alloc (.cells #[.slice (some ⟨g, 0, none⟩) (4 + m) c] 78)).alloc (.cells #[.int .u64 0, .int .i64 0, .int .i64 0, .int .u32 0, .int .u32 0, .int .u32 0] 35)) W → (W.cell? ⟨w.heap.size, 0, none⟩ = some (.slice (some ⟨g, 0, none⟩) (4 + m) c) ∧ W.cell? ⟨g, 0, none⟩ = some (.string (decS t)) ∧ W.cell? ⟨g, 1, none⟩ = some (.string (decS cl)) ∧ W.cell? ⟨g, 2, none⟩ = some (.string (kindS.getD q ByteArray.empty)) ∧ W.cell? ⟨g, 3, none⟩ = some (.string (hexS p))) ∧ Frm W n ∧ Below w.heap.size w W) := by
    intro W hW
    have hA : Below w.heap.size w ((w.alloc (.cells #[.slice (some ⟨g, 0, none⟩) (4 + m) c] 78)).alloc (.cells #[.int .u64 0, .int .i64 0, .int .i64 0, .int .u32 0, .int .u32 0, .int .u32 0] 35)) := below_alloc (below_alloc (Below.refl _ _) _) _
    have hB : Below w.heap.size w W := hA.trans (hW.mono (by omega))
    refine ⟨⟨?_, ?_, ?_, ?_, ?_⟩, HF.out.below hB, hB⟩
    · rw [hW.cell (by simp)]
      rw [World.cell?_alloc_old _ _ _ (by simp)]
      simp [World.cell?_alloc_new]
    · rw [hB.cell hg]; exact HW.out 0 _ rfl
    · rw [hB.cell hg]; exact HW.out 1 _ rfl
    · rw [hB.cell hg]; exact HW.out 2 _ rfl
    · rw [hB.cell hg]; exact HW.out 3 _ rfl
  have hR0 : Hid (((w.alloc (.cells #[.slice (some ⟨g, 0, none⟩) (4 + m) c] 78)).alloc (.cells #[.int .u64 0, .int .i64 0, .int .i64 0, .int .u32 0, .int .u32 0, .int .u32 0] 35)).heap[w.heap.size + 1]? = some (.cells #[.int .u64 0, .int .i64 0, .int .i64 0, .int .u32 0, .int .u32 0, .int .u32 0] 35 (0, 0))) := by
    have := blk_new (w.alloc (.cells #[.slice (some ⟨g, 0, none⟩) (4 + m) c] 78)) (.cells #[.int .u64 0, .int .i64 0, .int .i64 0, .int .u32 0, .int .u32 0, .int .u32 0] 35 (0, 0))
    rwa [World.size_alloc] at this
  obtain ⟨W0, hW0⟩ : ∃ W0, W0 = ((w.alloc (.cells #[.slice (some ⟨g, 0, none⟩) (4 + m) c] 78)).alloc (.cells #[.int .u64 0, .int .i64 0, .int .i64 0, .int .u32 0, .int .u32 0, .int .u32 0] 35)) := ⟨_, rfl⟩
  have hz0 : W0.heap.size = w.heap.size + 2 := by rw [hW0]; simp
  rw [← hW0] at hcell hR0 ⊢
  clear hW0
  refine (must_ok _).mono ?_
  rintro e w1 ⟨rfl, rfl⟩
  go_wp2_with fail
  obtain ⟨⟨cw, c0, c1, c2, c3⟩, hfr, _⟩ := hcell.out _ (Below.refl _ _)
  refine (idxForm_ok n q w.heap.size g (4 + m) c _ hfr hq1 hq7 (by omega) cw c2).mono ?_
  clear cw c0 c1 c2 c3 hfr
  rintro e w2 ⟨rfl, hb2⟩
  have HB2 := Lib.hid hb2
  clear hb2
  obtain ⟨⟨cw, c0, c1, c2, c3⟩, hfr, _⟩ := hcell.out _ (HB2.out.mono (Nat.le_of_eq hz0.symm))
  have cn := frm_words hfr q hq1 hq7
  rw [← Hm.out] at cn
  have hqI : (0 : Int) < q ∧ (q : Int) < 8 := by omega
  have hdq : decide ((0 : Int) < q) = true := decide_eq_true hqI.1
  have hdq' : decide (0 < q) = true := decide_eq_true hq1
  clear hfr
  go_wp2_with fail
  go_quiet ((go_at_call 75; with_reducible exact Calls.quiet_of_same (must_ok _)))
  clear cn hdq hdq'
  go_wp2_with fail
  have HS : Hid (∀ W, Below (w.heap.size + 2) w1 W → (W.cell? ⟨w.heap.size, 0, none⟩ = some (.slice (some ⟨g, 0, none⟩) (4 + m) c) ∧ W.cell? ⟨g, 0, none⟩ = some (.string (decS t)) ∧ W.cell? ⟨g, 1, none⟩ = some (.string (decS cl)) ∧ W.cell? ⟨g, 2, none⟩ = some (.string (kindS.getD q ByteArray.empty)) ∧ W.cell? ⟨g, 3, none⟩ = some (.string (hexS p)) ∧ Hid (Below (w.heap.size + 2) w1 W))) := fun W hW => by
    obtain ⟨⟨cw, c0, c1, c2, c3⟩, _⟩ := hcell.out _ hW
    exact ⟨cw, c0, c1, c2, c3, hW⟩
  have HB0 : Hid (Below (w.heap.size + 2) w1 (w2.drewN nq)) := pw_below_drewN (HB2.out.mono (Nat.le_of_eq hz0.symm)) nq
  have hz2 : w.heap.size + 2 ≤ (w2.drewN nq).heap.size := by have := HB0.out.size; omega
  obtain ⟨W2, hW2⟩ : ∃ W2, W2 = w2.drewN nq := ⟨_, rfl⟩
  rw [← hW2] at HB0 hz2 ⊢
  clear hW2 cw c0 c1 c2 c3 HB2
  have u1 : t < 18446744073709551616 := by have := hG.t63; omega
  have u2 : cl < 18446744073709551616 := by have := hG.cl8; omega
  have u3 : t ≤ 9223372036854775807 := hG.t63
  have u4 : cl ≤ 8 := hG.cl8
  have u5 : p < 4294967296 := hG.p32
  have clI : (0 : Int) ≤ cl ∧ (cl : Int) ≤ 8 := by omega
  have b0 : (0 : Int) < 4 + (m : Int) := by omega
  have b1 : (1 : Int) < 4 + (m : Int) := by omega
  have b3 : (3 : Int) < 4 + (m : Int) := by omega
  have hd1 : ∀ W, Calls Tryz.prog 79 #[.string (decS t), .int .u64 9223372036854775807] W fun e w' => e = .returned (.int .u64 t) ∧ Below W.heap.size W w' := fun W => decimal_ok t 9223372036854775807 u1 u3 W
  have hd2 : ∀ W, Calls Tryz.prog 79 #[.string (decS cl), .int .u64 8] W fun e w' => e = .returned (.int .u64 cl) ∧ Below W.heap.size W w' := fun W => decimal_ok cl 8 u2 u4 W
  have hz1 : w.heap.size + 2 ≤ w1.heap.size := Nat.le_of_eq hz0.symm
  have HBc : Hid (Below (w.heap.size + 2) w1 W2.drew) := below_drew HB0.out
  clear HB0
  refine start_ (n := 17) (S := fun w' => w'.cell? ⟨w.heap.size, 0, none⟩ = some (.slice (some ⟨g, 0, none⟩) (4 + m) c) ∧ w'.cell? ⟨g, 0, none⟩ = some (.string (decS t)) ∧ w'.cell? ⟨g, 1, none⟩ = some (.string (decS cl)) ∧ w'.cell? ⟨g, 3, none⟩ = some (.string (hexS p))) (ds := [16]) #[false, false, false, false, false, false, false, false, false, false, false, false, false, false, false, false, false] (by kernel_rfl) rfl rfl ⟨(HS.out _ HBc.out).1, (HS.out _ HBc.out).2.1, (HS.out _ HBc.out).2.2.1, (HS.out _ HBc.out).2.2.2.2.1⟩ (fun hHeld => ?_)
  generalize W2.drew = W3 at HBc hHeld ⊢
  refine pure_ (i := 9) (N := some 37) (v := ?_) (a' := ?_) #[false, false, false, false, false, false, false, false, false, true, false, false, false, false, false, false, false] rfl rfl (by kernel_rfl) (fun _ _ _ h => h) (Or.inl ⟨by rfl, ?_⟩) ?_ ?_
  rotate_left
  · intro w'
    go_simp
    with_reducible rfl
  rotate_left
  · simp only [Act.put, List.setIfInBounds_toArray, List.set_cons_zero, List.set_cons_succ, i64_w, i32_w]
    rfl
  refine take_ (i := 0) (N := some 28) (v := ?_) (a' := ?_) #[true, false, false, false, false, false, false, false, false, true, false, false, false, false, false, false, false] rfl rfl (by kernel_rfl) (fun _ _ _ h => h) (Or.inl ⟨by rfl, ?_⟩) hHeld ?_ ?_
  rotate_left
  · rintro w' ⟨s0, s1, s2, s3⟩
    go_simp
    with_reducible rfl
  rotate_left
  · simp only [Act.put, List.setIfInBounds_toArray, List.set_cons_zero, List.set_cons_succ, i64_w, i32_w]
    rfl
  refine pure_ (i := 1) (N := some 29) (v := ?_) (a' := ?_) #[true, true, false, false, false, false, false, false, false, true, false, false, false, false, false, false, false] rfl rfl (by kernel_rfl) (fun _ _ _ h => h) (Or.inl ⟨by rfl, ?_⟩) ?_ ?_
  rotate_left
  · intro w'
    go_simp
    with_reducible rfl
  rotate_left
  · simp only [Act.put, List.setIfInBounds_toArray, List.set_cons_zero, List.set_cons_succ, i64_w, i32_w]
    rfl
  refine take_ (i := 2) (N := some 30) (v := ?_) (a' := ?_) #[true, true, true, false, false, false, false, false, false, true, false, false, false, false, false, false, false] rfl rfl (by kernel_rfl) (fun _ _ _ h => h) (Or.inl ⟨by rfl, ?_⟩) hHeld ?_ ?_
  rotate_left
  · rintro w' ⟨s0, s1, s2, s3⟩
    go_simp
    with_reducible rfl
  rotate_left
  · simp only [Act.put, List.setIfInBounds_toArray, List.set_cons_zero, List.set_cons_succ, i64_w, i32_w]
    rfl
  refine take_ (i := 4) (N := some 32) (v := ?_) (a' := ?_) #[true, true, true, false, true, false, false, false, false, true, false, false, false, false, false, false, false] rfl rfl (by kernel_rfl) (fun _ _ _ h => h) (Or.inl ⟨by rfl, ?_⟩) hHeld ?_ ?_
  rotate_left
  · rintro w' ⟨s0, s1, s2, s3⟩
    go_simp
    with_reducible rfl
  rotate_left
  · simp only [Act.put, List.setIfInBounds_toArray, List.set_cons_zero, List.set_cons_succ, i64_w, i32_w]
    rfl
  refine pure_ (i := 5) (N := some 33) (v := ?_) (a' := ?_) #[true, true, true, false, true, true, false, false, false, true, false, false, false, false, false, false, false] rfl rfl (by kernel_rfl) (fun _ _ _ h => h) (Or.inl ⟨by rfl, ?_⟩) ?_ ?_
  rotate_left
  · intro w'
    go_simp
    with_reducible rfl
  rotate_left
  · simp only [Act.put, List.setIfInBounds_toArray, List.set_cons_zero, List.set_cons_succ, i64_w, i32_w]
    rfl
  refine take_ (i := 6) (N := some 34) (v := ?_) (a' := ?_) #[true, true, true, false, true, true, true, false, false, true, false, false, false, false, false, false, false] rfl rfl (by kernel_rfl) (fun _ _ _ h => h) (Or.inl ⟨by rfl, ?_⟩) hHeld ?_ ?_
  rotate_left
  · rintro w' ⟨s0, s1, s2, s3⟩
    go_simp
    with_reducible rfl
  rotate_left
  · simp only [Act.put, List.setIfInBounds_toArray, List.set_cons_zero, List.set_cons_succ, i64_w, i32_w]
    rfl
  refine take_ (i := 10) (N := some 38) (v := ?_) (a' := ?_) #[true, true, true, false, true, true, true, false, false, true, true, false, false, false, false, false, false] rfl rfl (by kernel_rfl) (fun _ _ _ h => h) (Or.inl ⟨by rfl, ?_⟩) hHeld ?_ ?_
  rotate_left
  · rintro w' ⟨s0, s1, s2, s3⟩
    go_simp
    with_reducible rfl
  rotate_left
  · simp only [Act.put, List.setIfInBounds_toArray, List.set_cons_zero, List.set_cons_succ, i64_w, i32_w]
    rfl
  refine pure_ (i := 11) (N := some 39) (v := ?_) (a' := ?_) #[true, true, true, false, true, true, true, false, false, true, true, true, false, false, false, false, false] rfl rfl (by kernel_rfl) (fun _ _ _ h => h) (Or.inl ⟨by rfl, ?_⟩) ?_ ?_
  rotate_left
  · intro w'
    go_simp
    with_reducible rfl
  rotate_left
  · simp only [Act.put, List.setIfInBounds_toArray, List.set_cons_zero, List.set_cons_succ, i64_w, i32_w]
    rfl
  refine take_ (i := 12) (N := some 40) (v := ?_) (a' := ?_) #[true, true, true, false, true, true, true, false, false, true, true, true, true, false, false, false, false] rfl rfl (by kernel_rfl) (fun _ _ _ h => h) (Or.inl ⟨by rfl, ?_⟩) hHeld ?_ ?_
  rotate_left
  · rintro w' ⟨s0, s1, s2, s3⟩
    go_simp
    with_reducible rfl
  rotate_left
  · simp only [Act.put, List.setIfInBounds_toArray, List.set_cons_zero, List.set_cons_succ, i64_w, i32_w]
    rfl
  refine join_ (σ := Nat) 1 #[true, true, true, true, true, true, true, true, true, true, true, true, true, true, true, true, false] (fun O => [(31, .int .u64 t), (35, .int .u64 cl), (36, .int .i64 (wrap64 cl)), (41, .int .u32 p), (42, .agg #[.int .u64 t, .int .i64 (wrap64 cl), .int .i64 q, .int .u32 p, .int .u32 0, .int .u32 0]), (6, .pointer (some ⟨O, 0, none⟩))]) (fun O w' => w.heap.size + 2 ≤ O ∧ w'.heap[O]? = some (.cells #[.int .u64 0, .int .i64 0, .int .i64 0, .int .u32 0, .int .u32 0, .int .u32 0] 35 (0, 0)) ∧ Below (w.heap.size + 2) w1 w') ?_ ?_
  rotate_left
  · intro hCont
    refine two_ (i := 3) (j := 15) (Ni := some 31) (Nj := some 6) #[true, true, true, true, true, true, true, false, false, true, true, true, true, false, false, false, false] #[true, true, true, false, true, true, true, false, false, true, true, true, true, false, false, true, false] rfl rfl rfl rfl (by kernel_rfl) (by decide) (by decide) (fun K hK => ?_) (fun K hK => ?_)
    · skip
      refine goes_ Tryz.func79 (by kernel_rfl) rfl #[.string (decS t), .int .u64 9223372036854775807] (by rfl) rfl rfl (by simp only [List.map_toArray, List.map_cons, List.map_nil]; rfl) ?_
      with_reducible refine (hd1 _).mono ?_
      rintro e w5 ⟨rfl, hb⟩
      refine ⟨_, rfl, ?_⟩
      replace HBc := step_b HBc hz1 hb
      clear hb
      refine hK.out _ _ ⟨(HS.out _ HBc.out).1, (HS.out _ HBc.out).2.1, (HS.out _ HBc.out).2.2.1, (HS.out _ HBc.out).2.2.2.2.1⟩ (fun hHeld => ?_)
      clear hK K
      refine norm_ (a' := ?_) ?_ ?_
      rotate_left
      · show Act.put _ (some 31) _ = _
        simp only [Act.put, List.setIfInBounds_toArray, List.set_cons_zero, List.set_cons_succ, i64_w, i32_w]
        rfl
      refine two_ (i := 7) (j := 15) (Ni := some 35) (Nj := some 6) #[true, true, true, true, true, true, true, true, false, true, true, true, true, false, false, false, false] #[true, true, true, true, true, true, true, false, false, true, true, true, true, false, false, true, false] rfl rfl rfl rfl (by kernel_rfl) (by decide) (by decide) (fun K hK => ?_) (fun K hK => ?_)
      · skip
        refine goes_ Tryz.func79 (by kernel_rfl) rfl #[.string (decS cl), .int .u64 8] (by rfl) rfl rfl (by simp only [List.map_toArray, List.map_cons, List.map_nil]; rfl) ?_
        with_reducible refine (hd2 _).mono ?_
        rintro e w6 ⟨rfl, hb⟩
        refine ⟨_, rfl, ?_⟩
        replace HBc := step_b HBc hz1 hb
        clear hb
        refine hK.out _ _ ⟨(HS.out _ HBc.out).1, (HS.out _ HBc.out).2.1, (HS.out _ HBc.out).2.2.1, (HS.out _ HBc.out).2.2.2.2.1⟩ (fun hHeld => ?_)
        clear hK K
        refine norm_ (a' := ?_) ?_ ?_
        rotate_left
        · show Act.put _ (some 35) _ = _
          simp only [Act.put, List.setIfInBounds_toArray, List.set_cons_zero, List.set_cons_succ, i64_w, i32_w]
          rfl
        refine pure_ (i := 8) (N := some 36) (v := ?_) (a' := ?_) #[true, true, true, true, true, true, true, true, true, true, true, true, true, false, false, false, false] rfl rfl (by kernel_rfl) (fun _ _ _ h => h) (Or.inl ⟨by rfl, ?_⟩) ?_ ?_
        rotate_left
        · intro w'
          go_simp
          with_reducible rfl
        rotate_left
        · simp only [Act.put, List.setIfInBounds_toArray, List.set_cons_zero, List.set_cons_succ, i64_w, i32_w]
          rfl
        refine two_ (i := 13) (j := 15) (Ni := some 41) (Nj := some 6) #[true, true, true, true, true, true, true, true, true, true, true, true, true, true, false, false, false] #[true, true, true, true, true, true, true, true, true, true, true, true, true, false, false, true, false] rfl rfl rfl rfl (by kernel_rfl) (by decide) (by decide) (fun K hK => ?_) (fun K hK => ?_)
        · skip
          refine goes_ Tryz.func76 (by kernel_rfl) rfl #[.string (hexS p)] (by rfl) rfl rfl (by simp only [List.map_toArray, List.map_cons, List.map_nil]; rfl) ?_
          with_reducible refine (unhex_ok p u5 _).mono ?_
          rintro e w7 ⟨rfl, hb⟩
          refine ⟨_, rfl, ?_⟩
          replace HBc := step_b HBc hz1 hb
          clear hb
          refine hK.out _ _ ⟨(HS.out _ HBc.out).1, (HS.out _ HBc.out).2.1, (HS.out _ HBc.out).2.2.1, (HS.out _ HBc.out).2.2.2.2.1⟩ (fun hHeld => ?_)
          clear hK K
          refine norm_ (a' := ?_) ?_ ?_
          rotate_left
          · show Act.put _ (some 41) _ = _
            simp only [Act.put, List.setIfInBounds_toArray, List.set_cons_zero, List.set_cons_succ, i64_w, i32_w]
            rfl
          refine pure_ (i := 14) (N := some 42) (v := ?_) (a' := ?_) #[true, true, true, true, true, true, true, true, true, true, true, true, true, true, true, false, false] rfl rfl (by kernel_rfl) (fun _ _ _ h => h) (Or.inl ⟨by rfl, ?_⟩) ?_ ?_
          rotate_left
          · intro w'
            go_simp
            with_reducible rfl
          rotate_left
          · simp only [Act.put, List.setIfInBounds_toArray, List.set_cons_zero, List.set_cons_succ, i64_w, i32_w]
            rfl
          refine one_ (i := 15) (N := some 6) #[true, true, true, true, true, true, true, true, true, true, true, true, true, true, true, true, false] rfl rfl (by kernel_rfl) (by decide) (fun K hK => ?_)
          refine value_ (w1 := ?_) (v := ?_) (by rfl) rfl ?_ ?_
          rotate_left 2
          · go_simp
            constructor
            · rfl
            · rfl
          have hO : w.heap.size + 2 ≤ w7.heap.size := Nat.le_trans hz1 HBc.out.size
          have HZ := Lib.hid (blk_new w7 (.cells #[.int .u64 0, .int .i64 0, .int .i64 0, .int .u32 0, .int .u32 0, .int .u32 0] 35 (0, 0)))
          replace HBc := Lib.hid (HBc.out.alloc hO (.cells #[.int .u64 0, .int .i64 0, .int .i64 0, .int .u32 0, .int .u32 0, .int .u32 0] 35))
          refine hK.out _ _ ⟨(HS.out _ HBc.out).1, (HS.out _ HBc.out).2.1, (HS.out _ HBc.out).2.2.1, (HS.out _ HBc.out).2.2.2.2.1⟩ (fun hHeld => ?_)
          clear hK K
          refine norm_ (a' := ?_) ?_ ?_
          rotate_left
          · show Act.put _ (some 6) _ = _
            simp only [Act.put, List.setIfInBounds_toArray, List.set_cons_zero, List.set_cons_succ, i64_w, i32_w]
            rfl
          exact norm_ (by simp only [putAll, Act.put, List.setIfInBounds_toArray, List.set_cons_zero, List.set_cons_succ]) (hCont w7.heap.size _ ⟨hO, HZ.out, HBc.out⟩)
        · skip
          refine value_ (w1 := ?_) (v := ?_) (by rfl) rfl ?_ ?_
          rotate_left 2
          · go_simp
            constructor
            · rfl
            · rfl
          have hO : w.heap.size + 2 ≤ w6.heap.size := Nat.le_trans hz1 HBc.out.size
          have HZ := Lib.hid (blk_new w6 (.cells #[.int .u64 0, .int .i64 0, .int .i64 0, .int .u32 0, .int .u32 0, .int .u32 0] 35 (0, 0)))
          replace HBc := Lib.hid (HBc.out.alloc hO (.cells #[.int .u64 0, .int .i64 0, .int .i64 0, .int .u32 0, .int .u32 0, .int .u32 0] 35))
          refine hK.out _ _ ⟨(HS.out _ HBc.out).1, (HS.out _ HBc.out).2.1, (HS.out _ HBc.out).2.2.1, (HS.out _ HBc.out).2.2.2.2.1⟩ (fun hHeld => ?_)
          clear hK K
          refine norm_ (a' := ?_) ?_ ?_
          rotate_left
          · show Act.put _ (some 6) _ = _
            simp only [Act.put, List.setIfInBounds_toArray, List.set_cons_zero, List.set_cons_succ, i64_w, i32_w]
            rfl
          refine one_ (i := 13) (N := some 41) #[true, true, true, true, true, true, true, true, true, true, true, true, true, true, false, true, false] rfl rfl (by kernel_rfl) (by decide) (fun K hK => ?_)
          refine goes_ Tryz.func76 (by kernel_rfl) rfl #[.string (hexS p)] (by rfl) rfl rfl (by simp only [List.map_toArray, List.map_cons, List.map_nil]; rfl) ?_
          with_reducible refine (unhex_ok p u5 _).mono ?_
          rintro e w7 ⟨rfl, hb⟩
          refine ⟨_, rfl, ?_⟩
          replace HZ := Lib.hid ((hb.block _ (heap_lt' HZ.out)).trans HZ.out)
          replace HBc := step_b HBc hz1 hb
          clear hb
          refine hK.out _ _ ⟨(HS.out _ HBc.out).1, (HS.out _ HBc.out).2.1, (HS.out _ HBc.out).2.2.1, (HS.out _ HBc.out).2.2.2.2.1⟩ (fun hHeld => ?_)
          clear hK K
          refine norm_ (a' := ?_) ?_ ?_
          rotate_left
          · show Act.put _ (some 41) _ = _
            simp only [Act.put, List.setIfInBounds_toArray, List.set_cons_zero, List.set_cons_succ, i64_w, i32_w]
            rfl
          refine pure_ (i := 14) (N := some 42) (v := ?_) (a' := ?_) #[true, true, true, true, true, true, true, true, true, true, true, true, true, true, true, true, false] rfl rfl (by kernel_rfl) (fun _ _ _ h => h) (Or.inl ⟨by rfl, ?_⟩) ?_ ?_
          rotate_left
          · intro w'
            go_simp
            with_reducible rfl
          rotate_left
          · simp only [Act.put, List.setIfInBounds_toArray, List.set_cons_zero, List.set_cons_succ, i64_w, i32_w]
            rfl
          exact norm_ (by simp only [putAll, Act.put, List.setIfInBounds_toArray, List.set_cons_zero, List.set_cons_succ]) (hCont w6.heap.size _ ⟨hO, HZ.out, HBc.out⟩)
      · skip
        refine value_ (w1 := ?_) (v := ?_) (by rfl) rfl ?_ ?_
        rotate_left 2
        · go_simp
          constructor
          · rfl
          · rfl
        have hO : w.heap.size + 2 ≤ w5.heap.size := Nat.le_trans hz1 HBc.out.size
        have HZ := Lib.hid (blk_new w5 (.cells #[.int .u64 0, .int .i64 0, .int .i64 0, .int .u32 0, .int .u32 0, .int .u32 0] 35 (0, 0)))
        replace HBc := Lib.hid (HBc.out.alloc hO (.cells #[.int .u64 0, .int .i64 0, .int .i64 0, .int .u32 0, .int .u32 0, .int .u32 0] 35))
        refine hK.out _ _ ⟨(HS.out _ HBc.out).1, (HS.out _ HBc.out).2.1, (HS.out _ HBc.out).2.2.1, (HS.out _ HBc.out).2.2.2.2.1⟩ (fun hHeld => ?_)
        clear hK K
        refine norm_ (a' := ?_) ?_ ?_
        rotate_left
        · show Act.put _ (some 6) _ = _
          simp only [Act.put, List.setIfInBounds_toArray, List.set_cons_zero, List.set_cons_succ, i64_w, i32_w]
          rfl
        refine one_ (i := 7) (N := some 35) #[true, true, true, true, true, true, true, true, false, true, true, true, true, false, false, true, false] rfl rfl (by kernel_rfl) (by decide) (fun K hK => ?_)
        refine goes_ Tryz.func79 (by kernel_rfl) rfl #[.string (decS cl), .int .u64 8] (by rfl) rfl rfl (by simp only [List.map_toArray, List.map_cons, List.map_nil]; rfl) ?_
        with_reducible refine (hd2 _).mono ?_
        rintro e w6 ⟨rfl, hb⟩
        refine ⟨_, rfl, ?_⟩
        replace HZ := Lib.hid ((hb.block _ (heap_lt' HZ.out)).trans HZ.out)
        replace HBc := step_b HBc hz1 hb
        clear hb
        refine hK.out _ _ ⟨(HS.out _ HBc.out).1, (HS.out _ HBc.out).2.1, (HS.out _ HBc.out).2.2.1, (HS.out _ HBc.out).2.2.2.2.1⟩ (fun hHeld => ?_)
        clear hK K
        refine norm_ (a' := ?_) ?_ ?_
        rotate_left
        · show Act.put _ (some 35) _ = _
          simp only [Act.put, List.setIfInBounds_toArray, List.set_cons_zero, List.set_cons_succ, i64_w, i32_w]
          rfl
        refine pure_ (i := 8) (N := some 36) (v := ?_) (a' := ?_) #[true, true, true, true, true, true, true, true, true, true, true, true, true, false, false, true, false] rfl rfl (by kernel_rfl) (fun _ _ _ h => h) (Or.inl ⟨by rfl, ?_⟩) ?_ ?_
        rotate_left
        · intro w'
          go_simp
          with_reducible rfl
        rotate_left
        · simp only [Act.put, List.setIfInBounds_toArray, List.set_cons_zero, List.set_cons_succ, i64_w, i32_w]
          rfl
        refine one_ (i := 13) (N := some 41) #[true, true, true, true, true, true, true, true, true, true, true, true, true, true, false, true, false] rfl rfl (by kernel_rfl) (by decide) (fun K hK => ?_)
        refine goes_ Tryz.func76 (by kernel_rfl) rfl #[.string (hexS p)] (by rfl) rfl rfl (by simp only [List.map_toArray, List.map_cons, List.map_nil]; rfl) ?_
        with_reducible refine (unhex_ok p u5 _).mono ?_
        rintro e w7 ⟨rfl, hb⟩
        refine ⟨_, rfl, ?_⟩
        replace HZ := Lib.hid ((hb.block _ (heap_lt' HZ.out)).trans HZ.out)
        replace HBc := step_b HBc hz1 hb
        clear hb
        refine hK.out _ _ ⟨(HS.out _ HBc.out).1, (HS.out _ HBc.out).2.1, (HS.out _ HBc.out).2.2.1, (HS.out _ HBc.out).2.2.2.2.1⟩ (fun hHeld => ?_)
        clear hK K
        refine norm_ (a' := ?_) ?_ ?_
        rotate_left
        · show Act.put _ (some 41) _ = _
          simp only [Act.put, List.setIfInBounds_toArray, List.set_cons_zero, List.set_cons_succ, i64_w, i32_w]
          rfl
        refine pure_ (i := 14) (N := some 42) (v := ?_) (a' := ?_) #[true, true, true, true, true, true, true, true, true, true, true, true, true, true, true, true, false] rfl rfl (by kernel_rfl) (fun _ _ _ h => h) (Or.inl ⟨by rfl, ?_⟩) ?_ ?_
        rotate_left
        · intro w'
          go_simp
          with_reducible rfl
        rotate_left
        · simp only [Act.put, List.setIfInBounds_toArray, List.set_cons_zero, List.set_cons_succ, i64_w, i32_w]
          rfl
        exact norm_ (by simp only [putAll, Act.put, List.setIfInBounds_toArray, List.set_cons_zero, List.set_cons_succ]) (hCont w5.heap.size _ ⟨hO, HZ.out, HBc.out⟩)
    · skip
      refine value_ (w1 := ?_) (v := ?_) (by rfl) rfl ?_ ?_
      rotate_left 2
      · go_simp
        constructor
        · rfl
        · rfl
      have hO : w.heap.size + 2 ≤ W3.heap.size := Nat.le_trans hz1 HBc.out.size
      have HZ := Lib.hid (blk_new W3 (.cells #[.int .u64 0, .int .i64 0, .int .i64 0, .int .u32 0, .int .u32 0, .int .u32 0] 35 (0, 0)))
      replace HBc := Lib.hid (HBc.out.alloc hO (.cells #[.int .u64 0, .int .i64 0, .int .i64 0, .int .u32 0, .int .u32 0, .int .u32 0] 35))
      refine hK.out _ _ ⟨(HS.out _ HBc.out).1, (HS.out _ HBc.out).2.1, (HS.out _ HBc.out).2.2.1, (HS.out _ HBc.out).2.2.2.2.1⟩ (fun hHeld => ?_)
      clear hK K
      refine norm_ (a' := ?_) ?_ ?_
      rotate_left
      · show Act.put _ (some 6) _ = _
        simp only [Act.put, List.setIfInBounds_toArray, List.set_cons_zero, List.set_cons_succ, i64_w, i32_w]
        rfl
      refine one_ (i := 3) (N := some 31) #[true, true, true, true, true, true, true, false, false, true, true, true, true, false, false, true, false] rfl rfl (by kernel_rfl) (by decide) (fun K hK => ?_)
      refine goes_ Tryz.func79 (by kernel_rfl) rfl #[.string (decS t), .int .u64 9223372036854775807] (by rfl) rfl rfl (by simp only [List.map_toArray, List.map_cons, List.map_nil]; rfl) ?_
      with_reducible refine (hd1 _).mono ?_
      rintro e w5 ⟨rfl, hb⟩
      refine ⟨_, rfl, ?_⟩
      replace HZ := Lib.hid ((hb.block _ (heap_lt' HZ.out)).trans HZ.out)
      replace HBc := step_b HBc hz1 hb
      clear hb
      refine hK.out _ _ ⟨(HS.out _ HBc.out).1, (HS.out _ HBc.out).2.1, (HS.out _ HBc.out).2.2.1, (HS.out _ HBc.out).2.2.2.2.1⟩ (fun hHeld => ?_)
      clear hK K
      refine norm_ (a' := ?_) ?_ ?_
      rotate_left
      · show Act.put _ (some 31) _ = _
        simp only [Act.put, List.setIfInBounds_toArray, List.set_cons_zero, List.set_cons_succ, i64_w, i32_w]
        rfl
      refine one_ (i := 7) (N := some 35) #[true, true, true, true, true, true, true, true, false, true, true, true, true, false, false, true, false] rfl rfl (by kernel_rfl) (by decide) (fun K hK => ?_)
      refine goes_ Tryz.func79 (by kernel_rfl) rfl #[.string (decS cl), .int .u64 8] (by rfl) rfl rfl (by simp only [List.map_toArray, List.map_cons, List.map_nil]; rfl) ?_
      with_reducible refine (hd2 _).mono ?_
      rintro e w6 ⟨rfl, hb⟩
      refine ⟨_, rfl, ?_⟩
      replace HZ := Lib.hid ((hb.block _ (heap_lt' HZ.out)).trans HZ.out)
      replace HBc := step_b HBc hz1 hb
      clear hb
      refine hK.out _ _ ⟨(HS.out _ HBc.out).1, (HS.out _ HBc.out).2.1, (HS.out _ HBc.out).2.2.1, (HS.out _ HBc.out).2.2.2.2.1⟩ (fun hHeld => ?_)
      clear hK K
      refine norm_ (a' := ?_) ?_ ?_
      rotate_left
      · show Act.put _ (some 35) _ = _
        simp only [Act.put, List.setIfInBounds_toArray, List.set_cons_zero, List.set_cons_succ, i64_w, i32_w]
        rfl
      refine pure_ (i := 8) (N := some 36) (v := ?_) (a' := ?_) #[true, true, true, true, true, true, true, true, true, true, true, true, true, false, false, true, false] rfl rfl (by kernel_rfl) (fun _ _ _ h => h) (Or.inl ⟨by rfl, ?_⟩) ?_ ?_
      rotate_left
      · intro w'
        go_simp
        with_reducible rfl
      rotate_left
      · simp only [Act.put, List.setIfInBounds_toArray, List.set_cons_zero, List.set_cons_succ, i64_w, i32_w]
        rfl
      refine one_ (i := 13) (N := some 41) #[true, true, true, true, true, true, true, true, true, true, true, true, true, true, false, true, false] rfl rfl (by kernel_rfl) (by decide) (fun K hK => ?_)
      refine goes_ Tryz.func76 (by kernel_rfl) rfl #[.string (hexS p)] (by rfl) rfl rfl (by simp only [List.map_toArray, List.map_cons, List.map_nil]; rfl) ?_
      with_reducible refine (unhex_ok p u5 _).mono ?_
      rintro e w7 ⟨rfl, hb⟩
      refine ⟨_, rfl, ?_⟩
      replace HZ := Lib.hid ((hb.block _ (heap_lt' HZ.out)).trans HZ.out)
      replace HBc := step_b HBc hz1 hb
      clear hb
      refine hK.out _ _ ⟨(HS.out _ HBc.out).1, (HS.out _ HBc.out).2.1, (HS.out _ HBc.out).2.2.1, (HS.out _ HBc.out).2.2.2.2.1⟩ (fun hHeld => ?_)
      clear hK K
      refine norm_ (a' := ?_) ?_ ?_
      rotate_left
      · show Act.put _ (some 41) _ = _
        simp only [Act.put, List.setIfInBounds_toArray, List.set_cons_zero, List.set_cons_succ, i64_w, i32_w]
        rfl
      refine pure_ (i := 14) (N := some 42) (v := ?_) (a' := ?_) #[true, true, true, true, true, true, true, true, true, true, true, true, true, true, true, true, false] rfl rfl (by kernel_rfl) (fun _ _ _ h => h) (Or.inl ⟨by rfl, ?_⟩) ?_ ?_
      rotate_left
      · intro w'
        go_simp
        with_reducible rfl
      rotate_left
      · simp only [Act.put, List.setIfInBounds_toArray, List.set_cons_zero, List.set_cons_succ, i64_w, i32_w]
        rfl
      exact norm_ (by simp only [putAll, Act.put, List.setIfInBounds_toArray, List.set_cons_zero, List.set_cons_succ]) (hCont W3.heap.size _ ⟨hO, HZ.out, HBc.out⟩)
  rintro O w8 ⟨hO, hZ, hBc⟩
  clear HBc
  have HZ := Lib.hid hZ
  have HBc := Lib.hid hBc
  have hHeld := And.intro (HS.out _ HBc.out).1 (And.intro (HS.out _ HBc.out).2.1 (And.intro (HS.out _ HBc.out).2.2.1 (HS.out _ HBc.out).2.2.2.2.1))
  obtain ⟨z0, z1, z2, z3, z4, z5⟩ := zero_cells HZ.out; obtain ⟨y1, y2, y3, y4, y5⟩ := zero_sets HZ.out (.int .u64 t) (.int .i64 (wrap64 cl)) (.int .i64 q) (.int .u32 p) (.int .u32 0); obtain ⟨x1, x2, x3, x4, x5⟩ := zero_setsf HZ.out (.int .u64 t) (.int .i64 (wrap64 cl)) (.int .i64 q) (.int .u32 p) (.int .u32 0); have zf0 := zero_frozen HZ.out 0; have zf1 := zero_frozen HZ.out 1; have zf2 := zero_frozen HZ.out 2; have zf3 := zero_frozen HZ.out 3; have zf4 := zero_frozen HZ.out 4; have zf5 := zero_frozen HZ.out 5
  refine norm_ (a' := ?_) ?_ ?_
  rotate_left
  · simp only [putAll, Act.put, List.setIfInBounds_toArray, List.set_cons_zero, List.set_cons_succ]
    rfl
  refine last_ (i := 16) (N := none) #[true, true, true, true, true, true, true, true, true, true, true, true, true, true, true, true, true] rfl rfl (by kernel_rfl) (by decide) (fun K hK => ?_)
  refine skip_ (w1 := ?_) (by rfl) rfl ?_ ?_
  rotate_left
  · go_simp
    rfl
  refine hK.out _ _ ?_
  clear hK K
  refine done_ (by kernel_rfl) ?_
  have hwc64 : wrap64 (cl : Int) = (cl : Int) := by unfold wrap64; omega
  obtain ⟨wc, hwc⟩ : ∃ wc, wc = ((((((w8.setCell ⟨O, 0, none⟩ (.int .u64 t)).setCell ⟨O, 1, none⟩ (.int .i64 (wrap64 cl))).setCell ⟨O, 2, none⟩ (.int .i64 q)).setCell ⟨O, 3, none⟩ (.int .u32 p)).setCell ⟨O, 4, none⟩ (.int .u32 0)).setCell ⟨O, 5, none⟩ (.int .u32 0)) := ⟨_, rfl⟩
  have HBd : Hid (Below (w.heap.size + 2) w1 wc) := by
    show Below (w.heap.size + 2) w1 wc
    rw [hwc]; exact set6b HBc.out hO
  have HOd : Hid (ObN wc O t cl q p 0 0) := by
    show ObN wc O t cl q p 0 0
    rw [hwc, hwc64]; exact set6_ob HZ.out _ _ _ _ _ _
  rw [← hwc]
  clear hwc z0 z1 z2 z3 z4 z5 y1 y2 y3 y4 y5 x1 x2 x3 x4 x5 zf0 zf1 zf2 zf3 zf4 zf5 HZ hHeld HBc hd1 hd2
  obtain ⟨_, hfrd, hBw⟩ := hcell.out _ HBd.out
  obtain ⟨mr, fvr, hmr, hmr2⟩ := frm_row2 hfrd q hq1 hq7
  have hent : ∀ args w, (callFunc mr args).run Tryz.prog w = .ok (.enter mr args) w := renter_any hq1 hq7 hmr2
  have HBd5 : Hid (wc.drew.cell? ⟨n + 2, q * 4 + 3, none⟩ = some (.func (.func mr) #[] fvr) ∧ wc.drew.cell? ⟨w.heap.size, 0, none⟩ = some (.slice (some ⟨g, 0, none⟩) (4 + m) c)) := ⟨hmr, (HS.out _ HBd.out).1⟩
  have hrd : Hid (∀ W, Below (w.heap.size + 2) w1 W → ObN W O t cl q p 0 0 → Calls Tryz.prog mr (#[.pointer (some ⟨O, 0, none⟩), .slice (if c = 4 then some ⟨g, 0, none⟩ else some ⟨g, 4, none⟩) m (c - 4)] ++ fvr) W (RdR W O t cl q p a b)) := by
    intro W hW hO'
    obtain ⟨_, hf, hBw'⟩ := hcell.out _ hW
    rw [Hm.out]
    exact read_any hf HG.out hmr2 (fun h => by rw [if_neg]; have := Hm.out; omega) hO' (fun j x hx => by rw [hBw'.cell hg]; exact HW.out j x hx)
  replace HBd : Hid (Below (w.heap.size + 2) w1 wc.drew) := below_drew HBd.out
  replace HOd : Hid (ObN wc.drew O t cl q p 0 0) := HOd.out
  go_wp2_with fail
  refine start_ (n := 8) (S := fun w' => w'.cell? ⟨n + 2, q * 4 + 3, none⟩ = some (.func (.func mr) #[] fvr) ∧ w'.cell? ⟨w.heap.size, 0, none⟩ = some (.slice (some ⟨g, 0, none⟩) (4 + m) c)) (ds := [7]) #[false, false, false, false, false, false, false, false] (by kernel_rfl) rfl rfl ⟨HBd5.out.1, HBd5.out.2⟩ (fun hHeld => ?_)
  generalize wc.drew = W5 at HBd HOd hHeld ⊢
  refine pure_ (i := 0) (N := some 43) (v := ?_) (a' := ?_) #[true, false, false, false, false, false, false, false] rfl rfl (by kernel_rfl) (fun _ _ _ h => h) (Or.inl ⟨by rfl, ?_⟩) ?_ ?_
  rotate_left
  · intro w'
    go_simp
    with_reducible rfl
  rotate_left
  · simp only [Act.put, List.setIfInBounds_toArray, List.set_cons_zero, List.set_cons_succ, i64_w, i32_w]
    rfl
  refine pure_ (i := 1) (N := some 44) (v := ?_) (a' := ?_) #[true, true, false, false, false, false, false, false] rfl rfl (by kernel_rfl) (fun _ _ _ h => h) (Or.inl ⟨by rfl, ?_⟩) ?_ ?_
  rotate_left
  · intro w'
    go_simp
    with_reducible rfl
  rotate_left
  · simp only [Act.put, List.setIfInBounds_toArray, List.set_cons_zero, List.set_cons_succ, i64_w, i32_w]
    rfl
  refine pure_ (i := 2) (N := some 45) (v := ?_) (a' := ?_) #[true, true, true, false, false, false, false, false] rfl rfl (by kernel_rfl) (fun _ _ _ h => h) (Or.inl ⟨by rfl, ?_⟩) ?_ ?_
  rotate_left
  · intro w'
    go_simp
    with_reducible rfl
  rotate_left
  · simp only [Act.put, List.setIfInBounds_toArray, List.set_cons_zero, List.set_cons_succ, i64_w, i32_w]
    rfl
  refine pure_ (i := 3) (N := some 46) (v := ?_) (a' := ?_) #[true, true, true, true, false, false, false, false] rfl rfl (by kernel_rfl) (fun _ _ _ h => h) (Or.inl ⟨by rfl, ?_⟩) ?_ ?_
  rotate_left
  · intro w'
    go_simp
    with_reducible rfl
  rotate_left
  · simp only [Act.put, List.setIfInBounds_toArray, List.set_cons_zero, List.set_cons_succ, i64_w, i32_w]
    rfl
  refine take_ (i := 4) (N := some 47) (v := ?_) (a' := ?_) #[true, true, true, true, true, false, false, false] rfl rfl (by kernel_rfl) (fun _ _ _ h => h) (Or.inl ⟨by rfl, ?_⟩) hHeld ?_ ?_
  rotate_left
  · rintro w' ⟨s0, s1⟩
    go_simp
    with_reducible rfl
  rotate_left
  · simp only [Act.put, List.setIfInBounds_toArray, List.set_cons_zero, List.set_cons_succ, i64_w, i32_w]
    rfl
  refine take_ (i := 5) (N := some 48) (v := ?_) (a' := ?_) #[true, true, true, true, true, true, false, false] rfl rfl (by kernel_rfl) (fun _ _ _ h => h) (Or.inl ⟨by rfl, ?_⟩) hHeld ?_ ?_
  rotate_left
  · rintro w' ⟨s0, s1⟩
    go_simp
    with_reducible rfl
  rotate_left
  · simp only [Act.put, List.setIfInBounds_toArray, List.set_cons_zero, List.set_cons_succ, i64_w, i32_w]
    rfl
  refine pure_ (i := 6) (N := some 49) (v := ?_) (a' := ?_) #[true, true, true, true, true, true, true, false] rfl rfl (by kernel_rfl) (fun _ _ _ h => h) (Or.inl ⟨by rfl, ?_⟩) ?_ ?_
  rotate_left
  · intro w'
    go_simp
    with_reducible rfl
  rotate_left
  · simp only [Act.put, List.setIfInBounds_toArray, List.set_cons_zero, List.set_cons_succ, i64_w, i32_w]
    rfl
  refine last_ (i := 7) (N := some 50) #[true, true, true, true, true, true, true, true] rfl rfl (by kernel_rfl) (by decide) (fun K hK => ?_)
  refine call_ mr (#[.pointer (some ⟨O, 0, none⟩), .slice (if c = 4 then some ⟨g, 0, none⟩ else some ⟨g, 4, none⟩) m (c - 4)] ++ fvr) (by rfl) rfl ?_ ?_
  · go_simp
  refine (hrd.out _ HBd.out HOd.out).mono ?_
  rintro e w10 ⟨rfl, ho, hb⟩
  refine ⟨_, rfl, ?_⟩
  refine hK.out _ _ ?_
  clear hK K
  refine norm_ (a' := ?_) ?_ ?_
  rotate_left
  · show Act.put _ (some 50) _ = _
    simp only [Act.put, List.setIfInBounds_toArray, List.set_cons_zero, List.set_cons_succ, i64_w, i32_w]
    rfl
  refine done_ (by kernel_rfl) ?_
  have HB10 : Hid (Below (w.heap.size + 2) w1 w10) := HBd.out.trans (hb.mono hO)
  have HO10 := Lib.hid ho
  clear hb ho HOd HBd hHeld HBd5 hrd hent hmr hmr2 hBw hfrd HS
  obtain ⟨c0, c1, c2, c3, c4, c5⟩ := HO10.out.cells
  generalize (if c = 4 then (some ⟨g, 0, none⟩ : Option Addr) else some ⟨g, 4, none⟩) = AA
  go_wp2_with fail
  refine (may_ok (obN t cl q p a b) _).mono ?_
  rintro e w11 ⟨rfl, hb⟩
  rw [HG.out.may]
  clear c0 c1 c2 c3 c4 c5
  have HO11 := Lib.hid (HO10.out.below hb)
  have HB11 := step_b HB10 hz1 hb
  clear hb HO10 HB10
  go_wp2_with fail
  refine (must_ok _).mono ?_
  rintro e w12 ⟨rfl, rfl⟩
  obtain ⟨c0, c1, c2, c3, c4, c5⟩ := HO11.out.cells
  have hR12 : w12.heap[w.heap.size + 1]? = some (.cells #[.int .u64 0, .int .i64 0, .int .i64 0, .int .u32 0, .int .u32 0, .int .u32 0] 35 (0, 0)) := (HB11.out.block _ (by omega)).trans hR0.out
  have HR12 := Lib.hid hR12
  obtain ⟨z0, z1, z2, z3, z4, z5⟩ := zero_cells hR12
  obtain ⟨y1, y2, y3, y4, y5⟩ := zero_sets hR12 (.int .u64 t) (.int .i64 cl) (.int .i64 q) (.int .u32 p) (.int .u32 a)
  obtain ⟨x1, x2, x3, x4, x5⟩ := zero_setsf hR12 (.int .u64 t) (.int .i64 cl) (.int .i64 q) (.int .u32 p) (.int .u32 a)
  have zf0 := zero_frozen hR12 0
  clear hR12
  go_wp2_with fail
  have hfin := set6_ob HR12.out (.int .u64 t) (.int .i64 cl) (.int .i64 q) (.int .u32 p) (.int .u32 a) (.int .u32 b)
  obtain ⟨e0, e1, e2, e3, e4, e5⟩ := ObN.cells (O := w.heap.size + 1) (t := t) (cl := cl) (q := q) (p := p) (a := a) (b := b) hfin
  obtain ⟨_, _, hBw12⟩ := hcell.out _ HB11.out
  have HBf := set6b (v0 := .int .u64 t) (v1 := .int .i64 cl) (v2 := .int .i64 q) (v3 := .int .u32 p) (v4 := .int .u32 a) (v5 := .int .u32 b) (O := w.heap.size + 1) hBw12 (by omega)
  generalize ((((((w12.setCell ⟨w.heap.size + 1, 0, none⟩ (.int .u64 t)).setCell ⟨w.heap.size + 1, 1, none⟩ (.int .i64 cl)).setCell ⟨w.heap.size + 1, 2, none⟩ (.int .i64 q)).setCell ⟨w.heap.size + 1, 3, none⟩ (.int .u32 p)).setCell ⟨w.heap.size + 1, 4, none⟩ (.int .u32 a)).setCell ⟨w.heap.size + 1, 5, none⟩ (.int .u32 b)) = WF at e0 e1 e2 e3 e4 e5 HBf ⊢
  clear c0 c1 c2 c3 c4 c5 z0 z1 z2 z3 z4 z5 y1 y2 y3 y4 y5 x1 x2 x3 x4 x5 zf0 hfin
  refine bodyPost_ret (v := .agg #[.int .u64 t, .int .i64 cl, .int .i64 q, .int .u32 p, .int .u32 a, .int .u32 b]) ?_ rfl ⟨rfl, HBf⟩
  simp [results, show Tryz.f68.results = #[.cell 4 35] from rfl, go_sem, e0, e1, e2, e3, e4, e5]
end Go.Proofs.YtohighedgdlflaaGreatDoor
