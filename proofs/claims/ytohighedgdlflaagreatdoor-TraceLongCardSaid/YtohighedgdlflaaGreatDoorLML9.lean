/- The law TraceLong of package trace answers true, for every two numbers. -/
import Derived.Test.YtohighedgdlflaaGreatDoorLML8
/- slices.IndexFunc over trace.forms: the row of a kind's word. -/
namespace Go.Proofs.YtohighedgdlflaaGreatDoor
open Go.Shelf Go.RowKit Go.Sort Go.Lib Go.Proofs.YtohighedgdlflaaGreatDoorW.PrintWords Go.Proofs.YtohighedgdlflaaGreatDoor.PR
set_option linter.unusedVariables false
set_option linter.unusedSimpArgs false
set_option maxRecDepth 100000 in
set_option maxHeartbeats 2000000 in
theorem p108_0 (Wb g m c : Nat) (w : World) (hs : w.cell? ⟨Wb, 0, none⟩ = some (.slice (some ⟨g, 0, none⟩) m c)) :
    Calls Tryz.prog 108 #[.agg #[.string ⟨#[]⟩, .nilFunc, .int .i64 0, .nilFunc], .pointer (some ⟨Wb, 0, none⟩)] w fun e w' => e = .returned (.bool false) ∧ Below w.heap.size w w' := by
  have hbl := Lib.hid (below_alloc (Below.refl w.heap.size w) (.cells #[.string ⟨#[]⟩, .nilFunc, .int .i64 0, .nilFunc] 74 (0, 0)))
  go_enter Tryz.func108, Tryz.ntmps108
  go_wp2_with fail
  go_quiet (fail)
  go_wp2_with fail
  go_ret
  exact ⟨rfl, pw_below_drewN hbl.out _⟩
set_option maxRecDepth 100000 in
set_option maxHeartbeats 2000000 in
theorem p108_ok (wd x : ByteArray) (mw : Nat) (fvw : Array Value) (nw : Int) (mr : Nat) (fvr : Array Value) (Wb g m c : Nat) (r : Bool) (w : World) (hne : wd.toList.isEmpty = false) (hr : (wd.toList == x.toList) = r) (hm : 2 < m) (hs : w.cell? ⟨Wb, 0, none⟩ = some (.slice (some ⟨g, 0, none⟩) m c)) (hx : w.cell? ⟨g, 2, none⟩ = some (.string x)) :
    Calls Tryz.prog 108 #[.agg #[.string wd, .func (.func mw) #[] fvw, .int .i64 nw, .func (.func mr) #[] fvr], .pointer (some ⟨Wb, 0, none⟩)] w fun e w' => e = .returned (.bool r) ∧ Below w.heap.size w w' := by
  have hbl := Lib.hid (below_alloc (Below.refl w.heap.size w) (.cells #[.string wd, .func (.func mw) #[] fvw, .int .i64 nw, .func (.func mr) #[] fvr] 74 (0, 0)))
  have hm2 : (2 : Int) < m := by omega
  have l1 := block_lt_of_cell hs
  have l2 := block_lt_of_cell hx
  have hs' : (w.alloc (.cells #[.string wd, .func (.func mw) #[] fvw, .int .i64 nw, .func (.func mr) #[] fvr] 74)).cell? ⟨Wb, 0, none⟩ = some (.slice (some ⟨g, 0, none⟩) m c) := cell_later hbl.out hs
  have hx' : (w.alloc (.cells #[.string wd, .func (.func mw) #[] fvw, .int .i64 nw, .func (.func mr) #[] fvr] 74)).cell? ⟨g, 2, none⟩ = some (.string x) := cell_later hbl.out hx
  go_enter Tryz.func108, Tryz.ntmps108
  go_wp2_with fail
  go_quiet (fail)
  go_wp2_with fail
  go_ret
  exact ⟨by rw [← hr]; rfl, pw_below_drewN hbl.out _⟩
theorem kind_ne (k : Nat) (h1 : 1 ≤ k) (h7 : k ≤ 7) : (kindS.getD k ByteArray.empty).toList.isEmpty = false := by
  rcases (show k = 1 ∨ k = 2 ∨ k = 3 ∨ k = 4 ∨ k = 5 ∨ k = 6 ∨ k = 7 by omega) with h | h | h | h | h | h | h <;> subst h <;> kernel_rfl
theorem kind_lt (k q : Nat) (h1 : 1 ≤ k) (hkq : k < q) (h7 : q ≤ 7) : ((kindS.getD k ByteArray.empty).toList == (kindS.getD q ByteArray.empty).toList) = false := by
  rcases (show q = 2 ∨ q = 3 ∨ q = 4 ∨ q = 5 ∨ q = 6 ∨ q = 7 by omega) with h | h | h | h | h | h <;> subst h <;>
    rcases (show k = 1 ∨ k = 2 ∨ k = 3 ∨ k = 4 ∨ k = 5 ∨ k = 6 by omega) with h | h | h | h | h | h <;> subst h <;> first | omega | kernel_rfl
set_option maxRecDepth 100000 in
set_option maxHeartbeats 2000000 in
theorem idxForm_ok (n q Wb g m c : Nat) (w : World) (hF : Frm w n) (hq1 : 1 ≤ q) (hq7 : q ≤ 7) (hm : 2 < m) (hs : w.cell? ⟨Wb, 0, none⟩ = some (.slice (some ⟨g, 0, none⟩) m c)) (hx : w.cell? ⟨g, 2, none⟩ = some (.string (kindS.getD q ByteArray.empty))) :
    Calls Tryz.prog 107 #[.slice (some ⟨n + 2, 0, none⟩) 8 8, .func (.func 108) #[] #[.pointer (some ⟨Wb, 0, none⟩)]] w fun e w' => e = .returned (.int .i64 q) ∧ Below w.heap.size w w' := by
  have HF := Lib.hid hF
  have HS := Lib.hid hs
  have HX := Lib.hid hx
  clear hF hs hx
  go_enter Tryz.func107, Tryz.ntmps107
  go_wp2_with fail
  go_loopw [5, 8] (fun v5 v8 wr => ∃ k : Nat, k ≤ q ∧ v8 = .int .i64 k ∧ Hid (Below w.heap.size w wr)) (fun _ i _ => 8 - (RowKit.intOf i).toNat)
  case atStart => exact ⟨0, by omega, rfl, Below.refl _ _⟩
  case round =>
    obtain ⟨k, hk, rfl, HB⟩ := hrel
    have hk8 : (k : Int) < 8 := by omega
    have HS1 := Lib.hid (cell_later HB.out HS.out)
    have HX1 := Lib.hid (cell_later HB.out HX.out)
    by_cases hk0 : k = 0
    · subst hk0
      have hF := HF.out.below HB.out
      have g0 : wr.cell? ⟨n + 2, 0, none⟩ = some (.string ⟨#[]⟩) := by simp only [World.cell?, hF.tab]; rfl
      have g1 : wr.cell? ⟨n + 2, 1, none⟩ = some .nilFunc := by simp only [World.cell?, hF.tab]; rfl
      have g2 : wr.cell? ⟨n + 2, 2, none⟩ = some (.int .i64 0) := by simp only [World.cell?, hF.tab]; rfl
      have g3 : wr.cell? ⟨n + 2, 3, none⟩ = some .nilFunc := by simp only [World.cell?, hF.tab]; rfl
      clear hF
      go_wp2_with fail
      refine (p108_0 Wb g m c _ HS1.out).mono ?_
      rintro e w1 ⟨rfl, hb⟩
      have HB1 := Lib.hid (HB.out.trans (hb.mono HB.out.size))
      clear hb g0 g1 g2 g3
      go_wp2_with fail
      go_roundw
      case rel => exact ⟨1, by omega, rfl, HB1⟩
      case measure => simp [RowKit.intOf]
    · obtain ⟨mw, fvw, nw, mr, fvr, g0, g1, g2, g3, _⟩ := frm_row (HF.out.below HB.out) k (by omega) (by omega)
      by_cases hkq : k = q
      · subst hkq
        go_wp2_with fail
        refine (p108_ok _ _ mw fvw nw mr fvr Wb g m c true _ (kind_ne k hq1 hq7) (by simp) hm HS1.out HX1.out).mono ?_
        rintro e w1 ⟨rfl, hb⟩
        have HB1 := Lib.hid (HB.out.trans (hb.mono HB.out.size))
        clear hb g0 g1 g2 g3
        go_wp2_with fail
        go_ret
        exact ⟨rfl, HB1.out⟩
      · go_wp2_with fail
        refine (p108_ok _ _ mw fvw nw mr fvr Wb g m c false _ (kind_ne k (by omega) (by omega)) (kind_lt k q (by omega) (by omega) hq7) hm HS1.out HX1.out).mono ?_
        rintro e w1 ⟨rfl, hb⟩
        have HB1 := Lib.hid (HB.out.trans (hb.mono HB.out.size))
        clear hb g0 g1 g2 g3
        go_wp2_with fail
        go_roundw
        case rel => exact ⟨k + 1, by omega, by go_num, HB1⟩
        case measure => simp [RowKit.intOf]; omega
end Go.Proofs.YtohighedgdlflaaGreatDoor
