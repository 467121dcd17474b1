/- The law TraceSums of package trace answers true, for every cell, every two rows of observations and every place to stop. -/
import Derived.Test.YtohighedgdlflaaGreatDoorTMS8
import Derived.Test.YtohighedgdlflaaGreatDoorTMS9
import Derived.Test.YtohighedgdlflaaGreatDoorTMS11
import Derived.Test.YtohighedgdlflaaGreatDoorTMS6
import Derived.Test.YtohighedgdlflaaGreatDoorTMS7
import Derived.Deep.Slices
import Derived.OpenShut
import Derived.Test.YtohighedgdlflaaGreatDoorTPRx2
import Derived.Test.YtohighedgdlflaaGreatDoorTMS1
import Derived.Lib.BufferMore
/- The law TraceBack answers true, whatever the rows. -/
namespace Go.Proofs.YtohighedgdlflaaGreatDoor
open Go.Proofs.YtohighedgdlflaaGreatDoorW.PrintLast Go.Shelf Go.RowKit Go.Sort Go.Lib Go.Proofs.YtohighedgdlflaaGreatDoorW.PrintWords Go.Proofs.YtohighedgdlflaaGreatDoor.PR
set_option linter.unusedVariables false
set_option linter.unusedSimpArgs false
theorem pick_okw (c : Int) (n : Nat) (hc : I64 c) (hn : 0 < n) : ∃ r : Nat, r < n ∧ ∀ w, Calls Tryz.prog 29 #[.int .i64 c, .int .i64 n] w fun e w' => e = .returned (.int .i64 r) ∧ Drawn0 w w' := by
  obtain ⟨r, h1, h2⟩ := pick_some c n hc hn
  exact ⟨r, h2, fun w => cloisterlaw22_pick.calls c n r w h1⟩
end Go.Proofs.YtohighedgdlflaaGreatDoor

/- A row of raw observations among the arguments, opened. -/
namespace Go.Proofs.YtohighedgdlflaaGreatDoor
open Go.ChangeShapes Go.WideShapes Go.Deep Go.RowKit Go.Proofs.YtohighedgdlflaaGreatDoorW.PrintWords Go.Proofs.YtohighedgdlflaaGreatDoor.PR
set_option linter.unusedVariables false
set_option linter.unusedSimpArgs false
namespace raw
theorem cells3 : Tryz.prog.cellsOf 3 = 1 := by kernel_rfl
theorem len6 {α : Type} {l : List α} (h : l.length = 6) : ∃ a b c d e f, l = [a, b, c, d, e, f] := by
  match l, h with
  | [a, b, c, d, e, f], _ => exact ⟨a, b, c, d, e, f, rfl⟩
theorem wf_i64 {n : Int} (h : (Lit.int .i64 n).wf = true) : I64 n := by
  have e1 : IntKind.i64.min = -9223372036854775808 := by decide
  have e2 : IntKind.i64.max = 9223372036854775807 := by decide
  simp only [Lit.wf, Bool.and_eq_true, decide_eq_true_eq, e1, e2] at h
  exact ⟨by omega, by omega⟩
def cells (x : S108) : List Value := [.int .i64 x.f0, .int .i64 x.f1, .int .i64 x.f2, .int .i64 x.f3, .int .i64 x.f4, .int .i64 x.f5]
section
variable {H : Type} {enc : TypeId × Value → H} {W : World} {spare : Nat → Bool} {held : Bool}
end
end raw
end Go.Proofs.YtohighedgdlflaaGreatDoor

/- A law's row of observations while it is changed from the front. -/
namespace Go.Proofs.YtohighedgdlflaaGreatDoor
open Go.RowKit Go.Proofs.YtohighedgdlflaaGreatDoorW.PrintWords Go.Proofs.YtohighedgdlflaaGreatDoor.PR
set_option linter.unusedVariables false
set_option linter.unusedSimpArgs false
def rowM (f : S35 → S35) (l : List S35) (k : Nat) : List S35 := (l.take k).map f ++ l.drop k ++ List.replicate 8 mark0
theorem rowM_0 (f : S35 → S35) (l : List S35) : rowM f l 0 = lentL l := by simp [rowM, lentL]
theorem rowM_n (f : S35 → S35) (l : List S35) : rowM f l l.length = l.map f ++ List.replicate 8 mark0 := by simp [rowM]
theorem rowM_len (f : S35 → S35) (l : List S35) (k : Nat) : (rowM f l k).length = l.length + 8 := by simp [rowM]; omega
theorem rowM_spec (f : S35 → S35) (l : List S35) (k j : Nat) (hk : k ≤ l.length) : (rowM f l k)[j]? = if j < k then (l[j]?).map f else if j < l.length then l[j]? else (List.replicate 8 mark0)[j - l.length]? := by
  have h1 : ((l.take k).map f).length = k := by rw [List.length_map, List.length_take]; omega
  have h2 : (l.drop k).length = l.length - k := List.length_drop
  unfold rowM
  rw [List.append_assoc]
  by_cases hj : j < k
  · rw [if_pos hj, List.getElem?_append_left (by omega), List.getElem?_map, List.getElem?_take_of_lt hj]
  · rw [if_neg hj, List.getElem?_append_right (by omega), h1]
    by_cases hl : j < l.length
    · rw [if_pos hl, List.getElem?_append_left (by omega), List.getElem?_drop]
      congr 1; omega
    · rw [if_neg hl, List.getElem?_append_right (by omega), h2]
      congr 1; omega
theorem rowM_get (f : S35 → S35) (l : List S35) (k : Nat) (h : k < l.length) : (rowM f l k)[k]? = some l[k] := by
  rw [rowM_spec f l k k (by omega), if_neg (by omega), if_pos h, List.getElem?_eq_getElem h]
theorem rowM_set (f : S35 → S35) (l : List S35) (k : Nat) (h : k < l.length) (y : S35) : ((rowM f l k).set k y).set k (f l[k]) = rowM f l (k + 1) := by
  rw [List.set_set]
  apply List.ext_getElem?
  intro j
  have hl := rowM_len f l k
  rw [List.getElem?_set, rowM_spec f l (k + 1) j (by omega), rowM_spec f l k j (by omega)]
  by_cases hj : k = j
  · subst hj
    rw [if_pos rfl, if_pos (by omega), if_pos (by omega), List.getElem?_eq_getElem h]
    rfl
  · rw [if_neg hj]
    by_cases h1 : j < k
    · rw [if_pos h1, if_pos (show j < k + 1 by omega)]
    · rw [if_neg h1, if_neg (show ¬ j < k + 1 by omega)]
theorem C_headM {W : World} {g : Nat} {xs ys : List S35} (h : ORow W g (xs ++ ys)) (hn : xs.length ≤ 9223372036854775807) : Kd.C k35 W (some ⟨g, 0, none⟩) xs.length xs := (h.head_).C hn
end Go.Proofs.YtohighedgdlflaaGreatDoor

/- slices.Clone of a row of observations: a row of the call's own that holds the same. -/
namespace Go.Proofs.YtohighedgdlflaaGreatDoor
open Go.RowKit Go.Proofs.YtohighedgdlflaaGreatDoorW.PrintWords Go.Proofs.YtohighedgdlflaaGreatDoor.PR
set_option linter.unusedVariables false
set_option linter.unusedSimpArgs false
theorem R_empty35 (W : World) : k35.R 35 (W.alloc (.cells #[] 35)) W.heap.size (fun _ => True) (.slice (some ⟨W.heap.size, 0, none⟩) 0 0) [] :=
  ⟨fun _ _ => trivial, [], ⟨rfl, .inr ⟨W.heap.size, 0, #[], rfl, Nat.le_refl _, heap_alloc_new _ _, Nat.le_refl _, Nat.zero_le _, rfl, rfl⟩⟩, Reps.none _ _⟩
set_option maxRecDepth 100000 in
set_option maxHeartbeats 1000000 in
theorem clone_ok (l : List S35) (A : Option Addr) (c : Nat) (w : World) (hR : Kd.C k35 w A l.length l) (hc : l.length ≤ c) (hl : l.length ≤ 1000000) :
    Calls Tryz.prog 61 #[.slice A l.length c] w fun e w' => ∃ v, e = .returned v ∧ Kd.R k35 35 w' w.heap.size (fun _ => True) v l ∧ Below w.heap.size w w' := by
  have HR := Lib.hid hR
  cases A with
  | none =>
    have h0 : l.length = 0 := by
      rcases Nat.eq_zero_or_pos l.length with h | h
      · exact h
      · obtain ⟨ad, had, _⟩ := hR.2.2 h
        cases had
    have hx : l = [] := List.eq_nil_of_length_eq_zero h0
    subst hx
    clear hR
    have kq := fun W : World => Lib.run_eql_slice_nil_nil (P := Tryz.prog) W (t := 22) (e := 35) 0 c Tryz.underlying22
    go_enter Tryz.func61, Tryz.ntmps61
    go_wp2_with fail
    go_ret
    exact ⟨_, rfl, Kd.R_nil _ _ _ _ _, Below.refl _ _⟩
  | some ad =>
    clear hR
    have HRa : Hid (Kd.C k35 (w.alloc (.cells #[] 35)) (some ad) l.length l) := Kd.C_alloc HR.out _
    have kq := fun W : World => Lib.run_eql_slice_some_nil (P := Tryz.prog) W (t := 22) (e := 35) ad l.length c Tryz.underlying22
    go_enter Tryz.func61, Tryz.ntmps61
    go_wp2_with (first | ((with_reducible refine gate_builtin (b := .append) (xs := #[.tmp 5, .tmp 6]) rfl ?_); at_builtin; refine Kd.R_append_rows k35 (w0 := w) w.heap.size rfl (.tmp 5) (.tmp 6) 22 35 (.agg #[(.int .u64 0), (.int .i64 0), (.int .i64 0), (.int .u32 0), (.int .u32 0), (.int .u32 0)]) 40 rfl Tryz.underlying22 info35 rfl (by decide) (by omega) (.slice (some ⟨w.heap.size, 0, none⟩) 0 0) ([] : List (S35)) l (some ad) l.length c (fun _ => True) (fun _ => False) rfl rfl (R_empty35 w) HRa.out (fun _ _ h => h) (fun _ h => h.elim) (fun _ _ => trivial) (below_alloc (Below.refl _ _) _) (by simp) (by simp; omega) ?_; intro v3 w3 ho hb hg hat; have HO := Lib.hid ho; have HB := Lib.hid hb; clear ho hb hg hat))
    go_ret
    exact ⟨_, rfl, HO.out, HB.out⟩
end Go.Proofs.YtohighedgdlflaaGreatDoor

/- trace.Of answers the iterator over a copy of the row: the function 62 with two boxes. -/
namespace Go.Proofs.YtohighedgdlflaaGreatDoor
open Go.RowKit Go.Proofs.YtohighedgdlflaaGreatDoorW.PrintWords Go.Proofs.YtohighedgdlflaaGreatDoor.PR
set_option linter.unusedVariables false
set_option linter.unusedSimpArgs false
set_option maxRecDepth 100000 in
set_option maxHeartbeats 1000000 in
theorem of_ok (cell : Int) (l : List S35) (A : Option Addr) (c : Nat) (w : World) (hR : Kd.C k35 w A l.length l) (hc : l.length ≤ c) (hl : l.length ≤ 1000000) :
    Calls Tryz.prog 24 #[.int .i64 cell, .slice A l.length c] w fun e w' => ∃ v, e = .returned (.func (.func 62) #[] #[.pointer (some ⟨w.heap.size + 1, 0, none⟩), .pointer (some ⟨w.heap.size, 0, none⟩)]) ∧
      w'.cell? ⟨w.heap.size, 0, none⟩ = some (.int .i64 cell) ∧ w'.cell? ⟨w.heap.size + 1, 0, none⟩ = some v ∧ Kd.R k35 35 w' (w.heap.size + 2) (fun _ => True) v l ∧ Below w.heap.size w w' := by
  have HR := Lib.hid hR
  clear hR
  go_enter Tryz.func24, Tryz.ntmps24
  go_wp2_with fail
  obtain ⟨W2, hW2⟩ : ∃ W2, W2 = (w.alloc (.cells #[.int .i64 cell] 3)).alloc (.cells #[.slice A l.length c] 22) := ⟨_, rfl⟩
  have hs2 : W2.heap.size = w.heap.size + 2 := by rw [hW2]; simp
  have hc0 : W2.cell? ⟨w.heap.size, 0, none⟩ = some (.int .i64 cell) := by
    rw [hW2, World.cell?_alloc_old _ _ _ (by simp)]
    simp [World.cell?_alloc_new]
  have hc1 : W2.cell? ⟨w.heap.size + 1, 0, none⟩ = some (.slice A l.length c) ∧ W2.frozen? ⟨w.heap.size + 1, 0, none⟩ = false := by
    have h := heap_alloc_new (w.alloc (.cells #[.int .i64 cell] 3)) (.cells #[.slice A l.length c] 22)
    rw [World.size_alloc, ← hW2] at h
    constructor
    · simp [World.cell?, h]
    · simp [World.frozen?, h]
  have hC2 : Kd.C k35 W2 A l.length l := by rw [hW2]; exact Kd.C_alloc (Kd.C_alloc HR.out _) _
  have hB2 : Below w.heap.size w W2 := by rw [hW2]; exact below_alloc (below_alloc (Below.refl _ _) _) _
  rw [← hW2]
  clear hW2 HR
  have HB2 := Lib.hid hB2
  refine (clone_ok l A c W2 hC2 hc hl).mono ?_
  rintro e w3 ⟨v, rfl, hr, hb⟩
  have d0 : w3.cell? ⟨w.heap.size, 0, none⟩ = some (.int .i64 cell) := (hb.cell (by show w.heap.size < _; omega)).trans hc0
  have d1 : w3.cell? ⟨w.heap.size + 1, 0, none⟩ = some (.slice A l.length c) := (hb.cell (by show w.heap.size + 1 < _; omega)).trans hc1.1
  have d2 : w3.frozen? ⟨w.heap.size + 1, 0, none⟩ = false := (World.frozen?_of_block (hb.block _ (by show w.heap.size + 1 < _; omega))).trans hc1.2
  obtain ⟨A3, c3, rfl, hc3, _⟩ := Kd.R_reads hr
  have hr2 := Kd.R_mono (ok' := fun k => w.heap.size + 2 ≤ k) (Kd.R_bound hr) (fun k hk => by have := hk.2.1; omega)
  have hk : KeepBut w3 (w3.setCell ⟨w.heap.size + 1, 0, none⟩ (.slice A3 l.length c3)) (w.heap.size + 1) none := (KeepBut.refl _ _ _).set_ _ _
  have HR3 := Lib.hid (Kd.R_keep hr2 hk (fun k hk => by omega))
  have HB3 := Lib.hid (HB2.out.trans (hb.mono HB2.out.size))
  have e0 : (w3.setCell ⟨w.heap.size + 1, 0, none⟩ (.slice A3 l.length c3)).cell? ⟨w.heap.size, 0, none⟩ = some (.int .i64 cell) := by
    rw [World.cell?_setCell_other _ _ _ _ (by simp)]; exact d0
  have e1 : (w3.setCell ⟨w.heap.size + 1, 0, none⟩ (.slice A3 l.length c3)).cell? ⟨w.heap.size + 1, 0, none⟩ = some (.slice A3 l.length c3) := World.cell?_setCell_same' _ _ _ (by rw [d1]; rfl)
  have HE := Lib.hid (And.intro e0 e1)
  clear hr hb hr2 hk e0 e1 d0 hc0 hc1 hC2 hB2
  go_wp2_with fail
  go_ret
  exact ⟨_, rfl, HE.out.1, HE.out.2, Kd.R_lower (Kd.R_mono HR3.out (fun _ _ => trivial)) (by omega), HB3.out.setCell (by show w.heap.size ≤ w.heap.size + 1; omega) _⟩
end Go.Proofs.YtohighedgdlflaaGreatDoor
