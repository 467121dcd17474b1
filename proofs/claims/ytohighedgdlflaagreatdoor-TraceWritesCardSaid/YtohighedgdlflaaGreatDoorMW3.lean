/- Texts of a proof that TraceWrites holds, for every row of observations, merged in order. -/
import Derived.Test.YtohighedgdlflaaGreatDoorPRx2
import Derived.Test.YtohighedgdlflaaGreatDoorMW2
import Derived.Test.YtohighedgdlflaaGreatDoorPRx8
import Derived.Deep.Slices
import Derived.OpenShut
import Derived.Test.YtohighedgdlflaaGreatDoorPRx3
import Derived.Test.YtohighedgdlflaaGreatDoorMW1
import Derived.Test.YtohighedgdlflaaGreatDoorPRx0
import Derived.Test.YtohighedgdlflaaGreatDoorPRx4
import Derived.Lib.SlBytesConst
import Derived.Laws.IdiomStrings
import Derived.Lib.BufferRead
import Derived.Deep.AppendLies
import Derived.Deep.QuietTactic
import Derived.BigQuiet
/- What the laws' own helpers give. -/
namespace Go.Proofs.YtohighedgdlflaaGreatDoor
open Go.Shelf Go.RowKit Go.Sort Go.Lib Go.Proofs.YtohighedgdlflaaGreatDoorW.PrintWords Go.Proofs.YtohighedgdlflaaGreatDoor.PR
set_option linter.unusedVariables false
set_option linter.unusedSimpArgs false
def mark0 : S35 := ⟨77, 0, -9, 0, 0, 0⟩
theorem twin_f (l : List S35) (h : l.length < 3518437208883) : cloisterlaw22_twin.f l = some l := by
  unfold cloisterlaw22_twin.f
  rw [if_pos (by simpa using h)]
  rfl
def lentL (l : List S35) : List S35 := l ++ List.replicate 8 mark0
def lentPre (l : List S35) (i : Nat) : List S35 := (lentL l).take i ++ List.replicate ((lentL l).length - i) z35
theorem lentPre_set (l : List S35) (i : Nat) (h : i < (lentL l).length) (x : S35) (hx : (lentL l)[i]? = some x) (y : S35) : ((lentPre l i).set i y).set i x = lentPre l (i + 1) := by
  rw [List.set_set]
  apply List.ext_getElem?
  intro j
  have hl : ((lentL l).take i).length = i := by rw [List.length_take]; omega
  unfold lentPre
  rw [List.getElem?_set]
  by_cases hj : i = j
  · subst hj
    rw [if_pos rfl, if_pos (by simp; omega), List.getElem?_append_left (by rw [List.length_take]; omega), List.getElem?_take_of_lt (by omega), hx]
  · rw [if_neg hj]
    rcases Nat.lt_or_ge j i with hlt | hge
    · rw [List.getElem?_append_left (by omega), List.getElem?_append_left (by rw [List.length_take]; omega), List.getElem?_take_of_lt hlt, List.getElem?_take_of_lt (by omega)]
    · rw [List.getElem?_append_right (by omega), List.getElem?_append_right (by rw [List.length_take]; omega), hl, List.length_take, List.getElem?_replicate, List.getElem?_replicate]
      have e : min (i + 1) (lentL l).length = i + 1 := by omega
      rw [e]
      by_cases h2 : j < (lentL l).length
      · rw [if_pos (by omega), if_pos (by omega)]
      · rw [if_neg (by omega), if_neg (by omega)]
theorem lentPre_set1 (l : List S35) (i : Nat) (h : i < (lentL l).length) (x : S35) (hx : (lentL l)[i]? = some x) : (lentPre l i).set i x = lentPre l (i + 1) := by
  have := lentPre_set l i h x hx x
  rwa [List.set_set] at this
theorem lentPre_len (l : List S35) (i : Nat) (h : i ≤ (lentL l).length) : (lentPre l i).length = (lentL l).length := by
  unfold lentPre; rw [List.length_append, List.length_take, List.length_replicate]; omega
theorem lentL_len (l : List S35) : (lentL l).length = l.length + 8 := by simp [lentL]
theorem lent_l (l : List S35) (hl : l.length < 1000000000) : ∀ j : Nat, j ≤ (lentL l).length → cloisterlaw22_lent.l0 (j + 1) l (lentPre l ((lentL l).length - j)) (((lentL l).length - j : Nat) : Int) = some (lentL l)
  | 0, _ => by
    have hn := lentPre_len l (lentL l).length (Nat.le_refl _)
    rw [Nat.sub_zero, cloisterlaw22_lent.l0, if_neg (by rw [hn]; omega)]
    unfold lentPre
    rw [List.take_length, Nat.sub_self]; simp
  | j + 1, hj => by
    have ih := lent_l l hl j (by omega)
    obtain ⟨i, hi⟩ : ∃ i, i = (lentL l).length - (j + 1) := ⟨_, rfl⟩
    have e8 : (lentL l).length - j = i + 1 := by omega
    rw [e8] at ih
    rw [← hi]
    have hn := lentPre_len l i (by omega)
    have hm : cloisterlaw22_mark.f 0 = some (77, 0, -9, 0, 0, 0) := by unfold cloisterlaw22_mark.f wrap64; rfl
    have hL := lentL_len l
    rw [cloisterlaw22_lent.l0, if_pos (by rw [hn]; omega), hm, Option.bind_some, if_pos (by omega), Option.bind_some, w64_succ i (by omega)]
    simp only [Int.toNat_natCast]
    by_cases h : i < l.length
    · rw [if_pos (by omega)]
      have hx : (lentL l)[i]? = some (rd_T35 l i) := by
        unfold lentL rd_T35
        rw [List.getElem?_append_left h, Int.toNat_natCast, List.getD_eq_getElem?_getD, List.getElem?_eq_getElem h]; rfl
      rw [lentPre_set l i (by omega) _ hx]
      exact ih
    · rw [if_neg (by omega)]
      have hx : (lentL l)[i]? = some mark0 := by
        unfold lentL
        rw [List.getElem?_append_right (by omega), List.getElem?_replicate, if_pos (by omega)]
      have := lentPre_set1 l i (by omega) _ hx
      unfold mark0 at this
      rw [this]
      exact ih
theorem lent_f (l : List S35) (hl : l.length < 1000000000) : ∃ k, cloisterlaw22_lent.f k l = some (lentL l) := by
  have h := lent_l l hl (lentL l).length (Nat.le_refl _)
  have hL := lentL_len l
  have e : wrap64 ((l.length : Int) + 8) = (((lentL l).length : Nat) : Int) := by
    rw [hL]
    have := w64_small (l.length + 8) (by omega)
    rw [← this]; congr 1
  refine ⟨(lentL l).length + 1, ?_⟩
  unfold cloisterlaw22_lent.f
  rw [e, if_pos (by omega), if_pos (by omega), Int.toNat_natCast]
  rw [Nat.sub_self] at h
  have e2 : lentPre l 0 = List.replicate (lentL l).length z35 := by simp [lentPre]
  rw [e2] at h
  exact h
theorem same_l (l : List S35) (hl : l.length < 1000000000) : ∀ j : Nat, j ≤ l.length → cloisterlaw22_same.l0 (j + 1) l l ((l.length - j : Nat) : Int) = some true
  | 0, _ => by
    rw [cloisterlaw22_same.l0, if_neg (by omega)]
  | j + 1, hj => by
    have ih := same_l l hl j (by omega)
    obtain ⟨i, hi⟩ : ∃ i, i = l.length - (j + 1) := ⟨_, rfl⟩
    have e8 : l.length - j = i + 1 := by omega
    rw [e8] at ih
    rw [← hi, cloisterlaw22_same.l0, if_pos (by omega), if_pos (by omega), if_pos (by omega), if_neg (by simp), w64_succ i (by omega)]
    exact ih
theorem same_f (l : List S35) (hl : l.length < 1000000000) : ∃ k, cloisterlaw22_same.f k l l = some true := by
  have h := same_l l hl l.length (Nat.le_refl _)
  rw [Nat.sub_self] at h
  exact ⟨l.length + 1, by unfold cloisterlaw22_same.f; rw [if_pos rfl]; exact h⟩
/-- twin (10). -/
theorem twin_ok (A : Option Addr) (c : Nat) (l : List S35) (w : World) (hr : Kd.C k35 w A l.length l) (hc : l.length ≤ c) (hl : l.length < 1000000000) :
    Calls Tryz.prog 10 #[.slice A l.length c] w fun e w' => ∃ v, e = .returned v ∧ Kd.R k35 35 w' w.heap.size (fun _ => True) v l ∧ Below w.heap.size w w' :=
  cloisterlaw22_twin.calls A c l l w hr hc (twin_f l (by omega))
/-- lent (12). -/
theorem lent_ok (A : Option Addr) (c : Nat) (l : List S35) (w : World) (hr : Kd.C k35 w A l.length l) (hc : l.length ≤ c) (hl : l.length < 1000000000) :
    Calls Tryz.prog 12 #[.slice A l.length c] w fun e w' => ∃ v, e = .returned v ∧ Kd.R k35 35 w' w.heap.size (fun _ => True) v (lentL l) ∧ Below w.heap.size w w' := by
  obtain ⟨k, hk⟩ := lent_f l hl
  exact cloisterlaw22_lent.calls k A c l _ w hr hc hk
/-- same (18) at one row in two places. -/
theorem same_ok (A B : Option Addr) (c d : Nat) (l : List S35) (w : World) (hr : Kd.C k35 w A l.length l) (hc : l.length ≤ c) (hs : Kd.C k35 w B l.length l) (hd : l.length ≤ d) (hl : l.length < 1000000000) :
    Calls Tryz.prog 18 #[.slice A l.length c, .slice B l.length d] w fun e w' => e = .returned (.bool true) ∧ Drawn0 w w' := by
  obtain ⟨k, hk⟩ := same_f l hl
  exact cloisterlaw22_same.calls k A c l B d l true w hr hc hs hd hk
end Go.Proofs.YtohighedgdlflaaGreatDoor

/- kept (14) at lent ones that nobody wrote. -/
namespace Go.Proofs.YtohighedgdlflaaGreatDoor
open Go.Shelf Go.RowKit Go.Sort Go.Lib Go.Proofs.YtohighedgdlflaaGreatDoorW.PrintWords Go.Proofs.YtohighedgdlflaaGreatDoor.PR
set_option linter.unusedVariables false
set_option linter.unusedSimpArgs false
theorem rd_left (l m : List S35) (i : Nat) (h : i < l.length) : rd_T35 (l ++ m) i = rd_T35 l i := by
  unfold rd_T35
  simp only [Int.toNat_natCast, List.getD_eq_getElem?_getD]
  rw [List.getElem?_append_left h]
theorem rd_mark (l : List S35) (i : Nat) (h : ¬ i < l.length) (h2 : i < (lentL l).length) : rd_T35 (lentL l) i = mark0 := by
  have hL := lentL_len l
  unfold rd_T35 lentL
  simp only [Int.toNat_natCast, List.getD_eq_getElem?_getD]
  rw [List.getElem?_append_right (by omega), List.getElem?_replicate, if_pos (by omega)]
  rfl
theorem kept_l (l : List S35) (hl : l.length < 1000000000) : ∀ j : Nat, j ≤ (lentL l).length → cloisterlaw22_kept.l0 (j + 1) (lentL l) l (((lentL l).length - j : Nat) : Int) = some true := by
  intro j
  have hL := lentL_len l
  have hw : wrap64 ((l.length : Int) + 8) = (((lentL l).length : Nat) : Int) := by rw [hL]; unfold wrap64; omega
  induction j with
  | zero =>
    intro _
    rw [cloisterlaw22_kept.l0, if_neg (by omega), hw]
    simp
  | succ j ih =>
    intro hj
    replace ih := ih (by omega)
    obtain ⟨i, hi⟩ : ∃ i, i = (lentL l).length - (j + 1) := ⟨_, rfl⟩
    have e8 : (lentL l).length - j = i + 1 := by omega
    rw [e8] at ih
    rw [← hi, cloisterlaw22_kept.l0, if_pos (by omega)]
    by_cases h : i < l.length
    · have hr : rd_T35 (lentL l) i = rd_T35 l i := rd_left l _ i h
      rw [if_pos (by omega), if_pos (by omega), hr, if_neg (by simp), if_neg (by omega), w64_succ i (by omega)]
      exact ih
    · have hm : cloisterlaw22_mark.f 0 = some (77, 0, -9, 0, 0, 0) := by unfold cloisterlaw22_mark.f wrap64; rfl
      have hr := rd_mark l i h (by omega)
      rw [if_neg (by omega), if_pos (by omega), if_pos (by omega), hm, Option.bind_some, hr, if_neg (by simp [mark0]), w64_succ i (by omega)]
      exact ih
theorem kept_f (l : List S35) (hl : l.length < 1000000000) : cloisterlaw22_kept.f ((lentL l).length + 1) (lentL l) l = some true := by
  have h := kept_l l hl (lentL l).length (Nat.le_refl _)
  rw [Nat.sub_self] at h
  exact h
theorem kept_ok (A B : Option Addr) (c d : Nat) (l : List S35) (w : World) (hr : Kd.C k35 w A (lentL l).length (lentL l)) (hc : (lentL l).length ≤ c) (hs : Kd.C k35 w B l.length l) (hd : l.length ≤ d) (hl : l.length < 1000000000) :
    Calls Tryz.prog 14 #[.slice A (lentL l).length c, .slice B l.length d] w fun e w' => e = .returned (.bool true) ∧ Below w.heap.size w w' :=
  cloisterlaw22_kept.calls _ A c (lentL l) B d l true w hr hc hs hd (kept_f l hl)
end Go.Proofs.YtohighedgdlflaaGreatDoor

/- A row of observations in a block of its own, written in place. -/
namespace Go.Proofs.YtohighedgdlflaaGreatDoor
open Go.Shelf Go.RowKit Go.Sort Go.Lib Go.Proofs.YtohighedgdlflaaGreatDoorW.PrintWords Go.Proofs.YtohighedgdlflaaGreatDoor.PR
set_option linter.unusedVariables false
set_option linter.unusedSimpArgs false
def cells6 (x : S35) : List Value := [.int .u64 x.f0, .int .i64 x.f1, .int .i64 x.f2, .int .u32 x.f3, .int .u32 x.f4, .int .u32 x.f5]
def ORow (W : World) (g : Nat) (xs : List S35) : Prop := ∃ cur : Array Value, W.heap[g]? = some (.cells cur 35 (0, 0)) ∧ ∀ (i : Nat) x, xs[i]? = some x → ∀ (j : Nat) u, (cells6 x)[j]? = some u → cur[i * 6 + j]? = some u
theorem ORow.lt {W : World} {g : Nat} {xs : List S35} (h : ORow W g xs) : g < W.heap.size := by
  obtain ⟨cur, h1, _⟩ := h
  exact heap_lt' h1
theorem ORow.below {W W' : World} {g : Nat} {xs : List S35} (h : ORow W g xs) (hb : Below W.heap.size W W') : ORow W' g xs := by
  obtain ⟨cur, h1, h2⟩ := h
  exact ⟨cur, (hb.block _ (heap_lt' h1)).trans h1, h2⟩
theorem ORow.cell {W : World} {g : Nat} {xs : List S35} (h : ORow W g xs) {i : Nat} {x : S35} (hx : xs[i]? = some x) {j : Nat} {u : Value} (hu : (cells6 x)[j]? = some u) : W.cell? ⟨g, i * 6 + j, none⟩ = some u ∧ W.frozen? ⟨g, i * 6 + j, none⟩ = false := by
  obtain ⟨cur, h1, h2⟩ := h
  refine ⟨by rw [cell_in h1]; exact h2 i x hx j u hu, ?_⟩
  simp only [World.frozen?, h1]
  simp
theorem ORow.C {W : World} {g : Nat} {xs : List S35} (h : ORow W g xs) (hn : xs.length ≤ 9223372036854775807) : Kd.C k35 W (some ⟨g, 0, none⟩) xs.length xs := by
  refine ⟨rfl, hn, fun _ => ⟨_, rfl, fun j p hj => ⟨_, ?_, k35_mk _ p, fun i u hu => ?_⟩⟩⟩
  · rfl
  · rw [addr_add, Nat.zero_add]
    exact (h.cell hj hu).1
theorem orow_of_R {W : World} {base : Nat} {ok : Nat → Prop} {v : Value} {xs : List S35} (h : Kd.R k35 35 W base ok v xs) (hp : 0 < xs.length) : ∃ g cap, v = .slice (some ⟨g, 0, none⟩) xs.length cap ∧ base ≤ g ∧ xs.length ≤ cap ∧ ORow W g xs := by
  obtain ⟨g, cap, rfl, hg, _, cur, hc⟩ := Kd.R_form h hp
  obtain ⟨_, hcap, hC⟩ := Kd.R_reads' h
  refine ⟨g, cap, rfl, hg, hcap, cur, hc, fun i x hx j u hu => ?_⟩
  have hi : i < xs.length := by
    rcases Nat.lt_or_ge i xs.length with h' | h'
    · exact h'
    · rw [List.getElem?_eq_none h'] at hx; simp at hx
  obtain ⟨ad, had, cs⟩ := hC.2.2 hp
  obtain rfl := Option.some.inj had
  obtain ⟨c, _, hK, hcell⟩ := cs i x hx
  obtain rfl := k35_open hK
  have := hcell j u hu
  rw [addr_add, Nat.zero_add, cell_in hc] at this
  exact this
/-- One field of one element is written. -/
theorem ORow.set {W : World} {g : Nat} {xs : List S35} (h : ORow W g xs) {i j : Nat} {x y : S35} {v : Value} (hx : xs[i]? = some x) (hj : j < 6) (hy : ∀ k, (cells6 y)[k]? = if k = j then some v else (cells6 x)[k]?) : ORow (W.setCell ⟨g, i * 6 + j, none⟩ v) g (xs.set i y) := by
  obtain ⟨cur, h1, h2⟩ := h
  refine ⟨cur.setIfInBounds (i * 6 + j) v, heap_setCell_same _ _ _ _ _ _ h1, fun i' x' hx' k u hu => ?_⟩
  have hk6 : k < 6 := by
    rcases Nat.lt_or_ge k 6 with h' | h'
    · exact h'
    · rw [List.getElem?_eq_none (by simpa [cells6] using h')] at hu; simp at hu
  have hsz : i * 6 + j < cur.size := by
    have h3 : ∃ u, (cells6 x)[j]? = some u := ⟨_, List.getElem?_eq_getElem (by simpa [cells6] using hj)⟩
    obtain ⟨u3, hu3⟩ := h3
    have h4 := h2 i x hx j u3 hu3
    rcases Nat.lt_or_ge (i * 6 + j) cur.size with h' | h'
    · exact h'
    · rw [Array.getElem?_eq_none h'] at h4; simp at h4
  rw [List.getElem?_set] at hx'
  by_cases hii : i = i'
  · subst hii
    rw [if_pos rfl] at hx'
    split at hx'
    · obtain rfl := Option.some.inj hx'
      rw [hy k] at hu
      by_cases hkj : k = j
      · subst hkj
        rw [if_pos rfl] at hu
        rw [Array.getElem?_setIfInBounds_self_of_lt hsz]
        exact hu
      · rw [if_neg hkj] at hu
        rw [Array.getElem?_setIfInBounds_ne (by omega)]
        exact h2 i x hx k u hu
    · simp at hx'
  · rw [if_neg hii] at hx'
    rw [Array.getElem?_setIfInBounds_ne (by omega)]
    exact h2 i' x' hx' k u hu
theorem ORow.head_ {W : World} {g : Nat} {xs ys : List S35} (h : ORow W g (xs ++ ys)) : ORow W g xs := by
  obtain ⟨cur, h1, h2⟩ := h
  refine ⟨cur, h1, fun i x hx => h2 i x ?_⟩
  have hi : i < xs.length := by
    rcases Nat.lt_or_ge i xs.length with h' | h'
    · exact h'
    · rw [List.getElem?_eq_none h'] at hx; simp at hx
  rw [List.getElem?_append_left hi]; exact hx
theorem bound_ok (A : Option Addr) (n c : Nat) (w : World) (hc : n ≤ c) (hm : c ≤ 9223372036854775807) :
    Calls Tryz.prog 11 #[.slice A n c] w fun e w' => e = .returned (.slice A (min 400 n) c) ∧ w' = w := by
  by_cases h : 400 < n
  · have h1 : (400 : Int) < (n : Int) := by omega
    have h2 : decide ((400 : Int) < (n : Int)) = true := decide_eq_true h1
    have h3 : (400 : Int) ≤ (c : Int) := by omega
    have e : min 400 n = 400 := by omega
    rw [e]
    go_enter Tryz.func11, Tryz.ntmps11
    go_wp2_with fail
    go_ret
    exact ⟨rfl, rfl⟩
  · have h1 : ¬ (400 : Int) < (n : Int) := by omega
    have h2 : decide ((400 : Int) < (n : Int)) = false := decide_eq_false h1
    have e : min 400 n = n := by omega
    rw [e]
    go_enter Tryz.func11, Tryz.ntmps11
    go_wp2_with fail
    go_ret
    exact ⟨rfl, rfl⟩
end Go.Proofs.YtohighedgdlflaaGreatDoor

/- A row of observations among the arguments, opened. -/
namespace Go.Proofs.YtohighedgdlflaaGreatDoor
open Go.ChangeShapes Go.WideShapes Go.Deep Go.RowKit Go.Proofs.YtohighedgdlflaaGreatDoorW.PrintWords Go.Proofs.YtohighedgdlflaaGreatDoor.PR
set_option linter.unusedVariables false
set_option linter.unusedSimpArgs false
theorem cells35 : Tryz.prog.cellsOf 35 = 6 := by kernel_rfl
theorem cells32 : Tryz.prog.cellsOf 32 = 1 := by kernel_rfl
theorem cells3 : Tryz.prog.cellsOf 3 = 1 := by kernel_rfl
theorem cells33 : Tryz.prog.cellsOf 33 = 1 := by kernel_rfl
theorem cells31 : Tryz.prog.cellsOf 31 = 1 := by kernel_rfl
theorem len6 {α : Type} {l : List α} (h : l.length = 6) : ∃ a b c d e f, l = [a, b, c, d, e, f] := by
  match l, h with
  | [a, b, c, d, e, f], _ => exact ⟨a, b, c, d, e, f, rfl⟩
theorem wf_u64 {n : Int} (h : (Lit.int .u64 n).wf = true) : 0 ≤ n ∧ n < 18446744073709551616 := by
  have e1 : IntKind.u64.min = 0 := by decide
  have e2 : IntKind.u64.max = 18446744073709551615 := by decide
  simp only [Lit.wf, Bool.and_eq_true, decide_eq_true_eq, e1, e2] at h
  omega
theorem wf_u32 {n : Int} (h : (Lit.int .u32 n).wf = true) : 0 ≤ n ∧ n < 4294967296 := by
  have e1 : IntKind.u32.min = 0 := by decide
  have e2 : IntKind.u32.max = 4294967295 := by decide
  simp only [Lit.wf, Bool.and_eq_true, decide_eq_true_eq, e1, e2] at h
  omega
section
variable {H : Type} {enc : TypeId × Value → H} {W : World} {spare : Nat → Bool} {held : Bool}
theorem open_ob {n : Nat} {v0 v1 v2 v3 v4 v5 : Value} {x : DataW H × List MemPlace} (h : DataW.trod enc Tryz.prog W 0 spare held n 35 [v0, v1, v2, v3, v4, v5] = some x) :
    ∃ o : S35, FitsT o ∧ [v0, v1, v2, v3, v4, v5] = cells6 o := by
  obtain ⟨xs, k, hk, hxy, _, hxl, hf⟩ := DataW.trod_struct Tryz.underlying35 h
  obtain ⟨y0, y1, y2, y3, y4, y5, rfl⟩ := len6 (l := xs) hxl
  have g0 := hf 0 _ rfl
  have g1 := hf 1 _ rfl
  have g2 := hf 2 _ rfl
  have g3 := hf 3 _ rfl
  have g4 := hf 4 _ rfl
  have g5 := hf 5 _ rfl
  clear hf h
  replace g0 : DataW.trod enc Tryz.prog W 0 spare held k 32 (([v0, v1, v2, v3, v4, v5].drop 0).take (Tryz.prog.cellsOf 32)) = some y0 := g0
  replace g1 : DataW.trod enc Tryz.prog W 0 spare held k 3 (([v0, v1, v2, v3, v4, v5].drop 1).take (Tryz.prog.cellsOf 3)) = some y1 := g1
  replace g2 : DataW.trod enc Tryz.prog W 0 spare held k 33 (([v0, v1, v2, v3, v4, v5].drop 2).take (Tryz.prog.cellsOf 33)) = some y2 := g2
  replace g3 : DataW.trod enc Tryz.prog W 0 spare held k 31 (([v0, v1, v2, v3, v4, v5].drop 3).take (Tryz.prog.cellsOf 31)) = some y3 := g3
  replace g4 : DataW.trod enc Tryz.prog W 0 spare held k 31 (([v0, v1, v2, v3, v4, v5].drop 4).take (Tryz.prog.cellsOf 31)) = some y4 := g4
  replace g5 : DataW.trod enc Tryz.prog W 0 spare held k 31 (([v0, v1, v2, v3, v4, v5].drop 5).take (Tryz.prog.cellsOf 31)) = some y5 := g5
  rw [cells32] at g0
  rw [cells3] at g1
  rw [cells33] at g2
  rw [cells31] at g3 g4 g5
  obtain ⟨n0, e0, _, w0⟩ := DataW.trod_int Tryz.underlying32 g0
  obtain ⟨n1, e1, _, _⟩ := DataW.trod_int Tryz.underlying3 g1
  obtain ⟨n2, e2, _, _⟩ := DataW.trod_int Tryz.underlying33 g2
  obtain ⟨n3, e3, _, w3⟩ := DataW.trod_int Tryz.underlying31 g3
  obtain ⟨n4, e4, _, w4⟩ := DataW.trod_int Tryz.underlying31 g4
  obtain ⟨n5, e5, _, w5⟩ := DataW.trod_int Tryz.underlying31 g5
  have u0 := wf_u64 w0
  have u3 := wf_u32 w3
  have u4 := wf_u32 w4
  have u5 := wf_u32 w5
  refine ⟨⟨n0, n1, n2, n3, n4, n5⟩, ⟨⟨u3.1, u3.2, u4.1, u4.2, u5.1, u5.2⟩, u0.1, u0.2⟩, ?_⟩
  obtain rfl : v0 = .int .u64 n0 := (List.cons.inj (show [v0] = [_] from e0)).1
  obtain rfl : v1 = .int .i64 n1 := (List.cons.inj (show [v1] = [_] from e1)).1
  obtain rfl : v2 = .int .i64 n2 := (List.cons.inj (show [v2] = [_] from e2)).1
  obtain rfl : v3 = .int .u32 n3 := (List.cons.inj (show [v3] = [_] from e3)).1
  obtain rfl : v4 = .int .u32 n4 := (List.cons.inj (show [v4] = [_] from e4)).1
  obtain rfl : v5 = .int .u32 n5 := (List.cons.inj (show [v5] = [_] from e5)).1
  rfl
theorem open_obs {fuel : Nat} {A : Option Addr} {len cap : Nat} {x : DataW H × List MemPlace} (h : DataW.trod enc Tryz.prog W 0 spare held fuel 22 [.slice A len cap] = some x) :
    ∃ l : List S35, len = l.length ∧ l.length ≤ cap ∧ cap ≤ 9223372036854775807 ∧ Kd.C k35 W A l.length l ∧ ∀ o ∈ l, FitsT o := by
  rcases open_slice Tryz.underlying22 h with ⟨h0, _⟩ | ⟨a, len', cap', m, n, D, Pl, hcs, _, hl, hm, hmm, _, hx⟩
  · simp only [List.cons.injEq, Value.slice.injEq, and_true] at h0
    obtain ⟨rfl, rfl, rfl⟩ := h0
    exact ⟨[], rfl, by simp, by simp, Kd.C_nil _ _, by simp⟩
  · simp only [List.cons.injEq, Value.slice.injEq, and_true] at hcs
    obtain ⟨rfl, rfl, rfl⟩ := hcs
    have hlm : len ≤ m := by rw [hmm]; split <;> omega
    have hmax : cap ≤ 9223372036854775807 := by
      have e : maxLen = 9223372036854775807 := by decide
      omega
    have each : ∀ i, i < len → ∃ o : S35, FitsT o ∧ ∀ j u, (cells6 o)[j]? = some u → W.cell? (a.add (i * 6 + j)) = some u := by
      intro i hi
      obtain ⟨cs', h1, h2⟩ := hx i (by omega)
      rw [cells35] at h1
      obtain ⟨_, hlen, hcell⟩ := World.cells?_some h1
      obtain ⟨v0, v1, v2, v3, v4, v5, rfl⟩ := len6 hlen
      obtain ⟨o, ho, he⟩ := open_ob h2
      refine ⟨o, ho, fun j u hu => ?_⟩
      have hj : j < 6 := by
        rcases Nat.lt_or_ge j 6 with h' | h'
        · exact h'
        · rw [List.getElem?_eq_none (by simpa [cells6] using h')] at hu; simp at hu
      have := hcell j hj
      rw [Deep.add_add] at this
      rw [this, he, hu]
    haveI : Inhabited S35 := ⟨z35⟩
    obtain ⟨q, hq⟩ := choose_lt each
    refine ⟨(List.range len).map q, by simp, by simpa using hl, hmax, ⟨rfl, by simp; omega, fun hpos => ⟨a, rfl, fun j p hj => ?_⟩⟩, ?_⟩
    · rw [List.getElem?_map] at hj
      rcases Nat.lt_or_ge j len with h' | h'
      · rw [List.getElem?_range h'] at hj
        obtain rfl := Option.some.inj hj
        exact ⟨_, rfl, k35_mk _ _, fun i u hu => (hq j h').2 i u hu⟩
      · rw [List.getElem?_eq_none (by simpa using h')] at hj; simp at hj
    · intro o ho
      obtain ⟨i, hi, rfl⟩ := List.mem_map.1 ho
      exact (hq i (List.mem_range.1 hi)).1
end
end Go.Proofs.YtohighedgdlflaaGreatDoor

/- A law's row of observations while it is changed from the front. -/
namespace Go.Proofs.YtohighedgdlflaaGreatDoor
open Go.RowKit Go.Proofs.YtohighedgdlflaaGreatDoorW.PrintWords Go.Proofs.YtohighedgdlflaaGreatDoor.PR
set_option linter.unusedVariables false
set_option linter.unusedSimpArgs false
def rowM (f : S35 → S35) (l : List S35) (k : Nat) : List S35 := (l.take k).map f ++ l.drop k ++ List.replicate 8 mark0
theorem rowM_0 (f : S35 → S35) (l : List S35) : rowM f l 0 = lentL l := by simp [rowM, lentL]
theorem rowM_n (f : S35 → S35) (l : List S35) : rowM f l l.length = l.map f ++ List.replicate 8 mark0 := by simp [rowM]
theorem rowM_len (f : S35 → S35) (l : List S35) (k : Nat) : (rowM f l k).length = l.length + 8 := by simp [rowM]; omega
theorem rowM_spec (f : S35 → S35) (l : List S35) (k j : Nat) (hk : k ≤ l.length) : (rowM f l k)[j]? = if j < k then (l[j]?).map f else if j < l.length then l[j]? else (List.replicate 8 mark0)[j - l.length]? := by
  have h1 : ((l.take k).map f).length = k := by rw [List.length_map, List.length_take]; omega
  have h2 : (l.drop k).length = l.length - k := List.length_drop
  unfold rowM
  rw [List.append_assoc]
  by_cases hj : j < k
  · rw [if_pos hj, List.getElem?_append_left (by omega), List.getElem?_map, List.getElem?_take_of_lt hj]
  · rw [if_neg hj, List.getElem?_append_right (by omega), h1]
    by_cases hl : j < l.length
    · rw [if_pos hl, List.getElem?_append_left (by omega), List.getElem?_drop]
      congr 1; omega
    · rw [if_neg hl, List.getElem?_append_right (by omega), h2]
      congr 1; omega
theorem rowM_get (f : S35 → S35) (l : List S35) (k : Nat) (h : k < l.length) : (rowM f l k)[k]? = some l[k] := by
  rw [rowM_spec f l k k (by omega), if_neg (by omega), if_pos h, List.getElem?_eq_getElem h]
theorem rowM_set (f : S35 → S35) (l : List S35) (k : Nat) (h : k < l.length) (y : S35) : ((rowM f l k).set k y).set k (f l[k]) = rowM f l (k + 1) := by
  rw [List.set_set]
  apply List.ext_getElem?
  intro j
  have hl := rowM_len f l k
  rw [List.getElem?_set, rowM_spec f l (k + 1) j (by omega), rowM_spec f l k j (by omega)]
  by_cases hj : k = j
  · subst hj
    rw [if_pos rfl, if_pos (by omega), if_pos (by omega), List.getElem?_eq_getElem h]
    rfl
  · rw [if_neg hj]
    by_cases h1 : j < k
    · rw [if_pos h1, if_pos (show j < k + 1 by omega)]
    · rw [if_neg h1, if_neg (show ¬ j < k + 1 by omega)]
theorem C_headM {W : World} {g : Nat} {xs ys : List S35} (h : ORow W g (xs ++ ys)) (hn : xs.length ≤ 9223372036854775807) : Kd.C k35 W (some ⟨g, 0, none⟩) xs.length xs := (h.head_).C hn
/-- What TraceWrites writes into an observation. -/
def modWp (o : S35) : S35 := ⟨o.f0, o.f1, o.f2, (o.f3 + 1) % 4294967296, o.f4, o.f5⟩
def modW (o : S35) : S35 := ⟨IntKind.u64.wrap (o.f0.tdiv 2), o.f1, o.f2, (o.f3 + 1) % 4294967296, o.f4, o.f5⟩
theorem modW_fits {o : S35} (h : FitsT o) : FitsT (modW o) := by
  obtain ⟨⟨f1, f2, f3, f4, f5, f6⟩, f7, f8⟩ := h
  have h0 : IntKind.u64.wrap (o.f0.tdiv 2) = o.f0 / 2 := by
    rw [Int.tdiv_eq_ediv_of_nonneg f7]
    show (o.f0 / 2) % 18446744073709551616 = _
    omega
  refine ⟨⟨?_, ?_, f3, f4, f5, f6⟩, ?_, ?_⟩
  · show 0 ≤ (o.f3 + 1) % 4294967296; omega
  · show (o.f3 + 1) % 4294967296 < 4294967296; omega
  · show 0 ≤ IntKind.u64.wrap (o.f0.tdiv 2); rw [h0]; omega
  · show IntKind.u64.wrap (o.f0.tdiv 2) < _; rw [h0]; omega
end Go.Proofs.YtohighedgdlflaaGreatDoor

/- The document's writer of a number behind a literal whose row is frozen beyond its cells: the first append copies. -/
namespace Go.Proofs.YtohighedgdlflaaGreatDoor
open Go.RowKit Go.Proofs.YtohighedgdlflaaGreatDoorW.PrintWords Go.Proofs.YtohighedgdlflaaGreatDoor.PR
set_option linter.unusedVariables false
set_option linter.unusedSimpArgs false
theorem w64_one : wrap64 1 = 1 := by unfold wrap64; omega
theorem reps_u8 : ∀ xs : List Int, Reps (fun (x : Int) cs => cs = [Value.int .u8 x]) 1 xs (xs.map (Value.int .u8))
  | [] => Reps.none _ _
  | x :: xs => Reps.one rfl (reps_u8 xs)
theorem append_full {ops : Array Oper} {rest : List Oper} {o : Oper} {a : Act} {Q : Exit → Act → World → Prop} {w0 W : World} (base : Nat) (hgd : o.guard = none) (s x : Operand)
    (ho : o.op = .call { callee := .builtin .append, args := #[s, x], argTypes := #[37, 37] })
    (b : Addr) (xs : List Int) (p : Int) (hs : a.eval s = .slice (some b) xs.length xs.length) (hx : a.eval x = .slice (some ⟨W.heap.size, 0, none⟩) 1 1)
    (holds : ∀ j v, (xs.map (Value.int .u8))[j]? = some v → W.cell? (b.add j) = some v) (HB : Below base w0 W) (hbase : base ≤ W.heap.size) (hl : xs.length + 1 ≤ 140737488355328)
    (h : ∀ v1 w1, Kd.R (Kd.int .u8) 5 w1 base (fun k => W.heap.size ≤ k) v1 (xs ++ [p]) → Below base w0 w1 → W.heap.size ≤ w1.heap.size → wpList Tryz.prog ops Q rest (a.put o.dst v1) w1) :
    wpList Tryz.prog ops Q (o :: rest) a (W.alloc (.cells #[.int .u8 p] 5)) := by
  refine wpList_plain hgd fun K hK => ?_
  obtain ⟨i, hi, hz⟩ := Option.map_eq_some_iff.1 info5
  simp only [Prod.mk.injEq] at hz
  obtain ⟨hz0, hz1, hz2⟩ := hz
  have hlen : (xs.map (Value.int .u8)).length = xs.length * i.size := by rw [hz1, List.length_map]; omega
  have hold2 : ∀ j v, (xs.map (Value.int .u8))[j]? = some v → (W.alloc (.cells #[.int .u8 p] 5)).cell? (b.add j) = some v := fun j v hj => by
    have h1 := holds j v hj
    exact (World.cell?_of_block (heap_alloc_old W _ (World.block_lt_of_cell? W _ h1))).trans h1
  have hr := run_append_grow (P := Tryz.prog) (W.alloc (.cells #[.int .u8 p] 5)) 37 o.type 5 i _ Tryz.underlying37 hi hz0 b xs.length xs.length (xs.map (Value.int .u8)) hlen hold2 ⟨W.heap.size, 0, none⟩ 1 1 [.int .u8 p] (by rw [hz1]; rfl) (cell_one_new _ _ _) (by omega) (by omega) (growslice_fits (by omega) (by rw [hz2]; omega))
  unfold Oper.wp execOp
  simp only [ho, resolve, invoke, builtin, Sem.run_bind, Sem.run_pure, Result.andThen_ok, List.map_toArray, List.map_cons, List.map_nil, hs, hx, hr]
  have hge := grownCap_ge (W.alloc (.cells #[.int .u8 p] 5)) (xs.length + 1) xs.length 5
  have hcm := grownCap_le_maxLen (W.alloc (.cells #[.int .u8 p] 5)) (xs.length + 1) xs.length 5 (by simp only [maxLen]; omega)
  refine hK _ _ (h _ _ ?_ ?_ (by simp; omega))
  · have e1 : ((W.alloc (.cells #[.int .u8 p] 5)).drew.alloc (.cells ((xs.map (Value.int .u8)).toArray ++ [Value.int .u8 p].toArray ++ Builtin.zeroCells (Value.cells (.int .u8 0)) (grownCap (W.alloc (.cells #[.int .u8 p] 5)) (xs.length + 1) xs.length 5 - (xs.length + 1))) 5)).ownsRow base 5 1 (.slice (some ⟨(W.alloc (.cells #[.int .u8 p] 5)).heap.size, 0, none⟩) (xs.length + 1) (grownCap (W.alloc (.cells #[.int .u8 p] 5)) (xs.length + 1) xs.length 5)) (xs.length + 1) (xs.map (Value.int .u8) ++ [.int .u8 p]) := by
      refine ⟨by simp, .inr ⟨_, _, _, rfl, by simp; omega, heap_alloc_new _ _, hge, hcm, ?_, ?_⟩⟩
      · simp only [Array.size_append, List.size_toArray, size_zeroCells, List.length_map, List.length_singleton]
        simp only [Value.cells, List.size_toArray, List.length_singleton]
        simp
        omega
      · simp only [Array.toList_append, List.append_assoc]
        rw [← List.append_assoc]
        exact List.take_left' (by simp)
    refine ⟨fun k hk => ?_, xs.map (Value.int .u8) ++ [.int .u8 p], ?_, ?_⟩
    · simp [Value.ownBlock] at hk
      omega
    · rw [List.length_append]
      exact e1
    · have := reps_u8 (xs ++ [p])
      rw [List.map_append] at this
      exact this
  · exact ((HB.alloc hbase _).drew).alloc (by simp; omega) _
set_option maxHeartbeats 8000000 in
set_option maxRecDepth 100000 in
theorem putF_ok (k : Nat) (b : Addr) (l0 : List Int) (a1 : Int) (a2 : Int) (r : List Int) (w0 w : World) (hB : Below w0.heap.size w0 w) (h2 : 0 < a2) (holds : ∀ j v, (l0.map (Value.int .u8))[j]? = some v → w.cell? (b.add j) = some v) (h : cloisterref22_put.f k l0 a1 a2 = some r) :
    Calls Tryz.prog 51 #[.slice (some b) l0.length l0.length, .int .u64 a1, .int .i64 a2] w fun e w' => ∃ v0_ : Value, e = .returned (v0_) ∧ Kd.R (Kd.int .u8) 5 w' w0.heap.size (fun k_ => w.heap.size ≤ k_) v0_ r ∧ Below w0.heap.size w0 w' := by
  have HC0 := Aside0.mk holds
  have HB := Aside0.mk hB
  have HW0 := Aside0.mk hB.size
  have H2 := Aside0.mk h2
  clear hB holds h2
  have H : (cloisterref22_put.l0 k l0 a1 a2 0) = some r := h
  clear h
  have H' := Aside0.mk H
  clear H
  go_enter Tryz.func51, Tryz.ntmps51
  go_wp2
  go_loopg [0, 1, 7] k (fun kq v0 v1 v7 w' => ∃ (x0_1 : List Int) (x1_1 : Int) (x7_1 : Int), v1 = .int .u64 x1_1 ∧ v7 = .int .i64 x7_1 ∧ Aside0 (cloisterref22_put.l0 kq x0_1 x1_1 a2 x7_1 = some r) ∧ Aside0 (kq ≤ k) ∧ Aside0 ((x7_1 = 0 ∧ w' = w ∧ x0_1 = l0 ∧ v0 = .slice (some b) l0.length l0.length) ∨ Kd.R (Kd.int .u8) 5 w' w0.heap.size (fun k_ => w.heap.size ≤ k_) v0 x0_1) ∧ Aside0 (w.heap.size ≤ w'.heap.size) ∧ Aside0 (Below w0.heap.size w0 w'))
  case atStart => exact ⟨(l0), (a1), (0), (by first | rfl | (simp; done) | (simp [*]; done)), (by first | rfl | (simp; done) | (simp [*]; done)), H', ⟨Nat.le_refl _⟩, ⟨.inl ⟨rfl, rfl, rfl, rfl⟩⟩, ⟨Nat.le_refl _⟩, HB⟩
  case round =>
    clear H'
    try clear p2
    obtain ⟨x0_1, x1_1, x7_1, rfl, rfl, HA, HK1, HO_0, HS, HB⟩ := hrel
    cases gk with
    | zero => exact absurd HA.out (by simp [cloisterref22_put.l0])
    | succ k1 =>
      have H := HA.out
      clear HA
      simp only [cloisterref22_put.l0] at H
      by_cases c4 : x7_1 < a2
      · rw [if_pos c4] at H
        have c4b0 : decide (x7_1 < a2) = true := decide_eq_true c4
        clear c4
        by_cases c5 : x0_1.length < 140737488355328
        · rw [if_pos c5] at H
          have LMc5 := Aside0.mk c5
          clear c5
          obtain ⟨y120, hy120⟩ : ∃ y_ : List Int, y_ = (x0_1 ++ [(Int.tmod x1_1 256) % 256]) := ⟨_, rfl⟩
          replace H : (cloisterref22_put.l0 k1 y120 (IntKind.u64.wrap (Int.tdiv x1_1 256)) a2 (wrap64 (x7_1 + 1))) = some r := by rw [hy120]; with_reducible exact H
          have Ny120 := Aside0.mk hy120
          clear hy120
          have H' := Aside0.mk H
          clear H
          rcases HO_0.out with ⟨rfl, rfl, rfl, rfl⟩ | HR
          · clear HO_0
            go_wp2_with (first | ((with_reducible refine gate_builtin (b := .append) (xs := #[.tmp 13, .tmp 17]) rfl ?_); at_builtin; refine append_full (w0 := w0) w0.heap.size rfl (.tmp 13) (.tmp 17) rfl b x0_1 ((Int.tmod x1_1 256) % 256) rfl rfl HC0.out HB.out HW0.out (by have := LMc5.out; omega) ?_; intro v121 w6 ho hb hs6; rw [← Ny120.out] at ho; have n0_ := Aside0.mk (hb); have n2_ := Aside0.mk (ho); have n3_ := Aside0.mk hs6; clear HB; clear HS; have HB := n0_; have HS := n3_; have HO122 := n2_; clear n0_ n2_ n3_; clear ho hb hs6))
            go_roundg k1
            case measure => have := HK1.out; omega
            case rel => exact ⟨(y120), (IntKind.u64.wrap (Int.tdiv x1_1 256)), (wrap64 (0 + 1)), (by first | rfl | (simp; done) | (simp [*]; done)), (by first | rfl | (simp; done) | (simp; exact (w64_one).symm)), H', ⟨by have := HK1.out; omega⟩, ⟨.inr HO122.out⟩, HS, HB⟩
          · clear HO_0
            have HO_0 := Aside0.mk HR
            clear HR
            go_wp2_with (first | ((with_reducible refine gate_builtin (b := .append) (xs := #[.tmp 13, .tmp 17]) rfl ?_); at_builtin; refine Kd.R_append (Kd.int .u8) (w0 := w0) w0.heap.size rfl (.tmp 13) (.tmp 17) 37 5 (.int .u8 0) 1 rfl Tryz.underlying37 info5 rfl (by decide) (by omega) u0 x0_1 ((Int.tmod x1_1 256) % 256) [.int .u8 ((Int.tmod x1_1 256) % 256)] (fun k_ => (w.heap.size ≤ k_)) (fun _ => False) rfl rfl ?aP (fun _ hk => hk.elim) ?aF ?aO ?aB ?aS ?aL ?_; (case aP => exact rfl); (case aB => exact HB.out); (case aF => exact (fun k_ hk => Nat.le_trans HS.out hk)); (case aO => exact HO_0.out); (case aS => exact (below_size HB.out)); (case aL => have := LMc5.out; omega); intro v121 w6 ho hb hg hat; rw [← Ny120.out] at ho; have n0_ := Aside0.mk (hb); have n2_ := Aside0.mk (ho); have n3_ := Aside0.mk (Nat.le_trans HS.out hg.size); clear HB; clear HS; clear HO_0; have HB := n0_; have HS := n3_; have HO122 := n2_; clear n0_ n2_ n3_; clear ho hb hg hat))
            go_roundg k1
            case measure => have := HK1.out; omega
            case rel => exact ⟨(y120), (IntKind.u64.wrap (Int.tdiv x1_1 256)), (wrap64 (x7_1 + 1)), (by first | rfl | (simp; done) | (simp [*]; done)), (by first | rfl | (simp; done) | (simp [*]; done)), H', ⟨by have := HK1.out; omega⟩, ⟨.inr HO122.out⟩, HS, HB⟩
        · rw [if_neg c5] at H
          exact absurd H (by simp)
      · rw [if_neg c4] at H
        have c4b0 : decide (x7_1 < a2) = false := decide_eq_false c4
        obtain rfl := Option.some.inj H
        have HR : Aside0 (Kd.R (Kd.int .u8) 5 wr w0.heap.size (fun k_ => w.heap.size ≤ k_) u0 x0_1) := by
          rcases HO_0.out with ⟨rfl, _⟩ | HR
          · exact absurd H2.out c4
          · exact ⟨HR⟩
        clear c4 HO_0
        go_wp2
        go_ret
        exact ⟨_, by first | rfl | (simp [errW_none, errW_some] <;> rfl) | (simp [*, errW_none, errW_some] <;> rfl), HR.out, HB.out⟩
end Go.Proofs.YtohighedgdlflaaGreatDoor

-- PRINTED by print.py (a twelfth state) out of the translation. Not trusted: Lean checks it.
namespace Go.Proofs.YtohighedgdlflaaGreatDoor.PR
open Go.RowKit Go.Proofs.YtohighedgdlflaaGreatDoorW.PrintWords Go.Proofs.YtohighedgdlflaaGreatDoorW.PrintLast Go.Proofs.YtohighedgdlflaaGreatDoorW.PrintMore
attribute [local go_sem] max2_int min2_int max_two min_two max_three min_three max_four min_four   -- for this text's walks alone
set_option linter.unusedVariables false
set_option linter.unusedSimpArgs false

/-! ### cloisterref22_Encode: function 19 -/
def cloisterref22_Encode.l0 : Nat → List (S35) → List Int → Int → Option (List Int × Bool)
  | 0, _, _, _ => none
  | k + 1, x0, x4, x5 => if x5 < (x0.length : Int) then (if 0 ≤ x5 then ((cloisterref22_May.f k ((rd_T35 x0 x5).f0) ((rd_T35 x0 x5).f1) ((rd_T35 x0 x5).f2) ((rd_T35 x0 x5).f3) ((rd_T35 x0 x5).f4) ((rd_T35 x0 x5).f5)).bind fun t247 => (if t247 = true then ((cloisterref22_Row.f k ((rd_T35 x0 x5).f0) ((rd_T35 x0 x5).f1) ((rd_T35 x0 x5).f2) ((rd_T35 x0 x5).f3) ((rd_T35 x0 x5).f4) ((rd_T35 x0 x5).f5)).bind fun t249 => (if x4.length + t249.length < 140737488355328 then (cloisterref22_Encode.l0 k x0 (x4 ++ t249) (wrap64 (x5 + 1))) else (none))) else (some (([] : List Int), false)))) else (none)) else ((cloisterref22_Sum.f k x4).bind fun t242 => ((cloisterref22_put.f k x4 (IntKind.u64.wrap (t242)) 4).bind fun t243 => (some (t243, true))))
def cloisterref22_Encode.f (k : Nat) (l0 : List (S35)) : Option (List Int × Bool) := if (l0.length : Int) > 1000000 then (some (([] : List Int), false)) else ((cloisterref22_put.f k (([67, 76, 84, 82] : List Int)) (IntKind.u64.wrap ((l0.length : Int))) 4).bind fun t239 => (cloisterref22_Encode.l0 k l0 t239 0))
theorem cloisterref22_Encode.mono_l : ∀ k, (∀ y0 y1 y2, LeO (cloisterref22_Encode.l0 k y0 y1 y2) (cloisterref22_Encode.l0 (k + 1) y0 y1 y2))
  | 0 => fun _ _ _ r h => by simp [cloisterref22_Encode.l0] at h
  | k + 1 => by
    have ih0 := cloisterref22_Encode.mono_l k
    · intro y0 y1 y2
      unfold cloisterref22_Encode.l0
      repeat' first
      | (with_reducible exact ih0 _ _ _)
      | (with_reducible exact cloisterref22_May.mono _ _ _ _ _ _ _)
      | (with_reducible exact cloisterref22_Row.mono _ _ _ _ _ _ _)
      | (with_reducible exact cloisterref22_Sum.mono _ _)
      | (with_reducible exact cloisterref22_put.mono _ _ _ _)
      | (with_reducible exact LeO.refl _)
      | (with_reducible exact LeO.none _)
      | (with_reducible refine LeO.ite ?_ ?_)
      | (with_reducible refine LeO.bind ?_ (fun _ => ?_))
      | exact ih0 _ _ _
      | exact cloisterref22_May.mono _ _ _ _ _ _ _
      | exact cloisterref22_Row.mono _ _ _ _ _ _ _
      | exact cloisterref22_Sum.mono _ _
      | exact cloisterref22_put.mono _ _ _ _
      | exact LeO.none _
      | refine LeO.ite ?_ ?_
      | refine LeO.bind ?_ (fun _ => ?_)
theorem cloisterref22_Encode.mono : ∀ a0 k, LeO (cloisterref22_Encode.f k a0) (cloisterref22_Encode.f (k + 1) a0) := by
  intro a0 k
  have ih0 := cloisterref22_Encode.mono_l k
  unfold cloisterref22_Encode.f
  repeat' first
      | (with_reducible exact ih0 _ _ _)
      | (with_reducible exact cloisterref22_May.mono _ _ _ _ _ _ _)
      | (with_reducible exact cloisterref22_Row.mono _ _ _ _ _ _ _)
      | (with_reducible exact cloisterref22_Sum.mono _ _)
      | (with_reducible exact cloisterref22_put.mono _ _ _ _)
      | (with_reducible exact LeO.refl _)
      | (with_reducible exact LeO.none _)
      | (with_reducible refine LeO.ite ?_ ?_)
      | (with_reducible refine LeO.bind ?_ (fun _ => ?_))
      | exact ih0 _ _ _
      | exact cloisterref22_May.mono _ _ _ _ _ _ _
      | exact cloisterref22_Row.mono _ _ _ _ _ _ _
      | exact cloisterref22_Sum.mono _ _
      | exact cloisterref22_put.mono _ _ _ _
      | exact LeO.none _
      | refine LeO.ite ?_ ?_
      | refine LeO.bind ?_ (fun _ => ?_)
theorem lit_cells (w : World) : ∀ j v, (([67, 76, 84, 82] : List Int).map (Value.int .u8))[j]? = some v → (w.alloc (.cells #[.int .u8 67, .int .u8 76, .int .u8 84, .int .u8 82] 5 (4, 5))).cell? ((⟨w.heap.size, 0, none⟩ : Addr).add j) = some v := by
  intro j v hj
  match j, hj with
  | 0, hj => rw [← hj]; show (w.alloc _).cell? ⟨w.heap.size, 0, none⟩ = _; simp only [World.cell?, heap_alloc_new]; rfl
  | 1, hj => rw [← hj]; show (w.alloc _).cell? ⟨w.heap.size, 1, none⟩ = _; simp only [World.cell?, heap_alloc_new]; rfl
  | 2, hj => rw [← hj]; show (w.alloc _).cell? ⟨w.heap.size, 2, none⟩ = _; simp only [World.cell?, heap_alloc_new]; rfl
  | 3, hj => rw [← hj]; show (w.alloc _).cell? ⟨w.heap.size, 3, none⟩ = _; simp only [World.cell?, heap_alloc_new]; rfl
  | j + 4, hj => simp at hj
set_option maxHeartbeats 8000000 in
set_option maxRecDepth 100000 in
theorem cloisterref22_Encode.calls (k : Nat) (A0 : Option Addr) (c0 : Nat) (l0 : List (S35)) (r1 : List Int) (r2 : Bool) (w : World) (hr0 : Kd.C k35 w A0 l0.length l0) (hc0 : l0.length ≤ c0) (h : cloisterref22_Encode.f k l0 = some (r1, r2)) :
    Calls Tryz.prog 19 #[.slice A0 l0.length c0] w fun e w' => ∃ v0_ : Value, e = .returned (.tuple #[v0_, .bool r2]) ∧ Kd.R (Kd.int .u8) 5 w' w.heap.size (fun _ => True) v0_ r1 ∧ Below w.heap.size w w' := by
  have hu35 := Tryz.underlying35
  have HR0 := Aside0.mk hr0
  have HC0 := Aside0.mk hc0
  clear hr0 hc0
  have HB := Aside0.mk (Below.refl w.heap.size w)
  have H : (if (l0.length : Int) > 1000000 then (some (([] : List Int), false)) else ((cloisterref22_put.f k (([67, 76, 84, 82] : List Int)) (IntKind.u64.wrap ((l0.length : Int))) 4).bind fun t239 => (cloisterref22_Encode.l0 k l0 t239 0))) = some (r1, r2) := h
  clear h
  by_cases c2 : (l0.length : Int) > 1000000
  · rw [if_pos c2] at H
    have c2b0 : decide (1000000 < (l0.length : Int)) = true := decide_eq_true c2
    have c2b1 : decide (1000000 < l0.length) = true := decide_eq_true (by omega)
    clear c2
    simp only [Option.some.injEq, Prod.mk.injEq] at H
    obtain ⟨rfl, rfl⟩ := H
    go_enter Tryz.func19, Tryz.ntmps19
    go_wp2
    go_ret2
    exact ⟨_, by first | rfl | (simp [errW_none, errW_some] <;> rfl) | (simp [*, errW_none, errW_some] <;> rfl), by first | exact Kd.R_nil _ _ _ _ _ | exact Kd.N_nil _ _ _ _ _ | exact Kd.V_nil _ _ _ _ _ | exact Kd.Q_nil _ _ _ _ _ | exact Kd.S_nil _ _ _ _ _, by repeat (first | (with_reducible first | exact HB.out | apply below_alloc | apply pw_below_drewN | apply below_drew1) | exact HB.out)⟩
  · rw [if_neg c2] at H
    have c2b0 : decide (1000000 < (l0.length : Int)) = false := decide_eq_false c2
    have c2b1 : decide (1000000 < l0.length) = false := decide_eq_false (by omega)
    clear c2
    obtain ⟨y236, hy236⟩ : ∃ y_ : List Int, y_ = (([67, 76, 84, 82] : List Int)) := ⟨_, rfl⟩
    replace H : ((cloisterref22_put.f k y236 (IntKind.u64.wrap ((l0.length : Int))) 4).bind fun t239 => (cloisterref22_Encode.l0 k l0 t239 0)) = some (r1, r2) := by first | (rw [hy236]; with_reducible exact H) | (have H2_ := (Option.bind_some _ _).symm.trans H; rw [hy236]; with_reducible exact H2_) | (have H2_ := (Option.bind_some _ _).symm.trans H; with_reducible exact H2_) | with_reducible exact H | (rw [hy236]; exact H) | exact H
    have Ny236 := Aside0.mk hy236
    clear hy236
    replace H := Option.bind_eq_some_iff.mp H
    obtain ⟨t239, A30, H⟩ := H
    replace H : (cloisterref22_Encode.l0 k l0 t239 0) = some (r1, r2) := H
    have A3 := Aside0.mk A30
    clear A30
    have H' := Aside0.mk H
    clear H
    have kc := fun (w : World) (C : Array Value) (n c : Nat) => Lib.run_convert_bytes_const (P := Tryz.prog) w 37 5 C n c Tryz.underlying37 Tryz.underlying5
    rw [Ny236.out] at A3
    go_enter Tryz.func19, Tryz.ntmps19
    go_wp2_with fail
    have hq : Calls Tryz.prog 51 #[.slice (some ⟨w.heap.size, 0, none⟩) 4 4, .int .u64 (IntKind.u64.wrap ((l0.length : Int))), .int .i64 4] _ _ := putF_ok k ⟨w.heap.size, 0, none⟩ [67, 76, 84, 82] (IntKind.u64.wrap ((l0.length : Int))) 4 t239 w _ (below_alloc HB.out _) (by decide) (lit_cells w) A3.out
    with_reducible refine hq.mono ?_
    clear hq
    rintro e w7 ⟨v240, rfl, ho0, hb⟩
    have HO241 := Aside0.mk (Kd.R_mono (ok' := fun k_ => True) ho0 (fun k_ hk_ => trivial))
    clear HB ho0
    have HB := Aside0.mk hb
    clear hb
    go_wp2
    clear kc
    go_loopg [4, 5] k (fun kq v4 v5 w' => ∃ (x4_1 : List Int) (x5_1 : Int), v5 = .int .i64 x5_1 ∧ Aside0 (cloisterref22_Encode.l0 kq l0 x4_1 x5_1 = some (r1, r2)) ∧ Aside0 (kq ≤ k) ∧ Aside0 (Kd.R (Kd.int .u8) 5 w' w.heap.size (fun _ => True) v4 x4_1) ∧ Aside0 (Below w.heap.size w w'))
    case atStart => exact ⟨(t239), (0), (by first | rfl | (simp; done) | (simp [*]; done)), H', ⟨Nat.le_refl _⟩, ⟨by (with_reducible repeat (first | apply Kd.R_alloc | apply Kd.R_drewN | apply Kd.R_drew)); exact HO241.out⟩, ⟨by repeat (first | (with_reducible first | exact HB.out | apply below_alloc | apply pw_below_drewN | apply below_drew1) | exact HB.out)⟩⟩
    case round =>
      clear H'
      try clear c1
      try clear c2
      try clear c2b0
      try clear c2b1
      try clear p2
      try clear c5
      obtain ⟨x4_1, x5_1, rfl, HA, HK1, HO_4, HB⟩ := hrel
      cases gk with
      | zero => exact absurd HA.out (by simp [cloisterref22_Encode.l0])
      | succ k1 =>
        have H := HA.out
        clear HA
        simp only [cloisterref22_Encode.l0] at H
        by_cases c8 : x5_1 < (l0.length : Int)
        · rw [if_pos c8] at H
          have c8b0 : decide (x5_1 < (l0.length : Int)) = true := decide_eq_true c8
          clear c8
          by_cases c9 : 0 ≤ x5_1
          · rw [if_pos c9] at H
            have c9b0 : decide (0 ≤ x5_1) = true := decide_eq_true c9
            clear c9
            replace H := Option.bind_eq_some_iff.mp H
            obtain ⟨t247, A100, H⟩ := H
            replace H : (if t247 = true then ((cloisterref22_Row.f k1 ((rd_T35 l0 x5_1).f0) ((rd_T35 l0 x5_1).f1) ((rd_T35 l0 x5_1).f2) ((rd_T35 l0 x5_1).f3) ((rd_T35 l0 x5_1).f4) ((rd_T35 l0 x5_1).f5)).bind fun t249 => (if x4_1.length + t249.length < 140737488355328 then (cloisterref22_Encode.l0 k1 l0 (x4_1 ++ t249) (wrap64 (x5_1 + 1))) else (none))) else (some (([] : List Int), false))) = some (r1, r2) := H
            have A10 := Aside0.mk A100
            clear A100
            by_cases c11 : t247 = true
            · subst c11
              have H1 : ((cloisterref22_Row.f k1 ((rd_T35 l0 x5_1).f0) ((rd_T35 l0 x5_1).f1) ((rd_T35 l0 x5_1).f2) ((rd_T35 l0 x5_1).f3) ((rd_T35 l0 x5_1).f4) ((rd_T35 l0 x5_1).f5)).bind fun t249 => (if x4_1.length + t249.length < 140737488355328 then (cloisterref22_Encode.l0 k1 l0 (x4_1 ++ t249) (wrap64 (x5_1 + 1))) else (none))) = some (r1, r2) := by rw [if_pos rfl] at H; exact H
              clear H
              have H := H1
              clear H1
              replace H := Option.bind_eq_some_iff.mp H
              obtain ⟨t249, A120, H⟩ := H
              replace H : (if x4_1.length + t249.length < 140737488355328 then (cloisterref22_Encode.l0 k1 l0 (x4_1 ++ t249) (wrap64 (x5_1 + 1))) else (none)) = some (r1, r2) := H
              have A12 := Aside0.mk A120
              clear A120
              by_cases c13 : x4_1.length + t249.length < 140737488355328
              · rw [if_pos c13] at H
                have LMc13 := Aside0.mk c13
                clear c13
                obtain ⟨y252, hy252⟩ : ∃ y_ : List Int, y_ = (x4_1 ++ t249) := ⟨_, rfl⟩
                replace H : (cloisterref22_Encode.l0 k1 l0 y252 (wrap64 (x5_1 + 1))) = some (r1, r2) := by first | (rw [hy252]; with_reducible exact H) | (have H2_ := (Option.bind_some _ _).symm.trans H; rw [hy252]; with_reducible exact H2_) | (have H2_ := (Option.bind_some _ _).symm.trans H; with_reducible exact H2_) | with_reducible exact H | (rw [hy252]; exact H) | exact H
                have Ny252 := Aside0.mk hy252
                clear hy252
                have H' := Aside0.mk H
                clear H
                have p246 : 0 ≤ (x5_1 : Int) := of_decide_eq_true (by first | (with_reducible assumption) | assumption)
                have q246 : x5_1 < (l0.length : Int) := of_decide_eq_true (by first | (with_reducible assumption) | assumption)
                obtain ⟨ad246, e246, hx246_0, hx246_1, hx246_2, hx246_3, hx246_4, hx246_5⟩ := at_T35 HR0.out x5_1 p246 q246
                cases e246
                replace hx246_0 := (HB.out.cell (World.block_lt_of_cell? w _ hx246_0)).trans hx246_0
                replace hx246_1 := (HB.out.cell (World.block_lt_of_cell? w _ hx246_1)).trans hx246_1
                replace hx246_2 := (HB.out.cell (World.block_lt_of_cell? w _ hx246_2)).trans hx246_2
                replace hx246_3 := (HB.out.cell (World.block_lt_of_cell? w _ hx246_3)).trans hx246_3
                replace hx246_4 := (HB.out.cell (World.block_lt_of_cell? w _ hx246_4)).trans hx246_4
                replace hx246_5 := (HB.out.cell (World.block_lt_of_cell? w _ hx246_5)).trans hx246_5
                replace p246 := eq_true p246
                replace q246 := eq_true q246
                go_wp2_with (first | ((with_reducible refine gate_callee (f := 40) rfl ?_); refine goesL_ (some 27) rfl rfl Tryz.func40 (by kernel_rfl) rfl #[.agg #[.int .u64 ((rd_T35 l0 x5_1).f0), .int .i64 ((rd_T35 l0 x5_1).f1), .int .i64 ((rd_T35 l0 x5_1).f2), .int .u32 ((rd_T35 l0 x5_1).f3), .int .u32 ((rd_T35 l0 x5_1).f4), .int .u32 ((rd_T35 l0 x5_1).f5)]] rfl (by (try simp only [List.map_toArray, List.map_cons, List.map_nil]); first | done | rfl | (simp only [List.length_drop, List.length_take]; rfl)) ?_; (with_reducible refine (cloisterref22_May.calls k1 ((rd_T35 l0 x5_1).f0) ((rd_T35 l0 x5_1).f1) ((rd_T35 l0 x5_1).f2) ((rd_T35 l0 x5_1).f3) ((rd_T35 l0 x5_1).f4) ((rd_T35 l0 x5_1).f5) true _ A10.out).mono ?_); rintro e w14 ⟨rfl, hb⟩; refine ⟨_, rfl, ?_⟩; have n0_ := Aside0.mk (Kd.R_below (by (with_reducible repeat (first | apply Kd.R_alloc | apply Kd.R_drewN | apply Kd.R_drew)); exact HO_4.out) hb); have n1_ := Aside0.mk (below_step (by repeat (first | (with_reducible first | exact HB.out | apply below_alloc | apply pw_below_drewN | apply below_drew1) | exact HB.out)) hb); clear HO_4; clear HB; have HO_4 := n0_; have HB := n1_; clear n0_ n1_; (try clear hb); (try clear hb2); (try clear hk); (try clear hi); have p248 : 0 ≤ (x5_1 : Int) := of_decide_eq_true (by first | (with_reducible assumption) | assumption); have q248 : x5_1 < (l0.length : Int) := of_decide_eq_true (by first | (with_reducible assumption) | assumption); obtain ⟨ad248, e248, hx248_0, hx248_1, hx248_2, hx248_3, hx248_4, hx248_5⟩ := at_T35 HR0.out x5_1 p248 q248; obtain rfl : ad246 = ad248 := (by injection e248); replace hx248_0 := (HB.out.cell (World.block_lt_of_cell? w _ hx248_0)).trans hx248_0; replace hx248_1 := (HB.out.cell (World.block_lt_of_cell? w _ hx248_1)).trans hx248_1; replace hx248_2 := (HB.out.cell (World.block_lt_of_cell? w _ hx248_2)).trans hx248_2; replace hx248_3 := (HB.out.cell (World.block_lt_of_cell? w _ hx248_3)).trans hx248_3; replace hx248_4 := (HB.out.cell (World.block_lt_of_cell? w _ hx248_4)).trans hx248_4; replace hx248_5 := (HB.out.cell (World.block_lt_of_cell? w _ hx248_5)).trans hx248_5; replace p248 := eq_true p248; replace q248 := eq_true q248) | ((with_reducible refine gate_callee (f := 52) rfl ?_); refine goesL_ (some 35) rfl rfl Tryz.func52 (by kernel_rfl) rfl #[.agg #[.int .u64 ((rd_T35 l0 x5_1).f0), .int .i64 ((rd_T35 l0 x5_1).f1), .int .i64 ((rd_T35 l0 x5_1).f2), .int .u32 ((rd_T35 l0 x5_1).f3), .int .u32 ((rd_T35 l0 x5_1).f4), .int .u32 ((rd_T35 l0 x5_1).f5)]] rfl (by (try simp only [List.map_toArray, List.map_cons, List.map_nil]); first | done | rfl | (simp only [List.length_drop, List.length_take]; rfl)) ?_; (with_reducible refine (cloisterref22_Row.calls k1 ((rd_T35 l0 x5_1).f0) ((rd_T35 l0 x5_1).f1) ((rd_T35 l0 x5_1).f2) ((rd_T35 l0 x5_1).f3) ((rd_T35 l0 x5_1).f4) ((rd_T35 l0 x5_1).f5) t249 _ A12.out).mono ?_); rintro e w15 ⟨v250, rfl, ho0, hb⟩; refine ⟨_, rfl, ?_⟩; have n0_ := Aside0.mk (Kd.R_elder' (by (with_reducible repeat (first | apply Kd.R_alloc | apply Kd.R_drewN | apply Kd.R_drew)); exact HO_4.out) (Kd.R_base ho0) hb); have n1_ := Aside0.mk (Kd.R_lower (Kd.R_new' ho0 (Kd.R_lt (by (with_reducible repeat (first | apply Kd.R_alloc | apply Kd.R_drewN | apply Kd.R_drew)); exact HO_4.out))) (below_size (by repeat (first | (with_reducible first | exact HB.out | apply below_alloc | apply pw_below_drewN | apply below_drew1) | exact HB.out)))); have n2_ := Aside0.mk (below_step (by repeat (first | (with_reducible first | exact HB.out | apply below_alloc | apply pw_below_drewN | apply below_drew1) | exact HB.out)) hb); clear HO_4; clear HB; have HO_4 := n0_; have HO251 := n1_; have HB := n2_; clear n0_ n1_ n2_; (try clear hb); (try clear hb2); (try clear hk); (try clear hi); (try clear ho0); obtain ⟨Ao17, co17, eo17⟩ := Kd.R_slice HO251.out; subst eo17) | ((with_reducible refine gate_builtin (b := .append) (xs := #[.tmp 30, .tmp 35]) rfl ?_); at_builtin; refine Kd.R_append_rows (Kd.int .u8) (w0 := w) w.heap.size rfl (.tmp 30) (.tmp 35) 37 5 (.int .u8 0) 1 rfl Tryz.underlying37 info5 rfl (by decide) (by omega) u4 x4_1 t249 _ _ _ (fun k_ => some k_ ≠ (.slice Ao17 t249.length co17 : Value).ownBlock) (fun _ => False) rfl rfl ?aO ?aR (fun _ _ h => h) (fun _ h => h.elim) ?aF ?aB ?aS ?aL ?_; (case aR => repeat (first | exact (Kd.R_reads' HO251.out).2.2 | (with_reducible refine Kd.C_alloc ?_ _) | (with_reducible refine Kd.C_drewN ?_ _) | (with_reducible refine Kd.C_drew ?_))); (case aB => exact (by repeat (first | (with_reducible first | exact HB.out | apply below_alloc | apply pw_below_drewN | apply below_drew1) | exact HB.out))); (case aF => exact (fun k_ hk => Kd.fresh' (Kd.R_lt (by (with_reducible repeat (first | apply Kd.R_alloc | apply Kd.R_drewN | apply Kd.R_drew)); exact HO251.out)) k_ hk)); (case aO => exact (by (with_reducible repeat (first | apply Kd.R_alloc | apply Kd.R_drewN | apply Kd.R_drew)); exact Kd.R_mono HO_4.out (fun _ hk => hk.2))); (case aS => exact (below_size (by repeat (first | (with_reducible first | exact HB.out | apply below_alloc | apply pw_below_drewN | apply below_drew1) | exact HB.out)))); (case aL => have := LMc13.out; omega); intro v253 w16 ho hb hg hat; rw [← Ny252.out] at ho; have n0_ := Aside0.mk (Kd.R_after (ok := (fun _ => True)) (by (with_reducible repeat (first | apply Kd.R_alloc | apply Kd.R_drewN | apply Kd.R_drew)); exact HO251.out) hg hat); have n1_ := Aside0.mk (hb); have n2_ := Aside0.mk (ho); clear HO251; clear HB; clear HO_4; have HO251 := n0_; have HB := n1_; have HO254 := n2_; clear n0_ n1_ n2_; clear ho hb hg hat))
                go_roundg k1
                case measure => have := HK1.out; omega
                case rel => exact ⟨(y252), (wrap64 (x5_1 + 1)), (by first | rfl | (simp; done) | (simp [*]; done)), H', ⟨by have := HK1.out; omega⟩, ⟨by (with_reducible repeat (first | apply Kd.R_alloc | apply Kd.R_drewN | apply Kd.R_drew)); exact Kd.R_mono HO254.out (fun _ hk => trivial)⟩, ⟨by repeat (first | (with_reducible first | exact HB.out | apply below_alloc | apply pw_below_drewN | apply below_drew1) | exact HB.out)⟩⟩
              · rw [if_neg c13] at H
                exact absurd H (by simp)
            · replace c11 := Bool.eq_false_iff.mpr c11
              subst c11
              have H1 : (some (([] : List Int), false)) = some (r1, r2) := by rw [if_neg (show ¬ (false = true) by decide)] at H; exact H
              clear H
              have H := H1
              clear H1
              simp only [Option.some.injEq, Prod.mk.injEq] at H
              obtain ⟨rfl, rfl⟩ := H
              have p246 : 0 ≤ (x5_1 : Int) := of_decide_eq_true (by first | (with_reducible assumption) | assumption)
              have q246 : x5_1 < (l0.length : Int) := of_decide_eq_true (by first | (with_reducible assumption) | assumption)
              obtain ⟨ad246, e246, hx246_0, hx246_1, hx246_2, hx246_3, hx246_4, hx246_5⟩ := at_T35 HR0.out x5_1 p246 q246
              cases e246
              replace hx246_0 := (HB.out.cell (World.block_lt_of_cell? w _ hx246_0)).trans hx246_0
              replace hx246_1 := (HB.out.cell (World.block_lt_of_cell? w _ hx246_1)).trans hx246_1
              replace hx246_2 := (HB.out.cell (World.block_lt_of_cell? w _ hx246_2)).trans hx246_2
              replace hx246_3 := (HB.out.cell (World.block_lt_of_cell? w _ hx246_3)).trans hx246_3
              replace hx246_4 := (HB.out.cell (World.block_lt_of_cell? w _ hx246_4)).trans hx246_4
              replace hx246_5 := (HB.out.cell (World.block_lt_of_cell? w _ hx246_5)).trans hx246_5
              replace p246 := eq_true p246
              replace q246 := eq_true q246
              go_wp2_with (first | ((with_reducible refine gate_callee (f := 40) rfl ?_); refine goesL_ (some 27) rfl rfl Tryz.func40 (by kernel_rfl) rfl #[.agg #[.int .u64 ((rd_T35 l0 x5_1).f0), .int .i64 ((rd_T35 l0 x5_1).f1), .int .i64 ((rd_T35 l0 x5_1).f2), .int .u32 ((rd_T35 l0 x5_1).f3), .int .u32 ((rd_T35 l0 x5_1).f4), .int .u32 ((rd_T35 l0 x5_1).f5)]] rfl (by (try simp only [List.map_toArray, List.map_cons, List.map_nil]); first | done | rfl | (simp only [List.length_drop, List.length_take]; rfl)) ?_; (with_reducible refine (cloisterref22_May.calls k1 ((rd_T35 l0 x5_1).f0) ((rd_T35 l0 x5_1).f1) ((rd_T35 l0 x5_1).f2) ((rd_T35 l0 x5_1).f3) ((rd_T35 l0 x5_1).f4) ((rd_T35 l0 x5_1).f5) false _ A10.out).mono ?_); rintro e w18 ⟨rfl, hb⟩; refine ⟨_, rfl, ?_⟩; have n0_ := Aside0.mk (Kd.R_below (by (with_reducible repeat (first | apply Kd.R_alloc | apply Kd.R_drewN | apply Kd.R_drew)); exact HO_4.out) hb); have n1_ := Aside0.mk (below_step (by repeat (first | (with_reducible first | exact HB.out | apply below_alloc | apply pw_below_drewN | apply below_drew1) | exact HB.out)) hb); clear HO_4; clear HB; have HO_4 := n0_; have HB := n1_; clear n0_ n1_; (try clear hb); (try clear hb2); (try clear hk); (try clear hi)))
              go_ret2
              exact ⟨_, by first | rfl | (simp [errW_none, errW_some] <;> rfl) | (simp [*, errW_none, errW_some] <;> rfl), by first | exact Kd.R_nil _ _ _ _ _ | exact Kd.N_nil _ _ _ _ _ | exact Kd.V_nil _ _ _ _ _ | exact Kd.Q_nil _ _ _ _ _ | exact Kd.S_nil _ _ _ _ _, by repeat (first | (with_reducible first | exact HB.out | apply below_alloc | apply pw_below_drewN | apply below_drew1) | exact HB.out)⟩
          · rw [if_neg c9] at H
            exact absurd H (by simp)
        · rw [if_neg c8] at H
          have c8b0 : decide (x5_1 < (l0.length : Int)) = false := decide_eq_false c8
          clear c8
          replace H := Option.bind_eq_some_iff.mp H
          obtain ⟨t242, A190, H⟩ := H
          replace H : ((cloisterref22_put.f k1 x4_1 (IntKind.u64.wrap (t242)) 4).bind fun t243 => (some (t243, true))) = some (r1, r2) := H
          have A19 := Aside0.mk A190
          clear A190
          replace H := Option.bind_eq_some_iff.mp H
          obtain ⟨t243, A200, H⟩ := H
          replace H : (some (t243, true)) = some (r1, r2) := H
          have A20 := Aside0.mk A200
          clear A200
          simp only [Option.some.injEq, Prod.mk.injEq] at H
          obtain ⟨rfl, rfl⟩ := H
          obtain ⟨Ao21, co21, eo21⟩ := Kd.R_slice HO_4.out
          subst eo21
          go_wp2_with (first | ((with_reducible refine gate_callee (f := 50) rfl ?_); refine goesL_ (some 39) rfl rfl Tryz.func50 (by kernel_rfl) rfl #[.slice Ao21 x4_1.length co21] rfl (by (try simp only [List.map_toArray, List.map_cons, List.map_nil]); first | done | rfl | (simp only [List.length_drop, List.length_take]; rfl)) ?_; (with_reducible refine (cloisterref22_Sum.calls k1 _ _ x4_1 t242 _ ?side1 ?side2 A19.out).mono ?_); (case side1 => repeat (first | exact (Kd.R_reads' HO_4.out).2.2 | (with_reducible refine Kd.C_alloc ?_ _) | (with_reducible refine Kd.C_drewN ?_ _) | (with_reducible refine Kd.C_drew ?_))); (case side2 => exact (Kd.R_reads' HO_4.out).2.1); rintro e w' ⟨rfl, ⟨nd, rfl⟩⟩; refine ⟨_, rfl, ?_⟩) | ((with_reducible refine gate_callee (f := 51) rfl ?_); refine goesL_ (some 41) rfl rfl Tryz.func51 (by kernel_rfl) rfl #[.slice Ao21 x4_1.length co21, .int .u64 (IntKind.u64.wrap (t242)), .int .i64 4] rfl (by (try simp only [List.map_toArray, List.map_cons, List.map_nil]); first | done | rfl | (simp only [List.length_drop, List.length_take]; rfl)) ?_; (with_reducible refine (cloisterref22_put.calls k1 (fun k_ => some k_ = (.slice Ao21 x4_1.length co21 : Value).ownBlock) (.slice Ao21 x4_1.length co21) x4_1 (IntKind.u64.wrap (t242)) 4 t243 w _ ?side1 ?side2 A20.out).mono ?_); (case side1 => repeat (first | (with_reducible first | exact HB.out | apply below_alloc | apply pw_below_drewN | apply below_drew1) | exact HB.out)); (case side2 => exact Kd.R_tight rfl HO_4.out); rintro e w22 ⟨v244, rfl, ho0, hb, hkp⟩; refine ⟨_, rfl, ?_⟩; have n0_ := Aside0.mk (Kd.R_mono (ok' := fun k_ => True) ho0 (fun k_ hk_ => trivial)); have n1_ := Aside0.mk (hb); clear HB; clear HO_4; have HO245 := n0_; have HB := n1_; clear n0_ n1_; (try clear hb); (try clear hkp); (try clear ho0)))
          go_ret2
          exact ⟨_, by first | rfl | (simp [errW_none, errW_some] <;> rfl) | (simp [*, errW_none, errW_some] <;> rfl), by (with_reducible repeat (first | apply Kd.R_alloc | apply Kd.R_drewN | apply Kd.R_drew)); exact HO245.out, by repeat (first | (with_reducible first | exact HB.out | apply below_alloc | apply pw_below_drewN | apply below_drew1) | exact HB.out)⟩

end Go.Proofs.YtohighedgdlflaaGreatDoor.PR

/- NewWriter, Raw and Done of package wire, where nothing goes wrong. -/
namespace Go.Proofs.YtohighedgdlflaaGreatDoor
open Go.RowKit Go.Proofs.YtohighedgdlflaaGreatDoorW.PrintWords Go.Proofs.YtohighedgdlflaaGreatDoor.PR
set_option linter.unusedVariables false
set_option linter.unusedSimpArgs false
set_option maxHeartbeats 400000 in
theorem newWriter_ok (lim : Int) (base : Nat) (w0 w : World) (h0 : 0 ≤ lim) (hl : lim ≤ 67108864) (hB : Below base w0 w) (hb : base ≤ w.heap.size) :
    Calls Tryz.prog 55 #[.int .i64 lim] w fun e w' => ∃ g, e = .returned (.tuple #[.pointer (some ⟨g, 0, none⟩), .int .i64 0]) ∧ Wr w' base g lim (.slice none 0 0) [] ∧ w.heap.size ≤ g ∧ Below base w0 w' ∧ Below w.heap.size w w' := by
  have hmm := @run_makeMap Tryz.prog
  have c1 : ¬ lim < 0 := by omega
  have c2 : decide (67108864 < lim) = false := by simpa using hl
  go_enter Tryz.func55, Tryz.ntmps55
  go_wp2
  refine bodyPost_ret (results_tmp2 rfl _ _ _) rfl ?_
  refine ⟨w.heap.size + 1, rfl, ⟨by omega, ⟨w.heap.size, ?_, ?_, hb⟩, own_nil _ _ _ _⟩, by omega, ?_, ?_⟩
  · have := heap_alloc_new (w.alloc (.map #[] 0)) (.cells #[.int .i64 lim, .slice none 0 0, .map (some w.heap.size), .int .i64 0] 136)
    simpa using this
  · rw [Below.heap_alloc _ _ _ (by simp)]; exact heap_alloc_new w _
  · exact (hB.alloc hb _).alloc (by simp; omega) _
  · exact ((Below.refl _ _).alloc (Nat.le_refl _) _).alloc (by simp) _
set_option maxHeartbeats 400000 in
theorem raw_ok (base g : Nat) (lim : Int) (v : Value) (xs ys : List Int) (A : Option Addr) (c : Nat) (w0 w : World) (hW : Wr w base g lim v xs) (hl : lim ≤ 67108864) (hn : (xs.length : Int) + ys.length ≤ lim) (hR : Kd.C (Kd.int .u8) w A ys.length ys) (hc : ys.length ≤ c) (hB : Below base w0 w) :
    Calls Tryz.prog 59 #[.pointer (some ⟨g, 0, none⟩), .slice A ys.length c] w fun e w' => e = .returned (.tuple #[]) ∧ ∃ v', Wr w' base g lim v' (xs ++ ys) ∧ Wk w w' g v v' ∧ Below base w0 w' := by
  have hW0 := Lib.hid hW
  obtain ⟨hbg, ⟨mb, hg, hm, hbm⟩, ho⟩ := hW
  obtain ⟨A0, c0, rfl⟩ := own_slice ho
  have h0 : w.cell? ⟨g, 0, none⟩ = some (.int .i64 lim) := by simp [World.cell?, hg]
  have h1 : w.cell? ⟨g, 1, none⟩ = some (.slice A0 xs.length c0) := by simp [World.cell?, hg]
  have h3 : w.cell? ⟨g, 3, none⟩ = some (.int .i64 0) := by simp [World.cell?, hg]
  have hbs : base ≤ w.heap.size := by have := heap_lt hg; omega
  have HR := Lib.hid hR
  clear hg hm ho
  go_enter Tryz.func59, Tryz.ntmps59
  go_wp2_with fail
  refine (room_ok g lim ys.length A0 xs.length c0 _ h0 h1 h3 hl (by omega) (by omega) (by omega)).mono ?_
  rintro e w' ⟨rfl, m, rfl⟩
  go_wp2_with (at_builtin; refine print_append_row (w0 := w0) base rfl (.tmp 12) (.tmp 13) 37 5 .u8 1 rfl Tryz.underlying37 info5 (by decide) _ xs ys A ys.length c rfl rfl (pw_own_below hW0.out.own (pw_below_drewN (Below.refl _ _) m)) (C_reads (Kd.C_below HR.out (pw_below_drewN (Below.refl _ _) m))) (pw_below_drewN hB m) hbs (by omega) ?_; intro v1 w1 hown hb1 hg1 hat; obtain ⟨hc1, hf1⟩ := (hW0.out.below (pw_below_drewN (Below.refl _ _) m)).at1 hg1; have Hown := Lib.hid hown; have Hb1 := Lib.hid hb1; have Hg1 := Lib.hid hg1; have Hat := Lib.hid hat; clear hown hb1 hg1 hat; obtain ⟨A1, cap1, hv1⟩ : ∃ A1 cap1, v1 = .slice A1 (xs ++ ys).length cap1 := own_slice Hown.out; rw [List.length_append] at hv1; subst hv1)
  go_end0
  refine ⟨rfl, .slice A1 (xs.length + ys.length) cap1, (hW0.out.below (pw_below_drewN (Below.refl _ _) m)).push Hg1.out Hown.out, (Wk.below (pw_below_drewN (Below.refl _ _) m)).trans (Wk.push (v := .slice A0 xs.length c0) Hg1.out Hat.out _), Hb1.out.setCell (p := ⟨g, 1, none⟩) hbg _⟩
set_option maxRecDepth 100000 in
theorem done_ok (base g : Nat) (lim : Int) (v : Value) (xs : List Int) (w0 w : World) (hW : Wr w base g lim v xs) (hl : lim ≤ 67108864) (hxl : (xs.length : Int) ≤ lim) (hB : Below base w0 w) (hb : base ≤ w.heap.size) :
    Calls Tryz.prog 58 #[.pointer (some ⟨g, 0, none⟩)] w fun e w' => ∃ v', e = .returned (.tuple #[v', .int .i64 0]) ∧ Kd.R (Kd.int .u8) 5 w' w.heap.size (fun _ => True) v' xs ∧ Below base w0 w' ∧ Below w.heap.size w w' := by
  have hW0 := Lib.hid hW
  have hle : Hid (xs.length ≤ 67108864) := by show xs.length ≤ 67108864; omega
  obtain ⟨hbg, ⟨mb, hg, hm, hbm⟩, ho⟩ := hW
  obtain ⟨A0, c0, rfl⟩ := own_slice ho
  have h1 : w.cell? ⟨g, 1, none⟩ = some (.slice A0 xs.length c0) := by simp [World.cell?, hg]
  have h2 : w.cell? ⟨g, 2, none⟩ = some (.map (some mb)) := by simp [World.cell?, hg]
  have h3 : w.cell? ⟨g, 3, none⟩ = some (.int .i64 0) := by simp [World.cell?, hg]
  have hlen : (Builtin.len_ #[134] 3 #[.map (some mb)]).run Tryz.prog w = .ok (.int .i64 0) w := run_len_map w 134 3 mb #[] 0 (by kernel_rfl) hm
  clear hg ho
  go_enter Tryz.func58, Tryz.ntmps58
  go_wp2_with (at_builtin; refine print_append_row (w0 := w) w.heap.size rfl (.const (.slice none 0 0)) (.tmp 24) 37 5 .u8 1 rfl Tryz.underlying37 info5 (by decide) (.slice none 0 0) [] xs A0 xs.length c0 rfl rfl (own_nil _ _ _ _) ?hr (Below.refl _ _) (Nat.le_refl _) ?hl ?_; (case hr => (obtain ⟨A', c', e, hr⟩ := own_reads hW0.out.own; cases e; exact hr)); (case hl => (have := hle.out; simp; omega)); intro v1 w1 hown hb1 hg1 hat; have Hown := Lib.hid hown; have Hb1 := Lib.hid hb1; clear hown hb1 hg1 hat)
  refine bodyPost_ret (results_tmp2 rfl _ _ _) rfl ?_
  refine ⟨v1, rfl, ?_, hB.trans (Hb1.out.mono hb), Hb1.out⟩
  have := Hown.out
  simp only [List.nil_append] at this
  exact Kd.R_of_own this (fun _ _ => trivial)
end Go.Proofs.YtohighedgdlflaaGreatDoor

/- trace.Encode writes what encBytes says. -/
namespace Go.Proofs.YtohighedgdlflaaGreatDoor
open Go.RowKit Go.Proofs.YtohighedgdlflaaGreatDoorW.PrintWords Go.Proofs.YtohighedgdlflaaGreatDoor.PR
set_option linter.unusedVariables false
set_option linter.unusedSimpArgs false
/-- What the trace of l is, but for its sum. -/
def encBody (l : List S35) : List Int := leb 4 1381256259 ++ leb 4 l.length ++ l.flatMap rowB
def encBytes (l : List S35) : List Int := encBody l ++ leb 4 (Crc.crc (encBody l))
def encOk (l : List S35) : Bool := decide (l.length ≤ 1000000) && l.all mayB
theorem notMay_ok (o : S35) (w : World) : Calls Tryz.prog 54 #[.agg #[.int .u64 o.f0, .int .i64 o.f1, .int .i64 o.f2, .int .u32 o.f3, .int .u32 o.f4, .int .u32 o.f5]] w fun e w' => e = .returned (.bool (!mayB o)) ∧ Below w.heap.size w w' := by
  have hbl : Hid (Below w.heap.size w (w.alloc (.cells #[.int .u64 o.f0, .int .i64 o.f1, .int .i64 o.f2, .int .u32 o.f3, .int .u32 o.f4, .int .u32 o.f5] 35))) := below_alloc (Below.refl _ _) _
  go_enter Tryz.func54, Tryz.ntmps54
  go_wp2_with fail
  refine (may_ok o _).mono ?_
  rintro e w1 ⟨rfl, hb1⟩
  have HB1 := Lib.hid (hbl.out.trans (hb1.mono hbl.out.size))
  clear hb1 hbl
  have hnot : ∀ (x : Bool) (w : World), (Op.unary .not (.bool x)).run Tryz.prog w = .ok (.bool (!x)) w := fun _ _ => rfl
  go_wp2_with fail
  go_ret
  exact ⟨rfl, HB1.out⟩
set_option maxHeartbeats 400000 in
theorem anyNot_ok (l : List S35) (A : Option Addr) (c : Nat) (w : World) (hR : Kd.C k35 w A l.length l) :
    Calls Tryz.prog 99 #[.slice A l.length c, .func (.func 54) #[] #[]] w fun e w' => ∃ r : Int, e = .returned (.int .i64 r) ∧ (decide (0 ≤ r) = !l.all mayB) ∧ Below w.heap.size w w' := by
  have HR := Lib.hid hR
  have hm := Kd.C_max hR
  clear hR
  go_enter Tryz.func99, Tryz.ntmps99
  go_wp2_with fail
  go_loopw [5, 8] (fun v5 v8 wr => ∃ k : Nat, k ≤ l.length ∧ v8 = .int .i64 k ∧ Hid ((l.take k).all mayB = true) ∧ Hid (Below w.heap.size w wr)) (fun _ i _ => l.length - (intOf i).toNat)
  case atStart => exact ⟨0, by omega, rfl, rfl, Below.refl _ _⟩
  case round =>
    obtain ⟨k, hk, rfl, hall, HB⟩ := hrel
    by_cases hlt : k < l.length
    · obtain ⟨o, ho⟩ : ∃ o, o = rd_T35 l k := ⟨_, rfl⟩
      have ho2 : Hid (l[k]? = some o) := by
        show l[k]? = some o
        rw [ho]; simp [rd_T35, List.getD_eq_getElem?_getD, List.getElem?_eq_getElem hlt]
      obtain ⟨ad, rfl, c0, c1, c2, c3, c4, c5⟩ := at_T35 (Kd.C_below HR.out HB.out) k (by omega) (by omega)
      rw [← ho] at c0 c1 c2 c3 c4 c5
      simp only [Int.toNat_natCast] at c0 c1 c2 c3 c4 c5
      clear ho
      go_wp2_with fail
      refine (notMay_ok o _).mono ?_
      rintro e w2 ⟨rfl, hb2⟩
      have HB2 := Lib.hid (HB.out.trans (hb2.mono HB.out.size))
      clear hb2 HB c0 c1 c2 c3 c4 c5
      cases hmb : mayB o with
      | false =>
        have Hmb := Lib.hid hmb
        clear hmb
        go_wp2_with fail
        go_ret
        refine ⟨_, rfl, ?_, HB2.out⟩
        have : l.all mayB = false := by
          rw [List.all_eq_false]
          exact ⟨o, List.mem_of_getElem? ho2.out, by rw [Hmb.out]; decide⟩
        simp [this]
      | true =>
        have hall2 : Hid ((l.take (k + 1)).all mayB = true) := by
          show (l.take (k + 1)).all mayB = true
          rw [List.take_add_one, ho2.out]
          simp [hall.out, hmb]
        clear hmb hall
        go_wp2_with fail
        go_roundw
        case rel => exact ⟨k + 1, by omega, by go_num, hall2, HB2⟩
        case measure => simp [intOf]; omega
    · obtain rfl : k = l.length := by omega
      go_wp2_with fail
      go_ret
      refine ⟨-1, rfl, ?_, HB.out⟩
      have := hall.out
      rw [List.take_of_length_le (Nat.le_refl _)] at this
      rw [this]; decide
theorem contains_ok (l : List S35) (A : Option Addr) (c : Nat) (w : World) (hR : Kd.C k35 w A l.length l) :
    Calls Tryz.prog 53 #[.slice A l.length c, .func (.func 54) #[] #[]] w fun e w' => e = .returned (.bool (!l.all mayB)) ∧ Below w.heap.size w w' := by
  go_enter Tryz.func53, Tryz.ntmps53
  go_wp2_with fail
  refine (anyNot_ok l A c w hR).mono ?_
  rintro e w1 ⟨r, rfl, hr, hb⟩
  have Hr := Lib.hid hr
  have HB := Lib.hid hb
  clear hr hb hR
  go_wp2_with fail
  go_ret
  exact ⟨by rw [← Hr.out]; rfl, HB.out⟩
/-- The two results for an answer. -/
def EncR (w : World) (l : List S35) (e : Ending) (w' : World) : Prop :=
  ∃ v, e = .returned (.tuple #[v, .int .i64 (if encOk l = true then 0 else 220)]) ∧ Kd.R (Kd.int .u8) 5 w' w.heap.size (fun _ => True) v (if encOk l = true then encBytes l else []) ∧ Below w.heap.size w w'
theorem EncR.bad {w W : World} {l : List S35} (hb : encOk l = false) (h : Below w.heap.size w W) : EncR w l (.returned (.tuple #[.slice none 0 0, .int .i64 220])) W :=
  ⟨.slice none 0 0, by rw [hb]; rfl, by rw [hb]; exact Kd.R_nil _ _ _ _ _, h⟩
theorem flat_len (l : List S35) : (l.flatMap rowB).length = 22 * l.length := by
  induction l with
  | nil => rfl
  | cons o l ih => rw [List.flatMap_cons, List.length_append, rowB_length, ih, List.length_cons]; omega
theorem encBody_len (l : List S35) : (encBody l).length = 8 + 22 * l.length := by
  simp only [encBody, List.length_append, leb_length, flat_len]
theorem leb_bytes (n : Nat) (x : Int) : Crc.Bytes (leb n x) := by
  intro y hy
  simp only [leb, List.mem_map] at hy
  obtain ⟨i, _, rfl⟩ := hy
  omega
theorem encBody_bytes (l : List S35) : Crc.Bytes (encBody l) := by
  intro y hy
  simp only [encBody, List.mem_append, List.mem_flatMap, rowB] at hy
  rcases hy with (h | h) | ⟨o, _, h⟩
  · exact leb_bytes _ _ y h
  · exact leb_bytes _ _ y h
  · rcases h with ((((h | h) | h) | h) | h) | h <;> exact leb_bytes _ _ y h
theorem crc_b {xs : List Int} (h : Crc.Bytes xs) : 0 ≤ Crc.crc xs ∧ Crc.crc xs < 4294967296 := by
  have h1 := Crc.stN_lt (s := 4294967295) h (by decide)
  have := Nat.xor_lt_two_pow h1 (show 4294967295 < 2 ^ 32 by decide)
  unfold Crc.crc
  omega
set_option maxRecDepth 100000 in
set_option maxHeartbeats 1000000 in
theorem encode_ok (l : List S35) (A : Option Addr) (c : Nat) (w : World) (hT : WTab w) (hR : Kd.C k35 w A l.length l) (hF : ∀ o ∈ l, Fits o) :
    Calls Tryz.prog 21 #[.slice A l.length c] w (EncR w l) := by
  have HR := Lib.hid hR
  have HT := Lib.hid hT
  have HF := Lib.hid hF
  have hm := Kd.C_max hR
  clear hR hT hF
  by_cases hbig : 1000000 < l.length
  · have hbad : Hid (encOk l = false) := by show encOk l = false; unfold encOk; rw [decide_eq_false (by omega)]; rfl
    have hbig' : (1000000 : Int) < l.length := by omega
    clear hbig
    go_enter Tryz.func21, Tryz.ntmps21
    go_wp2_with fail
    refine bodyPost_ret (results_tmp2 rfl _ _ _) rfl ?_
    exact EncR.bad hbad.out (Below.refl _ _)
  · have hbig' : ¬ (1000000 : Int) < l.length := by omega
    have hsm : l.length ≤ 1000000 := by omega
    clear hbig
    cases hall : l.all mayB with
    | false =>
      have hbad : Hid (encOk l = false) := by show encOk l = false; unfold encOk; simp [hall]
      go_enter Tryz.func21, Tryz.ntmps21
      go_wp2_with fail
      refine (contains_ok l A c w HR.out).mono ?_
      rw [hall]
      clear hall
      rintro e w1 ⟨rfl, hb1⟩
      have HB1 := Lib.hid hb1
      clear hb1
      go_wp2_with fail
      refine bodyPost_ret (results_tmp2 rfl _ _ _) rfl ?_
      exact EncR.bad hbad.out HB1.out
    | true =>
      have hok : Hid (encOk l = true) := by show encOk l = true; unfold encOk; simp [hall, hsm]
      go_enter Tryz.func21, Tryz.ntmps21
      go_wp2_with fail
      refine (contains_ok l A c w HR.out).mono ?_
      rw [hall]
      clear hall
      rintro e w1 ⟨rfl, hb1⟩
      have HB1 := Lib.hid hb1
      clear hb1
      go_wp2_with fail
      refine (newWriter_ok (12 + 22 * (l.length : Int)) w.heap.size w w1 (by omega) (by omega) HB1.out HB1.out.size).mono ?_
      rintro e w2 ⟨g, rfl, hW2, hg2, hb2, _⟩
      have HW2 := Lib.hid hW2
      have HB2 := Lib.hid hb2
      clear hW2 hb2 HB1
      go_wp2_with fail
      refine (word_ok w.heap.size g _ 1381256259 _ _ w w2 HW2.out (by omega) (by simp; omega) (by omega) (by omega) HB2.out).mono ?_
      rintro e w3 ⟨rfl, v3, hW3, _, hb3⟩
      have HW3 := Lib.hid hW3
      have HB3 := Lib.hid hb3
      clear hW3 hb3 HB2 HW2
      go_wp2_with fail
      refine (word_ok w.heap.size g _ l.length _ _ w w3 HW3.out (by omega) (by simp [leb_length]; omega) (by omega) (by omega) HB3.out).mono ?_
      rintro e w4 ⟨rfl, v4, hW4, _, hb4⟩
      have HW4 := Lib.hid hW4
      have HB4 := Lib.hid hb4
      clear hW4 hb4 HB3 HW3
      go_wp2_with fail
      clear hg2 hbig'
      go_loopw [7, 38] (fun v7 v38 wr => ∃ (k : Nat) (v : Value) (zs : List Int), k ≤ l.length ∧ v38 = .int .i64 k ∧ Hid (zs = leb 4 1381256259 ++ leb 4 l.length ++ (l.take k).flatMap rowB) ∧ Hid (Wr wr w.heap.size g (12 + 22 * (l.length : Int)) v zs) ∧ Hid (Below w.heap.size w wr)) (fun _ i _ => l.length - (intOf i).toNat)
      case atStart => exact ⟨0, v4, _, by omega, rfl, by simp [Hid], HW4, HB4⟩
      case round =>
        clear HW4 HB4
        obtain ⟨k, v, zs, hk, rfl, hz, HW, HB⟩ := hrel
        by_cases hlt : k < l.length
        · obtain ⟨o, ho⟩ : ∃ o, o = rd_T35 l k := ⟨_, rfl⟩
          have ho2 : Hid (l[k]? = some o) := by
            show l[k]? = some o
            rw [ho]; simp [rd_T35, List.getD_eq_getElem?_getD, List.getElem?_eq_getElem hlt]
          obtain ⟨ad, rfl, c0, c1, c2, c3, c4, c5⟩ := at_T35 (Kd.C_below HR.out HB.out) k (by omega) (by omega)
          rw [← ho] at c0 c1 c2 c3 c4 c5
          simp only [Int.toNat_natCast] at c0 c1 c2 c3 c4 c5
          clear ho
          have hfit := Lib.hid (HF.out o (List.mem_of_getElem? ho2.out))
          have hzl : Hid (zs.length = 8 + 22 * k) := by
            show zs.length = 8 + 22 * k
            rw [hz.out, List.length_append, List.length_append, leb_length, leb_length, flat_len, List.length_take]; omega
          go_wp2_with fail
          have hbl : Hid (Below wr.heap.size wr (wr.alloc (.cells #[.int .u64 o.f0, .int .i64 o.f1, .int .i64 o.f2, .int .u32 o.f3, .int .u32 o.f4, .int .u32 o.f5] 35))) := below_alloc (Below.refl _ _) _
          refine (row_ok w.heap.size g _ o v zs w _ (HW.out.below hbl.out) (by omega) (by have := hzl.out; omega) hfit.out (HB.out.trans (hbl.out.mono HB.out.size))).mono ?_
          rintro e w6 ⟨rfl, v6, hW6, _, hb6⟩
          have HW6 := Lib.hid hW6
          have HB6 := Lib.hid hb6
          clear hW6 hb6 HB HW hbl c0 c1 c2 c3 c4 c5
          go_wp2_with fail
          go_roundw
          case rel =>
            refine ⟨k + 1, v6, _, by omega, by go_num, ?_, HW6, HB6⟩
            show _ = _
            rw [hz.out, List.take_add_one, ho2.out, List.flatMap_append, List.append_assoc]
            simp
          case measure => simp [intOf]; omega
        · obtain rfl : k = l.length := by omega
          have hzb : Hid (zs = encBody l) := by
            show zs = encBody l
            rw [hz.out, List.take_of_length_le (Nat.le_refl _)]; rfl
          have hzl : Hid (zs.length = 8 + 22 * l.length) := by show zs.length = _; rw [hzb.out, encBody_len]
          clear hz
          go_wp2_with fail
          refine (done_ok w.heap.size g _ v zs w wr HW.out (by omega) (by have := hzl.out; omega) HB.out HB.out.size).mono ?_
          rintro e w6 ⟨v6, rfl, hr6, hb6, _⟩
          obtain ⟨A6, c6, rfl, hc6, hC6⟩ := Kd.R_reads hr6
          have HA6 : Hid (∀ ad, A6 = some ad → ad.block < w6.heap.size) := fun ad h => Kd.R_lt hr6 ad.block (by rw [h]; rfl)
          have HC6 := Lib.hid hC6
          have HB6 := Lib.hid hb6
          have Hc6 := Lib.hid hc6
          clear hr6 hb6 hC6 HB HW hc6
          have hzi : (zs.length : Int) < 67000000 := by have := hzl.out; omega
          go_wp2_with fail
          refine (newWriter_ok ((zs.length : Int) + 4) w.heap.size w w6 (by omega) (by omega) HB6.out HB6.out.size).mono ?_
          rintro e w7 ⟨g2, rfl, hW7, hg2, hb7, hb67⟩
          have HG2 := Lib.hid hg2
          clear hg2
          have HW7 := Lib.hid hW7
          have HB7 := Lib.hid hb7
          have HC7 := Lib.hid (Kd.C_below HC6.out hb67)
          clear hW7 hb7 hb67 HB6 HC6
          go_wp2_with fail
          refine (raw_ok w.heap.size g2 _ _ [] zs A6 c6 w w7 HW7.out (by omega) (by simp; omega) HC7.out Hc6.out HB7.out).mono ?_
          rintro e w8 ⟨rfl, v8, hW8, hk8, hb8⟩
          rw [List.nil_append] at hW8
          have HW8 := Lib.hid hW8
          have HB8 := Lib.hid hb8
          go_wp2_with fail
          have HC8 : Hid (Kd.C (Kd.int .u8) w8 A6 zs.length zs) := Kd.C_keep (0 : Int) HC7.out hk8.1 (fun ad h _ => by have := HA6.out ad h; have := HG2.out; omega)
          have hbl : Hid (Below w8.heap.size w8 (w8.alloc (.cells #[.slice A6 zs.length c6] 37))) := below_alloc (Below.refl _ _) _
          clear hW8 hk8 hb8 HW7 HB7 HC7 HA6 HG2
          refine (sum_ok zs A6 c6 _ _ _ (HT.out.below (HB8.out.trans (hbl.out.mono HB8.out.size))) (by simp) (Kd.C_below HC8.out hbl.out) (by rw [hzb.out]; exact encBody_bytes l)).mono ?_
          rintro e w9 ⟨rfl, rfl⟩
          have HW9 := Lib.hid (HW8.out.below hbl.out)
          have HB9 := Lib.hid (HB8.out.trans (hbl.out.mono HB8.out.size))
          have hcr := crc_b (encBody_bytes l)
          rw [← hzb.out] at hcr
          obtain ⟨hcr0, hcr1⟩ := hcr
          obtain ⟨cr, hcr⟩ : ∃ cr, cr = Crc.crc zs := ⟨_, rfl⟩
          rw [← hcr] at hcr0 hcr1 ⊢
          have Hcr := Lib.hid hcr
          clear hcr HC8 HW8 HB8
          go_wp2_with fail
          refine (word_ok w.heap.size g2 _ cr v8 zs w _ HW9.out (by omega) (by omega) hcr0 hcr1 HB9.out).mono ?_
          rintro e w10 ⟨rfl, v10, hW10, _, hb10⟩
          have HW10 := Lib.hid hW10
          have HB10 := Lib.hid hb10
          clear hW10 hb10 HW9 HB9
          go_wp2_with fail
          refine (done_ok w.heap.size g2 _ v10 _ w w10 HW10.out (by omega) (by rw [List.length_append, leb_length]; omega) HB10.out HB10.out.size).mono ?_
          rintro e w11 ⟨v11, rfl, hr11, hb11, _⟩
          have HR11 := Lib.hid (Kd.R_lower hr11 HB10.out.size)
          have HB11 := Lib.hid hb11
          clear hr11 hb11 HW10 HB10
          go_wp2_with fail
          refine bodyPost_ret (results_tmp2 rfl _ _ _) rfl ?_
          refine ⟨v11, by rw [hok.out]; rfl, ?_, HB11.out⟩
          rw [hok.out, if_pos rfl]
          have := HR11.out
          rw [Hcr.out, hzb.out] at this
          exact this
end Go.Proofs.YtohighedgdlflaaGreatDoor

/- What the document's own writers of bytes give: leb, rowB, crc. -/
namespace Go.Proofs.YtohighedgdlflaaGreatDoor
open Go.Shelf Go.RowKit Go.Sort Go.Lib Go.Proofs.YtohighedgdlflaaGreatDoorW.PrintWords Go.Proofs.YtohighedgdlflaaGreatDoor.PR
set_option linter.unusedVariables false
set_option linter.unusedSimpArgs false
theorem put_mod (q : Int) (h0 : 0 ≤ q) : (Int.tmod q 256) % 256 = q % 256 := by
  rw [Int.tmod_eq_emod_of_nonneg h0]; omega
theorem put_div (q : Int) (h0 : 0 ≤ q) (h1 : q < 18446744073709551616) : IntKind.u64.wrap (Int.tdiv q 256) = q / 256 := by
  rw [Int.tdiv_eq_ediv_of_nonneg h0]
  show (q / 256) % 18446744073709551616 = _
  omega
theorem put_l (l : List Int) (x : Int) (n e : Nat) (h0 : 0 ≤ x) (h1 : x < 18446744073709551616) (hn : n ≤ 8) (hl : l.length < 100000000000000) : ∀ j : Nat, j ≤ n → cloisterref22_put.l0 (j + e + 1) (l ++ leb (n - j) x) (x / 2 ^ (8 * (n - j))) (n : Int) ((n - j : Nat) : Int) = some (l ++ leb n x)
  | 0, _ => by
    rw [cloisterref22_put.l0, Nat.sub_zero, if_neg (by omega)]
  | j + 1, hj => by
    have ih := put_l l x n e h0 h1 hn hl j (by omega)
    obtain ⟨i, hi⟩ : ∃ i, i = n - (j + 1) := ⟨_, rfl⟩
    have e8 : n - j = i + 1 := by omega
    rw [e8] at ih
    have hin : i < n := by omega
    rw [← hi, show j + 1 + e + 1 = (j + e + 1) + 1 by omega, cloisterref22_put.l0, if_pos (by omega), if_pos (by rw [List.length_append, leb_length]; omega)]
    have hp : (0 : Int) < 2 ^ (8 * i) := Int.pow_pos (by decide)
    have hq0 : 0 ≤ x / 2 ^ (8 * i) := Int.ediv_nonneg h0 (Int.le_of_lt hp)
    have hq1 : x / 2 ^ (8 * i) < 18446744073709551616 := Int.lt_of_le_of_lt (Int.ediv_le_self _ h0) h1
    have hd : x / 2 ^ (8 * i) / 256 = x / 2 ^ (8 * (i + 1)) := by
      rw [Int.ediv_ediv_of_nonneg (Int.le_of_lt hp), show 8 * (i + 1) = 8 * i + 8 by omega, Int.pow_add]
      rfl
    rw [put_mod _ hq0, put_div _ hq0 hq1, hd, w64_succ i (by omega), List.append_assoc, ← leb_succ]
    exact ih
theorem put_f (l : List Int) (x : Int) (n k : Nat) (h0 : 0 ≤ x) (h1 : x < 18446744073709551616) (hn : n ≤ 8) (hk : 9 ≤ k) (hl : l.length < 100000000000000) : cloisterref22_put.f k l x (n : Int) = some (l ++ leb n x) := by
  have h := put_l l x n (k - n - 1) h0 h1 hn hl n (Nat.le_refl _)
  rw [Nat.sub_self, show n + (k - n - 1) + 1 = k by omega] at h
  have e1 : x / 2 ^ (8 * 0) = x := by simp
  have e2 : leb 0 x = [] := rfl
  rw [e1, e2, List.append_nil] at h
  exact h
theorem row_f (k : Nat) (hk : 9 ≤ k) {t cl q p a b : Nat} (hG : GoodN t cl q p a b) : cloisterref22_Row.f k (t : Int) (cl : Int) (q : Int) (p : Int) (a : Int) (b : Int) = some (rowB (obN t cl q p a b)) := by
  have g1 := hG.t63; have g2 := hG.cl8; have g3 := hG.q7; have g4 := hG.p32; have g5 := hG.a32; have g6 := hG.b32
  have wr : ∀ n : Nat, n < 18446744073709551616 → IntKind.u64.wrap (n : Int) = (n : Int) := fun n h => by
    show (n : Int) % 18446744073709551616 = _
    omega
  have c1 : ((cl : Int)) % 256 = (cl : Int) := by omega
  have c2 : ((q : Int)) % 256 = (q : Int) := by omega
  unfold cloisterref22_Row.f
  have p8 : ∀ l : List Int, ∀ x : Int, 0 ≤ x → x < 18446744073709551616 → l.length < 100000000000000 → cloisterref22_put.f k l x 8 = some (l ++ leb 8 x) := fun l x a b c => put_f l x 8 k a b (by decide) hk c
  have p1 : ∀ l : List Int, ∀ x : Int, 0 ≤ x → x < 18446744073709551616 → l.length < 100000000000000 → cloisterref22_put.f k l x 1 = some (l ++ leb 1 x) := fun l x a b c => put_f l x 1 k a b (by decide) hk c
  have p4 : ∀ l : List Int, ∀ x : Int, 0 ≤ x → x < 18446744073709551616 → l.length < 100000000000000 → cloisterref22_put.f k l x 4 = some (l ++ leb 4 x) := fun l x a b c => put_f l x 4 k a b (by decide) hk c
  rw [p8 [] (t : Int) (by omega) (by omega) (by simp), Option.bind_some, wr cl (by omega), p1 _ (cl : Int) (by omega) (by omega) (by simp [leb_length]), Option.bind_some, wr q (by omega), p1 _ (q : Int) (by omega) (by omega) (by simp [leb_length]), Option.bind_some, wr p (by omega), p4 _ (p : Int) (by omega) (by omega) (by simp [leb_length]), Option.bind_some, wr a (by omega), p4 _ (a : Int) (by omega) (by omega) (by simp [leb_length]), Option.bind_some, wr b (by omega), p4 _ (b : Int) (by omega) (by omega) (by simp [leb_length])]
  unfold rowB obN
  simp only [c1, c2]
  rfl
theorem sum_step (k : Nat) (xs : List Int) (s : Nat) (i : Int) (x5 : Nat) (hs : s < 4294967296) (h5 : x5 < 8) : cloisterref22_Sum.l1 (k + 1) xs (s : Int) i (x5 : Int) = cloisterref22_Sum.l1 k xs ((Crc.bitN s : Nat) : Int) i ((x5 + 1 : Nat) : Int) := by
  have hm : Int.tmod (s : Int) 2 = ((s % 2 : Nat) : Int) := by rw [Int.tmod_eq_emod_of_nonneg (Int.natCast_nonneg s)]; omega
  have hd : (Int.tdiv (s : Int) 2) % 4294967296 = ((s / 2 : Nat) : Int) := by
    rw [Int.tdiv_eq_ediv_of_nonneg (Int.natCast_nonneg s)]; omega
  rw [cloisterref22_Sum.l1, if_pos (by omega), hm, hd, w64_succ x5 (by omega)]
  unfold Crc.bitN
  by_cases h : s % 2 = 1
  · rw [if_pos (by omega), if_pos h]
    have := Crc.xor_u32 (s / 2) 3988292384 (by show s / 2 < 4294967296; omega) (by decide)
    rw [show ((3988292384 : Nat) : Int) = 3988292384 from rfl] at this
    rw [this]
  · rw [if_neg (by omega), if_neg h, Nat.xor_zero]
theorem bl (s : Nat) (h : s < 4294967296) : Crc.bitN s < 4294967296 := Crc.bitN_lt h
theorem sum_byte (k : Nat) (xs : List Int) (s : Nat) (i : Nat) (hs : s < 4294967296) (hi : i < 1000000000000) : cloisterref22_Sum.l1 (k + 9) xs (s : Int) (i : Int) 0 = cloisterref22_Sum.l0 k xs ((Crc.bitN (Crc.bitN (Crc.bitN (Crc.bitN (Crc.bitN (Crc.bitN (Crc.bitN (Crc.bitN s))))))) : Nat) : Int) ((i + 1 : Nat) : Int) := by
  have h1 := bl _ hs; have h2 := bl _ h1; have h3 := bl _ h2; have h4 := bl _ h3; have h5 := bl _ h4; have h6 := bl _ h5; have h7 := bl _ h6
  have e0 := sum_step (k + 8) xs s i 0 hs (by decide)
  rw [show ((0 : Nat) : Int) = 0 from rfl] at e0
  rw [show k + 9 = k + 8 + 1 from rfl, e0, sum_step (k + 7) xs _ i _ h1 (by decide), sum_step (k + 6) xs _ i _ h2 (by decide), sum_step (k + 5) xs _ i _ h3 (by decide), sum_step (k + 4) xs _ i _ h4 (by decide), sum_step (k + 3) xs _ i _ h5 (by decide), sum_step (k + 2) xs _ i _ h6 (by decide), sum_step (k + 1) xs _ i _ h7 (by decide)]
  rw [cloisterref22_Sum.l1, if_neg (by decide), w64_succ i (by omega)]
theorem sum_l (xs : List Int) (hb : Crc.Bytes xs) (hl : xs.length < 1000000000) : ∀ (j : Nat) (s : Nat), j ≤ xs.length → s < 4294967296 → cloisterref22_Sum.l0 (10 * j + 1) xs (s : Int) ((xs.length - j : Nat) : Int) = some ((Crc.stN (xs.drop (xs.length - j)) s ^^^ 4294967295 : Nat) : Int)
  | 0, s, _, hs => by
    rw [cloisterref22_Sum.l0, if_neg (by omega), Nat.sub_zero, List.drop_length]
    have := Crc.xor_u32 s 4294967295 hs (by decide)
    rw [show ((4294967295 : Nat) : Int) = 4294967295 from rfl] at this
    rw [this]; rfl
  | j + 1, s, hj, hs => by
    obtain ⟨i, hi⟩ : ∃ i, i = xs.length - (j + 1) := ⟨_, rfl⟩
    have e8 : xs.length - j = i + 1 := by omega
    have hil : i < xs.length := by omega
    have hx := hb _ (List.getElem_mem hil)
    obtain ⟨n, hn⟩ : ∃ n : Nat, xs[i] = (n : Int) := ⟨xs[i].toNat, by omega⟩
    have hn256 : n < 256 := by omega
    have hrd : rd xs (i : Int) = (n : Int) := by
      rw [← hn]; simp [rd, List.getD_eq_getElem?_getD, List.getElem?_eq_getElem hil]
    have hxr : Go.bits .xor .u32 (s : Int) ((n : Int) % 4294967296) = ((s ^^^ n : Nat) : Int) := by
      rw [show (n : Int) % 4294967296 = (n : Int) by omega]
      exact Crc.xor_u32 s n hs (by show n < 4294967296; omega)
    have hsx : s ^^^ n < 4294967296 := Nat.xor_lt_two_pow (n := 32) hs (by omega)
    have hby : Crc.byteN s n < 4294967296 := Crc.byteN_lt hs hn256
    have ih := sum_l xs hb hl j (Crc.byteN s n) (by omega) hby
    rw [e8] at ih
    rw [← hi, show 10 * (j + 1) + 1 = (10 * j + 1 + 9) + 1 by omega, cloisterref22_Sum.l0, if_pos (by omega), if_pos (by omega), hrd, hxr, sum_byte (10 * j + 1) xs _ i hsx (by omega), List.drop_eq_getElem_cons hil, hn]
    exact ih
theorem sum_f (xs : List Int) (hb : Crc.Bytes xs) (hl : xs.length < 1000000000) : cloisterref22_Sum.f (10 * xs.length + 1) xs = some (Crc.crc xs) := by
  have h := sum_l xs hb hl xs.length 4294967295 (Nat.le_refl _) (by decide)
  rw [Nat.sub_self, List.drop_zero] at h
  exact h
end Go.Proofs.YtohighedgdlflaaGreatDoor

/- A small number as an unsigned word. -/
namespace Go.Proofs.YtohighedgdlflaaGreatDoor
set_option linter.unusedVariables false
theorem u64w (n : Nat) (h : n < 18446744073709551616) : IntKind.u64.wrap (n : Int) = (n : Int) := by
  show (n : Int) % 18446744073709551616 = _
  omega
end Go.Proofs.YtohighedgdlflaaGreatDoor

/- The document's Encode, in plain Lean: encBytes, if all may be. -/
namespace Go.Proofs.YtohighedgdlflaaGreatDoor
open Go.Shelf Go.RowKit Go.Sort Go.Lib Go.Proofs.YtohighedgdlflaaGreatDoorW.PrintWords Go.Proofs.YtohighedgdlflaaGreatDoor.PR
set_option linter.unusedVariables false
set_option linter.unusedSimpArgs false
def encPre (l : List S35) (i : Nat) : List Int := leb 4 1381256259 ++ leb 4 l.length ++ (l.take i).flatMap rowB
theorem encPre_len (l : List S35) (i : Nat) : (encPre l i).length ≤ 8 + 22 * l.length := by
  simp only [encPre, List.length_append, leb_length, flat_len, List.length_take]; omega
theorem encR_l (l : List S35) (hF : ∀ o ∈ l, FitsT o) (hl : l.length ≤ 1000000) (F : Nat) (hFu : F = 10 * (8 + 22 * l.length) + 1) : ∀ j : Nat, j ≤ l.length → (l.take (l.length - j)).all mayB = true →
    cloisterref22_Encode.l0 (j + F + 1) l (encPre l (l.length - j)) ((l.length - j : Nat) : Int) = some (if l.all mayB = true then (encBytes l, true) else ([], false))
  | 0, _, hall => by
    rw [Nat.sub_zero, List.take_length] at *
    have e0 : encPre l l.length = encBody l := by simp [encPre, encBody]
    have hlen := encBody_len l
    have hs := sum_f (encBody l) (encBody_bytes l) (by omega)
    have hc := crc_b (encBody_bytes l)
    obtain ⟨n, hn⟩ : ∃ n : Nat, Crc.crc (encBody l) = (n : Int) := ⟨(Crc.crc (encBody l)).toNat, by omega⟩
    rw [e0, Nat.zero_add, cloisterref22_Encode.l0, if_neg (by omega), if_pos hall]
    rw [hlen, ← hFu] at hs
    rw [hs, Option.bind_some, hn, u64w n (by omega)]
    have p4 : cloisterref22_put.f F (encBody l) (n : Int) 4 = some (encBody l ++ leb 4 (n : Int)) := put_f (encBody l) (n : Int) 4 F (by omega) (by omega) (by decide) (by omega) (by omega)
    rw [p4, Option.bind_some]
    unfold encBytes
    rw [hn]
  | j + 1, hj, hall => by
    have ih := encR_l l hF hl F hFu j (by omega)
    obtain ⟨i, hi⟩ : ∃ i, i = l.length - (j + 1) := ⟨_, rfl⟩
    have e8 : l.length - j = i + 1 := by omega
    rw [e8] at ih
    rw [← hi] at hall ⊢
    obtain ⟨o, ho⟩ : ∃ o, o = rd_T35 l i := ⟨_, rfl⟩
    have ho2 : l[i]? = some o := by
      rw [ho]; simp [rd_T35, List.getD_eq_getElem?_getD, List.getElem?_eq_getElem (show i < l.length by omega)]
    have hm := List.mem_of_getElem? ho2
    have hfu : j + F + 1 = (j + F - 1) + 2 := by omega
    rw [show j + 1 + F + 1 = (j + F + 1) + 1 by omega, cloisterref22_Encode.l0, if_pos (by omega), if_pos (by omega), ← ho]
    have hmf := refMay_f o (j + F - 1)
    rw [← hfu] at hmf
    rw [hmf, Option.bind_some]
    cases hmb : mayB o with
    | false =>
      rw [if_neg (by decide)]
      have : ¬ l.all mayB = true := by
        intro h
        rw [List.all_eq_true.1 h o hm] at hmb
        cases hmb
      rw [if_neg this]
    | true =>
      obtain ⟨t, cl, q, p, a, b, hob, hG⟩ := good_of_may hmb (hF o hm)
      have hr := row_f (j + F + 1) (by omega) hG
      have hle := encPre_len l i
      have hro := rowB_length o
      rw [if_pos rfl, hob]
      show ((cloisterref22_Row.f (j + F + 1) (t : Int) (cl : Int) (q : Int) (p : Int) (a : Int) (b : Int)).bind _) = _
      rw [hr, Option.bind_some, ← hob, if_pos (by omega), w64_succ i (by omega)]
      have hnext : encPre l (i + 1) = encPre l i ++ rowB o := by
        unfold encPre
        rw [List.take_add_one, ho2]
        simp
      rw [← hnext]
      refine ih ?_
      rw [List.take_add_one, ho2]
      simp [hall, hmb]
theorem encR_f (l : List S35) (hF : ∀ o ∈ l, FitsT o) (hl : l.length ≤ 1000000) : cloisterref22_Encode.f (l.length + (10 * (8 + 22 * l.length) + 1) + 1) l = some (if l.all mayB = true then (encBytes l, true) else ([], false)) := by
  have h := encR_l l hF hl _ rfl l.length (Nat.le_refl _) (by simp)
  rw [Nat.sub_self] at h
  have e0 : encPre l 0 = [67, 76, 84, 82] ++ leb 4 (l.length : Int) := by
    simp only [encPre, List.take_zero, List.flatMap_nil, List.append_nil]
    rfl
  rw [e0] at h
  unfold cloisterref22_Encode.f
  have p4 : cloisterref22_put.f (l.length + (10 * (8 + 22 * l.length) + 1) + 1) [67, 76, 84, 82] ((l.length : Nat) : Int) 4 = some ([67, 76, 84, 82] ++ leb 4 (l.length : Int)) := put_f [67, 76, 84, 82] ((l.length : Nat) : Int) 4 _ (by omega) (by omega) (by decide) (by omega) (by simp)
  rw [if_neg (by omega), u64w l.length (by omega), p4, Option.bind_some]
  exact h
/-- cloisterref22.Encode (19). -/
theorem refEncode_ok (l : List S35) (A : Option Addr) (c : Nat) (w : World) (hr : Kd.C k35 w A l.length l) (hc : l.length ≤ c) (hF : ∀ o ∈ l, FitsT o) (hl : l.length ≤ 1000000) :
    Calls Tryz.prog 19 #[.slice A l.length c] w fun e w' => ∃ v, e = .returned (.tuple #[v, .bool (l.all mayB)]) ∧ Kd.R (Kd.int .u8) 5 w' w.heap.size (fun _ => True) v (if l.all mayB = true then encBytes l else []) ∧ Below w.heap.size w w' := by
  refine cloisterref22_Encode.calls (l.length + (10 * (8 + 22 * l.length) + 1) + 1) A c l _ _ w hr hc ?_
  rw [encR_f l hF hl]
  cases l.all mayB <;> rfl
end Go.Proofs.YtohighedgdlflaaGreatDoor

/- Both Encodes as the laws call them; bytes as a string. -/
namespace Go.Proofs.YtohighedgdlflaaGreatDoor
open Go.RowKit Go.Proofs.YtohighedgdlflaaGreatDoorW.PrintWords Go.Proofs.YtohighedgdlflaaGreatDoor.PR
set_option linter.unusedVariables false
set_option linter.unusedSimpArgs false
def encX (l : List S35) : List Int := if l.all mayB = true then encBytes l else []
def strOf (xs : List Int) : ByteArray := ⟨(xs.map fun x => UInt8.ofNat x.toNat).toArray⟩
theorem encX_bytes (l : List S35) : Crc.Bytes (encX l) := by
  unfold encX
  split
  · intro y hy
    unfold encBytes at hy
    rcases List.mem_append.1 hy with h | h
    · exact encBody_bytes l y h
    · exact leb_bytes _ _ y h
  · intro y hy; simp at hy
theorem encX_len (l : List S35) : (encX l).length ≤ 12 + 22 * l.length := by
  unfold encX
  split
  · unfold encBytes
    rw [List.length_append, encBody_len, leb_length]; omega
  · simp
theorem encOk_eq (l : List S35) (h : l.length ≤ 1000000) : encOk l = l.all mayB := by
  unfold encOk; rw [decide_eq_true h, Bool.true_and]
/-- Bytes as a string. -/
theorem str_conv {W : World} {A : Option Addr} {xs : List Int} {c : Nat} (h : Kd.C (Kd.int .u8) W A xs.length xs) (hb : Crc.Bytes xs) : (convert 37 9 (.slice A xs.length c)).run Tryz.prog W = .ok (.string (strOf xs)) W := by
  by_cases h0 : xs.length = 0
  · have hx : xs = [] := List.eq_nil_of_length_eq_zero h0
    subst hx
    cases A with
    | none => exact Lib.run_convert_nil_bytes (P := Tryz.prog) W 37 9 5 c Tryz.underlying37 Tryz.underlying5 Tryz.underlying9
    | some a =>
      have := run_convert_bytes_back (P := Tryz.prog) W 37 9 5 a c [] Tryz.underlying37 Tryz.underlying5 Tryz.underlying9 (fun j hj => by simp at hj)
      exact this
  · obtain ⟨ad, rfl, hc⟩ := h.2.2 (by omega)
    have hl : (xs.map fun x => UInt8.ofNat x.toNat).length = xs.length := List.length_map _
    have := run_convert_bytes_back (P := Tryz.prog) W 37 9 5 ad c (xs.map fun x => UInt8.ofNat x.toNat) Tryz.underlying37 Tryz.underlying5 Tryz.underlying9 (fun j hj => by
      have hj' : j < xs.length := by omega
      obtain ⟨cs, _, hK, hcell⟩ := hc j xs[j] (List.getElem?_eq_getElem hj')
      have hcs : cs = [Value.int .u8 xs[j]] := hK
      subst hcs
      have h1 := hcell 0 _ rfl
      rw [show j * (Kd.int .u8).sz + 0 = j from Nat.mul_one j] at h1
      have h2 := hb _ (List.getElem_mem hj')
      rw [h1, List.getElem_map]
      congr 2
      rw [UInt8.toNat_ofNat']
      omega)
    rw [hl] at this
    exact this
/-- trace.Encode as the laws call it. -/
theorem enc_call (B : Nat) (l : List S35) (hl : l.length ≤ 1000000) (A : Option Addr) (c : Nat) (w : World) (hB : B ≤ w.heap.size) (hT : WTab w) (hR : Kd.C k35 w A l.length l) (hF : ∀ o ∈ l, Fits o) :
    Calls Tryz.prog 21 #[.slice A l.length c] w fun e w' => ∃ A5 c5, e = .returned (.tuple #[.slice A5 (encX l).length c5, .int .i64 (if l.all mayB = true then 0 else 220)]) ∧ (encX l).length ≤ c5 ∧ Kd.R (Kd.int .u8) 5 w' B (fun k => w.heap.size ≤ k ∧ k < w'.heap.size) (.slice A5 (encX l).length c5) (encX l) ∧ Below w.heap.size w w' := by
  refine (encode_ok l A c w hT hR hF).mono ?_
  rintro e w' ⟨v, rfl, hr, hb⟩
  rw [encOk_eq l hl] at hr ⊢
  obtain ⟨A5, c5, rfl, hc5, hC⟩ := Kd.R_reads hr
  exact ⟨A5, c5, rfl, hc5, Kd.R_lower (Kd.R_mono (Kd.R_bound hr) (fun k hk => ⟨hk.2.1, hk.2.2.1⟩)) hB, hb⟩
/-- cloisterref22.Encode as the laws call it. -/
theorem refEnc_call (l : List S35) (A : Option Addr) (c : Nat) (w : World) (hr : Kd.C k35 w A l.length l) (hc : l.length ≤ c) (hF : ∀ o ∈ l, FitsT o) (hl : l.length ≤ 1000000) :
    Calls Tryz.prog 19 #[.slice A l.length c] w fun e w' => ∃ A5 c5, e = .returned (.tuple #[.slice A5 (encX l).length c5, .bool (l.all mayB)]) ∧ (encX l).length ≤ c5 ∧ Kd.C (Kd.int .u8) w' A5 (encX l).length (encX l) ∧ Below w.heap.size w w' := by
  refine (refEncode_ok l A c w hr hc hF hl).mono ?_
  rintro e w' ⟨v, rfl, hr, hb⟩
  obtain ⟨A5, c5, rfl, hc5, hC⟩ := Kd.R_reads hr
  exact ⟨A5, c5, rfl, hc5, hC, hb⟩
/-- One observation in a row of its own. -/
theorem one_C (w : World) (x : S35) : Kd.C k35 (w.alloc (.cells #[.int .u64 x.f0, .int .i64 x.f1, .int .i64 x.f2, .int .u32 x.f3, .int .u32 x.f4, .int .u32 x.f5] 35)) (some ⟨w.heap.size, 0, none⟩) [x].length [x] := by
  refine ⟨rfl, by rw [List.length_singleton]; decide, fun _ => ⟨_, rfl, fun j p hj => ?_⟩⟩
  match j with
  | 0 =>
    obtain rfl : x = p := Option.some.inj hj
    refine ⟨_, rfl, k35_mk _ _, fun i u hu => ?_⟩
    have hb := blk_new w (.cells #[.int .u64 x.f0, .int .i64 x.f1, .int .i64 x.f2, .int .u32 x.f3, .int .u32 x.f4, .int .u32 x.f5] 35)
    rw [Nat.zero_mul, Nat.zero_add, addr_add, Nat.zero_add, cell_in hb]
    simpa using hu
  | j + 1 => simp at hj
def sayO (t cl a : Int) : S35 := ⟨t, cl, 7, 0, a, 0⟩
theorem sayO_fits {t cl a : Int} (h0 : 0 ≤ t) (h1 : t ≤ 9223372036854775807) (a0 : 0 ≤ a) (a1 : a < 4294967296) : FitsT (sayO t cl a) := by
  refine ⟨⟨?_, ?_, ?_, ?_, ?_, ?_⟩, ?_, ?_⟩ <;> simp only [sayO] <;> omega
theorem sayO_may {t cl a : Int} (h1 : t ≤ 9223372036854775807) (c1 : 1 ≤ cl) (c8 : cl ≤ 8) : mayB (sayO t cl a) = true := by
  unfold mayB sayO
  simp only [Bool.and_eq_true, decide_eq_true_eq]
  refine ⟨⟨⟨c1, c8⟩, h1⟩, ?_⟩
  simp [kindB]
theorem sayO_enc {t cl a : Int} (h1 : t ≤ 9223372036854775807) (c1 : 1 ≤ cl) (c8 : cl ≤ 8) : encX [sayO t cl a] = encBytes [sayO t cl a] ∧ (encBytes [sayO t cl a]).length = 34 ∧ [sayO t cl a].all mayB = true := by
  have hm : [sayO t cl a].all mayB = true := by simp [sayO_may h1 c1 c8]
  refine ⟨by unfold encX; rw [if_pos hm], ?_, hm⟩
  unfold encBytes
  rw [List.length_append, encBody_len, leb_length]
  rfl
theorem say_enc (B : Nat) (t cl a : Int) (h0 : 0 ≤ t) (h1 : t ≤ 9223372036854775807) (c1 : 1 ≤ cl) (c8 : cl ≤ 8) (a0 : 0 ≤ a) (a1 : a < 4294967296) (w : World) (hB : B ≤ w.heap.size) (hW : WTab w) :
    Calls Tryz.prog 21 #[.slice (some ⟨w.heap.size, 0, none⟩) 1 1] (w.alloc (.cells #[.int .u64 t, .int .i64 cl, .int .i64 7, .int .u32 0, .int .u32 a, .int .u32 0] 35)) fun e w' => ∃ g5 c5, e = .returned (.tuple #[.slice (some ⟨g5, 0, none⟩) 34 c5, .int .i64 0]) ∧ 34 ≤ c5 ∧ Kd.R (Kd.int .u8) 5 w' B (fun k => w.heap.size ≤ k ∧ k < w'.heap.size) (.slice (some ⟨g5, 0, none⟩) 34 c5) (encBytes [sayO t cl a]) ∧ Below w.heap.size w w' := by
  have hba : Below w.heap.size w (w.alloc (.cells #[.int .u64 t, .int .i64 cl, .int .i64 7, .int .u32 0, .int .u32 a, .int .u32 0] 35)) := below_alloc (Below.refl _ _) _
  obtain ⟨e1, e2, e3⟩ := sayO_enc (t := t) (cl := cl) (a := a) h1 c1 c8
  have h := enc_call B [sayO t cl a] (by rw [List.length_singleton]; decide) (some ⟨w.heap.size, 0, none⟩) 1 _ (Nat.le_trans hB hba.size) (hW.below hba) (one_C w (sayO t cl a)) (fun o ho => by
    rw [List.mem_singleton] at ho; subst ho; exact (sayO_fits h0 h1 a0 a1).1)
  refine Calls.mono h ?_
  rintro e w' ⟨A5, c5, rfl, hc5, hr, hb⟩
  rw [e1] at hc5 hr ⊢
  obtain ⟨g5, c6, he, _⟩ := Kd.R_form hr (by omega)
  rw [e2] at hc5 hr he ⊢
  rw [if_pos e3]
  injection he with he1 _ he3
  subst he1
  refine ⟨g5, c5, rfl, hc5, Kd.R_mono hr (fun k hk => ⟨Nat.le_trans hba.size hk.1, hk.2⟩), hba.trans (hb.mono hba.size)⟩
theorem say_ref (t cl a : Int) (h0 : 0 ≤ t) (h1 : t ≤ 9223372036854775807) (c1 : 1 ≤ cl) (c8 : cl ≤ 8) (a0 : 0 ≤ a) (a1 : a < 4294967296) (w : World) :
    Calls Tryz.prog 19 #[.slice (some ⟨w.heap.size, 0, none⟩) 1 1] (w.alloc (.cells #[.int .u64 t, .int .i64 cl, .int .i64 7, .int .u32 0, .int .u32 a, .int .u32 0] 35)) fun e w' => ∃ A5 c5, e = .returned (.tuple #[.slice A5 34 c5, .bool true]) ∧ 34 ≤ c5 ∧ Kd.C (Kd.int .u8) w' A5 34 (encBytes [sayO t cl a]) ∧ Below w.heap.size w w' := by
  have hba : Below w.heap.size w (w.alloc (.cells #[.int .u64 t, .int .i64 cl, .int .i64 7, .int .u32 0, .int .u32 a, .int .u32 0] 35)) := below_alloc (Below.refl _ _) _
  obtain ⟨e1, e2, e3⟩ := sayO_enc (t := t) (cl := cl) (a := a) h1 c1 c8
  have h := refEnc_call [sayO t cl a] (some ⟨w.heap.size, 0, none⟩) 1 _ (one_C w (sayO t cl a)) (Nat.le_refl _) (fun o ho => by
    rw [List.mem_singleton] at ho; subst ho; exact sayO_fits h0 h1 a0 a1) (by rw [List.length_singleton]; decide)
  refine Calls.mono h ?_
  rintro e w' ⟨A5, c5, rfl, hc5, hr, hb⟩
  rw [e1, e2] at hc5 hr ⊢
  rw [e3]
  exact ⟨A5, c5, rfl, hc5, hr, hba.trans (hb.mono hba.size)⟩
end Go.Proofs.YtohighedgdlflaaGreatDoor

/- Lists that came out are written full, made longer, and looked at: what holds of the memory meanwhile. -/
namespace Go.Proofs.YtohighedgdlflaaGreatDoor
open Go.RowKit Go.Proofs.YtohighedgdlflaaGreatDoorW.PrintWords
set_option linter.unusedVariables false
set_option linter.unusedSimpArgs false
/-- A row of the call's own, some of whose elements are known. -/
def RowIs (W : World) (B e s : Nat) (v : Value) (n : Nat) (E : Nat → Option (List Value)) : Prop :=
  ∃ xs, W.ownsRow B e s v n xs ∧ ∀ j, j < n → ∀ X, E j = some X → ∀ t u, t < s → X[t]? = some u → xs[j * s + t]? = some u
def RdIs (W : World) (v : Value) (n s : Nat) (X : List Value) : Prop :=
  ∀ g c, v = .slice (some ⟨g, 0, none⟩) n c → ∀ j, j < n → ∀ t u, t < s → X[t]? = some u → W.cell? ⟨g, j * s + t, none⟩ = some u
section
variable {W w1 : World} {B e s n : Nat} {v : Value} {E E' : Nat → Option (List Value)}
theorem RowIs.mono (h : RowIs W B e s v n E) (hE : ∀ j, j < n → ∀ X, E' j = some X → E j = some X) : RowIs W B e s v n E' := by
  obtain ⟨xs, h1, h2⟩ := h
  exact ⟨xs, h1, fun j hj X hX => h2 j hj X (hE j hj X hX)⟩
theorem RowIs.lt (h : RowIs W B e s v n E) {g : Nat} (hg : v.ownBlock = some g) : g < W.heap.size := by
  obtain ⟨xs, h1, _⟩ := h
  exact own_lt h1 g hg
theorem RowIs.base (h : RowIs W B e s v n E) {g : Nat} (hg : v.ownBlock = some g) : B ≤ g := by
  obtain ⟨xs, h1, _⟩ := h
  exact own_base h1 g hg
theorem RowIs.typed (h : RowIs W B e s v n E) {g : Nat} (hg : v.ownBlock = some g) : ∃ cur, W.heap[g]? = some (.cells cur e (0, 0)) := by
  obtain ⟨xs, h1, _⟩ := h
  exact own_typed h1 g hg
theorem RowIs.form (h : RowIs W B e s v n E) : (v = .slice none 0 0 ∧ n = 0) ∨ ∃ g c, v = .slice (some ⟨g, 0, none⟩) n c ∧ n ≤ c := by
  obtain ⟨xs, h1, _⟩ := h
  rcases h1.2 with h2 | ⟨g, c, cur, rfl, _, _, hc, _⟩
  · exact .inl h2
  · exact .inr ⟨g, c, rfl, hc⟩
theorem RowIs.kept (h : RowIs W B e s v n E) {row : Option Nat} (hg : W.grownBy w1 row) (hne : ∀ g, v.ownBlock = some g → row ≠ some g) : RowIs w1 B e s v n E := by
  obtain ⟨xs, h1, h2⟩ := h
  refine ⟨xs, h1.kept hg ?_, h2⟩
  cases hv : v.ownBlock with
  | none => exact .inl rfl
  | some g => exact .inr (fun he => hne g hv he.symm)
theorem RowIs.below (h : RowIs W B e s v n E) (hb : Below W.heap.size W w1) : RowIs w1 B e s v n E := by
  obtain ⟨xs, h1, h2⟩ := h
  exact ⟨xs, own_move h1 (fun k hk => hb.block k (own_lt h1 k hk)), h2⟩
theorem RowIs.cell {g c : Nat} (h : RowIs W B e s (.slice (some ⟨g, 0, none⟩) n c) n E) {j : Nat} (hj : j < n) {X : List Value} (hX : E j = some X) {t : Nat} {u : Value} (ht : t < s) (hu : X[t]? = some u) : W.cell? ⟨g, j * s + t, none⟩ = some u := by
  obtain ⟨xs, h1, h2⟩ := h
  have := h1.cells (g := g) rfl (j * s + t) u (h2 j hj X hX t u ht hu)
  rwa [show ((⟨g, 0, none⟩ : Addr).add (j * s + t)) = ⟨g, j * s + t, none⟩ from by rw [Lib.add_plain, Nat.zero_add]] at this
theorem RowIs.here {g c : Nat} (h : RowIs W B e s (.slice (some ⟨g, 0, none⟩) n c) n E) {j : Nat} (hj : j < n * s) : (∃ u, W.cell? ⟨g, j, none⟩ = some u) ∧ W.frozen? ⟨g, j, none⟩ = false := by
  obtain ⟨xs, h1, h2⟩ := h
  obtain ⟨cur, hc⟩ := own_typed h1 g rfl
  have hl := h1.1
  have := h1.cells (g := g) rfl j _ (List.getElem?_eq_getElem (show j < xs.length by omega))
  rw [show ((⟨g, 0, none⟩ : Addr).add j) = ⟨g, j, none⟩ from by rw [Lib.add_plain, Nat.zero_add]] at this
  exact ⟨⟨_, this⟩, blk_frozen hc _⟩
theorem RowIs.rd (h : RowIs W B e s v n E) {X : List Value} (hE : ∀ j, j < n → E j = some X) : RdIs W v n s X := by
  intro g c hv j hj t u ht hu
  subst hv
  exact h.cell hj (hE j hj) ht hu
/-- One element is written. -/
theorem RowIs.set (h : RowIs W B e s v n E) {g c : Nat} (hv : v = .slice (some ⟨g, 0, none⟩) n c) {k : Nat} (hk : k < n) {X : List Value} (hX : X.length = s) (hE : ∀ j, j < n → ∀ Z, E' j = some Z → (j = k ∧ Z = X) ∨ (j ≠ k ∧ E j = some Z)) : RowIs (W.setCells g (k * s) X) B e s v n E' := by
  subst hv
  obtain ⟨xs, h1, h2⟩ := h
  rcases h1.2 with ⟨hn, _⟩ | ⟨g', c', cur, he, hb, hg, hnc, hcm, hsz, htk⟩
  · cases hn
  · injection he with e1 e2 e3
    injection e1 with e1
    injection e1 with e1
    subst e1
    subst e3
    have hlen : (k + 1) * s ≤ n * s := Nat.mul_le_mul_right _ hk
    have hlen2 : n * s ≤ c * s := Nat.mul_le_mul_right _ hnc
    have hks : (k + 1) * s = k * s + s := by rw [Nat.add_mul, Nat.one_mul]
    obtain ⟨cur', hr, hsz', hl'⟩ := setCells_row (g := g) (e := e) X (k * s) W cur hg (by omega)
    have htl : (cur.toList.take (k * s)).length = k * s := by rw [List.length_take, Array.length_toList]; omega
    refine ⟨(xs.take (k * s) ++ X ++ xs.drop (k * s + s)), ⟨?_, .inr ⟨g, c, _, rfl, hb, hr, hnc, hcm, ?_, ?_⟩⟩, ?_⟩
    · have := h1.1
      simp only [List.length_append, List.length_take, List.length_drop]
      omega
    · omega
    · have hA : (cur.toList.take (k * s) ++ X).length = k * s + s := by rw [List.length_append, htl, hX]
      rw [hl', List.take_append, hA, List.take_of_length_le (by omega), hX, ← htk, List.take_take, List.drop_take, Nat.min_eq_left (by omega)]
    · intro j hj Z hZ t u ht hu
      have hl := h1.1
      have hxl : (xs.take (k * s)).length = k * s := by rw [List.length_take]; omega
      have hxl2 : (xs.take (k * s) ++ X).length = k * s + s := by rw [List.length_append, hxl, hX]
      rcases hE j hj Z hZ with ⟨rfl, rfl⟩ | ⟨hne, hZ⟩
      · rw [List.getElem?_append_left (by rw [hxl2]; omega), List.getElem?_append_right (by rw [hxl]; omega), hxl, Nat.add_sub_cancel_left]
        exact hu
      · have h3 := h2 j hj Z hZ t u ht hu
        rcases Nat.lt_or_gt_of_ne hne with hlt | hgt
        · have : (j + 1) * s ≤ k * s := Nat.mul_le_mul_right _ hlt
          have hjs : (j + 1) * s = j * s + s := by rw [Nat.add_mul, Nat.one_mul]
          rw [List.getElem?_append_left (by rw [hxl2]; omega), List.getElem?_append_left (by rw [hxl]; omega), List.getElem?_take_of_lt (by omega)]
          exact h3
        · have : (k + 1) * s ≤ j * s := Nat.mul_le_mul_right _ hgt
          rw [List.getElem?_append_right (by rw [hxl2]; omega), hxl2, List.getElem?_drop, show k * s + s + (j * s + t - (k * s + s)) = j * s + t by omega]
          exact h3
theorem RowIs.far (h : RowIs W B e s v n E) {g o : Nat} {X : List Value} (hne : v.ownBlock ≠ some g) : RowIs (W.setCells g o X) B e s v n E := by
  obtain ⟨xs, h1, h2⟩ := h
  exact ⟨xs, own_move h1 (fun k hk => setCells_far X o k (fun he => hne (by rw [← he]; exact hk))), h2⟩
end
end Go.Proofs.YtohighedgdlflaaGreatDoor

/- One element is appended to a row of the call's own: where the new slice lies, and that the old cells stay. -/
namespace Go.Proofs.YtohighedgdlflaaGreatDoor
open Go.RowKit Go.Proofs.YtohighedgdlflaaGreatDoorW.PrintWords
set_option linter.unusedVariables false
set_option linter.unusedSimpArgs false
theorem run_append_keep {P : Program} (w : World) (t ty : TypeId) (base : Nat) (e : TypeId) (i : TypeInfo) (z : Value) (size bytes : Nat) (ht : P.underlying t = some (.slice e)) (hi : P.info? e = some i) (hz : i.zero = some z)
    (hsize : i.size = size) (hby : i.bytes = bytes) (hzs : z.cells.size = size) (hsz : 0 < size)
    (v : Value) (n : Nat) (xs : List Value) (hown : w.ownsRow base e size v n xs)
    (ad : Addr) (c : Nat) (news : List Value) (hl : news.length = size) (hnews : ∀ j u, news[j]? = some u → w.cell? (ad.add j) = some u) (h1 : ∀ u ∈ news, u.oneCell' = true)
    (hbytes : (n + 1) * bytes ≤ 140737488355328) (hn1 : n + 1 ≤ 140737488355328) (hbase : base ≤ w.heap.size) :
    ∃ g cap w', (Builtin.append_ #[t, t] ty #[v, .slice (some ad) 1 c]).run P w = .ok (.slice (some ⟨g, 0, none⟩) (n + 1) cap) w' ∧
      w'.ownsRow base e size (.slice (some ⟨g, 0, none⟩) (n + 1) cap) (n + 1) (xs ++ news) ∧ w.grownBy w' v.ownBlock ∧ (v.ownBlock = some g ∨ g = w.heap.size) ∧ g < w'.heap.size ∧
      (∀ g0 j u, v.ownBlock = some g0 → j < n * size → w.cell? ⟨g0, j, none⟩ = some u → w'.cell? ⟨g0, j, none⟩ = some u) := by
  obtain ⟨g, cap, w', hr, h2, h3, h4, h5⟩ := run_append_lies (P := P) w t ty base e i z size bytes ht hi hz hsize hby hzs hsz v n xs hown ad 1 c news (by omega) hnews h1 (by omega) (by simp only [maxLen]; omega) hbytes hbase _ rfl
  refine ⟨g, cap, w', hr, h2, h3, h4, h5, ?_⟩
  intro g0 j u hg0 hj hc
  rcases hown.2 with ⟨rfl, rfl⟩ | ⟨g1, cap1, cur, rfl, hbg, hg, hnc, hcm, hcs, htake⟩
  · simp [Value.ownBlock] at hg0
  · have e0 : g1 = g0 := by simpa [Value.ownBlock] using hg0
    subst e0
    by_cases hroom : n + 1 ≤ cap1
    · have hfit : n * i.size + news.length ≤ cur.size := by
        have : (n + 1) * size ≤ cap1 * size := Nat.mul_le_mul_right _ hroom
        rw [Nat.add_mul, Nat.one_mul] at this
        rw [hl, hcs, hsize]; omega
      have hr2 := run_append_room (P := P) w t ty e i ht hi g1 n cap1 cur hg ad 1 c news (by rw [hsize]; omega) hnews h1 hroom hfit
      have hr3 := hr2.symm.trans hr
      injection hr3 with e1 e2
      injection e1 with e1 _ _
      injection e1 with e1
      injection e1 with e1
      subst e1
      have hx := hown.1
      have hu : xs[j]? = some u := by
        have h6 := hown.cells (g := g1) rfl j _ (List.getElem?_eq_getElem (show j < xs.length by omega))
        rw [show ((⟨g1, 0, none⟩ : Addr).add j) = ⟨g1, j, none⟩ from by rw [Lib.add_plain, Nat.zero_add], hc] at h6
        rw [List.getElem?_eq_getElem (show j < xs.length by omega)]
        exact h6.symm
      have h7 := h2.cells (g := g1) rfl j u (by rw [List.getElem?_append_left (by omega)]; exact hu)
      rwa [show ((⟨g1, 0, none⟩ : Addr).add j) = ⟨g1, j, none⟩ from by rw [Lib.add_plain, Nat.zero_add]] at h7
    · have holds : ∀ j u, xs[j]? = some u → w.cell? ((⟨g1, 0, none⟩ : Addr).add j) = some u := hown.cells (g := g1) rfl
      have hr2 := run_append_grow (P := P) w t ty e i z ht hi hz ⟨g1, 0, none⟩ n cap1 xs (by rw [hsize]; exact hown.1) holds ad 1 c news (by rw [hsize]; omega) hnews (by omega) (by omega) (growslice_fits (by omega) (by rw [hby]; exact hbytes))
      have hr3 := hr2.symm.trans hr
      injection hr3 with e1 e2
      rw [← e2]
      have hlt : g1 < w.heap.size := heap_lt hg
      exact (World.cell?_of_block (a := ⟨g1, j, none⟩) (heap_alloc_old w.drew _ hlt)).trans hc
section
variable {P : Program} {ops : Array Oper} {rest : List Oper} {o : Oper} {a : Act} {Q : Exit → Act → World → Prop}
theorem RowIs.app_step {W : World} (B : Nat) (hgd : o.guard = none) (s x : Operand) (t e : TypeId) (z : Value) (size bytes : Nat)
    (ho : o.op = .call { callee := .builtin .append, args := #[s, x], argTypes := #[t, t] })
    (ht : P.underlying t = some (.slice e)) (hinfo : (P.info? e).map (fun i => (i.zero, i.size, i.bytes)) = some (some z, size, bytes)) (hz : z.cells.size = size) (hs0 : 0 < size)
    (v : Value) (n : Nat) (E : Nat → Option (List Value)) (X : List Value) (G : Nat) (hs : a.eval s = v) (hx : a.eval x = .slice (some ⟨G, 0, none⟩) 1 1) (hX : X.length = size)
    (hnews : ∀ j u, X[j]? = some u → W.cell? ⟨G, j, none⟩ = some u) (h1 : ∀ u ∈ X, u.oneCell' = true)
    (HO : RowIs W B e size v n E) (hbase : B ≤ W.heap.size) (hl : (n + 1) * bytes ≤ 140737488355328) (hn1 : n + 1 ≤ 140737488355328)
    (h : ∀ g c w1, RowIs w1 B e size (.slice (some ⟨g, 0, none⟩) (n + 1) c) (n + 1) (fun j => if j = n then some X else E j) → W.grownBy w1 v.ownBlock → (v.ownBlock = some g ∨ g = W.heap.size) →
      (∀ g0 j u, (v.ownBlock = some g0 → j < n * size) → W.cell? ⟨g0, j, none⟩ = some u → w1.cell? ⟨g0, j, none⟩ = some u) → wpList P ops Q rest (a.put o.dst (.slice (some ⟨g, 0, none⟩) (n + 1) c)) w1) :
    wpList P ops Q (o :: rest) a W := by
  refine wpList_plain hgd fun K hK => ?_
  obtain ⟨i0, hi, hzz⟩ := Option.map_eq_some_iff.1 hinfo
  simp only [Prod.mk.injEq] at hzz
  obtain ⟨hz0, hz1, hz2⟩ := hzz
  obtain ⟨xs, hown, hE⟩ := HO
  obtain ⟨g, c, w1, hr, h2, h3, h4, h5, h6⟩ := run_append_keep (P := P) W t o.type B e i0 z size bytes ht hi hz0 hz1 hz2 hz hs0 v n xs hown ⟨G, 0, none⟩ 1 X hX (fun j u hj => by rw [Lib.add_plain, Nat.zero_add]; exact hnews j u hj) h1 hl hn1 hbase
  unfold Oper.wp execOp
  simp only [ho, resolve, invoke, builtin, Sem.run_bind, Sem.run_pure, Result.andThen_ok, List.map_toArray, List.map_cons, List.map_nil, hs, hx, hr]
  refine hK _ _ (h g c w1 ⟨xs ++ X, h2, ?_⟩ h3 h4 ?_)
  · intro j hj Z hZ t u ht hu
    have hxl := hown.1
    replace hZ : (if j = n then some X else E j) = some Z := hZ
    by_cases hjn : j = n
    · subst hjn
      rw [if_pos rfl] at hZ
      obtain rfl := Option.some.inj hZ
      rw [List.getElem?_append_right (by omega), show j * size + t - xs.length = t by omega]
      exact hu
    · rw [if_neg hjn] at hZ
      have hlt : j < n := by omega
      have : (j + 1) * size ≤ n * size := Nat.mul_le_mul_right _ hlt
      rw [Nat.add_mul, Nat.one_mul] at this
      rw [List.getElem?_append_left (by omega)]
      exact hE j hlt Z hZ t u ht hu
  · intro g0 j u hg0 hc
    by_cases hb : v.ownBlock = some g0
    · exact h6 g0 j u hb (hg0 hb) hc
    · have hlt := World.block_lt_of_cell? W _ hc
      exact (World.cell?_of_block (a := ⟨g0, j, none⟩) (h3.block g0 hlt (fun he => hb he.symm))).trans hc
end
end Go.Proofs.YtohighedgdlflaaGreatDoor

/- Lists written full (P1), made longer by 64 (In, P2): what holds of the memory at each step. -/
namespace Go.Proofs.YtohighedgdlflaaGreatDoor
open Go.RowKit Go.Proofs.YtohighedgdlflaaGreatDoorW.PrintWords
set_option linter.unusedVariables false
set_option linter.unusedSimpArgs false
/-- The lists that came out, in a row of their own: what does not change. -/
structure Came (B L N s e eo H : Nat) (vs : Nat → Value) (ns : Nat → Nat) (X Y : Nat → List Value) : Prop where
  dist : ∀ p q, p < N → q < N → p ≠ q → ∀ g, (vs p).ownBlock = some g → (vs q).ownBlock ≠ some g
  lt : ∀ q, q < N → ∀ g, (vs q).ownBlock = some g → g < H
  form : ∀ q, q < N → (vs q = .slice none 0 0 ∧ ns q = 0) ∨ ∃ g c, vs q = .slice (some ⟨g, 0, none⟩) (ns q) c ∧ ns q ≤ c
  small : ∀ q, q < N → ns q ≤ 1000000000
  ne : e ≠ eo
  BL : B ≤ L
  LH : L < H
  lenX : ∀ q, q < N → (X q).length = s
  lenY : ∀ q, q < N → (Y q).length = s
/-- The row of the lists. -/
def LBlk (W : World) (L N eo : Nat) (vs : Nat → Value) : Prop := ∃ cs : Array Value, W.heap[L]? = some (.cells cs eo (0, 0)) ∧ ∀ q, q < N → cs[q]? = some (vs q)
theorem LBlk.cell {W : World} {L N eo : Nat} {vs : Nat → Value} (h : LBlk W L N eo vs) {q : Nat} (hq : q < N) : W.cell? ⟨L, q, none⟩ = some (vs q) := by
  obtain ⟨cs, h1, h2⟩ := h
  rw [blk_cell h1]; exact h2 q hq
def E1 (X : Nat → List Value) (i j q k : Nat) : Option (List Value) := if q < i ∨ (q = i ∧ k < j) then some (X q) else none
def EY (ns : Nat → Nat) (X Y : Nat → List Value) (q k : Nat) : Option (List Value) := if k < ns q then some (X q) else some (Y q)
structure P1 (W : World) (B L N s e eo : Nat) (vs : Nat → Value) (ns : Nat → Nat) (X : Nat → List Value) (i j : Nat) : Prop where
  blk : LBlk W L N eo vs
  own : ∀ q, q < N → RowIs W B e s (vs q) (ns q) (E1 X i j q)
structure P2 (W : World) (B L N s e eo H : Nat) (vs : Nat → Value) (ns : Nat → Nat) (X Y : Nat → List Value) (i : Nat) (v : Value) (ys : List Value) : Prop where
  blk : LBlk W L N eo vs
  hH : H ≤ W.heap.size
  rd : ∀ q, q < N → RdIs W (vs q) (ns q) s (X q)
  own : ∀ q, i ≤ q → q < N → RowIs W B e s (vs q) (ns q) (fun _ => some (X q))
  lon : W.ownsRow H eo 1 v i ys
  ysO : ∀ q, q < i → ∃ g c, ys[q]? = some (.slice (some ⟨g, 0, none⟩) (ns q + 64) c) ∧ ns q + 64 ≤ c ∧ RowIs W B e s (.slice (some ⟨g, 0, none⟩) (ns q + 64) c) (ns q + 64) (EY ns X Y q) ∧ ∀ p, p < N → p ≠ q → (vs p).ownBlock ≠ some g
structure In (W : World) (B L N s e eo H : Nat) (vs : Nat → Value) (ns : Nat → Nat) (X Y : Nat → List Value) (i j : Nat) (y v : Value) (ys : List Value) : Prop where
  blk : LBlk W L N eo vs
  hH : H ≤ W.heap.size
  rd : ∀ q, q < N → RdIs W (vs q) (ns q) s (X q)
  own : ∀ q, i < q → q < N → RowIs W B e s (vs q) (ns q) (fun _ => some (X q))
  lon : W.ownsRow H eo 1 v i ys
  ysO : ∀ q, q < i → ∃ g c, ys[q]? = some (.slice (some ⟨g, 0, none⟩) (ns q + 64) c) ∧ ns q + 64 ≤ c ∧ RowIs W B e s (.slice (some ⟨g, 0, none⟩) (ns q + 64) c) (ns q + 64) (EY ns X Y q) ∧ (∀ p, p < N → p ≠ q → (vs p).ownBlock ≠ some g) ∧ y.ownBlock ≠ some g
  yR : RowIs W B e s y (ns i + j) (EY ns X Y i)
  yv : ∀ p, p < N → p ≠ i → ∀ g, y.ownBlock = some g → (vs p).ownBlock ≠ some g
section
variable {W w1 : World} {B L N s e eo H : Nat} {vs : Nat → Value} {ns : Nat → Nat} {X Y : Nat → List Value} {i j : Nat} {y v : Value} {ys : List Value}
theorem ne_block {b : Nat} {e1 e2 : Nat} {c1 c2 : Array Value} {g : Nat} (h1 : W.heap[b]? = some (.cells c1 e1 (0, 0))) (h2 : W.heap[g]? = some (.cells c2 e2 (0, 0))) (hne : e1 ≠ e2) : b ≠ g := by
  intro he
  subst he
  rw [h1] at h2
  injection h2 with h2
  injection h2 with _ h3 _
  exact hne h3
theorem LBlk.kept (h : LBlk W L N eo vs) {row : Option Nat} (hg : W.grownBy w1 row) (hne : some L ≠ row) : LBlk w1 L N eo vs := by
  obtain ⟨cs, h1, h2⟩ := h
  exact ⟨cs, (hg.block _ (heap_lt h1) hne).trans h1, h2⟩
theorem LBlk.below (h : LBlk W L N eo vs) (hb : Below W.heap.size W w1) : LBlk w1 L N eo vs := by
  obtain ⟨cs, h1, h2⟩ := h
  exact ⟨cs, (hb.block _ (heap_lt h1)).trans h1, h2⟩
theorem RdIs.below {v : Value} {n s : Nat} {X : List Value} (h : RdIs W v n s X) (hb : Below W.heap.size W w1) : RdIs w1 v n s X := fun g c hv j hj t u ht hu => (hb.cell (World.block_lt_of_cell? W _ (h g c hv j hj t u ht hu))).trans (h g c hv j hj t u ht hu)
theorem In.below (h : In W B L N s e eo H vs ns X Y i j y v ys) (hb : Below W.heap.size W w1) : In w1 B L N s e eo H vs ns X Y i j y v ys where
  blk := h.blk.below hb
  hH := Nat.le_trans h.hH hb.size
  rd := fun q hq => (h.rd q hq).below hb
  own := fun q h1 h2 => (h.own q h1 h2).below hb
  lon := own_move h.lon (fun k hk => hb.block k (own_lt h.lon k hk))
  ysO := fun q hq => by
    obtain ⟨g, c, h1, hc, h2, h3, h4⟩ := h.ysO q hq
    exact ⟨g, c, h1, hc, h2.below hb, h3, h4⟩
  yR := h.yR.below hb
  yv := h.yv
theorem P2.below (h : P2 W B L N s e eo H vs ns X Y i v ys) (hb : Below W.heap.size W w1) : P2 w1 B L N s e eo H vs ns X Y i v ys where
  blk := h.blk.below hb
  hH := Nat.le_trans h.hH hb.size
  rd := fun q hq => (h.rd q hq).below hb
  own := fun q h1 h2 => (h.own q h1 h2).below hb
  lon := own_move h.lon (fun k hk => hb.block k (own_lt h.lon k hk))
  ysO := fun q hq => by
    obtain ⟨g, c, h1, hc, h2, h3⟩ := h.ysO q hq
    exact ⟨g, c, h1, hc, h2.below hb, h3⟩
theorem P1.below (h : P1 W B L N s e eo vs ns X i j) (hb : Below W.heap.size W w1) : P1 w1 B L N s e eo vs ns X i j := ⟨h.blk.below hb, fun q hq => (h.own q hq).below hb⟩
theorem ns_eq {g c : Nat} (hc : Came B L N s e eo H vs ns X Y) {q : Nat} (hq : q < N) {n : Nat} (hv : vs q = .slice (some ⟨g, 0, none⟩) n c) : n = ns q := by
  rcases hc.form q hq with ⟨h1, _⟩ | ⟨g', c', h1, _⟩
  · rw [h1] at hv; cases hv
  · rw [h1] at hv; injection hv with _ h2 _; exact h2.symm
/-- One element of a list is written. -/
theorem P1.step (hc : Came B L N s e eo H vs ns X Y) (h : P1 W B L N s e eo vs ns X i j) (hi : i < N) (hj : j < ns i) {g c : Nat} (hv : vs i = .slice (some ⟨g, 0, none⟩) (ns i) c) : P1 (W.setCells g (j * s) (X i)) B L N s e eo vs ns X i (j + 1) where
  blk := by
    obtain ⟨cs, h1, h2⟩ := h.blk
    obtain ⟨cur, h3⟩ := (h.own i hi).typed (g := g) (by rw [hv]; rfl)
    exact ⟨cs, (setCells_far _ _ L (ne_block h1 h3 (fun h => hc.ne h.symm))).trans h1, h2⟩
  own := fun q hq => by
    by_cases hqi : q = i
    · subst hqi
      refine (h.own q hq).set hv hj (hc.lenX q hq) ?_
      intro k hk Z hZ
      simp only [E1] at hZ ⊢
      by_cases hkj : k = j
      · subst hkj
        rw [if_pos (Or.inr ⟨by trivial, by omega⟩)] at hZ
        exact .inl ⟨by first | rfl | trivial, (Option.some.inj hZ).symm⟩
      · right
        refine ⟨hkj, ?_⟩
        rw [← hZ]
        congr 1
        simp
        omega
    · refine ((h.own q hq).far (hc.dist i q hi hq (Ne.symm hqi) g (by rw [hv]; rfl))).mono ?_
      intro k hk Z hZ
      simp only [E1] at hZ ⊢
      rw [← hZ]
      congr 1
      simp
      omega
theorem P1.next (h : P1 W B L N s e eo vs ns X i (ns i)) : P1 W B L N s e eo vs ns X (i + 1) 0 where
  blk := h.blk
  own := fun q hq => (h.own q hq).mono (fun k hk Z hZ => by
    simp only [E1] at hZ ⊢
    rw [← hZ]
    congr 1
    simp
    by_cases hqi : q = i
    · subst hqi; omega
    · omega)
theorem P1.done (h : P1 W B L N s e eo vs ns X N 0) (hH : H ≤ W.heap.size) : P2 W B L N s e eo H vs ns X Y 0 (.slice none 0 0) [] where
  blk := h.blk
  hH := hH
  rd := fun q hq => (h.own q hq).rd (fun j hj => by simp only [E1]; rw [if_pos (Or.inl hq)])
  own := fun q _ hq => (h.own q hq).mono (fun k hk Z hZ => by simp only [E1]; rw [if_pos (Or.inl hq)]; exact hZ)
  lon := World.ownsRow_nil _ _ _ _
  ysO := fun q hq => absurd hq (by omega)
theorem P2.enter (hc : Came B L N s e eo H vs ns X Y) (h : P2 W B L N s e eo H vs ns X Y i v ys) (hi : i < N) : In W B L N s e eo H vs ns X Y i 0 (vs i) v ys where
  blk := h.blk
  hH := h.hH
  rd := h.rd
  own := fun q h1 h2 => h.own q (by omega) h2
  lon := h.lon
  ysO := fun q hq => by
    obtain ⟨g, c, h1, hc, h2, h3⟩ := h.ysO q hq
    exact ⟨g, c, h1, hc, h2, h3, h3 i hi (by omega)⟩
  yR := (h.own i (Nat.le_refl _) hi).mono (fun k hk Z hZ => by simp only [EY] at hZ; rw [if_pos (by omega)] at hZ; exact hZ)
  yv := fun p hp hpi g hg => hc.dist i p hi hp (Ne.symm hpi) g hg
/-- One element is appended. -/
theorem In.step (hc : Came B L N s e eo H vs ns X Y) (h : In W B L N s e eo H vs ns X Y i j y v ys) (hi : i < N) {g c : Nat} (hR : RowIs w1 B e s (.slice (some ⟨g, 0, none⟩) (ns i + j + 1) c) (ns i + j + 1) (fun k => if k = ns i + j then some (Y i) else EY ns X Y i k))
    (hg : W.grownBy w1 y.ownBlock) (hat : y.ownBlock = some g ∨ g = W.heap.size) (hk : ∀ g0 k u, (y.ownBlock = some g0 → k < (ns i + j) * s) → W.cell? ⟨g0, k, none⟩ = some u → w1.cell? ⟨g0, k, none⟩ = some u) :
    In w1 B L N s e eo H vs ns X Y i (j + 1) (.slice (some ⟨g, 0, none⟩) (ns i + j + 1) c) v ys where
  blk := by
    refine h.blk.kept hg ?_
    intro he
    obtain ⟨cs, h1, _⟩ := h.blk
    obtain ⟨cur, h3⟩ := h.yR.typed he.symm
    exact ne_block h1 h3 (fun h => hc.ne h.symm) rfl
  hH := Nat.le_trans h.hH hg.size
  rd := fun q hq g0 c0 hv0 k hk0 t u ht hu => by
    refine hk g0 _ u ?_ (h.rd q hq g0 c0 hv0 k hk0 t u ht hu)
    intro hy
    by_cases hqi : q = i
    · subst hqi
      have : (k + 1) * s ≤ (ns q + j) * s := Nat.mul_le_mul_right _ (by omega)
      rw [Nat.add_mul, Nat.one_mul] at this
      omega
    · exact absurd (by rw [hv0]; rfl) (h.yv q hq hqi g0 hy)
  own := fun q h1 h2 => (h.own q h1 h2).kept hg (fun g0 hg0 hy => h.yv q h2 (by omega) g0 hy hg0)
  lon := by
    refine h.lon.kept hg ?_
    cases hv : v.ownBlock with
    | none => exact .inl rfl
    | some b =>
      right
      intro he
      obtain ⟨c1, h1⟩ := own_typed h.lon b hv
      obtain ⟨cur, h3⟩ := h.yR.typed he.symm
      exact ne_block h1 h3 (fun h => hc.ne h.symm) rfl
  ysO := fun q hq => by
    obtain ⟨g0, c0, h1, hc0, h2, h3, h4⟩ := h.ysO q hq
    refine ⟨g0, c0, h1, hc0, h2.kept hg (fun g1 hg1 hy => ?_), h3, ?_⟩
    · have : g0 = g1 := by simpa [Value.ownBlock] using hg1
      subst this
      exact h4 hy
    · intro he
      have : g = g0 := by simpa [Value.ownBlock] using he
      subst this
      rcases hat with hat | hat
      · exact h4 hat
      · have := h2.lt (g := g) rfl
        omega
  yR := hR.mono (fun k hk Z hZ => by
    show (if k = ns i + j then some (Y i) else EY ns X Y i k) = some Z
    by_cases hkn : k = ns i + j
    · rw [if_pos hkn]
      simp only [EY] at hZ
      rw [if_neg (by omega)] at hZ
      exact hZ
    · rw [if_neg hkn]; exact hZ)
  yv := fun p hp hpi g0 hg0 => by
    have : g = g0 := by simpa [Value.ownBlock] using hg0
    subst this
    rcases hat with hat | hat
    · exact h.yv p hp hpi g hat
    · intro he
      have := hc.lt p hp g he
      have := h.hH
      omega
/-- The longer list is put behind the others. -/
theorem In.leave (hc : Came B L N s e eo H vs ns X Y) {g c : Nat} (hy : y = .slice (some ⟨g, 0, none⟩) (ns i + 64) c) (hcc : ns i + 64 ≤ c) (h : In W B L N s e eo H vs ns X Y i 64 y v ys) (hi : i < N) {v1 : Value} (hl : w1.ownsRow H eo 1 v1 (i + 1) (ys ++ [y])) (hg : W.grownBy w1 v.ownBlock) :
    P2 w1 B L N s e eo H vs ns X Y (i + 1) v1 (ys ++ [y]) := by
  have far : ∀ g0 cur, W.heap[g0]? = some (.cells cur e (0, 0)) → v.ownBlock ≠ some g0 := by
    intro g0 cur h1 hv
    obtain ⟨c1, h2⟩ := own_typed h.lon g0 hv
    exact ne_block h1 h2 hc.ne rfl
  have hlen : ys.length = i := by have := h.lon.1; omega
  exact {
    blk := h.blk.kept hg (fun he => by
      have := own_base h.lon L he.symm
      have := hc.LH
      omega)
    hH := Nat.le_trans h.hH hg.size
    rd := fun q hq g0 c0 hv0 k hk0 t u ht hu => by
      have h1 := h.rd q hq g0 c0 hv0 k hk0 t u ht hu
      refine (World.cell?_of_block (hg.block g0 (World.block_lt_of_cell? W _ h1) (fun he => ?_))).trans h1
      have h2 := own_base h.lon g0 he.symm
      have h3 := hc.lt q hq g0 (by rw [hv0]; rfl)
      omega
    own := fun q h1 h2 => (h.own q (by omega) h2).kept hg (fun g0 hg0 => by
      obtain ⟨cur, h3⟩ := (h.own q (by omega) h2).typed hg0
      exact far g0 cur h3)
    lon := hl
    ysO := fun q hq => by
      by_cases hqi : q = i
      · subst hqi
        refine ⟨g, c, by rw [List.getElem?_append_right (by omega), hlen, Nat.sub_self, hy]; rfl, hcc, ?_, ?_⟩
        · rw [← hy]
          exact h.yR.kept hg (fun g0 hg0 => by
            obtain ⟨cur, h3⟩ := h.yR.typed hg0
            exact far g0 cur h3)
        · exact fun p hp hpi => h.yv p hp hpi g (by rw [hy]; rfl)
      · obtain ⟨g0, c0, h1, hc0, h2, h3, h4⟩ := h.ysO q (by omega)
        refine ⟨g0, c0, by rw [List.getElem?_append_left (by omega)]; exact h1, hc0, h2.kept hg (fun g1 hg1 => ?_), h3⟩
        obtain ⟨cur, h5⟩ := h2.typed hg1
        exact far g1 cur h5 }
end
end Go.Proofs.YtohighedgdlflaaGreatDoor

/- The four lists that TraceWrites holds, in the words of RowsP. -/
namespace Go.Proofs.YtohighedgdlflaaGreatDoor
open Go.RowKit Go.Proofs.YtohighedgdlflaaGreatDoorW.PrintWords
set_option linter.unusedVariables false
set_option linter.unusedSimpArgs false
def four (a b c d : Value) : Nat → Value
  | 0 => a
  | 1 => b
  | 2 => c
  | _ => d
def fourN (a b c d : Nat) : Nat → Nat
  | 0 => a
  | 1 => b
  | 2 => c
  | _ => d
theorem lt4 {q : Nat} (h : q < 4) : q = 0 ∨ q = 1 ∨ q = 2 ∨ q = 3 := by omega
theorem rowIs_of_R {α : Type} {d : Kd α} {e : Nat} {W : World} {B : Nat} {ok : Nat → Prop} {v : Value} {xs : List α} (h : d.R e W B ok v xs) : RowIs W B e d.sz v xs.length (fun _ => none) := by
  obtain ⟨_, inner, hown, _⟩ := h
  exact ⟨inner, hown, fun j hj X hX => by cases hX⟩
theorem form_of_R {α : Type} {d : Kd α} {e : Nat} {W : World} {B : Nat} {ok : Nat → Prop} {v : Value} {xs : List α} (h : d.R e W B ok v xs) : (v = .slice none 0 0 ∧ xs.length = 0) ∨ ∃ g c, v = .slice (some ⟨g, 0, none⟩) xs.length c ∧ xs.length ≤ c := (rowIs_of_R h).form
/-- Four rows of the call's own, made one behind the other, and the row of the four. -/
theorem came_four {α : Type} {d : Kd α} {e eo B L H : Nat} {W : World} {a0 a1 a2 a3 : Value} {x0 x1 x2 x3 : List α} {l0 h0 l1 h1 l2 h2 l3 h3 : Nat} (X Y : Nat → List Value)
    (r0 : d.R e W B (fun k => l0 ≤ k ∧ k < h0) a0 x0) (r1 : d.R e W B (fun k => l1 ≤ k ∧ k < h1) a1 x1) (r2 : d.R e W B (fun k => l2 ≤ k ∧ k < h2) a2 x2) (r3 : d.R e W B (fun k => l3 ≤ k ∧ k < h3) a3 x3)
    (o1 : h0 ≤ l1) (o2 : h1 ≤ l2) (o3 : h2 ≤ l3) (p1 : l1 ≤ h1) (p2 : l2 ≤ h2) (p3 : l3 ≤ h3) (o4 : h3 ≤ L) (hLH : L < H) (hBL : B ≤ L) (hne : e ≠ eo) (s0 : x0.length ≤ 1000000000) (s1 : x1.length ≤ 1000000000) (s2 : x2.length ≤ 1000000000) (s3 : x3.length ≤ 1000000000) (hX : ∀ q, (X q).length = d.sz) (hY : ∀ q, (Y q).length = d.sz) :
    Came B L 4 d.sz e eo H (four a0 a1 a2 a3) (fourN x0.length x1.length x2.length x3.length) X Y where
  dist := fun p q hp hq hpq g hg hg2 => by
    have k0 := r0.1; have k1 := r1.1; have k2 := r2.1; have k3 := r3.1
    rcases lt4 hp with rfl | rfl | rfl | rfl <;> rcases lt4 hq with rfl | rfl | rfl | rfl <;> first
      | exact absurd rfl hpq
      | (simp only [four] at hg hg2
         first
         | (have a := k0 g hg; have b := k1 g hg2; omega)
         | (have a := k0 g hg; have b := k2 g hg2; omega)
         | (have a := k0 g hg; have b := k3 g hg2; omega)
         | (have a := k1 g hg; have b := k0 g hg2; omega)
         | (have a := k1 g hg; have b := k2 g hg2; omega)
         | (have a := k1 g hg; have b := k3 g hg2; omega)
         | (have a := k2 g hg; have b := k0 g hg2; omega)
         | (have a := k2 g hg; have b := k1 g hg2; omega)
         | (have a := k2 g hg; have b := k3 g hg2; omega)
         | (have a := k3 g hg; have b := k0 g hg2; omega)
         | (have a := k3 g hg; have b := k1 g hg2; omega)
         | (have a := k3 g hg; have b := k2 g hg2; omega))
  lt := fun q hq g hg => by
    have k0 := r0.1; have k1 := r1.1; have k2 := r2.1; have k3 := r3.1
    rcases lt4 hq with rfl | rfl | rfl | rfl <;> simp only [four] at hg
    · have := k0 g hg; omega
    · have := k1 g hg; omega
    · have := k2 g hg; omega
    · have := k3 g hg; omega
  form := fun q hq => by
    rcases lt4 hq with rfl | rfl | rfl | rfl <;> simp only [four, fourN]
    · exact form_of_R r0
    · exact form_of_R r1
    · exact form_of_R r2
    · exact form_of_R r3
  small := fun q hq => by
    rcases lt4 hq with rfl | rfl | rfl | rfl <;> simp only [fourN] <;> assumption
  ne := hne
  BL := hBL
  LH := hLH
  lenX := fun q _ => hX q
  lenY := fun q _ => hY q
theorem p1_four {α : Type} {d : Kd α} {e eo B L : Nat} {W : World} {a0 a1 a2 a3 : Value} {x0 x1 x2 x3 : List α} {ok0 ok1 ok2 ok3 : Nat → Prop} (X : Nat → List Value)
    (r0 : d.R e W B ok0 a0 x0) (r1 : d.R e W B ok1 a1 x1) (r2 : d.R e W B ok2 a2 x2) (r3 : d.R e W B ok3 a3 x3) (hL : W.heap[L]? = some (.cells #[a0, a1, a2, a3] eo (0, 0))) :
    P1 W B L 4 d.sz e eo (four a0 a1 a2 a3) (fourN x0.length x1.length x2.length x3.length) X 0 0 where
  blk := ⟨_, hL, fun q hq => by rcases lt4 hq with rfl | rfl | rfl | rfl <;> rfl⟩
  own := fun q hq => by
    refine RowIs.mono (E := fun _ => none) ?_ (fun k hk Z hZ => by simp [E1] at hZ)
    rcases lt4 hq with rfl | rfl | rfl | rfl
    · exact rowIs_of_R r0
    · exact rowIs_of_R r1
    · exact rowIs_of_R r2
    · exact rowIs_of_R r3
theorem Came.view {B L N s e eo H : Nat} {vs : Nat → Value} {ns : Nat → Nat} {X Y : Nat → List Value} (hc : Came B L N s e eo H vs ns X Y) {q : Nat} (hq : q < N) : ∃ A c, vs q = .slice A (ns q) c ∧ ns q ≤ c ∧ (0 < ns q → ∃ g, A = some ⟨g, 0, none⟩) := by
  rcases hc.form q hq with ⟨h1, h2⟩ | ⟨g, c, h1, h2⟩
  · exact ⟨none, 0, by rw [h1, h2], by omega, fun h => absurd h (by omega)⟩
  · exact ⟨some ⟨g, 0, none⟩, c, h1, h2, fun _ => ⟨g, rfl⟩⟩
theorem w8_200 (i : Nat) (h : i < 4) : IntKind.u8.wrap (200 + (i : Int)) = 200 + (i : Int) := by
  show (200 + (i : Int)) % 256 = _; omega
theorem w8_210 (i : Nat) (h : i < 4) : IntKind.u8.wrap (210 + (i : Int)) = 210 + (i : Int) := by
  show (210 + (i : Int)) % 256 = _; omega
def xW (q : Nat) : List Value := [.int .u8 (200 + (q : Int))]
def yW (q : Nat) : List Value := [.int .u8 (210 + (q : Int))]
end Go.Proofs.YtohighedgdlflaaGreatDoor

/- What both arms of the law TraceWrites share. -/
namespace Go.Proofs.YtohighedgdlflaaGreatDoor
open Go.Shelf Go.RowKit Go.Sort Go.Lib Go.Proofs.YtohighedgdlflaaGreatDoorW.PrintWords Go.Proofs.YtohighedgdlflaaGreatDoor.PR
set_option linter.unusedVariables false
set_option linter.unusedSimpArgs false
theorem infoSl37 : (Tryz.prog.info? 37).map (fun i => (i.zero, i.size, i.bytes)) = some (some (.slice none 0 0), 1, 24) := by kernel_rfl
def heldL (k : Nat) : List (List Int) := (List.range k).map (fun i : Nat => encBytes [sayO ((i : Nat) : Int) 2 9])
theorem heldL_len (k : Nat) : (heldL k).length = k := by simp [heldL]
theorem heldL_succ (k : Nat) : heldL (k + 1) = heldL k ++ [encBytes [sayO ((k : Nat) : Int) 2 9]] := by simp [heldL, List.range_succ]
theorem heldL_get (k n : Nat) (h : k < n) : (heldL n)[k]? = some (encBytes [sayO ((k : Nat) : Int) 2 9]) := by
  unfold heldL
  rw [List.getElem?_map, List.getElem?_range h]
  rfl
theorem encBytes_bytes (l : List S35) : Crc.Bytes (encBytes l) := by
  intro y hy
  unfold encBytes at hy
  rcases List.mem_append.1 hy with h | h
  · exact encBody_bytes l y h
  · exact leb_bytes _ _ y h
/-- One of the lists held. -/
theorem held_at {W : World} {g n : Nat} (h : Kd.C (Kd.slice 5 (Kd.int .u8)) W (some ⟨g, 0, none⟩) n (heldL n)) {k : Nat} (hk : k < n) (hk1 : k < 1000000) : ∃ A c, W.cell? ⟨g, k, none⟩ = some (.slice A 34 c) ∧ ∀ nd, (convert 37 9 (.slice A 34 c)).run Tryz.prog (W.drewN nd) = .ok (.string (strOf (encBytes [sayO ((k : Nat) : Int) 2 9]))) (W.drewN nd) := by
  obtain ⟨ad, had, cs⟩ := h.2.2 (by omega)
  obtain rfl := Option.some.inj had
  obtain ⟨c, _, hK, hcell⟩ := cs k _ (heldL_get k n hk)
  obtain ⟨A, cc, rfl, hle, hC⟩ := hK
  have hl := (sayO_enc (t := (k : Int)) (cl := 2) (a := 9) (by omega) (by decide) (by decide)).2.1
  have h1 := hcell 0 _ rfl
  rw [show k * (Kd.slice 5 (Kd.int .u8)).sz + 0 = k from Nat.mul_one k, addr_add, Nat.zero_add, hl] at h1
  refine ⟨A, cc, h1, fun nd => ?_⟩
  have h2 := str_conv (c := cc) (Kd.C_drewN hC nd) (encBytes_bytes _)
  rw [hl] at h2
  exact h2
end Go.Proofs.YtohighedgdlflaaGreatDoor
