/- The law TraceSums of package trace answers true, for every cell, every two rows of observations and every place to stop. -/
import Derived.Test.YtohighedgdlflaaGreatDoorTMS7
import Derived.Deep.Slices
import Derived.OpenShut
import Derived.Test.YtohighedgdlflaaGreatDoorTPRx7
import Derived.Test.YtohighedgdlflaaGreatDoorTMS4
import Derived.Test.YtohighedgdlflaaGreatDoorTMS3
import Derived.Test.YtohighedgdlflaaGreatDoorTMS2
/- A row of observations in a block of its own, written in place. -/
namespace Go.Proofs.YtohighedgdlflaaGreatDoor
open Go.Shelf Go.RowKit Go.Sort Go.Lib Go.Proofs.YtohighedgdlflaaGreatDoorW.PrintWords Go.Proofs.YtohighedgdlflaaGreatDoor.PR
set_option linter.unusedVariables false
set_option linter.unusedSimpArgs false
def cells6 (x : S35) : List Value := [.int .u64 x.f0, .int .i64 x.f1, .int .i64 x.f2, .int .u32 x.f3, .int .u32 x.f4, .int .u32 x.f5]
def ORow (W : World) (g : Nat) (xs : List S35) : Prop := ∃ cur : Array Value, W.heap[g]? = some (.cells cur 35 (0, 0)) ∧ ∀ (i : Nat) x, xs[i]? = some x → ∀ (j : Nat) u, (cells6 x)[j]? = some u → cur[i * 6 + j]? = some u
theorem ORow.lt {W : World} {g : Nat} {xs : List S35} (h : ORow W g xs) : g < W.heap.size := by
  obtain ⟨cur, h1, _⟩ := h
  exact heap_lt' h1
theorem ORow.below {W W' : World} {g : Nat} {xs : List S35} (h : ORow W g xs) (hb : Below W.heap.size W W') : ORow W' g xs := by
  obtain ⟨cur, h1, h2⟩ := h
  exact ⟨cur, (hb.block _ (heap_lt' h1)).trans h1, h2⟩
theorem ORow.cell {W : World} {g : Nat} {xs : List S35} (h : ORow W g xs) {i : Nat} {x : S35} (hx : xs[i]? = some x) {j : Nat} {u : Value} (hu : (cells6 x)[j]? = some u) : W.cell? ⟨g, i * 6 + j, none⟩ = some u ∧ W.frozen? ⟨g, i * 6 + j, none⟩ = false := by
  obtain ⟨cur, h1, h2⟩ := h
  refine ⟨by rw [cell_in h1]; exact h2 i x hx j u hu, ?_⟩
  simp only [World.frozen?, h1]
  simp
theorem ORow.C {W : World} {g : Nat} {xs : List S35} (h : ORow W g xs) (hn : xs.length ≤ 9223372036854775807) : Kd.C k35 W (some ⟨g, 0, none⟩) xs.length xs := by
  refine ⟨rfl, hn, fun _ => ⟨_, rfl, fun j p hj => ⟨_, ?_, k35_mk _ p, fun i u hu => ?_⟩⟩⟩
  · rfl
  · rw [addr_add, Nat.zero_add]
    exact (h.cell hj hu).1
theorem orow_of_R {W : World} {base : Nat} {ok : Nat → Prop} {v : Value} {xs : List S35} (h : Kd.R k35 35 W base ok v xs) (hp : 0 < xs.length) : ∃ g cap, v = .slice (some ⟨g, 0, none⟩) xs.length cap ∧ base ≤ g ∧ xs.length ≤ cap ∧ ORow W g xs := by
  obtain ⟨g, cap, rfl, hg, _, cur, hc⟩ := Kd.R_form h hp
  obtain ⟨_, hcap, hC⟩ := Kd.R_reads' h
  refine ⟨g, cap, rfl, hg, hcap, cur, hc, fun i x hx j u hu => ?_⟩
  have hi : i < xs.length := by
    rcases Nat.lt_or_ge i xs.length with h' | h'
    · exact h'
    · rw [List.getElem?_eq_none h'] at hx; simp at hx
  obtain ⟨ad, had, cs⟩ := hC.2.2 hp
  obtain rfl := Option.some.inj had
  obtain ⟨c, _, hK, hcell⟩ := cs i x hx
  obtain rfl := k35_open hK
  have := hcell j u hu
  rw [addr_add, Nat.zero_add, cell_in hc] at this
  exact this
/-- One field of one element is written. -/
theorem ORow.set {W : World} {g : Nat} {xs : List S35} (h : ORow W g xs) {i j : Nat} {x y : S35} {v : Value} (hx : xs[i]? = some x) (hj : j < 6) (hy : ∀ k, (cells6 y)[k]? = if k = j then some v else (cells6 x)[k]?) : ORow (W.setCell ⟨g, i * 6 + j, none⟩ v) g (xs.set i y) := by
  obtain ⟨cur, h1, h2⟩ := h
  refine ⟨cur.setIfInBounds (i * 6 + j) v, heap_setCell_same _ _ _ _ _ _ h1, fun i' x' hx' k u hu => ?_⟩
  have hk6 : k < 6 := by
    rcases Nat.lt_or_ge k 6 with h' | h'
    · exact h'
    · rw [List.getElem?_eq_none (by simpa [cells6] using h')] at hu; simp at hu
  have hsz : i * 6 + j < cur.size := by
    have h3 : ∃ u, (cells6 x)[j]? = some u := ⟨_, List.getElem?_eq_getElem (by simpa [cells6] using hj)⟩
    obtain ⟨u3, hu3⟩ := h3
    have h4 := h2 i x hx j u3 hu3
    rcases Nat.lt_or_ge (i * 6 + j) cur.size with h' | h'
    · exact h'
    · rw [Array.getElem?_eq_none h'] at h4; simp at h4
  rw [List.getElem?_set] at hx'
  by_cases hii : i = i'
  · subst hii
    rw [if_pos rfl] at hx'
    split at hx'
    · obtain rfl := Option.some.inj hx'
      rw [hy k] at hu
      by_cases hkj : k = j
      · subst hkj
        rw [if_pos rfl] at hu
        rw [Array.getElem?_setIfInBounds_self_of_lt hsz]
        exact hu
      · rw [if_neg hkj] at hu
        rw [Array.getElem?_setIfInBounds_ne (by omega)]
        exact h2 i x hx k u hu
    · simp at hx'
  · rw [if_neg hii] at hx'
    rw [Array.getElem?_setIfInBounds_ne (by omega)]
    exact h2 i' x' hx' k u hu
theorem ORow.head_ {W : World} {g : Nat} {xs ys : List S35} (h : ORow W g (xs ++ ys)) : ORow W g xs := by
  obtain ⟨cur, h1, h2⟩ := h
  refine ⟨cur, h1, fun i x hx => h2 i x ?_⟩
  have hi : i < xs.length := by
    rcases Nat.lt_or_ge i xs.length with h' | h'
    · exact h'
    · rw [List.getElem?_eq_none h'] at hx; simp at hx
  rw [List.getElem?_append_left hi]; exact hx
theorem bound_ok (A : Option Addr) (n c : Nat) (w : World) (hc : n ≤ c) (hm : c ≤ 9223372036854775807) :
    Calls Tryz.prog 11 #[.slice A n c] w fun e w' => e = .returned (.slice A (min 400 n) c) ∧ w' = w := by
  by_cases h : 400 < n
  · have h1 : (400 : Int) < (n : Int) := by omega
    have h2 : decide ((400 : Int) < (n : Int)) = true := decide_eq_true h1
    have h3 : (400 : Int) ≤ (c : Int) := by omega
    have e : min 400 n = 400 := by omega
    rw [e]
    go_enter Tryz.func11, Tryz.ntmps11
    go_wp2_with fail
    go_ret
    exact ⟨rfl, rfl⟩
  · have h1 : ¬ (400 : Int) < (n : Int) := by omega
    have h2 : decide ((400 : Int) < (n : Int)) = false := decide_eq_false h1
    have e : min 400 n = n := by omega
    rw [e]
    go_enter Tryz.func11, Tryz.ntmps11
    go_wp2_with fail
    go_ret
    exact ⟨rfl, rfl⟩
end Go.Proofs.YtohighedgdlflaaGreatDoor

/- A row of observations among the arguments, opened. -/
namespace Go.Proofs.YtohighedgdlflaaGreatDoor
open Go.ChangeShapes Go.WideShapes Go.Deep Go.RowKit Go.Proofs.YtohighedgdlflaaGreatDoorW.PrintWords Go.Proofs.YtohighedgdlflaaGreatDoor.PR
set_option linter.unusedVariables false
set_option linter.unusedSimpArgs false
theorem cells35 : Tryz.prog.cellsOf 35 = 6 := by kernel_rfl
theorem cells32 : Tryz.prog.cellsOf 32 = 1 := by kernel_rfl
theorem cells3 : Tryz.prog.cellsOf 3 = 1 := by kernel_rfl
theorem cells33 : Tryz.prog.cellsOf 33 = 1 := by kernel_rfl
theorem cells31 : Tryz.prog.cellsOf 31 = 1 := by kernel_rfl
theorem len6 {α : Type} {l : List α} (h : l.length = 6) : ∃ a b c d e f, l = [a, b, c, d, e, f] := by
  match l, h with
  | [a, b, c, d, e, f], _ => exact ⟨a, b, c, d, e, f, rfl⟩
theorem wf_u64 {n : Int} (h : (Lit.int .u64 n).wf = true) : 0 ≤ n ∧ n < 18446744073709551616 := by
  have e1 : IntKind.u64.min = 0 := by decide
  have e2 : IntKind.u64.max = 18446744073709551615 := by decide
  simp only [Lit.wf, Bool.and_eq_true, decide_eq_true_eq, e1, e2] at h
  omega
theorem wf_u32 {n : Int} (h : (Lit.int .u32 n).wf = true) : 0 ≤ n ∧ n < 4294967296 := by
  have e1 : IntKind.u32.min = 0 := by decide
  have e2 : IntKind.u32.max = 4294967295 := by decide
  simp only [Lit.wf, Bool.and_eq_true, decide_eq_true_eq, e1, e2] at h
  omega
section
variable {H : Type} {enc : TypeId × Value → H} {W : World} {spare : Nat → Bool} {held : Bool}
theorem open_ob {n : Nat} {v0 v1 v2 v3 v4 v5 : Value} {x : DataW H × List MemPlace} (h : DataW.trod enc Tryz.prog W 0 spare held n 35 [v0, v1, v2, v3, v4, v5] = some x) :
    ∃ o : S35, FitsT o ∧ [v0, v1, v2, v3, v4, v5] = cells6 o := by
  obtain ⟨xs, k, hk, hxy, _, hxl, hf⟩ := DataW.trod_struct Tryz.underlying35 h
  obtain ⟨y0, y1, y2, y3, y4, y5, rfl⟩ := len6 (l := xs) hxl
  have g0 := hf 0 _ rfl
  have g1 := hf 1 _ rfl
  have g2 := hf 2 _ rfl
  have g3 := hf 3 _ rfl
  have g4 := hf 4 _ rfl
  have g5 := hf 5 _ rfl
  clear hf h
  replace g0 : DataW.trod enc Tryz.prog W 0 spare held k 32 (([v0, v1, v2, v3, v4, v5].drop 0).take (Tryz.prog.cellsOf 32)) = some y0 := g0
  replace g1 : DataW.trod enc Tryz.prog W 0 spare held k 3 (([v0, v1, v2, v3, v4, v5].drop 1).take (Tryz.prog.cellsOf 3)) = some y1 := g1
  replace g2 : DataW.trod enc Tryz.prog W 0 spare held k 33 (([v0, v1, v2, v3, v4, v5].drop 2).take (Tryz.prog.cellsOf 33)) = some y2 := g2
  replace g3 : DataW.trod enc Tryz.prog W 0 spare held k 31 (([v0, v1, v2, v3, v4, v5].drop 3).take (Tryz.prog.cellsOf 31)) = some y3 := g3
  replace g4 : DataW.trod enc Tryz.prog W 0 spare held k 31 (([v0, v1, v2, v3, v4, v5].drop 4).take (Tryz.prog.cellsOf 31)) = some y4 := g4
  replace g5 : DataW.trod enc Tryz.prog W 0 spare held k 31 (([v0, v1, v2, v3, v4, v5].drop 5).take (Tryz.prog.cellsOf 31)) = some y5 := g5
  rw [cells32] at g0
  rw [cells3] at g1
  rw [cells33] at g2
  rw [cells31] at g3 g4 g5
  obtain ⟨n0, e0, _, w0⟩ := DataW.trod_int Tryz.underlying32 g0
  obtain ⟨n1, e1, _, _⟩ := DataW.trod_int Tryz.underlying3 g1
  obtain ⟨n2, e2, _, _⟩ := DataW.trod_int Tryz.underlying33 g2
  obtain ⟨n3, e3, _, w3⟩ := DataW.trod_int Tryz.underlying31 g3
  obtain ⟨n4, e4, _, w4⟩ := DataW.trod_int Tryz.underlying31 g4
  obtain ⟨n5, e5, _, w5⟩ := DataW.trod_int Tryz.underlying31 g5
  have u0 := wf_u64 w0
  have u3 := wf_u32 w3
  have u4 := wf_u32 w4
  have u5 := wf_u32 w5
  refine ⟨⟨n0, n1, n2, n3, n4, n5⟩, ⟨⟨u3.1, u3.2, u4.1, u4.2, u5.1, u5.2⟩, u0.1, u0.2⟩, ?_⟩
  obtain rfl : v0 = .int .u64 n0 := (List.cons.inj (show [v0] = [_] from e0)).1
  obtain rfl : v1 = .int .i64 n1 := (List.cons.inj (show [v1] = [_] from e1)).1
  obtain rfl : v2 = .int .i64 n2 := (List.cons.inj (show [v2] = [_] from e2)).1
  obtain rfl : v3 = .int .u32 n3 := (List.cons.inj (show [v3] = [_] from e3)).1
  obtain rfl : v4 = .int .u32 n4 := (List.cons.inj (show [v4] = [_] from e4)).1
  obtain rfl : v5 = .int .u32 n5 := (List.cons.inj (show [v5] = [_] from e5)).1
  rfl
theorem open_obs {fuel : Nat} {A : Option Addr} {len cap : Nat} {x : DataW H × List MemPlace} (h : DataW.trod enc Tryz.prog W 0 spare held fuel 22 [.slice A len cap] = some x) :
    ∃ l : List S35, len = l.length ∧ l.length ≤ cap ∧ cap ≤ 9223372036854775807 ∧ Kd.C k35 W A l.length l ∧ ∀ o ∈ l, FitsT o := by
  rcases open_slice Tryz.underlying22 h with ⟨h0, _⟩ | ⟨a, len', cap', m, n, D, Pl, hcs, _, hl, hm, hmm, _, hx⟩
  · simp only [List.cons.injEq, Value.slice.injEq, and_true] at h0
    obtain ⟨rfl, rfl, rfl⟩ := h0
    exact ⟨[], rfl, by simp, by simp, Kd.C_nil _ _, by simp⟩
  · simp only [List.cons.injEq, Value.slice.injEq, and_true] at hcs
    obtain ⟨rfl, rfl, rfl⟩ := hcs
    have hlm : len ≤ m := by rw [hmm]; split <;> omega
    have hmax : cap ≤ 9223372036854775807 := by
      have e : maxLen = 9223372036854775807 := by decide
      omega
    have each : ∀ i, i < len → ∃ o : S35, FitsT o ∧ ∀ j u, (cells6 o)[j]? = some u → W.cell? (a.add (i * 6 + j)) = some u := by
      intro i hi
      obtain ⟨cs', h1, h2⟩ := hx i (by omega)
      rw [cells35] at h1
      obtain ⟨_, hlen, hcell⟩ := World.cells?_some h1
      obtain ⟨v0, v1, v2, v3, v4, v5, rfl⟩ := len6 hlen
      obtain ⟨o, ho, he⟩ := open_ob h2
      refine ⟨o, ho, fun j u hu => ?_⟩
      have hj : j < 6 := by
        rcases Nat.lt_or_ge j 6 with h' | h'
        · exact h'
        · rw [List.getElem?_eq_none (by simpa [cells6] using h')] at hu; simp at hu
      have := hcell j hj
      rw [Deep.add_add] at this
      rw [this, he, hu]
    haveI : Inhabited S35 := ⟨z35⟩
    obtain ⟨q, hq⟩ := choose_lt each
    refine ⟨(List.range len).map q, by simp, by simpa using hl, hmax, ⟨rfl, by simp; omega, fun hpos => ⟨a, rfl, fun j p hj => ?_⟩⟩, ?_⟩
    · rw [List.getElem?_map] at hj
      rcases Nat.lt_or_ge j len with h' | h'
      · rw [List.getElem?_range h'] at hj
        obtain rfl := Option.some.inj hj
        exact ⟨_, rfl, k35_mk _ _, fun i u hu => (hq j h').2 i u hu⟩
      · rw [List.getElem?_eq_none (by simpa using h')] at hj; simp at hj
    · intro o ho
      obtain ⟨i, hi, rfl⟩ := List.mem_map.1 ho
      exact (hq i (List.mem_range.1 hi)).1
end
end Go.Proofs.YtohighedgdlflaaGreatDoor

/- The law's own makers: observations that may be, at most 200. -/
namespace Go.Proofs.YtohighedgdlflaaGreatDoor
open Go.Shelf Go.RowKit Go.Sort Go.Lib Go.Proofs.YtohighedgdlflaaGreatDoorW.PrintWords Go.Proofs.YtohighedgdlflaaGreatDoor.PR
set_option linter.unusedVariables false
set_option linter.unusedSimpArgs false
def I64 (x : Int) : Prop := -9223372036854775808 ≤ x ∧ x < 9223372036854775808
theorem pick_some (c : Int) (n : Nat) (hc : I64 c) (hn : 0 < n) : ∃ r : Nat, cloisterlaw22_pick.f c n = some (r : Int) ∧ r < n := by
  unfold cloisterlaw22_pick.f
  obtain ⟨h1, h2⟩ := hc
  have hn0 : ¬ (n : Int) = 0 := by omega
  have fin : ∀ a : Nat, ∃ r : Nat, some (Int.tmod (a : Int) (n : Int)) = some (r : Int) ∧ r < n := fun a => by
    refine ⟨a % n, ?_, Nat.mod_lt _ hn⟩
    rw [Int.tmod_eq_emod_of_nonneg (by omega)]; rfl
  by_cases h : c < 0
  · rw [if_pos h, if_neg hn0]
    have e : wrap64 (-(wrap64 (c + 1))) = ((-(c + 1)).toNat : Int) := by unfold wrap64; omega
    rw [e]; exact fin _
  · rw [if_neg h, if_neg hn0]
    have e : c = (c.toNat : Int) := by omega
    rw [e]; exact fin _
end Go.Proofs.YtohighedgdlflaaGreatDoor

/- NewWriter, Raw and Done of package wire, where nothing goes wrong. -/
namespace Go.Proofs.YtohighedgdlflaaGreatDoor
open Go.RowKit Go.Proofs.YtohighedgdlflaaGreatDoorW.PrintWords Go.Proofs.YtohighedgdlflaaGreatDoor.PR
set_option linter.unusedVariables false
set_option linter.unusedSimpArgs false
set_option maxHeartbeats 400000 in
theorem newWriter_ok (lim : Int) (base : Nat) (w0 w : World) (h0 : 0 ≤ lim) (hl : lim ≤ 67108864) (hB : Below base w0 w) (hb : base ≤ w.heap.size) :
    Calls Tryz.prog 55 #[.int .i64 lim] w fun e w' => ∃ g, e = .returned (.tuple #[.pointer (some ⟨g, 0, none⟩), .int .i64 0]) ∧ Wr w' base g lim (.slice none 0 0) [] ∧ w.heap.size ≤ g ∧ Below base w0 w' ∧ Below w.heap.size w w' := by
  have hmm := @run_makeMap Tryz.prog
  have c1 : ¬ lim < 0 := by omega
  have c2 : decide (67108864 < lim) = false := by simpa using hl
  go_enter Tryz.func55, Tryz.ntmps55
  go_wp2
  refine bodyPost_ret (results_tmp2 rfl _ _ _) rfl ?_
  refine ⟨w.heap.size + 1, rfl, ⟨by omega, ⟨w.heap.size, ?_, ?_, hb⟩, own_nil _ _ _ _⟩, by omega, ?_, ?_⟩
  · have := heap_alloc_new (w.alloc (.map #[] 0)) (.cells #[.int .i64 lim, .slice none 0 0, .map (some w.heap.size), .int .i64 0] 136)
    simpa using this
  · rw [Below.heap_alloc _ _ _ (by simp)]; exact heap_alloc_new w _
  · exact (hB.alloc hb _).alloc (by simp; omega) _
  · exact ((Below.refl _ _).alloc (Nat.le_refl _) _).alloc (by simp) _
set_option maxRecDepth 100000 in
theorem done_ok (base g : Nat) (lim : Int) (v : Value) (xs : List Int) (w0 w : World) (hW : Wr w base g lim v xs) (hl : lim ≤ 67108864) (hxl : (xs.length : Int) ≤ lim) (hB : Below base w0 w) (hb : base ≤ w.heap.size) :
    Calls Tryz.prog 58 #[.pointer (some ⟨g, 0, none⟩)] w fun e w' => ∃ v', e = .returned (.tuple #[v', .int .i64 0]) ∧ Kd.R (Kd.int .u8) 5 w' w.heap.size (fun _ => True) v' xs ∧ Below base w0 w' ∧ Below w.heap.size w w' := by
  have hW0 := Lib.hid hW
  have hle : Hid (xs.length ≤ 67108864) := by show xs.length ≤ 67108864; omega
  obtain ⟨hbg, ⟨mb, hg, hm, hbm⟩, ho⟩ := hW
  obtain ⟨A0, c0, rfl⟩ := own_slice ho
  have h1 : w.cell? ⟨g, 1, none⟩ = some (.slice A0 xs.length c0) := by simp [World.cell?, hg]
  have h2 : w.cell? ⟨g, 2, none⟩ = some (.map (some mb)) := by simp [World.cell?, hg]
  have h3 : w.cell? ⟨g, 3, none⟩ = some (.int .i64 0) := by simp [World.cell?, hg]
  have hlen : (Builtin.len_ #[134] 3 #[.map (some mb)]).run Tryz.prog w = .ok (.int .i64 0) w := run_len_map w 134 3 mb #[] 0 (by kernel_rfl) hm
  clear hg ho
  go_enter Tryz.func58, Tryz.ntmps58
  go_wp2_with (at_builtin; refine print_append_row (w0 := w) w.heap.size rfl (.const (.slice none 0 0)) (.tmp 24) 37 5 .u8 1 rfl Tryz.underlying37 info5 (by decide) (.slice none 0 0) [] xs A0 xs.length c0 rfl rfl (own_nil _ _ _ _) ?hr (Below.refl _ _) (Nat.le_refl _) ?hl ?_; (case hr => (obtain ⟨A', c', e, hr⟩ := own_reads hW0.out.own; cases e; exact hr)); (case hl => (have := hle.out; simp; omega)); intro v1 w1 hown hb1 hg1 hat; have Hown := Lib.hid hown; have Hb1 := Lib.hid hb1; clear hown hb1 hg1 hat)
  refine bodyPost_ret (results_tmp2 rfl _ _ _) rfl ?_
  refine ⟨v1, rfl, ?_, hB.trans (Hb1.out.mono hb), Hb1.out⟩
  have := Hown.out
  simp only [List.nil_append] at this
  exact Kd.R_of_own this (fun _ _ => trivial)
end Go.Proofs.YtohighedgdlflaaGreatDoor

/- trace.Encode writes what encBytes says. -/
namespace Go.Proofs.YtohighedgdlflaaGreatDoor
open Go.RowKit Go.Proofs.YtohighedgdlflaaGreatDoorW.PrintWords Go.Proofs.YtohighedgdlflaaGreatDoor.PR
set_option linter.unusedVariables false
set_option linter.unusedSimpArgs false
/-- What the trace of l is, but for its sum. -/
def encBody (l : List S35) : List Int := leb 4 1381256259 ++ leb 4 l.length ++ l.flatMap rowB
def encBytes (l : List S35) : List Int := encBody l ++ leb 4 (Crc.crc (encBody l))
def encOk (l : List S35) : Bool := decide (l.length ≤ 1000000) && l.all mayB
/-- The two results for an answer. -/
def EncR (w : World) (l : List S35) (e : Ending) (w' : World) : Prop :=
  ∃ v, e = .returned (.tuple #[v, .int .i64 (if encOk l = true then 0 else 220)]) ∧ Kd.R (Kd.int .u8) 5 w' w.heap.size (fun _ => True) v (if encOk l = true then encBytes l else []) ∧ Below w.heap.size w w'
theorem EncR.bad {w W : World} {l : List S35} (hb : encOk l = false) (h : Below w.heap.size w W) : EncR w l (.returned (.tuple #[.slice none 0 0, .int .i64 220])) W :=
  ⟨.slice none 0 0, by rw [hb]; rfl, by rw [hb]; exact Kd.R_nil _ _ _ _ _, h⟩
theorem flat_len (l : List S35) : (l.flatMap rowB).length = 22 * l.length := by
  induction l with
  | nil => rfl
  | cons o l ih => rw [List.flatMap_cons, List.length_append, rowB_length, ih, List.length_cons]; omega
theorem leb_bytes (n : Nat) (x : Int) : Crc.Bytes (leb n x) := by
  intro y hy
  simp only [leb, List.mem_map] at hy
  obtain ⟨i, _, rfl⟩ := hy
  omega
end Go.Proofs.YtohighedgdlflaaGreatDoor
