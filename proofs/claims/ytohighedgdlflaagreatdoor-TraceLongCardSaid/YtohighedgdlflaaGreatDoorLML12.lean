/- The law TraceLong of package trace answers true, for every two numbers. -/
import Derived.Test.YtohighedgdlflaaGreatDoorLML4
import Derived.Test.YtohighedgdlflaaGreatDoorLML5
import Derived.Test.YtohighedgdlflaaGreatDoorLML6
import Derived.Test.YtohighedgdlflaaGreatDoorLML8
import Derived.Test.YtohighedgdlflaaGreatDoorLML11
import Derived.Deep.Slices
import Derived.OpenShut
import Derived.Test.YtohighedgdlflaaGreatDoorLPRx8
/- The law TraceBack answers true, whatever the rows. -/
namespace Go.Proofs.YtohighedgdlflaaGreatDoor
open Go.Proofs.YtohighedgdlflaaGreatDoorW.PrintLast Go.Shelf Go.RowKit Go.Sort Go.Lib Go.Proofs.YtohighedgdlflaaGreatDoorW.PrintWords Go.Proofs.YtohighedgdlflaaGreatDoor.PR
set_option linter.unusedVariables false
set_option linter.unusedSimpArgs false
theorem pick_okw (c : Int) (n : Nat) (hc : I64 c) (hn : 0 < n) : ∃ r : Nat, r < n ∧ ∀ w, Calls Tryz.prog 29 #[.int .i64 c, .int .i64 n] w fun e w' => e = .returned (.int .i64 r) ∧ Drawn0 w w' := by
  obtain ⟨r, h1, h2⟩ := pick_some c n hc hn
  exact ⟨r, h2, fun w => cloisterlaw22_pick.calls c n r w h1⟩
theorem flat1 {α : Type} : ∀ (l : List α), (l.map fun o => [o]).flatten = l
  | [] => rfl
  | o :: l => by rw [List.map_cons, List.flatten_cons, flat1 l]; rfl
theorem parse_text (l : List S35) (hm : ∀ o ∈ l, mayB o = true) (hF : ∀ o ∈ l, FitsT o) (hl : l.length ≤ 1000000) (m : Int) (w : World) (hm2 : w.cell? ⟨2, 0, none⟩ = some (.int .i64 m)) :
    Calls Tryz.prog 31 #[.string (textS l)] w fun e w' => ∃ v, e = .returned (.tuple #[v, .int .i64 0, .int .i64 0]) ∧ Kd.R k35 35 w' w.heap.size (fun _ => True) v l ∧ Below w.heap.size w w' := by
  obtain ⟨zs, h1, h2, h3⟩ := text_pieces l hm hF
  have hfl : ((l.map fun o => [o]) ++ [[]]).flatten = l := by
    rw [List.flatten_append, flat1]
    simp
  have hsz : (textS l).size ≤ 1000000000 := by
    have h4 : (textB l).length ≤ 200 * l.length := text_len _ (fun x hx => by
      obtain ⟨t, cl, q, p, a, b, rfl, hG⟩ := good_of_may (hm x hx) (hF x hx)
      have := hG.t63; have := hG.cl8; have := hG.a32
      exact words_len _ (show (t : Int) < _ by omega) (show (cl : Int) < _ by omega) (show (a : Int) < _ by omega))
    have h5 : (textS l).size = (textB l).length := by simp [textS, ByteArray.size]
    omega
  have := parse_ok (textS l) m ((l.map fun o => [o]) ++ [[]]) w hsz hm2 (by rw [h1]; simp [h2]) (by
    intro k x os hx ho
    rw [h1] at hx
    rcases Nat.lt_or_ge k zs.length with hk | hk
    · rw [List.getElem?_append_left hk] at hx
      rw [List.getElem?_append_left (by simp; omega), List.getElem?_map] at ho
      obtain ⟨o, ho1, rfl⟩ := Option.map_eq_some_iff.1 ho
      exact h3 k x o hx ho1
    · rw [List.getElem?_append_right hk] at hx
      rw [List.getElem?_append_right (by simp; omega)] at ho
      simp only [List.length_map, ← h2] at ho
      match hkk : k - zs.length with
      | 0 =>
        rw [hkk] at hx ho
        obtain rfl := Option.some.inj hx
        obtain rfl := Option.some.inj ho
        refine .inl ⟨?_, rfl⟩
        have hc : cutB ⟨#[]⟩ = [⟨#[]⟩] := map_ba' (by
          show (Lib.splitB ⟨#[32]⟩ 0 (Lib.countB _ ⟨#[32]⟩) _).map (·.data.toList) = _
          rw [splitB_splitC]; rfl)
        unfold wordsB
        rw [hc]
        have : emp ⟨#[]⟩ = true := by
          unfold emp
          rw [← decide_eq_emptyBytes]
          exact decide_eq_true rfl
        simp [this]
      | n + 1 => rw [hkk] at hx; simp at hx) (by rw [hfl]; exact hl)
  rwa [hfl] at this
end Go.Proofs.YtohighedgdlflaaGreatDoor

/- A row of raw observations among the arguments, opened. -/
namespace Go.Proofs.YtohighedgdlflaaGreatDoor
open Go.ChangeShapes Go.WideShapes Go.Deep Go.RowKit Go.Proofs.YtohighedgdlflaaGreatDoorW.PrintWords Go.Proofs.YtohighedgdlflaaGreatDoor.PR
set_option linter.unusedVariables false
set_option linter.unusedSimpArgs false
namespace raw
theorem wf_i64 {n : Int} (h : (Lit.int .i64 n).wf = true) : I64 n := by
  have e1 : IntKind.i64.min = -9223372036854775808 := by decide
  have e2 : IntKind.i64.max = 9223372036854775807 := by decide
  simp only [Lit.wf, Bool.and_eq_true, decide_eq_true_eq, e1, e2] at h
  exact ⟨by omega, by omega⟩
def cells (x : S108) : List Value := [.int .i64 x.f0, .int .i64 x.f1, .int .i64 x.f2, .int .i64 x.f3, .int .i64 x.f4, .int .i64 x.f5]
section
variable {H : Type} {enc : TypeId × Value → H} {W : World} {spare : Nat → Bool} {held : Bool}
end
end raw
end Go.Proofs.YtohighedgdlflaaGreatDoor

/- known (9): the document's first example holds. -/
namespace Go.Proofs.YtohighedgdlflaaGreatDoor
open Go.Shelf Go.RowKit Go.Sort Go.Lib Go.Proofs.YtohighedgdlflaaGreatDoorW.PrintWords Go.Proofs.YtohighedgdlflaaGreatDoor.PR
set_option linter.unusedVariables false
set_option linter.unusedSimpArgs false
def kS : ByteArray := ⟨#[53, 32, 32, 50, 32, 99, 108, 111, 99, 107, 32, 48, 48, 48, 48, 48, 48, 48, 48, 32, 48, 48, 48, 48, 48, 48, 48, 49, 48, 48, 48, 48, 48, 48, 48, 53, 32]⟩
def kL : ByteArray := ⟨#[51, 55, 32, 49, 32, 108, 111, 97, 100, 32, 48, 48, 48, 48, 48, 48, 49, 48, 32, 48, 48, 48, 48, 49, 48, 48, 48, 32, 48, 48, 48, 48, 48, 48, 50, 97, 10]⟩
theorem ba_ext {a b : ByteArray} (h : a.data.toList = b.data.toList) : a = b := by
  apply ByteArray.ext
  exact Array.toList_inj.1 h
theorem map_ba {xs ys : List ByteArray} (h : xs.map (·.data.toList) = ys.map (·.data.toList)) : xs = ys := by
  induction xs generalizing ys with
  | nil => cases ys with
    | nil => rfl
    | cons y ys => simp at h
  | cons x xs ih => cases ys with
    | nil => simp at h
    | cons y ys =>
      simp only [List.map_cons, List.cons.injEq] at h
      rw [ba_ext h.1, ih h.2]
theorem dec1 (n : Nat) (h : n < 10) : decS n = ⟨#[UInt8.ofNat (48 + n)]⟩ := by
  unfold decS; rw [Lib.decDigits_one h]
theorem emp_eq (x : ByteArray) : emp x = decide (x = ⟨#[]⟩) := (decide_eq_emptyBytes x).symm
theorem kPieces : pieces kS = [kS] := map_ba (by
  show (Lib.splitB ⟨#[10]⟩ 0 (Lib.countB kS ⟨#[10]⟩) kS).map (·.data.toList) = _
  rw [splitB_splitC]; decide)
theorem kCut : cutB kS = [⟨#[53]⟩, ⟨#[]⟩, ⟨#[50]⟩, ⟨#[99, 108, 111, 99, 107]⟩, ⟨#[48, 48, 48, 48, 48, 48, 48, 48]⟩, ⟨#[48, 48, 48, 48, 48, 48, 48, 49, 48, 48, 48, 48, 48, 48, 48, 53]⟩, ⟨#[]⟩] := map_ba (by
  show (Lib.splitB ⟨#[32]⟩ 0 (Lib.countB kS ⟨#[32]⟩) kS).map (·.data.toList) = _
  rw [splitB_splitC]; decide)
theorem hex0 : hexS 0 = ⟨#[48, 48, 48, 48, 48, 48, 48, 48]⟩ := ba_ext (by decide)
theorem hex15 : hexS 1 ++ hexS 5 = ⟨#[48, 48, 48, 48, 48, 48, 48, 49, 48, 48, 48, 48, 48, 48, 48, 53]⟩ := ba_ext (by
  rw [ByteArray.data_append, Array.toList_append]; decide)
theorem kWords : wordsB kS = wordsN 5 2 5 0 5 1 := by
  unfold wordsB wordsN writeN
  rw [kCut, dec1 5 (by decide), dec1 2 (by decide), hex0, hex15]
  simp only [emp_eq]
  decide
theorem kGood : GoodN 5 2 5 0 5 1 := ⟨by decide, by decide, by decide, by decide, by decide, by decide, by decide, by decide, by decide, by decide, by decide, by decide, by decide⟩
theorem kText : textS [obN 37 1 1 16 4096 42] = kL := ba_ext (by
  have h37 : Lib.decDigits 37 = [51, 55] := by rw [Lib.decDigits_two (by decide) (by decide)]; rfl
  simp only [textS, textB, List.flatMap_cons, List.flatMap_nil, lineB_obN, lineZ, wordsN, writeN, decS, h37, Lib.decDigits_one (show 1 < 10 by decide)]
  decide)
theorem addr_add (g o i : Nat) : (⟨g, o, none⟩ : Addr).add i = ⟨g, o + i, none⟩ := by simp [Addr.add]
theorem cell_in {W : World} {g j q : Nat} {cs : Array Value} {fz : Nat × Nat} (h : W.heap[g]? = some (.cells cs q fz)) : W.cell? ⟨g, j, none⟩ = cs[j]? := by
  simp only [World.cell?, h]; rfl
theorem known_ok (m : Int) (w : World) (hT : PTab w) (hm : w.cell? ⟨2, 0, none⟩ = some (.int .i64 m)) :
    Calls Tryz.prog 9 #[] w fun e w' => e = .returned (.bool true) ∧ Below w.heap.size w w' := by
  have HT := Lib.hid hT
  have HM := Lib.hid hm
  have h2 : 2 < w.heap.size := World.block_lt_of_cell? _ _ hm
  clear hT hm
  go_enter Tryz.func9, Tryz.ntmps9
  go_wp2_with fail
  have hC : Kd.C k35 (w.alloc (.cells #[.int .u64 37, .int .i64 1, .int .i64 1, .int .u32 16, .int .u32 4096, .int .u32 42] 35)) (some ⟨w.heap.size, 0, none⟩) [obN 37 1 1 16 4096 42].length [obN 37 1 1 16 4096 42] := by
    refine ⟨rfl, by decide, fun _ => ⟨_, rfl, fun j p hj => ?_⟩⟩
    match j with
    | 0 =>
      obtain rfl : obN 37 1 1 16 4096 42 = p := Option.some.inj hj
      refine ⟨_, rfl, k35_mk _ _, fun i u hu => ?_⟩
      have hb := blk_new w (.cells #[.int .u64 37, .int .i64 1, .int .i64 1, .int .u32 16, .int .u32 4096, .int .u32 42] 35)
      rw [Nat.zero_mul, Nat.zero_add, addr_add, Nat.zero_add, cell_in hb]
      simpa [obN] using hu
    | j + 1 => simp at hj
  have hft : ∀ o ∈ [obN 37 1 1 16 4096 42], FitsT o := by
    intro o ho
    rw [List.mem_singleton] at ho
    subst ho
    exact ⟨⟨by decide, by decide, by decide, by decide, by decide, by decide⟩, by decide, by decide⟩
  have hba : Below w.heap.size w (w.alloc (.cells #[.int .u64 37, .int .i64 1, .int .i64 1, .int .u32 16, .int .u32 4096, .int .u32 42] 35)) := below_alloc (Below.refl _ _) _
  have htx := text_ok [obN 37 1 1 16 4096 42] (some ⟨w.heap.size, 0, none⟩) 1 _ (HT.out.below hba) hC hft (by decide)
  have hmay : [obN 37 1 1 16 4096 42].all mayB = true := by decide
  refine htx.mono ?_
  clear htx hC hft
  rintro e w1 ⟨rfl, hb1⟩
  rw [if_pos hmay, if_pos hmay, kText]
  unfold kL
  clear hmay
  have HB1 := Lib.hid (hba.trans (hb1.mono hba.size))
  clear hba hb1
  go_wp2_with fail
  have hps := parse_ok kS m [[obN 5 2 5 0 5 1]] w1 (by decide) (by rw [HB1.out.cell h2]; exact HM.out) (by rw [kPieces]; rfl) (by
    intro k x os hx ho
    rw [kPieces] at hx
    match k with
    | 0 =>
      obtain rfl : kS = x := Option.some.inj hx
      obtain rfl : [obN 5 2 5 0 5 1] = os := Option.some.inj ho
      exact .inr ⟨5, 2, 5, 0, 5, 1, kGood, kWords, rfl⟩
    | k + 1 => simp at hx) (by decide)
  refine hps.mono ?_
  clear hps
  rintro e w2 ⟨v, rfl, hr, hb⟩
  have HB2 := Lib.hid (HB1.out.trans (hb.mono HB1.out.size))
  obtain ⟨g, c, rfl, _, _, _⟩ := Kd.R_form hr (by decide)
  obtain ⟨_, _, hC⟩ := Kd.R_reads' hr
  obtain ⟨ad, had, c0, c1, c2, c3, c4, c5⟩ := at_T35 hC 0 (by decide) (by decide)
  have e35 : rd_T35 ([[obN 5 2 5 0 5 1]].flatten) 0 = obN 5 2 5 0 5 1 := rfl
  rw [e35] at c0 c1 c2 c3 c4 c5
  obtain rfl := Option.some.inj had
  simp only [obN, show Int.toNat 0 * 6 = 0 from rfl, addr_add, Nat.zero_add] at c0 c1 c2 c3 c4 c5
  clear hr hb HB1 hC
  go_wp2_with fail
  go_ret
  exact ⟨rfl, HB2.out⟩
end Go.Proofs.YtohighedgdlflaaGreatDoor

/- kept (14) at lent ones that nobody wrote. -/
namespace Go.Proofs.YtohighedgdlflaaGreatDoor
open Go.Shelf Go.RowKit Go.Sort Go.Lib Go.Proofs.YtohighedgdlflaaGreatDoorW.PrintWords Go.Proofs.YtohighedgdlflaaGreatDoor.PR
set_option linter.unusedVariables false
set_option linter.unusedSimpArgs false
end Go.Proofs.YtohighedgdlflaaGreatDoor

/- A row of observations in a block of its own, written in place. -/
namespace Go.Proofs.YtohighedgdlflaaGreatDoor
open Go.Shelf Go.RowKit Go.Sort Go.Lib Go.Proofs.YtohighedgdlflaaGreatDoorW.PrintWords Go.Proofs.YtohighedgdlflaaGreatDoor.PR
set_option linter.unusedVariables false
set_option linter.unusedSimpArgs false
def cells6 (x : S35) : List Value := [.int .u64 x.f0, .int .i64 x.f1, .int .i64 x.f2, .int .u32 x.f3, .int .u32 x.f4, .int .u32 x.f5]
def ORow (W : World) (g : Nat) (xs : List S35) : Prop := ∃ cur : Array Value, W.heap[g]? = some (.cells cur 35 (0, 0)) ∧ ∀ (i : Nat) x, xs[i]? = some x → ∀ (j : Nat) u, (cells6 x)[j]? = some u → cur[i * 6 + j]? = some u
theorem ORow.lt {W : World} {g : Nat} {xs : List S35} (h : ORow W g xs) : g < W.heap.size := by
  obtain ⟨cur, h1, _⟩ := h
  exact heap_lt' h1
theorem ORow.below {W W' : World} {g : Nat} {xs : List S35} (h : ORow W g xs) (hb : Below W.heap.size W W') : ORow W' g xs := by
  obtain ⟨cur, h1, h2⟩ := h
  exact ⟨cur, (hb.block _ (heap_lt' h1)).trans h1, h2⟩
theorem ORow.cell {W : World} {g : Nat} {xs : List S35} (h : ORow W g xs) {i : Nat} {x : S35} (hx : xs[i]? = some x) {j : Nat} {u : Value} (hu : (cells6 x)[j]? = some u) : W.cell? ⟨g, i * 6 + j, none⟩ = some u ∧ W.frozen? ⟨g, i * 6 + j, none⟩ = false := by
  obtain ⟨cur, h1, h2⟩ := h
  refine ⟨by rw [cell_in h1]; exact h2 i x hx j u hu, ?_⟩
  simp only [World.frozen?, h1]
  simp
theorem ORow.C {W : World} {g : Nat} {xs : List S35} (h : ORow W g xs) (hn : xs.length ≤ 9223372036854775807) : Kd.C k35 W (some ⟨g, 0, none⟩) xs.length xs := by
  refine ⟨rfl, hn, fun _ => ⟨_, rfl, fun j p hj => ⟨_, ?_, k35_mk _ p, fun i u hu => ?_⟩⟩⟩
  · rfl
  · rw [addr_add, Nat.zero_add]
    exact (h.cell hj hu).1
theorem orow_of_R {W : World} {base : Nat} {ok : Nat → Prop} {v : Value} {xs : List S35} (h : Kd.R k35 35 W base ok v xs) (hp : 0 < xs.length) : ∃ g cap, v = .slice (some ⟨g, 0, none⟩) xs.length cap ∧ base ≤ g ∧ xs.length ≤ cap ∧ ORow W g xs := by
  obtain ⟨g, cap, rfl, hg, _, cur, hc⟩ := Kd.R_form h hp
  obtain ⟨_, hcap, hC⟩ := Kd.R_reads' h
  refine ⟨g, cap, rfl, hg, hcap, cur, hc, fun i x hx j u hu => ?_⟩
  have hi : i < xs.length := by
    rcases Nat.lt_or_ge i xs.length with h' | h'
    · exact h'
    · rw [List.getElem?_eq_none h'] at hx; simp at hx
  obtain ⟨ad, had, cs⟩ := hC.2.2 hp
  obtain rfl := Option.some.inj had
  obtain ⟨c, _, hK, hcell⟩ := cs i x hx
  obtain rfl := k35_open hK
  have := hcell j u hu
  rw [addr_add, Nat.zero_add, cell_in hc] at this
  exact this
/-- One field of one element is written. -/
theorem ORow.set {W : World} {g : Nat} {xs : List S35} (h : ORow W g xs) {i j : Nat} {x y : S35} {v : Value} (hx : xs[i]? = some x) (hj : j < 6) (hy : ∀ k, (cells6 y)[k]? = if k = j then some v else (cells6 x)[k]?) : ORow (W.setCell ⟨g, i * 6 + j, none⟩ v) g (xs.set i y) := by
  obtain ⟨cur, h1, h2⟩ := h
  refine ⟨cur.setIfInBounds (i * 6 + j) v, heap_setCell_same _ _ _ _ _ _ h1, fun i' x' hx' k u hu => ?_⟩
  have hk6 : k < 6 := by
    rcases Nat.lt_or_ge k 6 with h' | h'
    · exact h'
    · rw [List.getElem?_eq_none (by simpa [cells6] using h')] at hu; simp at hu
  have hsz : i * 6 + j < cur.size := by
    have h3 : ∃ u, (cells6 x)[j]? = some u := ⟨_, List.getElem?_eq_getElem (by simpa [cells6] using hj)⟩
    obtain ⟨u3, hu3⟩ := h3
    have h4 := h2 i x hx j u3 hu3
    rcases Nat.lt_or_ge (i * 6 + j) cur.size with h' | h'
    · exact h'
    · rw [Array.getElem?_eq_none h'] at h4; simp at h4
  rw [List.getElem?_set] at hx'
  by_cases hii : i = i'
  · subst hii
    rw [if_pos rfl] at hx'
    split at hx'
    · obtain rfl := Option.some.inj hx'
      rw [hy k] at hu
      by_cases hkj : k = j
      · subst hkj
        rw [if_pos rfl] at hu
        rw [Array.getElem?_setIfInBounds_self_of_lt hsz]
        exact hu
      · rw [if_neg hkj] at hu
        rw [Array.getElem?_setIfInBounds_ne (by omega)]
        exact h2 i x hx k u hu
    · simp at hx'
  · rw [if_neg hii] at hx'
    rw [Array.getElem?_setIfInBounds_ne (by omega)]
    exact h2 i' x' hx' k u hu
end Go.Proofs.YtohighedgdlflaaGreatDoor

/- A law's row of observations while it is changed from the front. -/
namespace Go.Proofs.YtohighedgdlflaaGreatDoor
open Go.RowKit Go.Proofs.YtohighedgdlflaaGreatDoorW.PrintWords Go.Proofs.YtohighedgdlflaaGreatDoor.PR
set_option linter.unusedVariables false
set_option linter.unusedSimpArgs false
end Go.Proofs.YtohighedgdlflaaGreatDoor
