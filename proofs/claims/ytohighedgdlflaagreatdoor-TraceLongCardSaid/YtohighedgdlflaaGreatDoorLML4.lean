/- The law TraceLong of package trace answers true, for every two numbers. -/
import Derived.Test.YtohighedgdlflaaGreatDoorLPRx2
import Derived.Test.YtohighedgdlflaaGreatDoorLML3
import Derived.Deep.QuietTactic
import Derived.BigQuiet
import Derived.Laws.EntriesVeiled
import Derived.Deep.RegionHeld3
import Derived.Test.YtohighedgdlflaaGreatDoorLPRx7
/- What the laws' own helpers give. -/
namespace Go.Proofs.YtohighedgdlflaaGreatDoor
open Go.Shelf Go.RowKit Go.Sort Go.Lib Go.Proofs.YtohighedgdlflaaGreatDoorW.PrintWords Go.Proofs.YtohighedgdlflaaGreatDoor.PR
set_option linter.unusedVariables false
set_option linter.unusedSimpArgs false
theorem same_l (l : List S35) (hl : l.length < 1000000000) : ∀ j : Nat, j ≤ l.length → cloisterlaw22_same.l0 (j + 1) l l ((l.length - j : Nat) : Int) = some true
  | 0, _ => by
    rw [cloisterlaw22_same.l0, if_neg (by omega)]
  | j + 1, hj => by
    have ih := same_l l hl j (by omega)
    obtain ⟨i, hi⟩ : ∃ i, i = l.length - (j + 1) := ⟨_, rfl⟩
    have e8 : l.length - j = i + 1 := by omega
    rw [e8] at ih
    rw [← hi, cloisterlaw22_same.l0, if_pos (by omega), if_pos (by omega), if_pos (by omega), if_neg (by simp), w64_succ i (by omega)]
    exact ih
theorem same_f (l : List S35) (hl : l.length < 1000000000) : ∃ k, cloisterlaw22_same.f k l l = some true := by
  have h := same_l l hl l.length (Nat.le_refl _)
  rw [Nat.sub_self] at h
  exact ⟨l.length + 1, by unfold cloisterlaw22_same.f; rw [if_pos rfl]; exact h⟩
/-- same (18) at one row in two places. -/
theorem same_ok (A B : Option Addr) (c d : Nat) (l : List S35) (w : World) (hr : Kd.C k35 w A l.length l) (hc : l.length ≤ c) (hs : Kd.C k35 w B l.length l) (hd : l.length ≤ d) (hl : l.length < 1000000000) :
    Calls Tryz.prog 18 #[.slice A l.length c, .slice B l.length d] w fun e w' => e = .returned (.bool true) ∧ Drawn0 w w' := by
  obtain ⟨k, hk⟩ := same_f l hl
  exact cloisterlaw22_same.calls k A c l B d l true w hr hc hs hd hk
end Go.Proofs.YtohighedgdlflaaGreatDoor

/- trace.Text writes textS. -/
namespace Go.Proofs.YtohighedgdlflaaGreatDoor
open Go.Shelf Go.RowKit Go.Sort Go.Lib Go.Proofs.YtohighedgdlflaaGreatDoorW.PrintWords Go.Proofs.YtohighedgdlflaaGreatDoor.PR
set_option linter.unusedVariables false
set_option linter.unusedSimpArgs false
/-- Also the Tick is a uint64. -/
def FitsT (o : S35) : Prop := Fits o ∧ 0 ≤ o.f0 ∧ o.f0 < 18446744073709551616
theorem builder_new (w : World) : Lib.IsBuilderF 67 5 w.heap.size w.heap.size [] (w.alloc (.cells #[.pointer none, .slice none 0 0] 67)) :=
  .inl ⟨Nat.le_refl _, .slice none 0 0, blk_new _ _, World.ownsRowF_of (own_nil _ _ _ _), by simp [Value.ownBlock]⟩
theorem builder_below {B b : Nat} {bs : List Value} {W W' : World} (h : Lib.IsBuilderF 67 5 B b bs W) (hb : Below W.heap.size W W') : Lib.IsBuilderF 67 5 B b bs W' := by
  have key : ∀ p, Lib.BuilderAtF 67 5 B b p bs W → Lib.BuilderAtF 67 5 B b p bs W' := by
    rintro p ⟨h1, v, hv, ⟨hl, ho⟩, hne⟩
    refine ⟨h1, v, by rw [hb.block _ (heap_lt' hv)]; exact hv, ⟨hl, ?_⟩, hne⟩
    rcases ho with ho | ⟨g, cap, cur, fz, e, hg, hc, r⟩
    · exact .inl ho
    · exact .inr ⟨g, cap, cur, fz, e, hg, by rw [hb.block _ (heap_lt' hc)]; exact hc, r⟩
  exact h.elim (fun x => .inl (key _ x)) (fun x => .inr (key _ x))
/-- The row of the table that belongs to a kind. -/
theorem frm_row {w : World} {n : Nat} (h : Frm w n) (q : Nat) (hq1 : 1 ≤ q) (hq : q ≤ 7) : ∃ (mw : Nat) (fvw : Array Value) (nw : Int) (mr : Nat) (fvr : Array Value), w.cell? ⟨n + 2, q * 4, none⟩ = some (.string (kindS.getD q ByteArray.empty)) ∧ w.cell? ⟨n + 2, q * 4 + 1, none⟩ = some (.func (.func mw) #[] fvw) ∧ w.cell? ⟨n + 2, q * 4 + 2, none⟩ = some (.int .i64 nw) ∧ w.cell? ⟨n + 2, q * 4 + 3, none⟩ = some (.func (.func mr) #[] fvr) ∧ (formCells (n + 1))[q * 4 + 1]? = some (.func (.func mw) #[] fvw) := by
  rcases (show q = 1 ∨ q = 2 ∨ q = 3 ∨ q = 4 ∨ q = 5 ∨ q = 6 ∨ q = 7 by omega) with h1 | h1 | h1 | h1 | h1 | h1 | h1 <;> subst h1 <;> exact ⟨_, _, _, _, _, by simp only [World.cell?, h.tab]; rfl, by simp only [World.cell?, h.tab]; rfl, by simp only [World.cell?, h.tab]; rfl, by simp only [World.cell?, h.tab]; rfl, rfl⟩
theorem R_fresh {W : World} (base : Nat) (xs : List ByteArray) (hb : base ≤ W.heap.size) {n g : Nat} (hg : g = W.heap.size) (hm : xs.length ≤ 9223372036854775807) {cs : Array Value} (hcs : cs = (xs.map Value.string).toArray) {m : Nat} (hm1 : n = xs.length := by rfl) (hm2 : m = xs.length := by rfl) :
    Kd.string.R 9 (W.alloc (.cells cs 9)) base (fun _ => True) (.slice (some ⟨g, 0, none⟩) n m) xs := by
  subst hg hcs hm1 hm2
  refine Kd.R_of_own (enc := Value.string) (h1 := fun _ => rfl) ?_ (fun _ _ => trivial)
  have h2 := World.ownsRow_lit (base := base) (e := 9) (size := 1) W (xs.map Value.string).toArray xs.length hb (by simpa [maxLen] using hm) (by simp)
  simpa [encs] using h2
/-- The words behind the place, in numbers. -/
def writeN (q a b : Nat) : List ByteArray :=
  if q = 1 ∨ q = 2 then [hexS a, hexS b] else if q = 3 then [faultS.getD a ByteArray.empty, hexS b] else if q = 4 then [decS a] else if q = 5 then [hexS b ++ hexS a] else if q = 7 then [hexS a] else []
theorem writeL_eq {o : S35} {q a b : Nat} (h2 : o.f2 = q) (h4 : o.f4 = a) (h5 : o.f5 = b) : writeL o = writeN q a b := by
  unfold writeL writeN
  rw [h2, h4, h5]
  simp only [Int.toNat_natCast]
  repeat' split
  all_goals first | rfl | omega
theorem fn_inv {m m' : Nat} {f f' : Array Value} (h : some (Value.func (.func m) #[] f) = some (Value.func (.func m') #[] f')) : m' = m ∧ f' = f := by
  injection h with h
  injection h with h1 h2 h3
  injection h1 with h1
  exact ⟨h1.symm, h3.symm⟩
theorem enter_any {n q mw : Nat} {fvw : Array Value} (hq1 : 1 ≤ q) (hq7 : q ≤ 7) (h : (formCells (n + 1))[q * 4 + 1]? = some (.func (.func mw) #[] fvw)) : ∀ args w, (callFunc mw args).run Tryz.prog w = .ok (.enter mw args) w := by
  rcases (show q = 1 ∨ q = 2 ∨ q = 3 ∨ q = 4 ∨ q = 5 ∨ q = 6 ∨ q = 7 by omega) with h1 | h1 | h1 | h1 | h1 | h1 | h1 <;> subst h1
  · obtain ⟨rfl, rfl⟩ := fn_inv (m := 70) (f := #[]) h; exact enters_of Tryz.func70 (by kernel_rfl) rfl
  · obtain ⟨rfl, rfl⟩ := fn_inv (m := 70) (f := #[]) h; exact enters_of Tryz.func70 (by kernel_rfl) rfl
  · obtain ⟨rfl, rfl⟩ := fn_inv (m := 72) (f := #[.pointer (some ⟨n + 1, 0, none⟩)]) h; exact enters_of Tryz.func72 (by kernel_rfl) rfl
  · obtain ⟨rfl, rfl⟩ := fn_inv (m := 77) (f := #[]) h; exact enters_of Tryz.func77 (by kernel_rfl) rfl
  · obtain ⟨rfl, rfl⟩ := fn_inv (m := 80) (f := #[]) h; exact enters_of Tryz.func80 (by kernel_rfl) rfl
  · obtain ⟨rfl, rfl⟩ := fn_inv (m := 82) (f := #[]) h; exact enters_of Tryz.func82 (by kernel_rfl) rfl
  · obtain ⟨rfl, rfl⟩ := fn_inv (m := 84) (f := #[]) h; exact enters_of Tryz.func84 (by kernel_rfl) rfl
theorem write_any {W : World} {n q mw : Nat} {fvw : Array Value} (hF : Frm W n) (t cl p a b : Nat) (hq1 : 1 ≤ q) (hq7 : q ≤ 7) (ha : a < 4294967296) (hb : b < 4294967296) (h3 : q = 3 → a < 7) (h4 : q = 4 → a < 100) (h : (formCells (n + 1))[q * 4 + 1]? = some (.func (.func mw) #[] fvw)) :
    Calls Tryz.prog mw (#[.agg #[.int .u64 t, .int .i64 cl, .int .i64 q, .int .u32 p, .int .u32 a, .int .u32 b]] ++ fvw) W (WrR W (writeN q a b)) := by
  rcases (show q = 1 ∨ q = 2 ∨ q = 3 ∨ q = 4 ∨ q = 5 ∨ q = 6 ∨ q = 7 by omega) with h1 | h1 | h1 | h1 | h1 | h1 | h1 <;> subst h1
  · obtain ⟨rfl, rfl⟩ := fn_inv (m := 70) (f := #[]) h
    rw [show (#[Value.agg #[.int .u64 t, .int .i64 cl, .int .i64 ((1 : Nat) : Int), .int .u32 p, .int .u32 a, .int .u32 b]] ++ (#[] : Array Value)) = #[Value.agg #[.int .u64 t, .int .i64 cl, .int .i64 ((1 : Nat) : Int), .int .u32 p, .int .u32 a, .int .u32 b]] from rfl, show writeN 1 a b = [hexS a, hexS b] from rfl]
    exact w70_ok _ _ _ _ a b ha hb W
  · obtain ⟨rfl, rfl⟩ := fn_inv (m := 70) (f := #[]) h
    rw [show (#[Value.agg #[.int .u64 t, .int .i64 cl, .int .i64 ((2 : Nat) : Int), .int .u32 p, .int .u32 a, .int .u32 b]] ++ (#[] : Array Value)) = #[Value.agg #[.int .u64 t, .int .i64 cl, .int .i64 ((2 : Nat) : Int), .int .u32 p, .int .u32 a, .int .u32 b]] from rfl, show writeN 2 a b = [hexS a, hexS b] from rfl]
    exact w70_ok _ _ _ _ a b ha hb W
  · obtain ⟨rfl, rfl⟩ := fn_inv (m := 72) (f := #[.pointer (some ⟨n + 1, 0, none⟩)]) h
    rw [show (#[Value.agg #[.int .u64 t, .int .i64 cl, .int .i64 ((3 : Nat) : Int), .int .u32 p, .int .u32 a, .int .u32 b]] ++ (#[.pointer (some ⟨n + 1, 0, none⟩)] : Array Value)) = #[Value.agg #[.int .u64 t, .int .i64 cl, .int .i64 ((3 : Nat) : Int), .int .u32 p, .int .u32 a, .int .u32 b], .pointer (some ⟨n + 1, 0, none⟩)] from rfl, show writeN 3 a b = [faultS.getD a ByteArray.empty, hexS b] from rfl]
    exact w72_ok _ _ _ _ a b n (h3 rfl) hb W hF
  · obtain ⟨rfl, rfl⟩ := fn_inv (m := 77) (f := #[]) h
    rw [show (#[Value.agg #[.int .u64 t, .int .i64 cl, .int .i64 ((4 : Nat) : Int), .int .u32 p, .int .u32 a, .int .u32 b]] ++ (#[] : Array Value)) = #[Value.agg #[.int .u64 t, .int .i64 cl, .int .i64 ((4 : Nat) : Int), .int .u32 p, .int .u32 a, .int .u32 b]] from rfl, show writeN 4 a b = [⟨(Lib.decDigits a).toArray⟩] from rfl]
    exact w77_ok _ _ _ _ a b (h4 rfl) W
  · obtain ⟨rfl, rfl⟩ := fn_inv (m := 80) (f := #[]) h
    rw [show (#[Value.agg #[.int .u64 t, .int .i64 cl, .int .i64 ((5 : Nat) : Int), .int .u32 p, .int .u32 a, .int .u32 b]] ++ (#[] : Array Value)) = #[Value.agg #[.int .u64 t, .int .i64 cl, .int .i64 ((5 : Nat) : Int), .int .u32 p, .int .u32 a, .int .u32 b]] from rfl, show writeN 5 a b = [hexS b ++ hexS a] from rfl]
    exact w80_ok _ _ _ _ a b ha hb W
  · obtain ⟨rfl, rfl⟩ := fn_inv (m := 82) (f := #[]) h
    rw [show (#[Value.agg #[.int .u64 t, .int .i64 cl, .int .i64 ((6 : Nat) : Int), .int .u32 p, .int .u32 a, .int .u32 b]] ++ (#[] : Array Value)) = #[Value.agg #[.int .u64 t, .int .i64 cl, .int .i64 ((6 : Nat) : Int), .int .u32 p, .int .u32 a, .int .u32 b]] from rfl, show writeN 6 a b = [] from rfl]
    exact w82_ok _ _ _ _ a b W
  · obtain ⟨rfl, rfl⟩ := fn_inv (m := 84) (f := #[]) h
    rw [show (#[Value.agg #[.int .u64 t, .int .i64 cl, .int .i64 ((7 : Nat) : Int), .int .u32 p, .int .u32 a, .int .u32 b]] ++ (#[] : Array Value)) = #[Value.agg #[.int .u64 t, .int .i64 cl, .int .i64 ((7 : Nat) : Int), .int .u32 p, .int .u32 a, .int .u32 b]] from rfl, show writeN 7 a b = [hexS a] from rfl]
    exact w84_ok _ _ _ _ a b ha W
theorem R_cells {w : World} {base : Nat} {ok : Nat → Prop} {v : Value} {xs : List ByteArray} (h : Kd.string.R 9 w base ok v xs) (hn : 0 < xs.length) : ∃ g cap, v = .slice (some ⟨g, 0, none⟩) xs.length cap ∧ xs.length ≤ cap ∧ g < w.heap.size ∧ ∀ (j : Nat) x, xs[j]? = some x → w.cell? ⟨g, 0 + j, none⟩ = some (.string x) := by
  obtain ⟨_, ⟨_, h0⟩ | ⟨g, cap, cur, hv, hg, hb, hcap, hmx, hsz, htake⟩⟩ := Kd.own_of_R (enc := Value.string) (h1 := fun _ => rfl) h
  · omega
  · refine ⟨g, cap, hv, hcap, heap_lt' hb, fun j x hx => ?_⟩
    have hj : j < xs.length := by
      rcases Nat.lt_or_ge j xs.length with h' | h'
      · exact h'
      · rw [List.getElem?_eq_none h'] at hx; simp at hx
    have h2 : (cur.toList.take (xs.length * 1))[j]? = some (.string x) := by rw [htake]; simp [encs, hx]
    rw [List.getElem?_take_of_lt (by omega)] at h2
    rw [Nat.zero_add]
    simp only [World.cell?, hb]
    simpa using h2
end Go.Proofs.YtohighedgdlflaaGreatDoor

/- The words of an observation that may be, and such numbers. -/
namespace Go.Proofs.YtohighedgdlflaaGreatDoor
open Go.Shelf Go.RowKit Go.Sort Go.Lib Go.Proofs.YtohighedgdlflaaGreatDoorW.PrintWords Go.Proofs.YtohighedgdlflaaGreatDoor.PR
set_option linter.unusedVariables false
set_option linter.unusedSimpArgs false
def wordsN (t cl q p a b : Nat) : List ByteArray := [decS t, decS cl, kindS.getD q ByteArray.empty, hexS p] ++ writeN q a b
/-- What may be, in numbers. -/
structure GoodN (t cl q p a b : Nat) : Prop where
  t63 : t ≤ 9223372036854775807
  cl1 : 1 ≤ cl
  cl8 : cl ≤ 8
  q1 : 1 ≤ q
  q7 : q ≤ 7
  p32 : p < 4294967296
  a32 : a < 4294967296
  b32 : b < 4294967296
  k3 : q = 3 → 1 ≤ a ∧ a ≤ 6
  k4 : q = 4 → a ≤ 31 ∧ b = 0
  k6 : q = 6 → a = 0 ∧ b = 0
  k7 : q = 7 → b = 0
  k5 : q = 5 → b ≤ 2147483647
def nWords (q : Nat) : Nat := if q = 1 ∨ q = 2 ∨ q = 3 then 2 else if q = 6 then 0 else 1
def obN (t cl q p a b : Nat) : S35 := ⟨t, cl, q, p, a, b⟩
theorem good_of_may {o : S35} (h : mayB o = true) (hF : FitsT o) : ∃ t cl q p a b : Nat, o = obN t cl q p a b ∧ GoodN t cl q p a b := by
  obtain ⟨o0, o1, o2, o3, o4, o5⟩ := o
  obtain ⟨⟨f1, f2, f3, f4, f5, f6⟩, f7, f8⟩ := hF
  unfold mayB kindB at h
  simp only [Bool.and_eq_true, decide_eq_true_eq] at h
  obtain ⟨⟨⟨m1, m2⟩, m3⟩, m4⟩ := h
  simp only at f1 f2 f3 f4 f5 f6 f7 f8
  have hq : 1 ≤ o2 ∧ o2 ≤ 7 ∧ (o2 = 3 → 1 ≤ o4 ∧ o4 ≤ 6) ∧ (o2 = 4 → o4 < 32 ∧ o5 = 0) ∧ (o2 = 5 → o5 ≤ 2147483647) ∧ (o2 = 6 → o4 = 0 ∧ o5 = 0) ∧ (o2 = 7 → o5 = 0) := by
    split at m4
    · omega
    · split at m4
      · omega
      · split at m4
        · simp at m4; omega
        · split at m4
          · simp at m4; omega
          · split at m4
            · simp at m4; omega
            · split at m4
              · simp at m4; omega
              · split at m4
                · simp at m4; omega
                · simp at m4
  obtain ⟨q1, q2, q3, q4, q5, q6, q7⟩ := hq
  refine ⟨o0.toNat, o1.toNat, o2.toNat, o3.toNat, o4.toNat, o5.toNat, ?_, ⟨by omega, by omega, by omega, by omega, by omega, by omega, by omega, by omega, by omega, by omega, by omega, by omega, by omega⟩⟩
  unfold obN
  congr <;> omega
theorem GoodN.may {t cl q p a b : Nat} (h : GoodN t cl q p a b) : mayB (obN t cl q p a b) = true := by
  obtain ⟨h1, h2, h3, h4, h5, h6, h7, h8, k3, k4, k6, k7, k5⟩ := h
  unfold mayB kindB obN
  simp only [Bool.and_eq_true, decide_eq_true_eq]
  refine ⟨⟨⟨by omega, by omega⟩, by omega⟩, ?_⟩
  rcases (show q = 1 ∨ q = 2 ∨ q = 3 ∨ q = 4 ∨ q = 5 ∨ q = 6 ∨ q = 7 by omega) with h | h | h | h | h | h | h <;> subst h <;> simp at * <;> omega
theorem wordsL_obN (t cl q p a b : Nat) : wordsL (obN t cl q p a b) = wordsN t cl q p a b := by
  unfold wordsL wordsN headL obN
  rw [writeL_eq (q := q) (a := a) (b := b) rfl rfl rfl]
  simp
def lineZ (t cl q p a b : Nat) : ByteArray := ⟨(Lib.join ((wordsN t cl q p a b).map (·.data.toList)) [32]).toArray⟩
theorem lineB_obN (t cl q p a b : Nat) : lineB (obN t cl q p a b) = (lineZ t cl q p a b).data.toList ++ [10] := by
  unfold lineB lineZ
  rw [wordsL_obN]
theorem writeN_len (q a b : Nat) (hq1 : 1 ≤ q) (hq : q ≤ 7) : (writeN q a b).length = nWords q := by
  rcases (show q = 1 ∨ q = 2 ∨ q = 3 ∨ q = 4 ∨ q = 5 ∨ q = 6 ∨ q = 7 by omega) with h1 | h1 | h1 | h1 | h1 | h1 | h1 <;> subst h1 <;> simp [writeN, nWords]
theorem wordsN_len (t cl q p a b : Nat) (hq1 : 1 ≤ q) (hq : q ≤ 7) : (wordsN t cl q p a b).length = 4 + nWords q := by
  unfold wordsN
  rw [List.length_append, writeN_len q a b hq1 hq]
  rfl
end Go.Proofs.YtohighedgdlflaaGreatDoor

/- The law's own makers: observations that may be, at most 200. -/
namespace Go.Proofs.YtohighedgdlflaaGreatDoor
open Go.Shelf Go.RowKit Go.Sort Go.Lib Go.Proofs.YtohighedgdlflaaGreatDoorW.PrintWords Go.Proofs.YtohighedgdlflaaGreatDoor.PR
set_option linter.unusedVariables false
set_option linter.unusedSimpArgs false
def I64 (x : Int) : Prop := -9223372036854775808 ≤ x ∧ x < 9223372036854775808
theorem pick_some (c : Int) (n : Nat) (hc : I64 c) (hn : 0 < n) : ∃ r : Nat, cloisterlaw22_pick.f c n = some (r : Int) ∧ r < n := by
  unfold cloisterlaw22_pick.f
  obtain ⟨h1, h2⟩ := hc
  have hn0 : ¬ (n : Int) = 0 := by omega
  have fin : ∀ a : Nat, ∃ r : Nat, some (Int.tmod (a : Int) (n : Int)) = some (r : Int) ∧ r < n := fun a => by
    refine ⟨a % n, ?_, Nat.mod_lt _ hn⟩
    rw [Int.tmod_eq_emod_of_nonneg (by omega)]; rfl
  by_cases h : c < 0
  · rw [if_pos h, if_neg hn0]
    have e : wrap64 (-(wrap64 (c + 1))) = ((-(c + 1)).toNat : Int) := by unfold wrap64; omega
    rw [e]; exact fin _
  · rw [if_neg h, if_neg hn0]
    have e : c = (c.toNat : Int) := by omega
    rw [e]; exact fin _
end Go.Proofs.YtohighedgdlflaaGreatDoor

/- NewWriter, Raw and Done of package wire, where nothing goes wrong. -/
namespace Go.Proofs.YtohighedgdlflaaGreatDoor
open Go.RowKit Go.Proofs.YtohighedgdlflaaGreatDoorW.PrintWords Go.Proofs.YtohighedgdlflaaGreatDoor.PR
set_option linter.unusedVariables false
set_option linter.unusedSimpArgs false
set_option maxHeartbeats 400000 in
theorem newWriter_ok (lim : Int) (base : Nat) (w0 w : World) (h0 : 0 ≤ lim) (hl : lim ≤ 67108864) (hB : Below base w0 w) (hb : base ≤ w.heap.size) :
    Calls Tryz.prog 55 #[.int .i64 lim] w fun e w' => ∃ g, e = .returned (.tuple #[.pointer (some ⟨g, 0, none⟩), .int .i64 0]) ∧ Wr w' base g lim (.slice none 0 0) [] ∧ w.heap.size ≤ g ∧ Below base w0 w' ∧ Below w.heap.size w w' := by
  have hmm := @run_makeMap Tryz.prog
  have c1 : ¬ lim < 0 := by omega
  have c2 : decide (67108864 < lim) = false := by simpa using hl
  go_enter Tryz.func55, Tryz.ntmps55
  go_wp2
  refine bodyPost_ret (results_tmp2 rfl _ _ _) rfl ?_
  refine ⟨w.heap.size + 1, rfl, ⟨by omega, ⟨w.heap.size, ?_, ?_, hb⟩, own_nil _ _ _ _⟩, by omega, ?_, ?_⟩
  · have := heap_alloc_new (w.alloc (.map #[] 0)) (.cells #[.int .i64 lim, .slice none 0 0, .map (some w.heap.size), .int .i64 0] 136)
    simpa using this
  · rw [Below.heap_alloc _ _ _ (by simp)]; exact heap_alloc_new w _
  · exact (hB.alloc hb _).alloc (by simp; omega) _
  · exact ((Below.refl _ _).alloc (Nat.le_refl _) _).alloc (by simp) _
set_option maxHeartbeats 400000 in
theorem raw_ok (base g : Nat) (lim : Int) (v : Value) (xs ys : List Int) (A : Option Addr) (c : Nat) (w0 w : World) (hW : Wr w base g lim v xs) (hl : lim ≤ 67108864) (hn : (xs.length : Int) + ys.length ≤ lim) (hR : Kd.C (Kd.int .u8) w A ys.length ys) (hc : ys.length ≤ c) (hB : Below base w0 w) :
    Calls Tryz.prog 59 #[.pointer (some ⟨g, 0, none⟩), .slice A ys.length c] w fun e w' => e = .returned (.tuple #[]) ∧ ∃ v', Wr w' base g lim v' (xs ++ ys) ∧ Wk w w' g v v' ∧ Below base w0 w' := by
  have hW0 := Lib.hid hW
  obtain ⟨hbg, ⟨mb, hg, hm, hbm⟩, ho⟩ := hW
  obtain ⟨A0, c0, rfl⟩ := own_slice ho
  have h0 : w.cell? ⟨g, 0, none⟩ = some (.int .i64 lim) := by simp [World.cell?, hg]
  have h1 : w.cell? ⟨g, 1, none⟩ = some (.slice A0 xs.length c0) := by simp [World.cell?, hg]
  have h3 : w.cell? ⟨g, 3, none⟩ = some (.int .i64 0) := by simp [World.cell?, hg]
  have hbs : base ≤ w.heap.size := by have := heap_lt hg; omega
  have HR := Lib.hid hR
  clear hg hm ho
  go_enter Tryz.func59, Tryz.ntmps59
  go_wp2_with fail
  refine (room_ok g lim ys.length A0 xs.length c0 _ h0 h1 h3 hl (by omega) (by omega) (by omega)).mono ?_
  rintro e w' ⟨rfl, m, rfl⟩
  go_wp2_with (at_builtin; refine print_append_row (w0 := w0) base rfl (.tmp 12) (.tmp 13) 37 5 .u8 1 rfl Tryz.underlying37 info5 (by decide) _ xs ys A ys.length c rfl rfl (pw_own_below hW0.out.own (pw_below_drewN (Below.refl _ _) m)) (C_reads (Kd.C_below HR.out (pw_below_drewN (Below.refl _ _) m))) (pw_below_drewN hB m) hbs (by omega) ?_; intro v1 w1 hown hb1 hg1 hat; obtain ⟨hc1, hf1⟩ := (hW0.out.below (pw_below_drewN (Below.refl _ _) m)).at1 hg1; have Hown := Lib.hid hown; have Hb1 := Lib.hid hb1; have Hg1 := Lib.hid hg1; have Hat := Lib.hid hat; clear hown hb1 hg1 hat; obtain ⟨A1, cap1, hv1⟩ : ∃ A1 cap1, v1 = .slice A1 (xs ++ ys).length cap1 := own_slice Hown.out; rw [List.length_append] at hv1; subst hv1)
  go_end0
  refine ⟨rfl, .slice A1 (xs.length + ys.length) cap1, (hW0.out.below (pw_below_drewN (Below.refl _ _) m)).push Hg1.out Hown.out, (Wk.below (pw_below_drewN (Below.refl _ _) m)).trans (Wk.push (v := .slice A0 xs.length c0) Hg1.out Hat.out _), Hb1.out.setCell (p := ⟨g, 1, none⟩) hbg _⟩
set_option maxRecDepth 100000 in
theorem done_ok (base g : Nat) (lim : Int) (v : Value) (xs : List Int) (w0 w : World) (hW : Wr w base g lim v xs) (hl : lim ≤ 67108864) (hxl : (xs.length : Int) ≤ lim) (hB : Below base w0 w) (hb : base ≤ w.heap.size) :
    Calls Tryz.prog 58 #[.pointer (some ⟨g, 0, none⟩)] w fun e w' => ∃ v', e = .returned (.tuple #[v', .int .i64 0]) ∧ Kd.R (Kd.int .u8) 5 w' w.heap.size (fun _ => True) v' xs ∧ Below base w0 w' ∧ Below w.heap.size w w' := by
  have hW0 := Lib.hid hW
  have hle : Hid (xs.length ≤ 67108864) := by show xs.length ≤ 67108864; omega
  obtain ⟨hbg, ⟨mb, hg, hm, hbm⟩, ho⟩ := hW
  obtain ⟨A0, c0, rfl⟩ := own_slice ho
  have h1 : w.cell? ⟨g, 1, none⟩ = some (.slice A0 xs.length c0) := by simp [World.cell?, hg]
  have h2 : w.cell? ⟨g, 2, none⟩ = some (.map (some mb)) := by simp [World.cell?, hg]
  have h3 : w.cell? ⟨g, 3, none⟩ = some (.int .i64 0) := by simp [World.cell?, hg]
  have hlen : (Builtin.len_ #[134] 3 #[.map (some mb)]).run Tryz.prog w = .ok (.int .i64 0) w := run_len_map w 134 3 mb #[] 0 (by kernel_rfl) hm
  clear hg ho
  go_enter Tryz.func58, Tryz.ntmps58
  go_wp2_with (at_builtin; refine print_append_row (w0 := w) w.heap.size rfl (.const (.slice none 0 0)) (.tmp 24) 37 5 .u8 1 rfl Tryz.underlying37 info5 (by decide) (.slice none 0 0) [] xs A0 xs.length c0 rfl rfl (own_nil _ _ _ _) ?hr (Below.refl _ _) (Nat.le_refl _) ?hl ?_; (case hr => (obtain ⟨A', c', e, hr⟩ := own_reads hW0.out.own; cases e; exact hr)); (case hl => (have := hle.out; simp; omega)); intro v1 w1 hown hb1 hg1 hat; have Hown := Lib.hid hown; have Hb1 := Lib.hid hb1; clear hown hb1 hg1 hat)
  refine bodyPost_ret (results_tmp2 rfl _ _ _) rfl ?_
  refine ⟨v1, rfl, ?_, hB.trans (Hb1.out.mono hb), Hb1.out⟩
  have := Hown.out
  simp only [List.nil_append] at this
  exact Kd.R_of_own this (fun _ _ => trivial)
end Go.Proofs.YtohighedgdlflaaGreatDoor
