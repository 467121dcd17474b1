/- The law TraceBack answers true for every rows of raw numbers; proved from the walks of package trace and plain laws on its bytes and lines. -/
import Derived.Test.YtohighedgdlflaaGreatDoorPRx2
import Derived.Test.YtohighedgdlflaaGreatDoorMB1
import Derived.Deep.QuietTactic
import Derived.BigQuiet
import Derived.Laws.EntriesVeiled
import Derived.Deep.RegionHeld3
import Derived.Test.YtohighedgdlflaaGreatDoorPRx7
import Derived.Lib.SplitLaws
import Derived.Lib.Join
import Derived.Lib.Strings
import Derived.Lib.ConvBytes
import Derived.Lib.AtoiErrMem
import Derived.Lib.ParseIntBMem
import Derived.Laws.Strings3
import Derived.Laws.Closers25
import Derived.Laws.Closers25b
import Derived.BigCall
import Derived.BigGuard
import Derived.Lib.OthersKept
import Derived.Lib.QuietBelow
import Derived.Lib.OwnBridge
/- What the laws' own helpers give. -/
namespace Go.Proofs.YtohighedgdlflaaGreatDoor
open Go.Shelf Go.RowKit Go.Sort Go.Lib Go.Proofs.YtohighedgdlflaaGreatDoorW.PrintWords Go.Proofs.YtohighedgdlflaaGreatDoor.PR
set_option linter.unusedVariables false
set_option linter.unusedSimpArgs false
def mark0 : S35 := ⟨77, 0, -9, 0, 0, 0⟩
theorem twin_f (l : List S35) (h : l.length < 3518437208883) : cloisterlaw22_twin.f l = some l := by
  unfold cloisterlaw22_twin.f
  rw [if_pos (by simpa using h)]
  rfl
def lentL (l : List S35) : List S35 := l ++ List.replicate 8 mark0
def lentPre (l : List S35) (i : Nat) : List S35 := (lentL l).take i ++ List.replicate ((lentL l).length - i) z35
theorem lentPre_set (l : List S35) (i : Nat) (h : i < (lentL l).length) (x : S35) (hx : (lentL l)[i]? = some x) (y : S35) : ((lentPre l i).set i y).set i x = lentPre l (i + 1) := by
  rw [List.set_set]
  apply List.ext_getElem?
  intro j
  have hl : ((lentL l).take i).length = i := by rw [List.length_take]; omega
  unfold lentPre
  rw [List.getElem?_set]
  by_cases hj : i = j
  · subst hj
    rw [if_pos rfl, if_pos (by simp; omega), List.getElem?_append_left (by rw [List.length_take]; omega), List.getElem?_take_of_lt (by omega), hx]
  · rw [if_neg hj]
    rcases Nat.lt_or_ge j i with hlt | hge
    · rw [List.getElem?_append_left (by omega), List.getElem?_append_left (by rw [List.length_take]; omega), List.getElem?_take_of_lt hlt, List.getElem?_take_of_lt (by omega)]
    · rw [List.getElem?_append_right (by omega), List.getElem?_append_right (by rw [List.length_take]; omega), hl, List.length_take, List.getElem?_replicate, List.getElem?_replicate]
      have e : min (i + 1) (lentL l).length = i + 1 := by omega
      rw [e]
      by_cases h2 : j < (lentL l).length
      · rw [if_pos (by omega), if_pos (by omega)]
      · rw [if_neg (by omega), if_neg (by omega)]
theorem lentPre_set1 (l : List S35) (i : Nat) (h : i < (lentL l).length) (x : S35) (hx : (lentL l)[i]? = some x) : (lentPre l i).set i x = lentPre l (i + 1) := by
  have := lentPre_set l i h x hx x
  rwa [List.set_set] at this
theorem lentPre_len (l : List S35) (i : Nat) (h : i ≤ (lentL l).length) : (lentPre l i).length = (lentL l).length := by
  unfold lentPre; rw [List.length_append, List.length_take, List.length_replicate]; omega
theorem lentL_len (l : List S35) : (lentL l).length = l.length + 8 := by simp [lentL]
theorem lent_l (l : List S35) (hl : l.length < 1000000000) : ∀ j : Nat, j ≤ (lentL l).length → cloisterlaw22_lent.l0 (j + 1) l (lentPre l ((lentL l).length - j)) (((lentL l).length - j : Nat) : Int) = some (lentL l)
  | 0, _ => by
    have hn := lentPre_len l (lentL l).length (Nat.le_refl _)
    rw [Nat.sub_zero, cloisterlaw22_lent.l0, if_neg (by rw [hn]; omega)]
    unfold lentPre
    rw [List.take_length, Nat.sub_self]; simp
  | j + 1, hj => by
    have ih := lent_l l hl j (by omega)
    obtain ⟨i, hi⟩ : ∃ i, i = (lentL l).length - (j + 1) := ⟨_, rfl⟩
    have e8 : (lentL l).length - j = i + 1 := by omega
    rw [e8] at ih
    rw [← hi]
    have hn := lentPre_len l i (by omega)
    have hm : cloisterlaw22_mark.f 0 = some (77, 0, -9, 0, 0, 0) := by unfold cloisterlaw22_mark.f wrap64; rfl
    have hL := lentL_len l
    rw [cloisterlaw22_lent.l0, if_pos (by rw [hn]; omega), hm, Option.bind_some, if_pos (by omega), Option.bind_some, w64_succ i (by omega)]
    simp only [Int.toNat_natCast]
    by_cases h : i < l.length
    · rw [if_pos (by omega)]
      have hx : (lentL l)[i]? = some (rd_T35 l i) := by
        unfold lentL rd_T35
        rw [List.getElem?_append_left h, Int.toNat_natCast, List.getD_eq_getElem?_getD, List.getElem?_eq_getElem h]; rfl
      rw [lentPre_set l i (by omega) _ hx]
      exact ih
    · rw [if_neg (by omega)]
      have hx : (lentL l)[i]? = some mark0 := by
        unfold lentL
        rw [List.getElem?_append_right (by omega), List.getElem?_replicate, if_pos (by omega)]
      have := lentPre_set1 l i (by omega) _ hx
      unfold mark0 at this
      rw [this]
      exact ih
theorem lent_f (l : List S35) (hl : l.length < 1000000000) : ∃ k, cloisterlaw22_lent.f k l = some (lentL l) := by
  have h := lent_l l hl (lentL l).length (Nat.le_refl _)
  have hL := lentL_len l
  have e : wrap64 ((l.length : Int) + 8) = (((lentL l).length : Nat) : Int) := by
    rw [hL]
    have := w64_small (l.length + 8) (by omega)
    rw [← this]; congr 1
  refine ⟨(lentL l).length + 1, ?_⟩
  unfold cloisterlaw22_lent.f
  rw [e, if_pos (by omega), if_pos (by omega), Int.toNat_natCast]
  rw [Nat.sub_self] at h
  have e2 : lentPre l 0 = List.replicate (lentL l).length z35 := by simp [lentPre]
  rw [e2] at h
  exact h
theorem same_l (l : List S35) (hl : l.length < 1000000000) : ∀ j : Nat, j ≤ l.length → cloisterlaw22_same.l0 (j + 1) l l ((l.length - j : Nat) : Int) = some true
  | 0, _ => by
    rw [cloisterlaw22_same.l0, if_neg (by omega)]
  | j + 1, hj => by
    have ih := same_l l hl j (by omega)
    obtain ⟨i, hi⟩ : ∃ i, i = l.length - (j + 1) := ⟨_, rfl⟩
    have e8 : l.length - j = i + 1 := by omega
    rw [e8] at ih
    rw [← hi, cloisterlaw22_same.l0, if_pos (by omega), if_pos (by omega), if_pos (by omega), if_neg (by simp), w64_succ i (by omega)]
    exact ih
theorem same_f (l : List S35) (hl : l.length < 1000000000) : ∃ k, cloisterlaw22_same.f k l l = some true := by
  have h := same_l l hl l.length (Nat.le_refl _)
  rw [Nat.sub_self] at h
  exact ⟨l.length + 1, by unfold cloisterlaw22_same.f; rw [if_pos rfl]; exact h⟩
/-- twin (10). -/
theorem twin_ok (A : Option Addr) (c : Nat) (l : List S35) (w : World) (hr : Kd.C k35 w A l.length l) (hc : l.length ≤ c) (hl : l.length < 1000000000) :
    Calls Tryz.prog 10 #[.slice A l.length c] w fun e w' => ∃ v, e = .returned v ∧ Kd.R k35 35 w' w.heap.size (fun _ => True) v l ∧ Below w.heap.size w w' :=
  cloisterlaw22_twin.calls A c l l w hr hc (twin_f l (by omega))
/-- lent (12). -/
theorem lent_ok (A : Option Addr) (c : Nat) (l : List S35) (w : World) (hr : Kd.C k35 w A l.length l) (hc : l.length ≤ c) (hl : l.length < 1000000000) :
    Calls Tryz.prog 12 #[.slice A l.length c] w fun e w' => ∃ v, e = .returned v ∧ Kd.R k35 35 w' w.heap.size (fun _ => True) v (lentL l) ∧ Below w.heap.size w w' := by
  obtain ⟨k, hk⟩ := lent_f l hl
  exact cloisterlaw22_lent.calls k A c l _ w hr hc hk
/-- same (18) at one row in two places. -/
theorem same_ok (A B : Option Addr) (c d : Nat) (l : List S35) (w : World) (hr : Kd.C k35 w A l.length l) (hc : l.length ≤ c) (hs : Kd.C k35 w B l.length l) (hd : l.length ≤ d) (hl : l.length < 1000000000) :
    Calls Tryz.prog 18 #[.slice A l.length c, .slice B l.length d] w fun e w' => e = .returned (.bool true) ∧ Drawn0 w w' := by
  obtain ⟨k, hk⟩ := same_f l hl
  exact cloisterlaw22_same.calls k A c l B d l true w hr hc hs hd hk
end Go.Proofs.YtohighedgdlflaaGreatDoor

/- trace.Text writes textS. -/
namespace Go.Proofs.YtohighedgdlflaaGreatDoor
open Go.Shelf Go.RowKit Go.Sort Go.Lib Go.Proofs.YtohighedgdlflaaGreatDoorW.PrintWords Go.Proofs.YtohighedgdlflaaGreatDoor.PR
set_option linter.unusedVariables false
set_option linter.unusedSimpArgs false
/-- Also the Tick is a uint64. -/
def FitsT (o : S35) : Prop := Fits o ∧ 0 ≤ o.f0 ∧ o.f0 < 18446744073709551616
theorem builder_new (w : World) : Lib.IsBuilderF 67 5 w.heap.size w.heap.size [] (w.alloc (.cells #[.pointer none, .slice none 0 0] 67)) :=
  .inl ⟨Nat.le_refl _, .slice none 0 0, blk_new _ _, World.ownsRowF_of (own_nil _ _ _ _), by simp [Value.ownBlock]⟩
theorem builder_below {B b : Nat} {bs : List Value} {W W' : World} (h : Lib.IsBuilderF 67 5 B b bs W) (hb : Below W.heap.size W W') : Lib.IsBuilderF 67 5 B b bs W' := by
  have key : ∀ p, Lib.BuilderAtF 67 5 B b p bs W → Lib.BuilderAtF 67 5 B b p bs W' := by
    rintro p ⟨h1, v, hv, ⟨hl, ho⟩, hne⟩
    refine ⟨h1, v, by rw [hb.block _ (heap_lt' hv)]; exact hv, ⟨hl, ?_⟩, hne⟩
    rcases ho with ho | ⟨g, cap, cur, fz, e, hg, hc, r⟩
    · exact .inl ho
    · exact .inr ⟨g, cap, cur, fz, e, hg, by rw [hb.block _ (heap_lt' hc)]; exact hc, r⟩
  exact h.elim (fun x => .inl (key _ x)) (fun x => .inr (key _ x))
/-- The row of the table that belongs to a kind. -/
theorem frm_row {w : World} {n : Nat} (h : Frm w n) (q : Nat) (hq1 : 1 ≤ q) (hq : q ≤ 7) : ∃ (mw : Nat) (fvw : Array Value) (nw : Int) (mr : Nat) (fvr : Array Value), w.cell? ⟨n + 2, q * 4, none⟩ = some (.string (kindS.getD q ByteArray.empty)) ∧ w.cell? ⟨n + 2, q * 4 + 1, none⟩ = some (.func (.func mw) #[] fvw) ∧ w.cell? ⟨n + 2, q * 4 + 2, none⟩ = some (.int .i64 nw) ∧ w.cell? ⟨n + 2, q * 4 + 3, none⟩ = some (.func (.func mr) #[] fvr) ∧ (formCells (n + 1))[q * 4 + 1]? = some (.func (.func mw) #[] fvw) := by
  rcases (show q = 1 ∨ q = 2 ∨ q = 3 ∨ q = 4 ∨ q = 5 ∨ q = 6 ∨ q = 7 by omega) with h1 | h1 | h1 | h1 | h1 | h1 | h1 <;> subst h1 <;> exact ⟨_, _, _, _, _, by simp only [World.cell?, h.tab]; rfl, by simp only [World.cell?, h.tab]; rfl, by simp only [World.cell?, h.tab]; rfl, by simp only [World.cell?, h.tab]; rfl, rfl⟩
theorem R_fresh {W : World} (base : Nat) (xs : List ByteArray) (hb : base ≤ W.heap.size) {n g : Nat} (hg : g = W.heap.size) (hm : xs.length ≤ 9223372036854775807) {cs : Array Value} (hcs : cs = (xs.map Value.string).toArray) {m : Nat} (hm1 : n = xs.length := by rfl) (hm2 : m = xs.length := by rfl) :
    Kd.string.R 9 (W.alloc (.cells cs 9)) base (fun _ => True) (.slice (some ⟨g, 0, none⟩) n m) xs := by
  subst hg hcs hm1 hm2
  refine Kd.R_of_own (enc := Value.string) (h1 := fun _ => rfl) ?_ (fun _ _ => trivial)
  have h2 := World.ownsRow_lit (base := base) (e := 9) (size := 1) W (xs.map Value.string).toArray xs.length hb (by simpa [maxLen] using hm) (by simp)
  simpa [encs] using h2
/-- The words behind the place, in numbers. -/
def writeN (q a b : Nat) : List ByteArray :=
  if q = 1 ∨ q = 2 then [hexS a, hexS b] else if q = 3 then [faultS.getD a ByteArray.empty, hexS b] else if q = 4 then [decS a] else if q = 5 then [hexS b ++ hexS a] else if q = 7 then [hexS a] else []
theorem writeL_eq {o : S35} {q a b : Nat} (h2 : o.f2 = q) (h4 : o.f4 = a) (h5 : o.f5 = b) : writeL o = writeN q a b := by
  unfold writeL writeN
  rw [h2, h4, h5]
  simp only [Int.toNat_natCast]
  repeat' split
  all_goals first | rfl | omega
theorem fn_inv {m m' : Nat} {f f' : Array Value} (h : some (Value.func (.func m) #[] f) = some (Value.func (.func m') #[] f')) : m' = m ∧ f' = f := by
  injection h with h
  injection h with h1 h2 h3
  injection h1 with h1
  exact ⟨h1.symm, h3.symm⟩
theorem enter_any {n q mw : Nat} {fvw : Array Value} (hq1 : 1 ≤ q) (hq7 : q ≤ 7) (h : (formCells (n + 1))[q * 4 + 1]? = some (.func (.func mw) #[] fvw)) : ∀ args w, (callFunc mw args).run Tryz.prog w = .ok (.enter mw args) w := by
  rcases (show q = 1 ∨ q = 2 ∨ q = 3 ∨ q = 4 ∨ q = 5 ∨ q = 6 ∨ q = 7 by omega) with h1 | h1 | h1 | h1 | h1 | h1 | h1 <;> subst h1
  · obtain ⟨rfl, rfl⟩ := fn_inv (m := 70) (f := #[]) h; exact enters_of Tryz.func70 (by kernel_rfl) rfl
  · obtain ⟨rfl, rfl⟩ := fn_inv (m := 70) (f := #[]) h; exact enters_of Tryz.func70 (by kernel_rfl) rfl
  · obtain ⟨rfl, rfl⟩ := fn_inv (m := 72) (f := #[.pointer (some ⟨n + 1, 0, none⟩)]) h; exact enters_of Tryz.func72 (by kernel_rfl) rfl
  · obtain ⟨rfl, rfl⟩ := fn_inv (m := 77) (f := #[]) h; exact enters_of Tryz.func77 (by kernel_rfl) rfl
  · obtain ⟨rfl, rfl⟩ := fn_inv (m := 80) (f := #[]) h; exact enters_of Tryz.func80 (by kernel_rfl) rfl
  · obtain ⟨rfl, rfl⟩ := fn_inv (m := 82) (f := #[]) h; exact enters_of Tryz.func82 (by kernel_rfl) rfl
  · obtain ⟨rfl, rfl⟩ := fn_inv (m := 84) (f := #[]) h; exact enters_of Tryz.func84 (by kernel_rfl) rfl
theorem write_any {W : World} {n q mw : Nat} {fvw : Array Value} (hF : Frm W n) (t cl p a b : Nat) (hq1 : 1 ≤ q) (hq7 : q ≤ 7) (ha : a < 4294967296) (hb : b < 4294967296) (h3 : q = 3 → a < 7) (h4 : q = 4 → a < 100) (h : (formCells (n + 1))[q * 4 + 1]? = some (.func (.func mw) #[] fvw)) :
    Calls Tryz.prog mw (#[.agg #[.int .u64 t, .int .i64 cl, .int .i64 q, .int .u32 p, .int .u32 a, .int .u32 b]] ++ fvw) W (WrR W (writeN q a b)) := by
  rcases (show q = 1 ∨ q = 2 ∨ q = 3 ∨ q = 4 ∨ q = 5 ∨ q = 6 ∨ q = 7 by omega) with h1 | h1 | h1 | h1 | h1 | h1 | h1 <;> subst h1
  · obtain ⟨rfl, rfl⟩ := fn_inv (m := 70) (f := #[]) h
    rw [show (#[Value.agg #[.int .u64 t, .int .i64 cl, .int .i64 ((1 : Nat) : Int), .int .u32 p, .int .u32 a, .int .u32 b]] ++ (#[] : Array Value)) = #[Value.agg #[.int .u64 t, .int .i64 cl, .int .i64 ((1 : Nat) : Int), .int .u32 p, .int .u32 a, .int .u32 b]] from rfl, show writeN 1 a b = [hexS a, hexS b] from rfl]
    exact w70_ok _ _ _ _ a b ha hb W
  · obtain ⟨rfl, rfl⟩ := fn_inv (m := 70) (f := #[]) h
    rw [show (#[Value.agg #[.int .u64 t, .int .i64 cl, .int .i64 ((2 : Nat) : Int), .int .u32 p, .int .u32 a, .int .u32 b]] ++ (#[] : Array Value)) = #[Value.agg #[.int .u64 t, .int .i64 cl, .int .i64 ((2 : Nat) : Int), .int .u32 p, .int .u32 a, .int .u32 b]] from rfl, show writeN 2 a b = [hexS a, hexS b] from rfl]
    exact w70_ok _ _ _ _ a b ha hb W
  · obtain ⟨rfl, rfl⟩ := fn_inv (m := 72) (f := #[.pointer (some ⟨n + 1, 0, none⟩)]) h
    rw [show (#[Value.agg #[.int .u64 t, .int .i64 cl, .int .i64 ((3 : Nat) : Int), .int .u32 p, .int .u32 a, .int .u32 b]] ++ (#[.pointer (some ⟨n + 1, 0, none⟩)] : Array Value)) = #[Value.agg #[.int .u64 t, .int .i64 cl, .int .i64 ((3 : Nat) : Int), .int .u32 p, .int .u32 a, .int .u32 b], .pointer (some ⟨n + 1, 0, none⟩)] from rfl, show writeN 3 a b = [faultS.getD a ByteArray.empty, hexS b] from rfl]
    exact w72_ok _ _ _ _ a b n (h3 rfl) hb W hF
  · obtain ⟨rfl, rfl⟩ := fn_inv (m := 77) (f := #[]) h
    rw [show (#[Value.agg #[.int .u64 t, .int .i64 cl, .int .i64 ((4 : Nat) : Int), .int .u32 p, .int .u32 a, .int .u32 b]] ++ (#[] : Array Value)) = #[Value.agg #[.int .u64 t, .int .i64 cl, .int .i64 ((4 : Nat) : Int), .int .u32 p, .int .u32 a, .int .u32 b]] from rfl, show writeN 4 a b = [⟨(Lib.decDigits a).toArray⟩] from rfl]
    exact w77_ok _ _ _ _ a b (h4 rfl) W
  · obtain ⟨rfl, rfl⟩ := fn_inv (m := 80) (f := #[]) h
    rw [show (#[Value.agg #[.int .u64 t, .int .i64 cl, .int .i64 ((5 : Nat) : Int), .int .u32 p, .int .u32 a, .int .u32 b]] ++ (#[] : Array Value)) = #[Value.agg #[.int .u64 t, .int .i64 cl, .int .i64 ((5 : Nat) : Int), .int .u32 p, .int .u32 a, .int .u32 b]] from rfl, show writeN 5 a b = [hexS b ++ hexS a] from rfl]
    exact w80_ok _ _ _ _ a b ha hb W
  · obtain ⟨rfl, rfl⟩ := fn_inv (m := 82) (f := #[]) h
    rw [show (#[Value.agg #[.int .u64 t, .int .i64 cl, .int .i64 ((6 : Nat) : Int), .int .u32 p, .int .u32 a, .int .u32 b]] ++ (#[] : Array Value)) = #[Value.agg #[.int .u64 t, .int .i64 cl, .int .i64 ((6 : Nat) : Int), .int .u32 p, .int .u32 a, .int .u32 b]] from rfl, show writeN 6 a b = [] from rfl]
    exact w82_ok _ _ _ _ a b W
  · obtain ⟨rfl, rfl⟩ := fn_inv (m := 84) (f := #[]) h
    rw [show (#[Value.agg #[.int .u64 t, .int .i64 cl, .int .i64 ((7 : Nat) : Int), .int .u32 p, .int .u32 a, .int .u32 b]] ++ (#[] : Array Value)) = #[Value.agg #[.int .u64 t, .int .i64 cl, .int .i64 ((7 : Nat) : Int), .int .u32 p, .int .u32 a, .int .u32 b]] from rfl, show writeN 7 a b = [hexS a] from rfl]
    exact w84_ok _ _ _ _ a b ha W
theorem R_cells {w : World} {base : Nat} {ok : Nat → Prop} {v : Value} {xs : List ByteArray} (h : Kd.string.R 9 w base ok v xs) (hn : 0 < xs.length) : ∃ g cap, v = .slice (some ⟨g, 0, none⟩) xs.length cap ∧ xs.length ≤ cap ∧ g < w.heap.size ∧ ∀ (j : Nat) x, xs[j]? = some x → w.cell? ⟨g, 0 + j, none⟩ = some (.string x) := by
  obtain ⟨_, ⟨_, h0⟩ | ⟨g, cap, cur, hv, hg, hb, hcap, hmx, hsz, htake⟩⟩ := Kd.own_of_R (enc := Value.string) (h1 := fun _ => rfl) h
  · omega
  · refine ⟨g, cap, hv, hcap, heap_lt' hb, fun j x hx => ?_⟩
    have hj : j < xs.length := by
      rcases Nat.lt_or_ge j xs.length with h' | h'
      · exact h'
      · rw [List.getElem?_eq_none h'] at hx; simp at hx
    have h2 : (cur.toList.take (xs.length * 1))[j]? = some (.string x) := by rw [htake]; simp [encs, hx]
    rw [List.getElem?_take_of_lt (by omega)] at h2
    rw [Nat.zero_add]
    simp only [World.cell?, hb]
    simpa using h2
end Go.Proofs.YtohighedgdlflaaGreatDoor

/- The words of an observation that may be, and such numbers. -/
namespace Go.Proofs.YtohighedgdlflaaGreatDoor
open Go.Shelf Go.RowKit Go.Sort Go.Lib Go.Proofs.YtohighedgdlflaaGreatDoorW.PrintWords Go.Proofs.YtohighedgdlflaaGreatDoor.PR
set_option linter.unusedVariables false
set_option linter.unusedSimpArgs false
def wordsN (t cl q p a b : Nat) : List ByteArray := [decS t, decS cl, kindS.getD q ByteArray.empty, hexS p] ++ writeN q a b
/-- What may be, in numbers. -/
structure GoodN (t cl q p a b : Nat) : Prop where
  t63 : t ≤ 9223372036854775807
  cl1 : 1 ≤ cl
  cl8 : cl ≤ 8
  q1 : 1 ≤ q
  q7 : q ≤ 7
  p32 : p < 4294967296
  a32 : a < 4294967296
  b32 : b < 4294967296
  k3 : q = 3 → 1 ≤ a ∧ a ≤ 6
  k4 : q = 4 → a ≤ 31 ∧ b = 0
  k6 : q = 6 → a = 0 ∧ b = 0
  k7 : q = 7 → b = 0
  k5 : q = 5 → b ≤ 2147483647
def nWords (q : Nat) : Nat := if q = 1 ∨ q = 2 ∨ q = 3 then 2 else if q = 6 then 0 else 1
def obN (t cl q p a b : Nat) : S35 := ⟨t, cl, q, p, a, b⟩
theorem good_of_may {o : S35} (h : mayB o = true) (hF : FitsT o) : ∃ t cl q p a b : Nat, o = obN t cl q p a b ∧ GoodN t cl q p a b := by
  obtain ⟨o0, o1, o2, o3, o4, o5⟩ := o
  obtain ⟨⟨f1, f2, f3, f4, f5, f6⟩, f7, f8⟩ := hF
  unfold mayB kindB at h
  simp only [Bool.and_eq_true, decide_eq_true_eq] at h
  obtain ⟨⟨⟨m1, m2⟩, m3⟩, m4⟩ := h
  simp only at f1 f2 f3 f4 f5 f6 f7 f8
  have hq : 1 ≤ o2 ∧ o2 ≤ 7 ∧ (o2 = 3 → 1 ≤ o4 ∧ o4 ≤ 6) ∧ (o2 = 4 → o4 < 32 ∧ o5 = 0) ∧ (o2 = 5 → o5 ≤ 2147483647) ∧ (o2 = 6 → o4 = 0 ∧ o5 = 0) ∧ (o2 = 7 → o5 = 0) := by
    split at m4
    · omega
    · split at m4
      · omega
      · split at m4
        · simp at m4; omega
        · split at m4
          · simp at m4; omega
          · split at m4
            · simp at m4; omega
            · split at m4
              · simp at m4; omega
              · split at m4
                · simp at m4; omega
                · simp at m4
  obtain ⟨q1, q2, q3, q4, q5, q6, q7⟩ := hq
  refine ⟨o0.toNat, o1.toNat, o2.toNat, o3.toNat, o4.toNat, o5.toNat, ?_, ⟨by omega, by omega, by omega, by omega, by omega, by omega, by omega, by omega, by omega, by omega, by omega, by omega, by omega⟩⟩
  unfold obN
  congr <;> omega
theorem GoodN.may {t cl q p a b : Nat} (h : GoodN t cl q p a b) : mayB (obN t cl q p a b) = true := by
  obtain ⟨h1, h2, h3, h4, h5, h6, h7, h8, k3, k4, k6, k7, k5⟩ := h
  unfold mayB kindB obN
  simp only [Bool.and_eq_true, decide_eq_true_eq]
  refine ⟨⟨⟨by omega, by omega⟩, by omega⟩, ?_⟩
  rcases (show q = 1 ∨ q = 2 ∨ q = 3 ∨ q = 4 ∨ q = 5 ∨ q = 6 ∨ q = 7 by omega) with h | h | h | h | h | h | h <;> subst h <;> simp at * <;> omega
theorem wordsL_obN (t cl q p a b : Nat) : wordsL (obN t cl q p a b) = wordsN t cl q p a b := by
  unfold wordsL wordsN headL obN
  rw [writeL_eq (q := q) (a := a) (b := b) rfl rfl rfl]
  simp
def lineZ (t cl q p a b : Nat) : ByteArray := ⟨(Lib.join ((wordsN t cl q p a b).map (·.data.toList)) [32]).toArray⟩
theorem lineB_obN (t cl q p a b : Nat) : lineB (obN t cl q p a b) = (lineZ t cl q p a b).data.toList ++ [10] := by
  unfold lineB lineZ
  rw [wordsL_obN]
theorem writeN_len (q a b : Nat) (hq1 : 1 ≤ q) (hq : q ≤ 7) : (writeN q a b).length = nWords q := by
  rcases (show q = 1 ∨ q = 2 ∨ q = 3 ∨ q = 4 ∨ q = 5 ∨ q = 6 ∨ q = 7 by omega) with h1 | h1 | h1 | h1 | h1 | h1 | h1 <;> subst h1 <;> simp [writeN, nWords]
theorem wordsN_len (t cl q p a b : Nat) (hq1 : 1 ≤ q) (hq : q ≤ 7) : (wordsN t cl q p a b).length = 4 + nWords q := by
  unfold wordsN
  rw [List.length_append, writeN_len q a b hq1 hq]
  rfl
end Go.Proofs.YtohighedgdlflaaGreatDoor

/- The law's own makers: observations that may be, at most 200. -/
namespace Go.Proofs.YtohighedgdlflaaGreatDoor
open Go.Shelf Go.RowKit Go.Sort Go.Lib Go.Proofs.YtohighedgdlflaaGreatDoorW.PrintWords Go.Proofs.YtohighedgdlflaaGreatDoor.PR
set_option linter.unusedVariables false
set_option linter.unusedSimpArgs false
def I64 (x : Int) : Prop := -9223372036854775808 ≤ x ∧ x < 9223372036854775808
def Fits108 (x : S108) : Prop := I64 x.f0 ∧ I64 x.f1 ∧ I64 x.f2 ∧ I64 x.f3 ∧ I64 x.f4 ∧ I64 x.f5
theorem pick_some (c : Int) (n : Nat) (hc : I64 c) (hn : 0 < n) : ∃ r : Nat, cloisterlaw22_pick.f c n = some (r : Int) ∧ r < n := by
  unfold cloisterlaw22_pick.f
  obtain ⟨h1, h2⟩ := hc
  have hn0 : ¬ (n : Int) = 0 := by omega
  have fin : ∀ a : Nat, ∃ r : Nat, some (Int.tmod (a : Int) (n : Int)) = some (r : Int) ∧ r < n := fun a => by
    refine ⟨a % n, ?_, Nat.mod_lt _ hn⟩
    rw [Int.tmod_eq_emod_of_nonneg (by omega)]; rfl
  by_cases h : c < 0
  · rw [if_pos h, if_neg hn0]
    have e : wrap64 (-(wrap64 (c + 1))) = ((-(c + 1)).toNat : Int) := by unfold wrap64; omega
    rw [e]; exact fin _
  · rw [if_neg h, if_neg hn0]
    have e : c = (c.toNat : Int) := by omega
    rw [e]; exact fin _
theorem m_u64 {t : Nat} (h : t < 9223372036854775807) : IntKind.u64.wrap (t : Int) = (t : Int) := by
  show (t : Int) % 18446744073709551616 = _
  omega
theorem m_w1 {c : Nat} (h : c < 4294967296) : wrap64 (1 + (c : Int)) = ((c + 1 : Nat) : Int) := by unfold wrap64; omega
theorem m_u32 (y : Int) : ∃ n : Nat, y % 4294967296 = (n : Int) ∧ n < 4294967296 := ⟨(y % 4294967296).toNat, by omega, by omega⟩
theorem m_small {u : Nat} (h : u < 4294967296) : (u : Int) % 4294967296 = (u : Int) := by omega
theorem m_w1s {u : Nat} (h : u < 6) : wrap64 (1 + (u : Int)) % 4294967296 = ((u + 1 : Nat) : Int) := by
  rw [m_w1 (by omega)]
  exact m_small (by omega)
theorem good_mk {t c z p a b : Nat} (ht : t < 9223372036854775807) (hc : c < 8) (hz : z < 7) (hp : p < 4294967296) (ha : a < 4294967296) (hb : b < 4294967296) (k3 : z = 2 → 1 ≤ a ∧ a ≤ 6) (k4 : z = 3 → a ≤ 31 ∧ b = 0) (k6 : z = 5 → a = 0 ∧ b = 0) (k7 : z = 6 → b = 0) (k5 : z = 4 → b ≤ 2147483647) : GoodN t (c + 1) (z + 1) p a b :=
  ⟨by omega, by omega, by omega, by omega, by omega, hp, ha, hb, fun h => k3 (by omega), fun h => k4 (by omega), fun h => k6 (by omega), fun h => k7 (by omega), fun h => k5 (by omega)⟩
theorem z_no {z m : Nat} (h : z ≠ m) {P : Prop} : z = m → P := fun e => absurd e h
theorem made_j (k : Nat) (f0 f1 f2 f3 f4 f5 : Int) (h4 : I64 f4) (h5 : I64 f5) (t c z p : Nat) (ht : t < 9223372036854775807) (hc : c < 8) (hz : z < 7) (hp : p < 4294967296) (bo : Bool) (hbo : bo = decide (z = 0 ∨ z = 1)) :
    ∃ a' b' : Nat, cloisterlaw22_Raw_made.j0 (k + 1) ((z + 1 : Nat) : Int) bo f0 f1 f2 f3 f4 f5 (t : Int) ((c + 1 : Nat) : Int) ((z + 1 : Nat) : Int) (p : Int) 0 0 = some ((t : Int), ((c + 1 : Nat) : Int), ((z + 1 : Nat) : Int), (p : Int), (a' : Int), (b' : Int)) ∧ GoodN t (c + 1) (z + 1) p a' b' := by
  obtain ⟨a, ha, ha2⟩ := m_u32 f4
  obtain ⟨b, hb, hb2⟩ := m_u32 f5
  have p6 := pick_some f4 6 h4 (by decide)
  have p32 := pick_some f4 32 h4 (by decide)
  have p31 := pick_some f5 2147483648 h5 (by decide)
  rw [cloisterlaw22_Raw_made.j0]
  have z0 : (0 : Nat) < 4294967296 := by decide
  match z, hz with
  | 0, hz =>
    subst hbo
    rw [if_pos (by decide), ha, hb]
    exact ⟨a, b, rfl, good_mk ht hc hz hp ha2 hb2 (z_no (by decide)) (z_no (by decide)) (z_no (by decide)) (z_no (by decide)) (z_no (by decide))⟩
  | 1, hz =>
    subst hbo
    rw [if_pos (by decide), ha, hb]
    exact ⟨a, b, rfl, good_mk ht hc hz hp ha2 hb2 (z_no (by decide)) (z_no (by decide)) (z_no (by decide)) (z_no (by decide)) (z_no (by decide))⟩
  | 2, hz =>
    subst hbo
    obtain ⟨u, hu, hu2⟩ := p6
    have hu' : cloisterlaw22_pick.f f4 6 = some (u : Int) := hu
    rw [if_neg (by decide), if_pos (by decide), hu', Option.bind_some, m_w1s hu2, hb]
    exact ⟨u + 1, b, rfl, good_mk ht hc hz hp (Nat.lt_of_lt_of_le (Nat.succ_lt_succ hu2) (by decide)) hb2 (fun _ => ⟨Nat.succ_le_succ (Nat.zero_le _), hu2⟩) (z_no (by decide)) (z_no (by decide)) (z_no (by decide)) (z_no (by decide))⟩
  | 3, hz =>
    subst hbo
    obtain ⟨u, hu, hu2⟩ := p32
    have hu' : cloisterlaw22_pick.f f4 32 = some (u : Int) := hu
    have hub : u < 4294967296 := Nat.lt_trans hu2 (by decide)
    rw [if_neg (by decide), if_neg (by decide), if_pos (by decide), hu', Option.bind_some, m_small hub]
    exact ⟨u, 0, rfl, good_mk ht hc hz hp hub z0 (z_no (by decide)) (fun _ => ⟨Nat.le_of_lt_succ hu2, rfl⟩) (z_no (by decide)) (z_no (by decide)) (z_no (by decide))⟩
  | 4, hz =>
    subst hbo
    obtain ⟨u, hu, hu2⟩ := p31
    have hu' : cloisterlaw22_pick.f f5 2147483648 = some (u : Int) := hu
    have hub : u < 4294967296 := Nat.lt_trans hu2 (by decide)
    rw [if_neg (by decide), if_neg (by decide), if_neg (by decide), if_pos (by decide), hu', Option.bind_some, m_small hub, ha]
    exact ⟨a, u, rfl, good_mk ht hc hz hp ha2 hub (z_no (by decide)) (z_no (by decide)) (z_no (by decide)) (z_no (by decide)) (fun _ => Nat.le_of_lt_succ hu2)⟩
  | 5, hz =>
    subst hbo
    rw [if_neg (by decide), if_neg (by decide), if_neg (by decide), if_neg (by decide), if_neg (by decide)]
    exact ⟨0, 0, rfl, good_mk ht hc hz hp z0 z0 (z_no (by decide)) (z_no (by decide)) (fun _ => ⟨rfl, rfl⟩) (z_no (by decide)) (z_no (by decide))⟩
  | 6, hz =>
    subst hbo
    rw [if_neg (by decide), if_neg (by decide), if_neg (by decide), if_neg (by decide), if_pos (by decide), ha]
    exact ⟨a, 0, rfl, good_mk ht hc hz hp ha2 z0 (z_no (by decide)) (z_no (by decide)) (z_no (by decide)) (fun _ => rfl) (z_no (by decide))⟩
theorem b1_ok (z : Nat) (h : ((z + 1 : Nat) : Int) = 1) : ((((z + 1 : Nat) : Int)) == 1) = decide (z = 0 ∨ z = 1) := by
  rw [beq_iff_eq.2 h]
  exact (decide_eq_true (by omega)).symm
theorem b2_ok (z : Nat) (h : ¬ ((z + 1 : Nat) : Int) = 1) : ((((z + 1 : Nat) : Int)) == 2) = decide (z = 0 ∨ z = 1) := by
  by_cases h2 : ((z + 1 : Nat) : Int) = 2
  · rw [beq_iff_eq.2 h2]
    exact (decide_eq_true (by omega)).symm
  · rw [beq_eq_false_iff_ne.2 h2]
    exact (decide_eq_false (by omega)).symm
theorem made_some (k : Nat) (x : S108) (hx : Fits108 x) : ∃ t cl q p a b : Nat, cloisterlaw22_Raw_made.f (k + 1) x.f0 x.f1 x.f2 x.f3 x.f4 x.f5 = some ((t : Int), (cl : Int), (q : Int), (p : Int), (a : Int), (b : Int)) ∧ GoodN t cl q p a b := by
  obtain ⟨h0, h1, h2, h3, h4, h5⟩ := hx
  obtain ⟨t, ht, ht2⟩ := pick_some x.f0 9223372036854775807 h0 (by decide)
  obtain ⟨c, hc, hc2⟩ := pick_some x.f1 8 h1 (by decide)
  obtain ⟨z, hz, hz2⟩ := pick_some x.f2 7 h2 (by decide)
  obtain ⟨p, hp, hp2⟩ := m_u32 x.f3
  have ht' : cloisterlaw22_pick.f x.f0 9223372036854775807 = some (t : Int) := ht
  have hc' : cloisterlaw22_pick.f x.f1 8 = some (c : Int) := hc
  have hz' : cloisterlaw22_pick.f x.f2 7 = some (z : Int) := hz
  clear ht hc hz
  unfold cloisterlaw22_Raw_made.f
  rw [ht', Option.bind_some, hc', Option.bind_some, hz', Option.bind_some, m_u64 ht2, m_w1 (Nat.lt_trans hc2 (by decide)), m_w1 (Nat.lt_trans hz2 (by decide)), hp]
  by_cases h : ((z + 1 : Nat) : Int) = 1
  · rw [if_pos h]
    obtain ⟨a', b', e, g⟩ := made_j k x.f0 x.f1 x.f2 x.f3 x.f4 x.f5 h4 h5 t c z p ht2 hc2 hz2 hp2 _ (b1_ok z h)
    exact ⟨t, c + 1, z + 1, p, a', b', e, g⟩
  · rw [if_neg h]
    obtain ⟨a', b', e, g⟩ := made_j k x.f0 x.f1 x.f2 x.f3 x.f4 x.f5 h4 h5 t c z p ht2 hc2 hz2 hp2 _ (b2_ok z h)
    exact ⟨t, c + 1, z + 1, p, a', b', e, g⟩
theorem GoodN.fits {t cl q p a b : Nat} (h : GoodN t cl q p a b) : FitsT (obN t cl q p a b) := by
  have h1 := h.t63; have h2 := h.p32; have h3 := h.a32; have h4 := h.b32
  exact ⟨⟨show (0 : Int) ≤ p by omega, show (p : Int) < _ by omega, show (0 : Int) ≤ a by omega, show (a : Int) < _ by omega, show (0 : Int) ≤ b by omega, show (b : Int) < _ by omega⟩, show (0 : Int) ≤ t by omega, show (t : Int) < _ by omega⟩
theorem all_l (l : List S108) (hl : ∀ x ∈ l, Fits108 x) : ∀ (j : Nat) (acc : List S35), j ≤ min l.length 200 → acc.length = min l.length 200 - j → (∀ o ∈ acc, mayB o = true ∧ FitsT o) → ∃ r, cloisterlaw22_all.l0 (j + 2) l acc ((min l.length 200 - j : Nat) : Int) = some r ∧ r.length = min l.length 200 ∧ ∀ o ∈ r, mayB o = true ∧ FitsT o
  | 0, acc, _, hacc, hg => by
    refine ⟨acc, ?_, by omega, hg⟩
    rw [cloisterlaw22_all.l0]
    by_cases h : ((min l.length 200 - 0 : Nat) : Int) < (l.length : Int)
    · rw [if_pos h, if_neg (by omega)]
    · rw [if_neg h]
  | j + 1, acc, hj, hacc, hg => by
    obtain ⟨i, hi⟩ : ∃ i, i = min l.length 200 - (j + 1) := ⟨_, rfl⟩
    have hil : i < l.length := by omega
    have hx : Fits108 (rd_T108 l i) := by
      have : rd_T108 l i = l[i] := by
        unfold rd_T108
        rw [Int.toNat_natCast, List.getD_eq_getElem?_getD, List.getElem?_eq_getElem hil]; rfl
      rw [this]; exact hl _ (List.getElem_mem hil)
    obtain ⟨t, cl, q, p, a, b, hm, hG⟩ := made_some (j + 1) _ hx
    obtain ⟨r, h1, h2, h3⟩ := all_l l hl j (acc ++ [obN t cl q p a b]) (by omega) (by rw [List.length_append, List.length_singleton]; omega) (fun o ho => by
      rcases List.mem_append.1 ho with h | h
      · exact hg o h
      · rw [List.mem_singleton] at h
        subst h
        exact ⟨hG.may, hG.fits⟩)
    refine ⟨r, ?_, h2, h3⟩
    rw [← hi, show j + 1 + 2 = (j + 2) + 1 by omega, cloisterlaw22_all.l0, if_pos (by omega), if_pos (by omega), if_pos (by omega), show j + 2 = j + 1 + 1 by omega, hm, Option.bind_some, if_pos (by omega), w64_succ i (by omega), show i + 1 = min l.length 200 - j by omega]
    exact h1
/-- all (30). -/
theorem all_ok (l : List S108) (hl : ∀ x ∈ l, Fits108 x) (A : Option Addr) (c : Nat) (w : World) (hr : Kd.C k108 w A l.length l) (hc : l.length ≤ c) :
    ∃ r : List S35, r.length ≤ 200 ∧ (∀ o ∈ r, mayB o = true) ∧ (∀ o ∈ r, FitsT o) ∧ Calls Tryz.prog 30 #[.slice A l.length c] w fun e w' => ∃ v, e = .returned v ∧ Kd.R k35 35 w' w.heap.size (fun _ => True) v r ∧ Below w.heap.size w w' := by
  obtain ⟨r, h1, h2, h3⟩ := all_l l hl (min l.length 200) [] (Nat.le_refl _) (by simp) (by simp)
  rw [Nat.sub_self] at h1
  exact ⟨r, by omega, fun o ho => (h3 o ho).1, fun o ho => (h3 o ho).2, cloisterlaw22_all.calls (min l.length 200 + 2) A c l r w hr hc h1⟩
theorem pick_ok (c : Int) (n : Nat) (hc : I64 c) (hn : 0 < n) (w : World) : ∃ r : Nat, r < n ∧ Calls Tryz.prog 29 #[.int .i64 c, .int .i64 n] w fun e w' => e = .returned (.int .i64 r) ∧ Drawn0 w w' := by
  obtain ⟨r, h1, h2⟩ := pick_some c n hc hn
  exact ⟨r, h2, cloisterlaw22_pick.calls c n r w h1⟩
end Go.Proofs.YtohighedgdlflaaGreatDoor

/- NewWriter, Raw and Done of package wire, where nothing goes wrong. -/
namespace Go.Proofs.YtohighedgdlflaaGreatDoor
open Go.RowKit Go.Proofs.YtohighedgdlflaaGreatDoorW.PrintWords Go.Proofs.YtohighedgdlflaaGreatDoor.PR
set_option linter.unusedVariables false
set_option linter.unusedSimpArgs false
set_option maxHeartbeats 400000 in
theorem newWriter_ok (lim : Int) (base : Nat) (w0 w : World) (h0 : 0 ≤ lim) (hl : lim ≤ 67108864) (hB : Below base w0 w) (hb : base ≤ w.heap.size) :
    Calls Tryz.prog 55 #[.int .i64 lim] w fun e w' => ∃ g, e = .returned (.tuple #[.pointer (some ⟨g, 0, none⟩), .int .i64 0]) ∧ Wr w' base g lim (.slice none 0 0) [] ∧ w.heap.size ≤ g ∧ Below base w0 w' ∧ Below w.heap.size w w' := by
  have hmm := @run_makeMap Tryz.prog
  have c1 : ¬ lim < 0 := by omega
  have c2 : decide (67108864 < lim) = false := by simpa using hl
  go_enter Tryz.func55, Tryz.ntmps55
  go_wp2
  refine bodyPost_ret (results_tmp2 rfl _ _ _) rfl ?_
  refine ⟨w.heap.size + 1, rfl, ⟨by omega, ⟨w.heap.size, ?_, ?_, hb⟩, own_nil _ _ _ _⟩, by omega, ?_, ?_⟩
  · have := heap_alloc_new (w.alloc (.map #[] 0)) (.cells #[.int .i64 lim, .slice none 0 0, .map (some w.heap.size), .int .i64 0] 136)
    simpa using this
  · rw [Below.heap_alloc _ _ _ (by simp)]; exact heap_alloc_new w _
  · exact (hB.alloc hb _).alloc (by simp; omega) _
  · exact ((Below.refl _ _).alloc (Nat.le_refl _) _).alloc (by simp) _
set_option maxHeartbeats 400000 in
theorem raw_ok (base g : Nat) (lim : Int) (v : Value) (xs ys : List Int) (A : Option Addr) (c : Nat) (w0 w : World) (hW : Wr w base g lim v xs) (hl : lim ≤ 67108864) (hn : (xs.length : Int) + ys.length ≤ lim) (hR : Kd.C (Kd.int .u8) w A ys.length ys) (hc : ys.length ≤ c) (hB : Below base w0 w) :
    Calls Tryz.prog 59 #[.pointer (some ⟨g, 0, none⟩), .slice A ys.length c] w fun e w' => e = .returned (.tuple #[]) ∧ ∃ v', Wr w' base g lim v' (xs ++ ys) ∧ Wk w w' g v v' ∧ Below base w0 w' := by
  have hW0 := Lib.hid hW
  obtain ⟨hbg, ⟨mb, hg, hm, hbm⟩, ho⟩ := hW
  obtain ⟨A0, c0, rfl⟩ := own_slice ho
  have h0 : w.cell? ⟨g, 0, none⟩ = some (.int .i64 lim) := by simp [World.cell?, hg]
  have h1 : w.cell? ⟨g, 1, none⟩ = some (.slice A0 xs.length c0) := by simp [World.cell?, hg]
  have h3 : w.cell? ⟨g, 3, none⟩ = some (.int .i64 0) := by simp [World.cell?, hg]
  have hbs : base ≤ w.heap.size := by have := heap_lt hg; omega
  have HR := Lib.hid hR
  clear hg hm ho
  go_enter Tryz.func59, Tryz.ntmps59
  go_wp2_with fail
  refine (room_ok g lim ys.length A0 xs.length c0 _ h0 h1 h3 hl (by omega) (by omega) (by omega)).mono ?_
  rintro e w' ⟨rfl, m, rfl⟩
  go_wp2_with (at_builtin; refine print_append_row (w0 := w0) base rfl (.tmp 12) (.tmp 13) 37 5 .u8 1 rfl Tryz.underlying37 info5 (by decide) _ xs ys A ys.length c rfl rfl (pw_own_below hW0.out.own (pw_below_drewN (Below.refl _ _) m)) (C_reads (Kd.C_below HR.out (pw_below_drewN (Below.refl _ _) m))) (pw_below_drewN hB m) hbs (by omega) ?_; intro v1 w1 hown hb1 hg1 hat; obtain ⟨hc1, hf1⟩ := (hW0.out.below (pw_below_drewN (Below.refl _ _) m)).at1 hg1; have Hown := Lib.hid hown; have Hb1 := Lib.hid hb1; have Hg1 := Lib.hid hg1; have Hat := Lib.hid hat; clear hown hb1 hg1 hat; obtain ⟨A1, cap1, hv1⟩ : ∃ A1 cap1, v1 = .slice A1 (xs ++ ys).length cap1 := own_slice Hown.out; rw [List.length_append] at hv1; subst hv1)
  go_end0
  refine ⟨rfl, .slice A1 (xs.length + ys.length) cap1, (hW0.out.below (pw_below_drewN (Below.refl _ _) m)).push Hg1.out Hown.out, (Wk.below (pw_below_drewN (Below.refl _ _) m)).trans (Wk.push (v := .slice A0 xs.length c0) Hg1.out Hat.out _), Hb1.out.setCell (p := ⟨g, 1, none⟩) hbg _⟩
set_option maxRecDepth 100000 in
theorem done_ok (base g : Nat) (lim : Int) (v : Value) (xs : List Int) (w0 w : World) (hW : Wr w base g lim v xs) (hl : lim ≤ 67108864) (hxl : (xs.length : Int) ≤ lim) (hB : Below base w0 w) (hb : base ≤ w.heap.size) :
    Calls Tryz.prog 58 #[.pointer (some ⟨g, 0, none⟩)] w fun e w' => ∃ v', e = .returned (.tuple #[v', .int .i64 0]) ∧ Kd.R (Kd.int .u8) 5 w' w.heap.size (fun _ => True) v' xs ∧ Below base w0 w' ∧ Below w.heap.size w w' := by
  have hW0 := Lib.hid hW
  have hle : Hid (xs.length ≤ 67108864) := by show xs.length ≤ 67108864; omega
  obtain ⟨hbg, ⟨mb, hg, hm, hbm⟩, ho⟩ := hW
  obtain ⟨A0, c0, rfl⟩ := own_slice ho
  have h1 : w.cell? ⟨g, 1, none⟩ = some (.slice A0 xs.length c0) := by simp [World.cell?, hg]
  have h2 : w.cell? ⟨g, 2, none⟩ = some (.map (some mb)) := by simp [World.cell?, hg]
  have h3 : w.cell? ⟨g, 3, none⟩ = some (.int .i64 0) := by simp [World.cell?, hg]
  have hlen : (Builtin.len_ #[134] 3 #[.map (some mb)]).run Tryz.prog w = .ok (.int .i64 0) w := run_len_map w 134 3 mb #[] 0 (by kernel_rfl) hm
  clear hg ho
  go_enter Tryz.func58, Tryz.ntmps58
  go_wp2_with (at_builtin; refine print_append_row (w0 := w) w.heap.size rfl (.const (.slice none 0 0)) (.tmp 24) 37 5 .u8 1 rfl Tryz.underlying37 info5 (by decide) (.slice none 0 0) [] xs A0 xs.length c0 rfl rfl (own_nil _ _ _ _) ?hr (Below.refl _ _) (Nat.le_refl _) ?hl ?_; (case hr => (obtain ⟨A', c', e, hr⟩ := own_reads hW0.out.own; cases e; exact hr)); (case hl => (have := hle.out; simp; omega)); intro v1 w1 hown hb1 hg1 hat; have Hown := Lib.hid hown; have Hb1 := Lib.hid hb1; clear hown hb1 hg1 hat)
  refine bodyPost_ret (results_tmp2 rfl _ _ _) rfl ?_
  refine ⟨v1, rfl, ?_, hB.trans (Hb1.out.mono hb), Hb1.out⟩
  have := Hown.out
  simp only [List.nil_append] at this
  exact Kd.R_of_own this (fun _ _ => trivial)
end Go.Proofs.YtohighedgdlflaaGreatDoor

/- trace.Encode writes what encBytes says. -/
namespace Go.Proofs.YtohighedgdlflaaGreatDoor
open Go.RowKit Go.Proofs.YtohighedgdlflaaGreatDoorW.PrintWords Go.Proofs.YtohighedgdlflaaGreatDoor.PR
set_option linter.unusedVariables false
set_option linter.unusedSimpArgs false
/-- What the trace of l is, but for its sum. -/
def encBody (l : List S35) : List Int := leb 4 1381256259 ++ leb 4 l.length ++ l.flatMap rowB
def encBytes (l : List S35) : List Int := encBody l ++ leb 4 (Crc.crc (encBody l))
def encOk (l : List S35) : Bool := decide (l.length ≤ 1000000) && l.all mayB
theorem notMay_ok (o : S35) (w : World) : Calls Tryz.prog 54 #[.agg #[.int .u64 o.f0, .int .i64 o.f1, .int .i64 o.f2, .int .u32 o.f3, .int .u32 o.f4, .int .u32 o.f5]] w fun e w' => e = .returned (.bool (!mayB o)) ∧ Below w.heap.size w w' := by
  have hbl : Hid (Below w.heap.size w (w.alloc (.cells #[.int .u64 o.f0, .int .i64 o.f1, .int .i64 o.f2, .int .u32 o.f3, .int .u32 o.f4, .int .u32 o.f5] 35))) := below_alloc (Below.refl _ _) _
  go_enter Tryz.func54, Tryz.ntmps54
  go_wp2_with fail
  refine (may_ok o _).mono ?_
  rintro e w1 ⟨rfl, hb1⟩
  have HB1 := Lib.hid (hbl.out.trans (hb1.mono hbl.out.size))
  clear hb1 hbl
  have hnot : ∀ (x : Bool) (w : World), (Op.unary .not (.bool x)).run Tryz.prog w = .ok (.bool (!x)) w := fun _ _ => rfl
  go_wp2_with fail
  go_ret
  exact ⟨rfl, HB1.out⟩
set_option maxHeartbeats 400000 in
theorem anyNot_ok (l : List S35) (A : Option Addr) (c : Nat) (w : World) (hR : Kd.C k35 w A l.length l) :
    Calls Tryz.prog 99 #[.slice A l.length c, .func (.func 54) #[] #[]] w fun e w' => ∃ r : Int, e = .returned (.int .i64 r) ∧ (decide (0 ≤ r) = !l.all mayB) ∧ Below w.heap.size w w' := by
  have HR := Lib.hid hR
  have hm := Kd.C_max hR
  clear hR
  go_enter Tryz.func99, Tryz.ntmps99
  go_wp2_with fail
  go_loopw [5, 8] (fun v5 v8 wr => ∃ k : Nat, k ≤ l.length ∧ v8 = .int .i64 k ∧ Hid ((l.take k).all mayB = true) ∧ Hid (Below w.heap.size w wr)) (fun _ i _ => l.length - (intOf i).toNat)
  case atStart => exact ⟨0, by omega, rfl, rfl, Below.refl _ _⟩
  case round =>
    obtain ⟨k, hk, rfl, hall, HB⟩ := hrel
    by_cases hlt : k < l.length
    · obtain ⟨o, ho⟩ : ∃ o, o = rd_T35 l k := ⟨_, rfl⟩
      have ho2 : Hid (l[k]? = some o) := by
        show l[k]? = some o
        rw [ho]; simp [rd_T35, List.getD_eq_getElem?_getD, List.getElem?_eq_getElem hlt]
      obtain ⟨ad, rfl, c0, c1, c2, c3, c4, c5⟩ := at_T35 (Kd.C_below HR.out HB.out) k (by omega) (by omega)
      rw [← ho] at c0 c1 c2 c3 c4 c5
      simp only [Int.toNat_natCast] at c0 c1 c2 c3 c4 c5
      clear ho
      go_wp2_with fail
      refine (notMay_ok o _).mono ?_
      rintro e w2 ⟨rfl, hb2⟩
      have HB2 := Lib.hid (HB.out.trans (hb2.mono HB.out.size))
      clear hb2 HB c0 c1 c2 c3 c4 c5
      cases hmb : mayB o with
      | false =>
        have Hmb := Lib.hid hmb
        clear hmb
        go_wp2_with fail
        go_ret
        refine ⟨_, rfl, ?_, HB2.out⟩
        have : l.all mayB = false := by
          rw [List.all_eq_false]
          exact ⟨o, List.mem_of_getElem? ho2.out, by rw [Hmb.out]; decide⟩
        simp [this]
      | true =>
        have hall2 : Hid ((l.take (k + 1)).all mayB = true) := by
          show (l.take (k + 1)).all mayB = true
          rw [List.take_add_one, ho2.out]
          simp [hall.out, hmb]
        clear hmb hall
        go_wp2_with fail
        go_roundw
        case rel => exact ⟨k + 1, by omega, by go_num, hall2, HB2⟩
        case measure => simp [intOf]; omega
    · obtain rfl : k = l.length := by omega
      go_wp2_with fail
      go_ret
      refine ⟨-1, rfl, ?_, HB.out⟩
      have := hall.out
      rw [List.take_of_length_le (Nat.le_refl _)] at this
      rw [this]; decide
theorem contains_ok (l : List S35) (A : Option Addr) (c : Nat) (w : World) (hR : Kd.C k35 w A l.length l) :
    Calls Tryz.prog 53 #[.slice A l.length c, .func (.func 54) #[] #[]] w fun e w' => e = .returned (.bool (!l.all mayB)) ∧ Below w.heap.size w w' := by
  go_enter Tryz.func53, Tryz.ntmps53
  go_wp2_with fail
  refine (anyNot_ok l A c w hR).mono ?_
  rintro e w1 ⟨r, rfl, hr, hb⟩
  have Hr := Lib.hid hr
  have HB := Lib.hid hb
  clear hr hb hR
  go_wp2_with fail
  go_ret
  exact ⟨by rw [← Hr.out]; rfl, HB.out⟩
/-- The two results for an answer. -/
def EncR (w : World) (l : List S35) (e : Ending) (w' : World) : Prop :=
  ∃ v, e = .returned (.tuple #[v, .int .i64 (if encOk l = true then 0 else 220)]) ∧ Kd.R (Kd.int .u8) 5 w' w.heap.size (fun _ => True) v (if encOk l = true then encBytes l else []) ∧ Below w.heap.size w w'
theorem EncR.bad {w W : World} {l : List S35} (hb : encOk l = false) (h : Below w.heap.size w W) : EncR w l (.returned (.tuple #[.slice none 0 0, .int .i64 220])) W :=
  ⟨.slice none 0 0, by rw [hb]; rfl, by rw [hb]; exact Kd.R_nil _ _ _ _ _, h⟩
theorem flat_len (l : List S35) : (l.flatMap rowB).length = 22 * l.length := by
  induction l with
  | nil => rfl
  | cons o l ih => rw [List.flatMap_cons, List.length_append, rowB_length, ih, List.length_cons]; omega
theorem encBody_len (l : List S35) : (encBody l).length = 8 + 22 * l.length := by
  simp only [encBody, List.length_append, leb_length, flat_len]
theorem leb_bytes (n : Nat) (x : Int) : Crc.Bytes (leb n x) := by
  intro y hy
  simp only [leb, List.mem_map] at hy
  obtain ⟨i, _, rfl⟩ := hy
  omega
theorem encBody_bytes (l : List S35) : Crc.Bytes (encBody l) := by
  intro y hy
  simp only [encBody, List.mem_append, List.mem_flatMap, rowB] at hy
  rcases hy with (h | h) | ⟨o, _, h⟩
  · exact leb_bytes _ _ y h
  · exact leb_bytes _ _ y h
  · rcases h with ((((h | h) | h) | h) | h) | h <;> exact leb_bytes _ _ y h
theorem crc_b {xs : List Int} (h : Crc.Bytes xs) : 0 ≤ Crc.crc xs ∧ Crc.crc xs < 4294967296 := by
  have h1 := Crc.stN_lt (s := 4294967295) h (by decide)
  have := Nat.xor_lt_two_pow h1 (show 4294967295 < 2 ^ 32 by decide)
  unfold Crc.crc
  omega
set_option maxRecDepth 100000 in
set_option maxHeartbeats 1000000 in
theorem encode_ok (l : List S35) (A : Option Addr) (c : Nat) (w : World) (hT : WTab w) (hR : Kd.C k35 w A l.length l) (hF : ∀ o ∈ l, Fits o) :
    Calls Tryz.prog 21 #[.slice A l.length c] w (EncR w l) := by
  have HR := Lib.hid hR
  have HT := Lib.hid hT
  have HF := Lib.hid hF
  have hm := Kd.C_max hR
  clear hR hT hF
  by_cases hbig : 1000000 < l.length
  · have hbad : Hid (encOk l = false) := by show encOk l = false; unfold encOk; rw [decide_eq_false (by omega)]; rfl
    have hbig' : (1000000 : Int) < l.length := by omega
    clear hbig
    go_enter Tryz.func21, Tryz.ntmps21
    go_wp2_with fail
    refine bodyPost_ret (results_tmp2 rfl _ _ _) rfl ?_
    exact EncR.bad hbad.out (Below.refl _ _)
  · have hbig' : ¬ (1000000 : Int) < l.length := by omega
    have hsm : l.length ≤ 1000000 := by omega
    clear hbig
    cases hall : l.all mayB with
    | false =>
      have hbad : Hid (encOk l = false) := by show encOk l = false; unfold encOk; simp [hall]
      go_enter Tryz.func21, Tryz.ntmps21
      go_wp2_with fail
      refine (contains_ok l A c w HR.out).mono ?_
      rw [hall]
      clear hall
      rintro e w1 ⟨rfl, hb1⟩
      have HB1 := Lib.hid hb1
      clear hb1
      go_wp2_with fail
      refine bodyPost_ret (results_tmp2 rfl _ _ _) rfl ?_
      exact EncR.bad hbad.out HB1.out
    | true =>
      have hok : Hid (encOk l = true) := by show encOk l = true; unfold encOk; simp [hall, hsm]
      go_enter Tryz.func21, Tryz.ntmps21
      go_wp2_with fail
      refine (contains_ok l A c w HR.out).mono ?_
      rw [hall]
      clear hall
      rintro e w1 ⟨rfl, hb1⟩
      have HB1 := Lib.hid hb1
      clear hb1
      go_wp2_with fail
      refine (newWriter_ok (12 + 22 * (l.length : Int)) w.heap.size w w1 (by omega) (by omega) HB1.out HB1.out.size).mono ?_
      rintro e w2 ⟨g, rfl, hW2, hg2, hb2, _⟩
      have HW2 := Lib.hid hW2
      have HB2 := Lib.hid hb2
      clear hW2 hb2 HB1
      go_wp2_with fail
      refine (word_ok w.heap.size g _ 1381256259 _ _ w w2 HW2.out (by omega) (by simp; omega) (by omega) (by omega) HB2.out).mono ?_
      rintro e w3 ⟨rfl, v3, hW3, _, hb3⟩
      have HW3 := Lib.hid hW3
      have HB3 := Lib.hid hb3
      clear hW3 hb3 HB2 HW2
      go_wp2_with fail
      refine (word_ok w.heap.size g _ l.length _ _ w w3 HW3.out (by omega) (by simp [leb_length]; omega) (by omega) (by omega) HB3.out).mono ?_
      rintro e w4 ⟨rfl, v4, hW4, _, hb4⟩
      have HW4 := Lib.hid hW4
      have HB4 := Lib.hid hb4
      clear hW4 hb4 HB3 HW3
      go_wp2_with fail
      clear hg2 hbig'
      go_loopw [7, 38] (fun v7 v38 wr => ∃ (k : Nat) (v : Value) (zs : List Int), k ≤ l.length ∧ v38 = .int .i64 k ∧ Hid (zs = leb 4 1381256259 ++ leb 4 l.length ++ (l.take k).flatMap rowB) ∧ Hid (Wr wr w.heap.size g (12 + 22 * (l.length : Int)) v zs) ∧ Hid (Below w.heap.size w wr)) (fun _ i _ => l.length - (intOf i).toNat)
      case atStart => exact ⟨0, v4, _, by omega, rfl, by simp [Hid], HW4, HB4⟩
      case round =>
        clear HW4 HB4
        obtain ⟨k, v, zs, hk, rfl, hz, HW, HB⟩ := hrel
        by_cases hlt : k < l.length
        · obtain ⟨o, ho⟩ : ∃ o, o = rd_T35 l k := ⟨_, rfl⟩
          have ho2 : Hid (l[k]? = some o) := by
            show l[k]? = some o
            rw [ho]; simp [rd_T35, List.getD_eq_getElem?_getD, List.getElem?_eq_getElem hlt]
          obtain ⟨ad, rfl, c0, c1, c2, c3, c4, c5⟩ := at_T35 (Kd.C_below HR.out HB.out) k (by omega) (by omega)
          rw [← ho] at c0 c1 c2 c3 c4 c5
          simp only [Int.toNat_natCast] at c0 c1 c2 c3 c4 c5
          clear ho
          have hfit := Lib.hid (HF.out o (List.mem_of_getElem? ho2.out))
          have hzl : Hid (zs.length = 8 + 22 * k) := by
            show zs.length = 8 + 22 * k
            rw [hz.out, List.length_append, List.length_append, leb_length, leb_length, flat_len, List.length_take]; omega
          go_wp2_with fail
          have hbl : Hid (Below wr.heap.size wr (wr.alloc (.cells #[.int .u64 o.f0, .int .i64 o.f1, .int .i64 o.f2, .int .u32 o.f3, .int .u32 o.f4, .int .u32 o.f5] 35))) := below_alloc (Below.refl _ _) _
          refine (row_ok w.heap.size g _ o v zs w _ (HW.out.below hbl.out) (by omega) (by have := hzl.out; omega) hfit.out (HB.out.trans (hbl.out.mono HB.out.size))).mono ?_
          rintro e w6 ⟨rfl, v6, hW6, _, hb6⟩
          have HW6 := Lib.hid hW6
          have HB6 := Lib.hid hb6
          clear hW6 hb6 HB HW hbl c0 c1 c2 c3 c4 c5
          go_wp2_with fail
          go_roundw
          case rel =>
            refine ⟨k + 1, v6, _, by omega, by go_num, ?_, HW6, HB6⟩
            show _ = _
            rw [hz.out, List.take_add_one, ho2.out, List.flatMap_append, List.append_assoc]
            simp
          case measure => simp [intOf]; omega
        · obtain rfl : k = l.length := by omega
          have hzb : Hid (zs = encBody l) := by
            show zs = encBody l
            rw [hz.out, List.take_of_length_le (Nat.le_refl _)]; rfl
          have hzl : Hid (zs.length = 8 + 22 * l.length) := by show zs.length = _; rw [hzb.out, encBody_len]
          clear hz
          go_wp2_with fail
          refine (done_ok w.heap.size g _ v zs w wr HW.out (by omega) (by have := hzl.out; omega) HB.out HB.out.size).mono ?_
          rintro e w6 ⟨v6, rfl, hr6, hb6, _⟩
          obtain ⟨A6, c6, rfl, hc6, hC6⟩ := Kd.R_reads hr6
          have HA6 : Hid (∀ ad, A6 = some ad → ad.block < w6.heap.size) := fun ad h => Kd.R_lt hr6 ad.block (by rw [h]; rfl)
          have HC6 := Lib.hid hC6
          have HB6 := Lib.hid hb6
          have Hc6 := Lib.hid hc6
          clear hr6 hb6 hC6 HB HW hc6
          have hzi : (zs.length : Int) < 67000000 := by have := hzl.out; omega
          go_wp2_with fail
          refine (newWriter_ok ((zs.length : Int) + 4) w.heap.size w w6 (by omega) (by omega) HB6.out HB6.out.size).mono ?_
          rintro e w7 ⟨g2, rfl, hW7, hg2, hb7, hb67⟩
          have HG2 := Lib.hid hg2
          clear hg2
          have HW7 := Lib.hid hW7
          have HB7 := Lib.hid hb7
          have HC7 := Lib.hid (Kd.C_below HC6.out hb67)
          clear hW7 hb7 hb67 HB6 HC6
          go_wp2_with fail
          refine (raw_ok w.heap.size g2 _ _ [] zs A6 c6 w w7 HW7.out (by omega) (by simp; omega) HC7.out Hc6.out HB7.out).mono ?_
          rintro e w8 ⟨rfl, v8, hW8, hk8, hb8⟩
          rw [List.nil_append] at hW8
          have HW8 := Lib.hid hW8
          have HB8 := Lib.hid hb8
          go_wp2_with fail
          have HC8 : Hid (Kd.C (Kd.int .u8) w8 A6 zs.length zs) := Kd.C_keep (0 : Int) HC7.out hk8.1 (fun ad h _ => by have := HA6.out ad h; have := HG2.out; omega)
          have hbl : Hid (Below w8.heap.size w8 (w8.alloc (.cells #[.slice A6 zs.length c6] 37))) := below_alloc (Below.refl _ _) _
          clear hW8 hk8 hb8 HW7 HB7 HC7 HA6 HG2
          refine (sum_ok zs A6 c6 _ _ _ (HT.out.below (HB8.out.trans (hbl.out.mono HB8.out.size))) (by simp) (Kd.C_below HC8.out hbl.out) (by rw [hzb.out]; exact encBody_bytes l)).mono ?_
          rintro e w9 ⟨rfl, rfl⟩
          have HW9 := Lib.hid (HW8.out.below hbl.out)
          have HB9 := Lib.hid (HB8.out.trans (hbl.out.mono HB8.out.size))
          have hcr := crc_b (encBody_bytes l)
          rw [← hzb.out] at hcr
          obtain ⟨hcr0, hcr1⟩ := hcr
          obtain ⟨cr, hcr⟩ : ∃ cr, cr = Crc.crc zs := ⟨_, rfl⟩
          rw [← hcr] at hcr0 hcr1 ⊢
          have Hcr := Lib.hid hcr
          clear hcr HC8 HW8 HB8
          go_wp2_with fail
          refine (word_ok w.heap.size g2 _ cr v8 zs w _ HW9.out (by omega) (by omega) hcr0 hcr1 HB9.out).mono ?_
          rintro e w10 ⟨rfl, v10, hW10, _, hb10⟩
          have HW10 := Lib.hid hW10
          have HB10 := Lib.hid hb10
          clear hW10 hb10 HW9 HB9
          go_wp2_with fail
          refine (done_ok w.heap.size g2 _ v10 _ w w10 HW10.out (by omega) (by rw [List.length_append, leb_length]; omega) HB10.out HB10.out.size).mono ?_
          rintro e w11 ⟨v11, rfl, hr11, hb11, _⟩
          have HR11 := Lib.hid (Kd.R_lower hr11 HB10.out.size)
          have HB11 := Lib.hid hb11
          clear hr11 hb11 HW10 HB10
          go_wp2_with fail
          refine bodyPost_ret (results_tmp2 rfl _ _ _) rfl ?_
          refine ⟨v11, by rw [hok.out]; rfl, ?_, HB11.out⟩
          rw [hok.out, if_pos rfl]
          have := HR11.out
          rw [Hcr.out, hzb.out] at this
          exact this
end Go.Proofs.YtohighedgdlflaaGreatDoor

/- Numbers of the lowest byte first: read and written. -/
namespace Go.Proofs.YtohighedgdlflaaGreatDoor
set_option linter.unusedVariables false
set_option linter.unusedSimpArgs false
/-- The number that some bytes are, the lowest first. -/
def lev : List Int → Int
  | [] => 0
  | b :: bs => b + 256 * lev bs
theorem lev_snoc : ∀ (bs : List Int) (b : Int), lev (bs ++ [b]) = lev bs + b * 2 ^ (8 * bs.length)
  | [], b => by simp [lev]
  | a :: bs, b => by
    have ih := lev_snoc bs b
    simp only [List.cons_append, lev, List.length_cons, ih]
    rw [show 8 * (bs.length + 1) = 8 * bs.length + 8 by omega, Int.pow_add]
    have : (2 : Int) ^ 8 = 256 := by decide
    rw [this, Int.mul_add]
    have h2 : (256 : Int) * (b * 2 ^ (8 * bs.length)) = b * (2 ^ (8 * bs.length) * 256) := by
      rw [Int.mul_comm, Int.mul_assoc]
    omega
theorem lev_bounds : ∀ {bs : List Int}, Crc.Bytes bs → 0 ≤ lev bs ∧ lev bs < 2 ^ (8 * bs.length)
  | [], _ => by simp [lev]
  | a :: bs, h => by
    have ih := lev_bounds (bs := bs) (fun x hx => h x (List.mem_cons_of_mem _ hx))
    have ha := h a List.mem_cons_self
    simp only [lev, List.length_cons]
    rw [show 8 * (bs.length + 1) = 8 * bs.length + 8 by omega, Int.pow_add]
    have : (2 : Int) ^ 8 = 256 := by decide
    rw [this]
    omega
theorem or_u64 (a b k : Nat) (ha : a < 2 ^ (8 * k)) (hb : b < 256) (hk : k < 8) : bits .or .u64 (a : Int) ((b * 2 ^ (8 * k) : Nat) : Int) = ((a + b * 2 ^ (8 * k) : Nat) : Int) := by
  have hp : 2 ^ (8 * k) * 256 ≤ 2 ^ 64 := by
    rw [show (256 : Nat) = 2 ^ 8 by decide, ← Nat.pow_add]
    exact Nat.pow_le_pow_right (by omega) (by omega)
  have hpos : 0 < 2 ^ (8 * k) := Nat.two_pow_pos _
  have hbm : b * 2 ^ (8 * k) + 2 ^ (8 * k) ≤ 2 ^ 64 := by
    have : (b + 1) * 2 ^ (8 * k) ≤ 256 * 2 ^ (8 * k) := Nat.mul_le_mul_right _ (by omega)
    rw [Nat.add_mul, Nat.one_mul] at this
    rw [Nat.mul_comm 256] at this
    omega
  have ha64 : a % 2 ^ IntKind.u64.bits = a := Nat.mod_eq_of_lt (by simp only [IntKind.bits]; omega)
  have hb64 : (b * 2 ^ (8 * k)) % 2 ^ IntKind.u64.bits = b * 2 ^ (8 * k) := Nat.mod_eq_of_lt (by simp only [IntKind.bits]; omega)
  simp only [bits, BitVec.ofInt_natCast, BitVec.toNat_or, BitVec.toNat_ofNat, ha64, hb64]
  have e : a ||| b * 2 ^ (8 * k) = a + b * 2 ^ (8 * k) := by
    rw [Nat.or_comm, Nat.mul_comm, ← Nat.two_pow_add_eq_or_of_lt ha, Nat.add_comm]
  rw [e]
  have h64 : (((a + b * 2 ^ (8 * k) : Nat) : Int)) < 2 ^ 64 := by exact_mod_cast (by omega : a + b * 2 ^ (8 * k) < 2 ^ 64)
  simp only [IntKind.wrap, IntKind.bits, IntKind.signed, Bool.false_eq_true, if_false]
  exact Int.emod_eq_of_lt (by omega) h64
theorem shl_u64 (b k : Nat) (hb : b < 256) (hk : k < 8) : IntKind.u64.wrap ((b : Int) * 2 ^ (8 * (k : Int)).toNat) = ((b * 2 ^ (8 * k) : Nat) : Int) := by
  have e : (8 * (k : Int)).toNat = 8 * k := by omega
  rw [e]
  have hp : 2 ^ (8 * k) * 256 ≤ 2 ^ 64 := by
    rw [show (256 : Nat) = 2 ^ 8 by decide, ← Nat.pow_add]
    exact Nat.pow_le_pow_right (by omega) (by omega)
  have hbm : b * 2 ^ (8 * k) < 2 ^ 64 := by
    have : (b + 1) * 2 ^ (8 * k) ≤ 256 * 2 ^ (8 * k) := Nat.mul_le_mul_right _ (by omega)
    rw [Nat.add_mul, Nat.one_mul, Nat.mul_comm 256] at this
    have hpos : 0 < 2 ^ (8 * k) := Nat.two_pow_pos _
    omega
  have h64 : (((b * 2 ^ (8 * k) : Nat) : Int)) < 2 ^ 64 := by exact_mod_cast hbm
  have e2 : ((b : Int) * 2 ^ (8 * k)) = ((b * 2 ^ (8 * k) : Nat) : Int) := by simp
  rw [e2]
  simp only [IntKind.wrap, IntKind.bits, IntKind.signed, Bool.false_eq_true, if_false]
  exact Int.emod_eq_of_lt (by omega) h64
end Go.Proofs.YtohighedgdlflaaGreatDoor

/- What Decode answers, in plain Lean. -/
namespace Go.Proofs.YtohighedgdlflaaGreatDoor
open Go.Proofs.YtohighedgdlflaaGreatDoor.PR
set_option linter.unusedVariables false
set_option linter.unusedSimpArgs false
/-- The row at a place. -/
def rowAt (bs : List Int) (p : Nat) : S35 := ⟨lev ((bs.drop p).take 8), lev ((bs.drop (p + 8)).take 1), lev ((bs.drop (p + 9)).take 1), lev ((bs.drop (p + 10)).take 4), lev ((bs.drop (p + 14)).take 4), lev ((bs.drop (p + 18)).take 4)⟩
/-- m rows from place p on, behind those that have been read; the place of the first that may not be, -1: there is none. -/
def decRows (bs : List Int) : Nat → Nat → List S35 → List S35 × Int
  | 0, _, acc => (acc, -1)
  | m + 1, p, acc => if mayB (rowAt bs p) = true then decRows bs m (p + 22) (acc ++ [rowAt bs p]) else ([], p)
def magicL : List Int := [67, 76, 84, 82]
/-- Of a text that begins as it must. -/
def decBody (bs : List Int) : List S35 × Int :=
  if bs.length < 12 then ([], 4)
  else if (bs.length : Int) ≠ 12 + 22 * lev ((bs.drop 4).take 4) ∨ lev ((bs.drop 4).take 4) > 1000000 then ([], 4)
  else if lev ((bs.drop (bs.length - 4)).take 4) ≠ Crc.crc (bs.take (bs.length - 4)) then ([], ((bs.length - 4 : Nat) : Int))
  else decRows bs (lev ((bs.drop 4).take 4)).toNat 8 []
/-- The first of the four first bytes that is another one: 4: there is none. -/
def badMagic (bs : List Int) (k : Nat) : Bool := bs.getD k (-1) != magicL.getD k 0
def decode (bs : List Int) : List S35 × Int :=
  if badMagic bs 0 = true then ([], 0) else if badMagic bs 1 = true then ([], 1) else if badMagic bs 2 = true then ([], 2) else if badMagic bs 3 = true then ([], 3) else decBody bs
theorem decode_bad {bs : List Int} {k : Nat} (h : ∀ i, i < k → badMagic bs i = false) (hk : badMagic bs k = true) (h4 : k < 4) : decode bs = ([], (k : Int)) := by
  unfold decode
  match k, h4 with
  | 0, _ => rw [if_pos hk]; rfl
  | 1, _ => rw [if_neg (by simp [h 0 (by omega)]), if_pos hk]; rfl
  | 2, _ => rw [if_neg (by simp [h 0 (by omega)]), if_neg (by simp [h 1 (by omega)]), if_pos hk]; rfl
  | 3, _ => rw [if_neg (by simp [h 0 (by omega)]), if_neg (by simp [h 1 (by omega)]), if_neg (by simp [h 2 (by omega)]), if_pos hk]; rfl
theorem decode_good {bs : List Int} (h : ∀ i, i < 4 → badMagic bs i = false) : decode bs = decBody bs := by
  unfold decode
  rw [if_neg (by simp [h 0 (by omega)]), if_neg (by simp [h 1 (by omega)]), if_neg (by simp [h 2 (by omega)]), if_neg (by simp [h 3 (by omega)])]
theorem badMagic_len {bs : List Int} {k : Nat} (h4 : k < 4) (h : bs.length ≤ k) : badMagic bs k = true := by
  unfold badMagic
  rw [List.getD_eq_getElem?_getD, List.getElem?_eq_none h]
  match k, h4 with
  | 0, _ => rfl
  | 1, _ => rfl
  | 2, _ => rfl
  | 3, _ => rfl
theorem badMagic_at {bs : List Int} {k : Nat} (h : k < bs.length) : badMagic bs k = (bs.getD k 0 != magicL.getD k 0) := by
  unfold badMagic
  simp [List.getD_eq_getElem?_getD, List.getElem?_eq_getElem h]
end Go.Proofs.YtohighedgdlflaaGreatDoor

/- Plain law: what was written as bytes is read; a byte that is another one is told. -/
namespace Go.Proofs.YtohighedgdlflaaGreatDoor
open Go.Proofs.YtohighedgdlflaaGreatDoor.PR
set_option linter.unusedVariables false
set_option linter.unusedSimpArgs false
namespace Crc
theorem bitN_zero {x : Nat} (h : x < 4294967296) (h0 : bitN x = 0) : x = 0 := by
  unfold bitN at h0
  by_cases ho : x % 2 = 1
  · rw [if_pos ho] at h0
    have h1 : x / 2 = 3988292384 := by
      have h2 : (x / 2) ^^^ 3988292384 ^^^ 3988292384 = 0 ^^^ 3988292384 := by rw [h0]
      rwa [Nat.xor_assoc, Nat.xor_self, Nat.xor_zero, Nat.zero_xor] at h2
    omega
  · rw [if_neg ho, Nat.xor_zero] at h0
    omega
theorem xor_lt {a b : Nat} (ha : a < 4294967296) (hb : b < 4294967296) : a ^^^ b < 4294967296 := Nat.xor_lt_two_pow (n := 32) ha hb
theorem xor_eq {a b : Nat} (h : a ^^^ b = 0) : a = b := by
  have h2 : a ^^^ b ^^^ b = 0 ^^^ b := by rw [h]
  rwa [Nat.xor_assoc, Nat.xor_self, Nat.xor_zero, Nat.zero_xor] at h2
theorem bitN_inj {a b : Nat} (ha : a < 4294967296) (hb : b < 4294967296) (h : bitN a = bitN b) : a = b := by
  refine xor_eq (bitN_zero (xor_lt ha hb) ?_)
  rw [bitN_xor, h, Nat.xor_self]
theorem bitN_lt' {s : Nat} (h : s < 4294967296) : bitN s < 4294967296 := bitN_lt h
theorem byteN_inj {s s' b b' : Nat} (hs : s < 4294967296) (hs' : s' < 4294967296) (hb : b < 256) (hb' : b' < 256) (h : byteN s b = byteN s' b') : s ^^^ b = s' ^^^ b' := by
  have hx : s ^^^ b < 4294967296 := xor_lt hs (by omega)
  have hy : s' ^^^ b' < 4294967296 := xor_lt hs' (by omega)
  unfold byteN at h
  have x1 := bitN_lt' hx; have x2 := bitN_lt' x1; have x3 := bitN_lt' x2; have x4 := bitN_lt' x3; have x5 := bitN_lt' x4; have x6 := bitN_lt' x5; have x7 := bitN_lt' x6
  have y1 := bitN_lt' hy; have y2 := bitN_lt' y1; have y3 := bitN_lt' y2; have y4 := bitN_lt' y3; have y5 := bitN_lt' y4; have y6 := bitN_lt' y5; have y7 := bitN_lt' y6
  exact bitN_inj hx hy (bitN_inj x1 y1 (bitN_inj x2 y2 (bitN_inj x3 y3 (bitN_inj x4 y4 (bitN_inj x5 y5 (bitN_inj x6 y6 (bitN_inj x7 y7 h)))))))
theorem xor_left {a b c : Nat} (h : a ^^^ b = a ^^^ c) : b = c := by
  have h2 : a ^^^ (a ^^^ b) = a ^^^ (a ^^^ c) := by rw [h]
  rwa [← Nat.xor_assoc, ← Nat.xor_assoc, Nat.xor_self, Nat.zero_xor, Nat.zero_xor] at h2
theorem xor_right {a b c : Nat} (h : a ^^^ c = b ^^^ c) : a = b := by
  rw [Nat.xor_comm a, Nat.xor_comm b] at h
  exact xor_left h
theorem stN_lt' {xs : List Int} {s : Nat} (hb : Bytes xs) (hs : s < 4294967296) : stN xs s < 4294967296 := stN_lt hb hs
theorem stN_inj : ∀ (xs : List Int) {s s' : Nat}, Bytes xs → s < 4294967296 → s' < 4294967296 → stN xs s = stN xs s' → s = s'
  | [], s, s', _, _, _, h => h
  | x :: xs, s, s', hb, hs, hs', h => by
    have hx : x.toNat < 256 := by have := hb x (by simp); omega
    have h1 := stN_inj xs (s := byteN s x.toNat) (s' := byteN s' x.toNat) (fun y hy => hb y (by simp [hy])) (byteN_lt hs hx) (byteN_lt hs' hx) h
    exact xor_right (byteN_inj hs hs' hx hx h1)
/-- One byte that is another one: another sum. -/
theorem crc_ne {pre post : List Int} {x y : Int} (hp : Bytes pre) (hq : Bytes post) (hx : 0 ≤ x ∧ x < 256) (hy : 0 ≤ y ∧ y < 256) (hne : x ≠ y) : crc (pre ++ x :: post) ≠ crc (pre ++ y :: post) := by
  intro h
  unfold crc at h
  have h1 : stN (pre ++ x :: post) 4294967295 ^^^ 4294967295 = stN (pre ++ y :: post) 4294967295 ^^^ 4294967295 := by exact_mod_cast h
  have h2 := xor_right h1
  rw [stN_append, stN_append] at h2
  have hs : stN pre 4294967295 < 4294967296 := stN_lt' hp (by decide)
  have h3 := stN_inj post (s := byteN (stN pre 4294967295) x.toNat) (s' := byteN (stN pre 4294967295) y.toNat) hq (byteN_lt hs (by omega)) (byteN_lt hs (by omega)) h2
  have h4 := xor_left (byteN_inj hs hs (by omega) (by omega) h3)
  omega
end Crc
theorem mod_div (x P Q : Int) (hP : 0 < P) : (x % (P * (256 * Q))) / P % 256 = x / P % 256 := by
  have e : x % (P * (256 * Q)) = x + P * (256 * (-(Q * (x / (P * (256 * Q)))))) := by
    rw [Int.emod_def]
    have : P * (256 * -(Q * (x / (P * (256 * Q))))) = -(P * (256 * Q) * (x / (P * (256 * Q)))) := by
      rw [Int.mul_neg, Int.mul_neg, Int.mul_assoc, Int.mul_assoc]
    rw [this]; omega
  rw [e, Int.add_mul_ediv_left _ _ (by omega), Int.add_mul_emod_self_left]
theorem lev_leb : ∀ (n : Nat) (x : Int), 0 ≤ x → x < 2 ^ (8 * n) → lev (leb n x) = x
  | 0, x, h0, h1 => by simp at h1; have : x = 0 := by omega
                       subst this; rfl
  | n + 1, x, h0, h1 => by
    have hp : (0 : Int) < 2 ^ (8 * n) := Int.pow_pos (by decide)
    have hm0 : 0 ≤ x % 2 ^ (8 * n) := Int.emod_nonneg _ (by omega)
    have hml : x % 2 ^ (8 * n) < 2 ^ (8 * n) := Int.emod_lt_of_pos _ hp
    have key : ∀ (m : Nat), m ≤ n → leb m (x % 2 ^ (8 * n)) = leb m x := by
      intro m hm
      unfold leb
      apply List.map_congr_left
      intro i hi
      have hi' : i < n := by have := List.mem_range.1 hi; omega
      have e1 : (2 : Int) ^ (8 * n) = 2 ^ (8 * i) * (256 * 2 ^ (8 * (n - i - 1))) := by
        rw [show (256 : Int) = 2 ^ 8 by decide, ← Int.pow_add, ← Int.pow_add]
        congr 1; omega
      have hpi : (0 : Int) < 2 ^ (8 * i) := Int.pow_pos (by decide)
      rw [e1]
      exact mod_div x _ _ hpi
    have ih := lev_leb n (x % 2 ^ (8 * n)) hm0 hml
    rw [key n (Nat.le_refl _)] at ih
    rw [leb_succ, lev_snoc, ih, leb_length]
    have hq : x / 2 ^ (8 * n) < 256 := by
      apply Int.ediv_lt_of_lt_mul hp
      rw [show 8 * (n + 1) = 8 + 8 * n by omega, Int.pow_add] at h1
      exact h1
    have hq0 : 0 ≤ x / 2 ^ (8 * n) := Int.ediv_nonneg h0 (by omega)
    rw [Int.emod_eq_of_lt hq0 hq]
    have := Int.emod_add_mul_ediv x (2 ^ (8 * n))
    rw [Int.mul_comm (x / 2 ^ (8 * n))]
    omega
end Go.Proofs.YtohighedgdlflaaGreatDoor

/- Plain law: Decode of what Encode wrote; of one byte less; of another byte. -/
namespace Go.Proofs.YtohighedgdlflaaGreatDoor
open Go.Proofs.YtohighedgdlflaaGreatDoor.PR
set_option linter.unusedVariables false
set_option linter.unusedSimpArgs false
theorem lev_inj : ∀ (a b : List Int), a.length = b.length → Crc.Bytes a → Crc.Bytes b → lev a = lev b → a = b
  | [], [], _, _, _, _ => rfl
  | [], _ :: _, h, _, _, _ => by simp at h
  | _ :: _, [], h, _, _, _ => by simp at h
  | x :: a, y :: b, h, ha, hb, he => by
    have hx := ha x (by simp)
    have hy := hb y (by simp)
    simp only [lev] at he
    have h1 : x = y := by omega
    have h2 : lev a = lev b := by omega
    rw [h1, lev_inj a b (by simpa using h) (fun z hz => ha z (by simp [hz])) (fun z hz => hb z (by simp [hz])) h2]
theorem set_ne {l : List Int} {k : Nat} {y : Int} (hk : k < l.length) (hy : y ≠ l[k]) : l.set k y ≠ l := by
  intro h
  have h1 : (l.set k y)[k]? = l[k]? := by rw [h]
  rw [List.getElem?_set, if_pos rfl, if_pos hk, List.getElem?_eq_getElem hk] at h1
  exact hy (Option.some.inj h1)
theorem bytes_set {l : List Int} {k : Nat} {y : Int} (h : Crc.Bytes l) (hy : 0 ≤ y ∧ y < 256) : Crc.Bytes (l.set k y) := by
  intro z hz
  rcases List.mem_or_eq_of_mem_set hz with h1 | h1
  · exact h z h1
  · rw [h1]; exact hy
theorem enc_len (l : List S35) : (encBytes l).length = 12 + 22 * l.length := by
  unfold encBytes
  rw [List.length_append, encBody_len, leb_length]; omega
theorem enc_bytes (l : List S35) : Crc.Bytes (encBytes l) := by
  intro z hz
  unfold encBytes at hz
  rcases List.mem_append.1 hz with h | h
  · exact encBody_bytes l z h
  · exact leb_bytes _ _ z h
theorem magic_leb : leb 4 1381256259 = magicL := by decide
theorem enc_take (l : List S35) : (encBytes l).take (8 + 22 * l.length) = encBody l := by
  unfold encBytes
  rw [List.take_append_of_le_length (by rw [encBody_len]; exact Nat.le_refl _), List.take_of_length_le (by rw [encBody_len]; exact Nat.le_refl _)]
theorem enc_drop (l : List S35) : (encBytes l).drop (8 + 22 * l.length) = leb 4 (Crc.crc (encBody l)) := by
  unfold encBytes
  rw [List.drop_append_of_le_length (by rw [encBody_len]; exact Nat.le_refl _), List.drop_of_length_le (by rw [encBody_len]; exact Nat.le_refl _), List.nil_append]
theorem enc_head (l : List S35) : encBytes l = magicL ++ (leb 4 l.length ++ (l.flatMap rowB ++ leb 4 (Crc.crc (encBody l)))) := by
  unfold encBytes encBody
  rw [magic_leb]; simp [List.append_assoc]
theorem magicL_len : magicL.length = 4 := rfl
theorem enc_count (l : List S35) : ((encBytes l).drop 4).take 4 = leb 4 l.length := by
  rw [enc_head, List.drop_append_of_le_length (by rw [magicL_len]; exact Nat.le_refl _), List.drop_of_length_le (by rw [magicL_len]; exact Nat.le_refl _), List.nil_append, List.take_append_of_le_length (by rw [leb_length]; exact Nat.le_refl _), List.take_of_length_le (by rw [leb_length]; exact Nat.le_refl _)]
theorem enc_magic (l : List S35) (i : Nat) (h : i < 4) : badMagic (encBytes l) i = false := by
  unfold badMagic
  rw [enc_head]
  match i, h with
  | 0, _ => rfl
  | 1, _ => rfl
  | 2, _ => rfl
  | 3, _ => rfl
theorem magic_set {bs : List Int} {k : Nat} {y : Int} (i : Nat) (h : i ≠ k) : badMagic (bs.set k y) i = badMagic bs i := by
  unfold badMagic
  simp only [List.getD_eq_getElem?_getD]
  rw [List.getElem?_set, if_neg (by omega)]
theorem count_n (l : List S35) (hl : l.length ≤ 1000000) : lev (leb 4 l.length) = l.length := lev_leb 4 _ (by omega) (by
  have : (2 : Int) ^ (8 * 4) = 4294967296 := by decide
  omega)
theorem sum_n (l : List S35) : lev (leb 4 (Crc.crc (encBody l))) = Crc.crc (encBody l) := by
  have := crc_b (encBody_bytes l)
  have e : (2 : Int) ^ (8 * 4) = 4294967296 := by decide
  exact lev_leb 4 _ this.1 (by omega)
/-- Another byte is told. -/
theorem decode_set (l : List S35) (hl : l.length ≤ 1000000) (k : Nat) (hk : k < (encBytes l).length) (y : Int) (hy : 0 ≤ y ∧ y < 256) (hne : y ≠ (encBytes l)[k]) : ∃ p : Nat, decode ((encBytes l).set k y) = ([], (p : Int)) := by
  have hN := enc_len l
  have hB := enc_bytes l
  have hlen : ((encBytes l).set k y).length = 12 + 22 * l.length := by rw [List.length_set, hN]
  by_cases h4 : k < 4
  · refine ⟨k, decode_bad (k := k) (fun i hi => by rw [magic_set i (by omega)]; exact enc_magic l i (by omega)) ?_ h4⟩
    have h0 := enc_magic l k h4
    rw [badMagic_at (by rw [List.length_set]; exact hk)]
    rw [badMagic_at hk] at h0
    rw [List.getD_eq_getElem?_getD, List.getElem?_eq_getElem hk] at h0
    rw [List.getD_eq_getElem?_getD, List.getElem?_set, if_pos rfl, if_pos hk]
    simp only [Option.getD_some, bne_eq_false_iff_eq] at h0
    simp only [Option.getD_some]
    rw [bne_iff_ne, ← h0]
    exact hne
  · rw [decode_good (fun i hi => by rw [magic_set i (by omega)]; exact enc_magic l i hi)]
    unfold decBody
    rw [hlen, if_neg (by omega)]
    by_cases hc : (((12 + 22 * l.length : Nat) : Int) ≠ 12 + 22 * lev ((((encBytes l).set k y).drop 4).take 4) ∨ lev ((((encBytes l).set k y).drop 4).take 4) > 1000000)
    · rw [if_pos hc]; exact ⟨4, rfl⟩
    · rw [if_neg hc]
      have h8 : ¬ k < 8 := by
        intro h8
        have e : (((encBytes l).set k y).drop 4).take 4 = (leb 4 l.length).set (k - 4) y := by
          rw [List.drop_set, if_neg h4, List.take_set, enc_count]
        have hcn : lev ((((encBytes l).set k y).drop 4).take 4) = l.length := by
          by_cases h : lev ((((encBytes l).set k y).drop 4).take 4) = l.length
          · exact h
          · exact absurd (.inl (by omega)) hc
        rw [e] at hcn
        have h1 := lev_inj _ _ (by rw [List.length_set]) (bytes_set (leb_bytes 4 l.length) hy) (leb_bytes 4 l.length) (hcn.trans (count_n l hl).symm)
        refine set_ne (by rw [leb_length]; omega) ?_ h1
        intro h2
        apply hne
        rw [h2]
        have h3 : (leb 4 (l.length : Int))[k - 4]? = (encBytes l)[k]? := by
          rw [← enc_count, List.getElem?_take_of_lt (by omega), List.getElem?_drop]
          congr 1; omega
        rw [List.getElem?_eq_getElem (by rw [leb_length]; omega), List.getElem?_eq_getElem hk] at h3
        exact Option.some.inj h3
      have hs4 : 12 + 22 * l.length - 4 = 8 + 22 * l.length := by omega
      rw [if_pos]
      · exact ⟨_, rfl⟩
      · rw [hs4]
        by_cases hb : k < 8 + 22 * l.length
        · have e1 : (((encBytes l).set k y).drop (8 + 22 * l.length)).take 4 = leb 4 (Crc.crc (encBody l)) := by
            rw [List.drop_set, if_pos hb, enc_drop, List.take_of_length_le (by rw [leb_length]; exact Nat.le_refl _)]
          have e2 : ((encBytes l).set k y).take (8 + 22 * l.length) = (encBody l).set k y := by rw [List.take_set, enc_take]
          rw [e1, e2, sum_n]
          have hkb : k < (encBody l).length := by rw [encBody_len]; exact hb
          have hbk : (encBody l)[k] = (encBytes l)[k] := by
            have h3 : (encBody l)[k]? = (encBytes l)[k]? := by rw [← enc_take, List.getElem?_take_of_lt hb]
            rw [List.getElem?_eq_getElem hkb, List.getElem?_eq_getElem hk] at h3
            exact Option.some.inj h3
          have hbb := encBody_bytes l
          have ea : encBody l = (encBody l).take k ++ (encBody l)[k] :: (encBody l).drop (k + 1) := by
            rw [← List.drop_eq_getElem_cons hkb, List.take_append_drop]
          have eb : (encBody l).set k y = (encBody l).take k ++ y :: (encBody l).drop (k + 1) := List.set_eq_take_append_cons_drop.trans (by rw [if_pos hkb])
          rw [eb]
          have := Crc.crc_ne (pre := (encBody l).take k) (post := (encBody l).drop (k + 1)) (x := (encBody l)[k]) (y := y) (fun z hz => hbb z (List.mem_of_mem_take hz)) (fun z hz => hbb z (List.mem_of_mem_drop hz)) (hbb _ (List.getElem_mem hkb)) hy (by rw [hbk]; exact fun h => hne h.symm)
          rw [← ea] at this
          exact this
        · have e2 : ((encBytes l).set k y).take (8 + 22 * l.length) = encBody l := by
            rw [List.take_set, enc_take, List.set_eq_of_length_le (by rw [encBody_len]; omega)]
          have e1 : (((encBytes l).set k y).drop (8 + 22 * l.length)).take 4 = (leb 4 (Crc.crc (encBody l))).set (k - (8 + 22 * l.length)) y := by
            rw [List.drop_set, if_neg hb, enc_drop, List.take_of_length_le (by rw [List.length_set, leb_length]; exact Nat.le_refl _)]
          rw [e1, e2]
          intro h
          have h1 := lev_inj _ _ (by rw [List.length_set]) (bytes_set (leb_bytes 4 _) hy) (leb_bytes 4 _) (h.trans (sum_n l).symm)
          refine set_ne (by rw [leb_length]; omega) ?_ h1
          intro h2
          apply hne
          rw [h2]
          have h3 : (leb 4 (Crc.crc (encBody l)))[k - (8 + 22 * l.length)]? = (encBytes l)[k]? := by
            rw [← enc_drop, List.getElem?_drop]
            congr 1; omega
          rw [List.getElem?_eq_getElem (by rw [leb_length]; omega), List.getElem?_eq_getElem hk] at h3
          exact Option.some.inj h3
/-- One byte less is told. -/
theorem decode_cut (l : List S35) (hl : l.length ≤ 1000000) : decode ((encBytes l).take (11 + 22 * l.length)) = ([], 4) := by
  have hN := enc_len l
  have hlen : ((encBytes l).take (11 + 22 * l.length)).length = 11 + 22 * l.length := by rw [List.length_take, hN]; omega
  rw [decode_good (fun i hi => by
    have h0 := enc_magic l i hi
    rw [badMagic_at (by omega)] at h0 ⊢
    rw [List.getD_eq_getElem?_getD, List.getElem?_take_of_lt (by omega), ← List.getD_eq_getElem?_getD]
    exact h0)]
  unfold decBody
  rw [hlen]
  by_cases h0 : l.length = 0
  · rw [if_pos (by omega)]
  · rw [if_neg (by omega), if_pos]
    left
    have e : (((encBytes l).take (11 + 22 * l.length)).drop 4).take 4 = leb 4 l.length := by
      rw [List.drop_take, List.take_take, show min 4 (11 + 22 * l.length - 4) = 4 by omega, enc_count]
    rw [e, count_n l hl]
    omega
end Go.Proofs.YtohighedgdlflaaGreatDoor

/- Plain law: Decode of what Encode wrote is what was handed in. -/
namespace Go.Proofs.YtohighedgdlflaaGreatDoor
open Go.Proofs.YtohighedgdlflaaGreatDoor.PR
set_option linter.unusedVariables false
set_option linter.unusedSimpArgs false
theorem pow8 : (2 : Int) ^ (8 * 8) = 18446744073709551616 := by decide
theorem pow4 : (2 : Int) ^ (8 * 4) = 4294967296 := by decide
theorem pow1 : (2 : Int) ^ (8 * 1) = 256 := by decide
theorem cut1 {α : Type} (a b : List α) (n : Nat) (h : a.length = n) : (a ++ b).take n = a := by
  rw [List.take_append_of_le_length (by omega), List.take_of_length_le (by omega)]
theorem cut2 {α : Type} (a b : List α) (n : Nat) (h : a.length = n) : (a ++ b).drop n = b := by
  rw [List.drop_append_of_le_length (by omega), List.drop_of_length_le (by omega), List.nil_append]
theorem rowAt_of {bs rest : List Int} {p : Nat} {o : S35} (h : bs.drop p = rowB o ++ rest) (hm : mayB o = true) (hF : FitsT o) : rowAt bs p = o := by
  obtain ⟨t, cl, q, pc, a, b, rfl, hG⟩ := good_of_may hm hF
  have h1 := hG.t63; have h2 := hG.cl8; have h3 := hG.q7; have h4 := hG.p32; have h5 := hG.a32; have h6 := hG.b32
  have hb : bs.drop p = leb 8 (t : Int) ++ (leb 1 ((cl : Int) % 256) ++ (leb 1 ((q : Int) % 256) ++ (leb 4 (pc : Int) ++ (leb 4 (a : Int) ++ (leb 4 (b : Int) ++ rest))))) := by
    rw [h]; simp [rowB, obN, List.append_assoc]
  have d8 : bs.drop (p + 8) = leb 1 ((cl : Int) % 256) ++ (leb 1 ((q : Int) % 256) ++ (leb 4 (pc : Int) ++ (leb 4 (a : Int) ++ (leb 4 (b : Int) ++ rest)))) := by
    rw [← List.drop_drop, hb, cut2 _ _ 8 (leb_length _ _)]
  have d9 : bs.drop (p + 9) = leb 1 ((q : Int) % 256) ++ (leb 4 (pc : Int) ++ (leb 4 (a : Int) ++ (leb 4 (b : Int) ++ rest))) := by
    rw [show p + 9 = p + 8 + 1 by omega, ← List.drop_drop, d8, cut2 _ _ 1 (leb_length _ _)]
  have d10 : bs.drop (p + 10) = leb 4 (pc : Int) ++ (leb 4 (a : Int) ++ (leb 4 (b : Int) ++ rest)) := by
    rw [show p + 10 = p + 9 + 1 by omega, ← List.drop_drop, d9, cut2 _ _ 1 (leb_length _ _)]
  have d14 : bs.drop (p + 14) = leb 4 (a : Int) ++ (leb 4 (b : Int) ++ rest) := by
    rw [show p + 14 = p + 10 + 4 by omega, ← List.drop_drop, d10, cut2 _ _ 4 (leb_length _ _)]
  have d18 : bs.drop (p + 18) = leb 4 (b : Int) ++ rest := by
    rw [show p + 18 = p + 14 + 4 by omega, ← List.drop_drop, d14, cut2 _ _ 4 (leb_length _ _)]
  unfold rowAt
  have e8 := pow8; have e4 := pow4; have e1 := pow1
  rw [hb, d8, d9, d10, d14, d18, cut1 _ _ 8 (leb_length _ _), cut1 _ _ 1 (leb_length _ _), cut1 _ _ 1 (leb_length _ _), cut1 _ _ 4 (leb_length _ _), cut1 _ _ 4 (leb_length _ _), cut1 _ _ 4 (leb_length _ _)]
  rw [lev_leb 8 t (by omega) (by omega), lev_leb 1 _ (by omega) (by omega), lev_leb 1 _ (by omega) (by omega), lev_leb 4 pc (by omega) (by omega), lev_leb 4 a (by omega) (by omega), lev_leb 4 b (by omega) (by omega)]
  unfold obN
  congr 1 <;> omega
theorem decRows_of (bs rest : List Int) : ∀ (s : List S35) (p : Nat) (acc : List S35), (∀ o ∈ s, mayB o = true) → (∀ o ∈ s, FitsT o) → bs.drop p = s.flatMap rowB ++ rest → decRows bs s.length p acc = (acc ++ s, -1)
  | [], p, acc, _, _, _ => by simp [decRows]
  | o :: s, p, acc, hm, hF, h => by
    have ho : bs.drop p = rowB o ++ (s.flatMap rowB ++ rest) := by rw [h]; simp [List.append_assoc]
    have hr := rowAt_of ho (hm o (by simp)) (hF o (by simp))
    have hd : bs.drop (p + 22) = s.flatMap rowB ++ rest := by rw [← List.drop_drop, ho, cut2 _ _ 22 (rowB_length o)]
    rw [List.length_cons, decRows, hr, if_pos (hm o (by simp)), decRows_of bs rest s (p + 22) (acc ++ [o]) (fun x hx => hm x (by simp [hx])) (fun x hx => hF x (by simp [hx])) hd]
    simp
/-- There and back. -/
theorem decode_enc (l : List S35) (hl : l.length ≤ 1000000) (hm : ∀ o ∈ l, mayB o = true) (hF : ∀ o ∈ l, FitsT o) : decode (encBytes l) = (l, -1) := by
  have hN := enc_len l
  rw [decode_good (fun i hi => enc_magic l i hi)]
  unfold decBody
  rw [hN, if_neg (by omega), enc_count, count_n l hl, if_neg (by omega), if_neg]
  · rw [Int.toNat_natCast]
    have hd : (encBytes l).drop 8 = l.flatMap rowB ++ leb 4 (Crc.crc (encBody l)) := by
      rw [show 8 = 4 + 4 from rfl, ← List.drop_drop, enc_head, cut2 _ _ 4 magicL_len, cut2 _ _ 4 (leb_length _ _)]
    rw [decRows_of (encBytes l) _ l 8 [] hm hF hd]
    rfl
  · rw [show 12 + 22 * l.length - 4 = 8 + 22 * l.length by omega, enc_drop, enc_take, List.take_of_length_le (by rw [leb_length]; exact Nat.le_refl _), sum_n]
    exact fun h => h rfl
end Go.Proofs.YtohighedgdlflaaGreatDoor

/- strings.Split at one byte, as a plain recursion. -/
namespace Go.Proofs.YtohighedgdlflaaGreatDoor
open Go.Lib
def splitC (c : UInt8) : List UInt8 → List (List UInt8)
  | [] => [[]]
  | b :: l => if b = c then [] :: splitC c l else
    match splitC c l with
    | [] => [[b]]
    | p :: ps => (b :: p) :: ps
theorem splitK_splitC (c : UInt8) : ∀ (s : List UInt8), splitK [c] 0 (count s [c]) s = splitC c s
  | [] => by rw [count_miss (by simp [index])]; rfl
  | b :: l => by
    have ih := splitK_splitC c l
    by_cases h : b = c
    · subst h
      have hix : index (b :: l) [b] = 0 := by rw [index]; simp [List.isPrefixOf]
      rw [count_cons_eq, Nat.add_comm, splitK, hix]
      simp [splitC, ih]
    · have hp : ([c] : List UInt8).isPrefixOf (b :: l) = false := by simp [List.isPrefixOf, Ne.symm h]
      have hix : index (b :: l) [c] = if index l [c] == -1 then -1 else index l [c] + 1 := by rw [index, hp]; simp
      rw [count_cons_ne b c l h]
      by_cases hm : index l [c] = -1
      · rw [count_miss hm] at ih ⊢
        rw [splitK] at ih ⊢
        rw [splitC, if_neg h, ← ih]
      · have hge := index_ge l [c]
        obtain ⟨j, hj⟩ : ∃ j : Nat, index l [c] = j := ⟨(index l [c]).toNat, by omega⟩
        have hix' : index (b :: l) [c] = ((j + 1 : Nat) : Int) := by rw [hix, if_neg (fun e => hm (beq_iff_eq.1 e)), hj]; omega
        rw [count_hit (by simp) hj, Nat.add_comm] at ih ⊢
        rw [splitK, hj] at ih
        rw [splitK, hix']
        rw [if_neg (show ¬ ((((j : Nat) : Int) == -1) = true) by simp <;> omega)] at ih
        rw [if_neg (show ¬ ((((j + 1 : Nat) : Int) == -1) = true) by simp <;> omega)]
        rw [splitC, if_neg h, ← ih]
        have e1 : (((j + 1 : Nat) : Int)).toNat = j + 1 := by omega
        have e2 : ((j : Int)).toNat = j := by omega
        rw [e1, e2]
        simp [List.take_succ_cons]
theorem splitC_none (c : UInt8) : ∀ (s : List UInt8), c ∉ s → splitC c s = [s]
  | [], _ => rfl
  | b :: l, h => by
    have h1 : b ≠ c := fun e => h (by simp [e])
    have h2 : c ∉ l := fun e => h (by simp [e])
    rw [splitC, if_neg h1, splitC_none c l h2]
theorem splitC_app (c : UInt8) : ∀ (s r : List UInt8), c ∉ s → splitC c (s ++ c :: r) = s :: splitC c r
  | [], r, _ => by rw [List.nil_append, splitC, if_pos rfl]
  | b :: l, r, h => by
    have h1 : b ≠ c := fun e => h (by simp [e])
    have h2 : c ∉ l := fun e => h (by simp [e])
    rw [List.cons_append, splitC, if_neg h1, splitC_app c l r h2]
/-- A joined row, cut again. -/
theorem splitC_join (c : UInt8) : ∀ (x : List UInt8) (xs : List (List UInt8)), (∀ y ∈ x :: xs, c ∉ y) → splitC c (Lib.join (x :: xs) [c]) = x :: xs
  | x, [], h => by
    rw [Lib.join_one]
    exact splitC_none c x (h x (by simp))
  | x, y :: ys, h => by
    have ih := splitC_join c y ys (fun z hz => h z (by simp at hz ⊢; exact Or.inr hz))
    have : Lib.join (x :: y :: ys) [c] = x ++ c :: Lib.join (y :: ys) [c] := by
      simp [Lib.join_cons, Lib.joinTail]
    rw [this, splitC_app c x _ (h x (by simp)), ih]
theorem splitC_lines (c : UInt8) : ∀ (xs : List (List UInt8)), (∀ y ∈ xs, c ∉ y) → splitC c (xs.flatMap fun x => x ++ [c]) = xs ++ [[]]
  | [], _ => rfl
  | x :: xs, h => by
    have ih := splitC_lines c xs (fun z hz => h z (by simp [hz]))
    rw [List.flatMap_cons, List.append_assoc, List.singleton_append, splitC_app c x _ (h x (by simp)), ih]
    rfl
theorem splitB_splitC (c : UInt8) (s : ByteArray) : (splitB ⟨#[c]⟩ 0 (countB s ⟨#[c]⟩) s).map (·.data.toList) = splitC c s.data.toList := by
  rw [splitB_data]
  exact splitK_splitC c s.data.toList
end Go.Proofs.YtohighedgdlflaaGreatDoor

/- strconv.ParseUint at base 16: eight digits that trace.hex wrote are read. -/
namespace Go.Proofs.YtohighedgdlflaaGreatDoor
open Go.Shelf Go.RowKit Go.Sort Go.Lib Go.Proofs.YtohighedgdlflaaGreatDoorW.PrintWords Go.Proofs.YtohighedgdlflaaGreatDoor.PR
set_option linter.unusedVariables false
set_option linter.unusedSimpArgs false
theorem lower_ok (c : Int) (w : World) : Calls Tryz.prog 151 #[.int .u8 c] w fun e w' => e = .returned (.int .u8 (bits .or .u8 c 32)) ∧ w' = w := by
  go_enter Tryz.func151, Tryz.ntmps151
  go_wp2_with fail
  go_ret
  exact ⟨rfl, rfl⟩
theorem hexDig_lo {d : Nat} (h : d < 10) : ((hexDig d).toNat : Int) = 48 + d := by
  rcases (show d = 0 ∨ d = 1 ∨ d = 2 ∨ d = 3 ∨ d = 4 ∨ d = 5 ∨ d = 6 ∨ d = 7 ∨ d = 8 ∨ d = 9 by omega) with h | h | h | h | h | h | h | h | h | h <;> subst h <;> rfl
theorem hexDig_hi {d : Nat} (h : ¬ d < 10) (h2 : d < 16) : ((hexDig d).toNat : Int) = 87 + d := by
  rcases (show d = 10 ∨ d = 11 ∨ d = 12 ∨ d = 13 ∨ d = 14 ∨ d = 15 by omega) with h | h | h | h | h | h <;> subst h <;> rfl
theorem or_hi {d : Nat} (h : ¬ d < 10) (h2 : d < 16) : bits .or .u8 (87 + (d : Int)) 32 = 87 + d := by
  rcases (show d = 10 ∨ d = 11 ∨ d = 12 ∨ d = 13 ∨ d = 14 ∨ d = 15 by omega) with h | h | h | h | h | h <;> subst h <;> decide
set_option maxHeartbeats 8000000 in
set_option maxRecDepth 100000 in
theorem pu136_ok (n : Nat) (hn : n < 4294967296) (w : World) :
    Calls Tryz.prog 136 #[.string (hexS n), .int .i64 16, .int .i64 32] w fun e w' => e = .returned (.tuple #[.int .u64 n, .nilIface]) ∧ Below w.heap.size w w' := by
  have hemp : (hexS n).toList.isEmpty = false := by
    rw [← decide_eq_emptyBytes]
    exact decide_eq_false (fun h => by have := hexS_size n; rw [h] at this; simp at this)
  have hcv := Lib.run_convert_string_bytes (P := Tryz.prog) w 9 37 5 (hexS n) (u := .string) Tryz.underlying9 Tryz.underlying37 Tryz.underlying5
  have hB : ∀ j, j < 8 → (Lib.bytesWorld w 5 (hexS n)).cell? ⟨w.heap.size, j, none⟩ = some (.int .u8 (hexAt n j).toNat) := fun j hj => by
    rw [Lib.bytesWorld_cell w 5 (hexS n) j (by rw [hexS_size]; omega)]
    simp [hexS, hexL, List.getD, hj]
  have hbl : Below w.heap.size w (Lib.bytesWorld w 5 (hexS n)) := bytesWorld_below w 5 (hexS n)
  obtain ⟨W1, hW1⟩ : ∃ W1, W1 = Lib.bytesWorld w 5 (hexS n) := ⟨_, rfl⟩
  rw [← hW1] at hcv hB hbl
  clear hW1
  have HBl := Lib.hid hbl
  clear hbl
  have hmv : IntKind.u64.wrap (IntKind.u64.wrap 4294967296 - 1) = 4294967295 := by
    rw [IntKind.wrap_u64, IntKind.wrap_u64]
    decide
  have hsz : (hexS n).size = 8 := hexS_size n
  rw [hsz] at hcv
  obtain ⟨s, hs⟩ : ∃ s, s = hexS n := ⟨_, rfl⟩
  rw [← hs] at hcv hemp hsz ⊢
  clear hs
  go_enter Tryz.func136, Tryz.ntmps136
  go_wp2
  go_loop [12, 13, 101] (fun vu vn vi => ∃ (k : Nat) (a : Int), vu = .bool false ∧ vn = .int .u64 a ∧ vi = .int .i64 k ∧ k ≤ 8 ∧ Hid (a = (n / 16 ^ (8 - k) : Nat)))
    (fun _ _ vi => 8 - (RowKit.intOf vi).toNat)
  case atStart => exact ⟨0, 0, rfl, rfl, rfl, by omega, by show (0 : Int) = _; simp; omega⟩
  case round =>
    obtain ⟨k, a, rfl, rfl, rfl, hk, hh⟩ := hrel
    obtain ⟨acc, hacc⟩ : ∃ acc : Nat, acc = n / 16 ^ (8 - k) := ⟨_, rfl⟩
    have ha : a = acc := by rw [hh.out, hacc]
    by_cases hkn : k < 8
    · have hc := hB k hkn
      obtain ⟨d, hd⟩ : ∃ d, d = n / 16 ^ (7 - k) % 16 := ⟨_, rfl⟩
      have hd16 : d < 16 := by omega
      have hnext : acc * 16 + d = n / 16 ^ (8 - (k + 1)) := by
        have h1 := hacc
        rw [show 8 - k = (7 - k) + 1 by omega, Nat.pow_succ, ← Nat.div_div_eq_div_mul] at h1
        rw [show 8 - (k + 1) = 7 - k by omega, h1, hd]
        omega
      have hb32 : acc * 16 + d < 4294967296 := by
        rw [hnext]
        exact Nat.lt_of_le_of_lt (Nat.div_le_self _ _) hn
      have hx : hexAt n k = hexDig d := by unfold hexAt; rw [hd]
      rw [hx] at hc
      have Hnext : Hid (a * 16 + (d : Int) = (n / 16 ^ (8 - (k + 1)) : Nat)) := by
        show a * 16 + (d : Int) = _
        rw [← hnext, ha]; norm_cast
      clear hB hx hnext hd hh
      by_cases hlo : d < 10
      · rw [hexDig_lo hlo] at hc
        have i1 : a * 16 + (d : Int) ≤ 4294967295 := by omega
        have i2 : (0 : Int) ≤ a := by omega
        obtain ⟨e, he⟩ : ∃ e : Int, e = (d : Int) := ⟨_, rfl⟩
        have i3 : (0 : Int) ≤ e := by omega
        have i4 : e ≤ 9 := by omega
        rw [← he] at i1 hc Hnext
        clear hd16 hlo hb32 hacc ha he
        go_wp2_with fail
        refine ⟨⟨k + 1, a * 16 + e, rfl, (by first | rfl | (congr 1; omega)), (by first | rfl | (congr 1; omega)), by omega, Hnext⟩, by simp [RowKit.intOf]; omega⟩
      · rw [hexDig_hi hlo hd16] at hc
        have hor := or_hi hlo hd16
        have i1 : a * 16 + (d : Int) ≤ 4294967295 := by omega
        have i2 : (0 : Int) ≤ a := by omega
        obtain ⟨e, he⟩ : ∃ e : Int, e = (d : Int) := ⟨_, rfl⟩
        have i3 : (10 : Int) ≤ e := by omega
        have i4 : e ≤ 15 := by omega
        rw [← he] at i1 hc Hnext hor
        clear hd16 hlo hb32 hacc ha he
        go_wp2_with fail
        refine (lower_ok _ _).mono ?_
        rw [hor]
        rintro e' w' ⟨rfl, rfl⟩
        go_wp2_with fail
        refine (lower_ok _ _).mono ?_
        rw [hor]
        rintro e' w' ⟨rfl, rfl⟩
        go_wp2_with fail
        refine (lower_ok _ _).mono ?_
        rw [hor]
        rintro e' w' ⟨rfl, rfl⟩
        go_wp2_with fail
        refine ⟨⟨k + 1, a * 16 + e, rfl, (by first | rfl | (congr 1; omega)), (by first | rfl | (congr 1; omega)), by omega, Hnext⟩, by simp [RowKit.intOf]; omega⟩
    · obtain rfl : k = 8 := by omega
      have hacc2 : a = n := by rw [hh.out]; simp
      subst hacc2
      go_wp2
      go_ret2
      exact ⟨rfl, HBl.out⟩
theorem pu110_ok (n : Nat) (hn : n < 4294967296) (w : World) :
    Calls Tryz.prog 110 #[.string (hexS n), .int .i64 16, .int .i64 32] w fun e w' => e = .returned (.tuple #[.int .u64 n, .nilIface]) ∧ Below w.heap.size w w' := by
  have hn2 : (n : Int) < 4294967296 := by omega
  go_enter Tryz.func110, Tryz.ntmps110
  go_wp2_with fail
  refine (pu136_ok n hn _).mono ?_
  rintro e w1 ⟨rfl, hb⟩
  have HB := Lib.hid hb
  clear hb
  go_wp2_with fail
  refine bodyPost_ret (results_tmp2 rfl _ _ _) rfl ?_
  exact ⟨rfl, HB.out⟩
theorem must_ok (w : World) : Calls Tryz.prog 75 #[.bool true] w fun e w' => e = .returned (.tuple #[]) ∧ w' = w := by
  go_enter Tryz.func75, Tryz.ntmps75
  go_wp2_with fail
  go_end0
  exact ⟨rfl, rfl⟩
abbrev digitS : ByteArray := ⟨#[48, 49, 50, 51, 52, 53, 54, 55, 56, 57, 97, 98, 99, 100, 101, 102]⟩
theorem dw_nil {α : Type} (p : α → Bool) (l : List α) (h : ∀ b ∈ l, p b = true) : l.dropWhile p = [] := by
  induction l with
  | nil => rfl
  | cons x l ih => rw [List.dropWhile_cons, if_pos (h x (by simp))]; exact ih (fun b hb => h b (by simp [hb]))
theorem trim_hex (n : Nat) : Lib.trimS (hexS n).data.toList digitS.data.toList = [] := by
  have hall : ∀ b ∈ (hexL n).reverse, digitS.data.toList.contains b = true := by
    intro b hb
    rw [List.mem_reverse] at hb
    simp only [hexL, List.mem_map] at hb
    obtain ⟨j, _, rfl⟩ := hb
    have hd : n / 16 ^ (7 - j) % 16 < 16 := by omega
    unfold hexAt
    generalize n / 16 ^ (7 - j) % 16 = d at hd
    rcases (show d = 0 ∨ d = 1 ∨ d = 2 ∨ d = 3 ∨ d = 4 ∨ d = 5 ∨ d = 6 ∨ d = 7 ∨ d = 8 ∨ d = 9 ∨ d = 10 ∨ d = 11 ∨ d = 12 ∨ d = 13 ∨ d = 14 ∨ d = 15 by omega) with h | h | h | h | h | h | h | h | h | h | h | h | h | h | h | h <;> subst h <;> decide
  have h2 : (hexL n).reverse.dropWhile (digitS.data.toList.contains ·) = [] := by
    exact dw_nil _ _ hall
  unfold Lib.trimS Lib.trimRightS Lib.trimLeftS
  rw [show (hexS n).data.toList = hexL n by simp [hexS], h2]
  rfl
theorem unhex_ok (n : Nat) (hn : n < 4294967296) (w : World) :
    Calls Tryz.prog 76 #[.string (hexS n)] w fun e w' => e = .returned (.int .u32 n) ∧ Below w.heap.size w w' := by
  have hn2 : (n : Int) < 4294967296 := by omega
  have hsz : (hexS n).size = 8 := hexS_size n
  go_enter Tryz.func76, Tryz.ntmps76
  go_wp2_with fail
  refine (Tryz.strings_Trim_laid (hexS n) digitS _ (by rw [hsz]; omega) (by decide) (ascii_of_all (by decide))).mono ?_
  rintro e w1 ⟨rfl, hb⟩
  rw [trim_hex]
  have HB := Lib.hid hb
  clear hb
  go_wp2_with fail
  refine (must_ok _).mono ?_
  rintro e w2 ⟨rfl, rfl⟩
  go_wp2_with fail
  refine (pu110_ok n hn _).mono ?_
  rintro e w3 ⟨rfl, hb⟩
  have HB3 := Lib.hid (HB.out.trans (hb.mono HB.out.size))
  clear hb
  go_wp2_with fail
  go_ret
  exact ⟨rfl, HB3.out⟩
end Go.Proofs.YtohighedgdlflaaGreatDoor

/- trace.cutLeft at digits alone: nothing is left. -/
namespace Go.Proofs.YtohighedgdlflaaGreatDoor
open Go.Shelf Go.RowKit Go.Sort Go.Lib Go.Proofs.YtohighedgdlflaaGreatDoorW.PrintWords Go.Proofs.YtohighedgdlflaaGreatDoor.PR
set_option linter.unusedVariables false
set_option linter.unusedSimpArgs false
/-- A string of digits. -/
def Digits (s : ByteArray) : Prop := ∀ (j : Nat) (h : j < s.size), 48 ≤ (s[j]'h).toNat ∧ (s[j]'h).toNat < 58
abbrev tenS : ByteArray := ⟨#[48, 49, 50, 51, 52, 53, 54, 55, 56, 57]⟩
theorem tenS_at (q : Nat) (h : q < tenS.size) : (tenS[q]'h).toNat = 48 + q := by
  have h10 : q < 10 := h
  rcases (show q = 0 ∨ q = 1 ∨ q = 2 ∨ q = 3 ∨ q = 4 ∨ q = 5 ∨ q = 6 ∨ q = 7 ∨ q = 8 ∨ q = 9 by omega) with h | h | h | h | h | h | h | h | h | h <;> subst h <;> rfl
theorem iterPos_of {w : World} {k : Nat} {s : ByteArray} {p : Nat} (h : w.heap[k]? = some (.stringIter s p)) : w.iterPos k = p := by simp [World.iterPos, h]
set_option maxHeartbeats 8000000 in
set_option maxRecDepth 100000 in
theorem cutLeft_ok (s : ByteArray) (hs : Digits s) (w : World) :
    Calls Tryz.prog 112 #[.string s, .string tenS] w fun e w' => e = .returned (.string ⟨#[]⟩) ∧ Below w.heap.size w w' := by
  have HS := Lib.hid hs
  clear hs
  go_enter Tryz.func112, Tryz.ntmps112
  go_wp2_with fail
  go_loopw [5, 6, 7, 9] (fun v5 v6 v7 v9 wr => ∃ pos : Nat, pos ≤ s.size ∧ Hid (wr.heap[w.heap.size]? = some (.stringIter s pos)) ∧ Hid (Below w.heap.size w wr)) (fun _ _ _ _ wr => s.size - wr.iterPos w.heap.size)
  case atStart => exact ⟨0, by omega, World.iter_heap _ _ _, below_alloc (Below.refl _ _) _⟩
  case round =>
    obtain ⟨pos, hpos, HI, HB⟩ := hrel
    have hpos0 := iterPos_of HI.out
    by_cases hlt : pos < s.size
    · obtain ⟨hd1, hd2⟩ := HS.out pos hlt
      have hn := fun ty => run_next_ascii_at (P := Tryz.prog) wr w.heap.size s pos ty HI.out hlt (by omega)
      obtain ⟨d, hd⟩ : ∃ d : Nat, (s[pos]'hlt).toNat = 48 + d := ⟨(s[pos]'hlt).toNat - 48, by omega⟩
      rw [hd] at hn
      have hd10 : d < 10 := by omega
      have HI1 : Hid ((wr.iterAt w.heap.size s (pos + 1)).heap[w.heap.size]? = some (.stringIter s (pos + 1))) := iterAt_heap _ _ _ _ _ HI.out
      have HB1 : Hid (Below w.heap.size w (wr.iterAt w.heap.size s (pos + 1))) := below_iterAt HB.out (Nat.le_refl _) _ _
      obtain ⟨W1, hW1⟩ : ∃ W1, W1 = wr.iterAt w.heap.size s (pos + 1) := ⟨_, rfl⟩
      rw [← hW1] at hn HI1 HB1
      clear hd hd1 hd2 hW1 HI HB
      go_wp2_with fail
      go_loopw [7, 9] (fun v7 v9 wr => ∃ q : Nat, q ≤ 10 ∧ v7 = .bool (decide (d < q)) ∧ Hid (wr.heap[W1.heap.size]? = some (.stringIter tenS q)) ∧ Hid (Below W1.heap.size W1 wr)) (fun _ _ wr => 10 - wr.iterPos W1.heap.size)
      case atStart => exact ⟨0, by omega, by simp, World.iter_heap _ _ _, below_alloc (Below.refl _ _) _⟩
      case round =>
        clear hn
        obtain ⟨q, hq, rfl, HJ, HC⟩ := hrel
        have hq0 := iterPos_of HJ.out
        by_cases hql : q < 10
        · have hn2 := fun ty => run_next_ascii_at (P := Tryz.prog) wr W1.heap.size tenS q ty HJ.out hql (by rw [tenS_at q hql]; omega)
          rw [tenS_at q hql] at hn2
          have HJ1 : Hid ((wr.iterAt W1.heap.size tenS (q + 1)).heap[W1.heap.size]? = some (.stringIter tenS (q + 1))) := iterAt_heap _ _ _ _ _ HJ.out
          have HC1 : Hid (Below W1.heap.size W1 (wr.iterAt W1.heap.size tenS (q + 1))) := below_iterAt HC.out (Nat.le_refl _) _ _
          have hm1 := iterPos_of HJ1.out
          obtain ⟨W3, hW3⟩ : ∃ W3, W3 = wr.iterAt W1.heap.size tenS (q + 1) := ⟨_, rfl⟩
          rw [← hW3] at hn2 HJ1 HC1 hm1
          clear hW3
          by_cases hdq : d < q
          · have hdec : decide (d < q) = true := decide_eq_true hdq
            rw [hdec]
            go_wp2_with fail
            go_roundw
            case rel => exact ⟨q + 1, by omega, by simp; omega, HJ1, HC1⟩
            case measure => rw [hm1, hq0]; omega
          · have hdec : decide (d < q) = false := decide_eq_false hdq
            rw [hdec]
            go_wp2_with fail
            go_roundw
            case rel =>
              refine ⟨q + 1, by omega, ?_, HJ1, HC1⟩
              congr 1
              by_cases hdq2 : d = q
              · subst hdq2; simp
              · have : ¬ (48 + (d : Int)) = 48 + (q : Int) := by omega
                simp [show ¬ d < q + 1 by omega]; omega
            case measure => rw [hm1, hq0]; omega
        · obtain rfl : q = 10 := by omega
          have hn2 := fun ty => run_next_end_at (P := Tryz.prog) wr W1.heap.size tenS 10 ty HJ.out (by decide)
          have hdec : decide (d < 10) = true := decide_eq_true hd10
          rw [hdec]
          have HI2 : Hid (wr.heap[w.heap.size]? = some (.stringIter s (pos + 1))) := by
            show wr.heap[w.heap.size]? = _
            rw [HC.out.block _ (heap_lt' HI1.out)]; exact HI1.out
          have HB2 : Hid (Below w.heap.size w wr) := HB1.out.trans (HC.out.mono HB1.out.size)
          have hm2 := iterPos_of HI2.out
          go_wp2_with fail
          go_roundw
          case rel => exact ⟨pos + 1, by omega, HI2, HB2⟩
          case measure => rw [hm2, hpos0]; omega
    · have hn := fun ty => run_next_end_at (P := Tryz.prog) wr w.heap.size s pos ty HI.out hlt
      go_wp2_with fail
      go_ret
      exact ⟨rfl, HB.out⟩
end Go.Proofs.YtohighedgdlflaaGreatDoor

/- Decimal digits, read again. -/
namespace Go.Proofs.YtohighedgdlflaaGreatDoor
open Go.Shelf Go.RowKit Go.Sort Go.Lib Go.Proofs.YtohighedgdlflaaGreatDoorW.PrintWords Go.Proofs.YtohighedgdlflaaGreatDoor.PR
set_option linter.unusedVariables false
set_option linter.unusedSimpArgs false
theorem pm_append (M : Nat) (ys : List UInt8) : ∀ (xs : List UInt8) (acc v : Nat), Lib.parseUintM M acc xs = .ok v → Lib.parseUintM M acc (xs ++ ys) = Lib.parseUintM M v ys
  | [], acc, v, h => by simp [Lib.parseUintM] at h; subst h; rfl
  | c :: r, acc, v, h => by
    simp only [Lib.parseUintM, List.cons_append] at h ⊢
    split at h
    · split at h
      · cases h
      · split at h
        · cases h
        · rename_i h1 h2 h3
          rw [if_pos h1, if_neg h2, if_neg h3]
          exact pm_append M ys r _ v h
    · cases h
theorem dec_step {u : Nat} (h : ¬ u < 10) : Lib.decDigits u = Lib.decDigits (u / 10) ++ [UInt8.ofNat (48 + u % 10)] := by
  rw [Lib.decDigits, dif_neg h]
theorem dec_small {u : Nat} (h : u < 10) : Lib.decDigits u = [UInt8.ofNat (48 + u)] := by
  rw [Lib.decDigits, dif_pos h]
theorem pm_dec : ∀ (u : Nat), u < 18446744073709551616 → Lib.parseUintM 18446744073709551615 0 (Lib.decDigits u) = .ok u := by
  intro u
  induction u using Nat.strongRecOn with
  | ind u ih =>
    intro hu
    by_cases h : u < 10
    · rw [dec_small h]
      have hc : (UInt8.ofNat (48 + u)).toNat = 48 + u := by simp; omega
      simp only [Lib.parseUintM, hc]
      rw [if_pos (by omega), if_neg (by omega), if_neg (by omega)]
      congr 1; omega
    · rw [dec_step h, pm_append _ _ _ _ _ (ih (u / 10) (by omega) (by omega))]
      have hc : (UInt8.ofNat (48 + u % 10)).toNat = 48 + u % 10 := by simp; omega
      simp only [Lib.parseUintM, hc]
      rw [if_pos (by omega), if_neg (by omega), if_neg (by omega)]
      congr 1; omega
theorem dec_ne (u : Nat) : Lib.decDigits u ≠ [] := by
  intro h
  have := Lib.decDigits_length u
  rw [h] at this
  have := Lib.nDigits_pos u
  simp at *; omega
theorem pb_dec (u : Nat) (hu : u < 18446744073709551616) : Lib.parseUintB 64 (decS u).data.toList = .ok u := by
  unfold Lib.parseUintB
  rw [show (decS u).data.toList = Lib.decDigits u by simp [decS], if_neg (dec_ne u)]
  exact pm_dec u hu
theorem u8n {k : Nat} (h : k < 256) : (UInt8.ofNat k).toNat = k := by simp; omega
theorem dec_mem : ∀ (u : Nat), ∀ b ∈ Lib.decDigits u, 48 ≤ b.toNat ∧ b.toNat < 58 := by
  intro u
  induction u using Nat.strongRecOn with
  | ind u ih =>
    intro b hb
    by_cases h : u < 10
    · rw [dec_small h] at hb
      rw [List.mem_singleton] at hb
      rw [hb, u8n (by omega)]; omega
    · rw [dec_step h] at hb
      rcases List.mem_append.1 hb with h1 | h1
      · exact ih (u / 10) (by omega) b h1
      · rw [List.mem_singleton] at h1
        rw [h1, u8n (by omega)]; omega
theorem dec_head : ∀ (u : Nat), u ≠ 0 → ∀ c, (Lib.decDigits u)[0]? = some c → c.toNat ≠ 48 := by
  intro u
  induction u using Nat.strongRecOn with
  | ind u ih =>
    intro hu c hc
    by_cases h : u < 10
    · rw [dec_small h] at hc
      simp only [List.getElem?_cons_zero, Option.some.injEq] at hc
      rw [← hc, u8n (by omega)]; omega
    · rw [dec_step h, List.getElem?_append_left (by rw [Lib.decDigits_length]; exact Lib.nDigits_pos _)] at hc
      exact ih (u / 10) (by omega) (by omega) c hc
theorem dec_digits (u : Nat) : Digits (decS u) := by
  intro j h
  have : (decS u)[j]'h ∈ Lib.decDigits u := by
    have h2 : j < (Lib.decDigits u).length := by rw [Lib.decDigits_length, ← decS_size]; exact h
    have h3 : (decS u)[j]'h = (Lib.decDigits u)[j] := rfl
    rw [h3]; exact List.getElem_mem h2
  exact dec_mem u _ this
theorem cutRight_ok (w : World) : Calls Tryz.prog 111 #[.string ⟨#[]⟩, .string tenS] w fun e w' => e = .returned (.string ⟨#[]⟩) ∧ w' = w := by
  go_enter Tryz.func111, Tryz.ntmps111
  go_wp2_with fail
  go_loop [0] (fun v0 => v0 = .string ⟨#[]⟩) (fun _ => 0)
  case atStart => rfl
  case round =>
    obtain rfl := hrel
    go_wp2_with fail
    go_ret
    exact ⟨rfl, rfl⟩
theorem decimal_0 (m : Nat) (w : World) :
    Calls Tryz.prog 79 #[.string ⟨#[48]⟩, .int .u64 m] w fun e w' => e = .returned (.int .u64 0) ∧ Below w.heap.size w w' := by
  have HSZ : Hid ((⟨#[48]⟩ : ByteArray).size = 1) := rfl
  have HD : Hid (Digits ⟨#[48]⟩) := by
    intro j h
    obtain rfl : j = 0 := by have : j < 1 := h; omega
    have h48 : ((⟨#[48]⟩ : ByteArray)[0]'h) = 48 := rfl
    rw [h48]; decide
  have HP : Hid (Lib.parseUintB 64 (⟨#[48]⟩ : ByteArray).data.toList = .ok 0) := by
    have := pb_dec 0 (by decide)
    rwa [show decS 0 = ⟨#[48]⟩ by unfold decS; rw [dec_small (by decide)]; rfl] at this
  have hm : (0 : Int) ≤ m := by omega
  have hslc : ∀ W : World, (Instr.slice 9 (.string digitS) none (some (.int .i64 10)) none).run Tryz.prog W = .ok (.string tenS) W := fun W => by kernel_rfl
  have HB0 := Lib.hid (Below.refl w.heap.size w)
  go_enter Tryz.func79, Tryz.ntmps79
  go_wp2_with fail
  go_region_held3 (fun W => Hid (Below w.heap.size w W))
    (first
      | exact HB0
      | exact Lib.hid (below_drew HB0.out)
      | exact HB5)
    (first
      | (go_at_call 112; with_reducible refine (cutLeft_ok _ HD.out _).mono ?_; rintro e w5 ⟨rfl, hb5⟩; have HB5 := Lib.hid ((below_drew HB0.out).trans (hb5.mono (by simp))))
      | (go_at_call 111; with_reducible refine (cutRight_ok _).mono ?_; rintro e w6 ⟨rfl, rfl⟩)
      | (go_at_call 75; with_reducible refine (must_ok _).mono ?_; rintro e w7 ⟨rfl, rfl⟩))
  go_wp2_with fail
  refine (Tryz.strconv_ParseUint_10_at64_ok _ (by first | (rw [HSZ.out]; omega) | decide) _ HP.out _).mono ?_
  rintro e w8 ⟨rfl, hw8⟩
  have HB8 : Hid (Below w.heap.size w w8) := by
    rcases hw8 with rfl | rfl
    · exact HB5
    · exact HB5.out.trans ((bytesWorld_below _ _ _).mono HB5.out.size)
  clear hw8
  go_wp2_with fail
  refine (must_ok _).mono ?_
  rintro e w9 ⟨rfl, rfl⟩
  go_wp2_with fail
  go_ret
  exact ⟨rfl, HB8.out⟩
theorem decimal_ok (u m : Nat) (hu : u < 18446744073709551616) (hm : u ≤ m) (w : World) :
    Calls Tryz.prog 79 #[.string (decS u), .int .u64 m] w fun e w' => e = .returned (.int .u64 u) ∧ Below w.heap.size w w' := by
  by_cases hu0 : u = 0
  · subst hu0
    have := decimal_0 m w
    rwa [show (⟨#[48]⟩ : ByteArray) = decS 0 by unfold decS; rw [dec_small (by decide)]; rfl] at this
  have hsz : (decS u).size = Lib.nDigits u := decS_size u
  have hn1 := Lib.nDigits_pos u
  have hn20 := Lib.nDigits_le20 u hu
  have HSZ := Lib.hid hsz
  have HD := Lib.hid (dec_digits u)
  have HP := Lib.hid (pb_dec u hu)
  have h0 : 0 < (decS u).size := by omega
  have hne : ((((decS u)[0]'h0).toNat : Int) != 48) = true := by
    have h1 := dec_head u hu0 ((decS u)[0]'h0) (by
      have h2 : 0 < (Lib.decDigits u).length := by rw [Lib.decDigits_length]; omega
      rw [List.getElem?_eq_getElem h2]; rfl)
    simp; omega
  have hemp : (decS u).toList.isEmpty = false := by
    rw [← decide_eq_emptyBytes]
    exact decide_eq_false (fun h => by rw [h] at hsz; simp at hsz; omega)
  have hs1 : 0 < (decS u).size := h0
  generalize decS u = s at *
  have hm2 : (u : Int) ≤ m := by omega
  clear hsz hm hu
  have hslc : ∀ W : World, (Instr.slice 9 (.string digitS) none (some (.int .i64 10)) none).run Tryz.prog W = .ok (.string tenS) W := fun W => by kernel_rfl
  have HB0 := Lib.hid (Below.refl w.heap.size w)
  go_enter Tryz.func79, Tryz.ntmps79
  go_wp2_with fail
  have cL : ∀ d os, Calls Tryz.prog 112 #[.string s, .string tenS] (grow (redrawn w d) os) fun e w'' => e = .returned (.string ⟨#[]⟩) ∧ ∃ p : Regrown, w'' = grow (redrawn w p.d) p.os := fun d os => Calls.regrown_of (cutLeft_ok s HD.out _)
  have cR : ∀ d os, Calls Tryz.prog 111 #[.string ⟨#[]⟩, .string tenS] (grow (redrawn w d) os) fun e w'' => e = .returned (.string ⟨#[]⟩) ∧ ∃ p : Regrown, w'' = grow (redrawn w p.d) p.os := fun d os => Calls.regrown_of ((cutRight_ok _).mono fun _ _ ⟨h1, h2⟩ => ⟨h1, h2 ▸ Below.refl _ _⟩)
  have cM : ∀ d os, Calls Tryz.prog 75 #[.bool true] (grow (redrawn w d) os) fun e w'' => e = .returned (.tuple #[]) ∧ ∃ p : Regrown, w'' = grow (redrawn w p.d) p.os := fun d os => Calls.regrown_of ((must_ok _).mono fun _ _ ⟨h1, h2⟩ => ⟨h1, h2 ▸ Below.refl _ _⟩)
  refine wp_region_quiet_below (by kernel_rfl) (by kernel_rfl) ?_
  repeat (quiet_step (first | with_reducible exact cL _ _ | with_reducible exact cR _ _ | with_reducible exact cM _ _))
  refine wpQuiet_nil ?_
  intro _ hw'
  obtain ⟨⟨dq, osq⟩, hw''⟩ := hw'
  subst hw''
  have HB5 := Lib.hid (below_regrown w dq osq)
  go_wp2_with fail
  refine (Tryz.strconv_ParseUint_10_at64_ok _ (by first | (rw [HSZ.out]; omega) | decide) _ HP.out _).mono ?_
  rintro e w8 ⟨rfl, hw8⟩
  have HB8 : Hid (Below w.heap.size w w8) := by
    rcases hw8 with rfl | rfl
    · exact HB5
    · exact HB5.out.trans ((bytesWorld_below _ _ _).mono HB5.out.size)
  clear hw8
  go_wp2_with fail
  refine (must_ok _).mono ?_
  rintro e w9 ⟨rfl, rfl⟩
  go_wp2_with fail
  go_ret
  exact ⟨rfl, HB8.out⟩
end Go.Proofs.YtohighedgdlflaaGreatDoor

/- slices.DeleteFunc at Parse's predicate: the empty words go. -/
namespace Go.Proofs.YtohighedgdlflaaGreatDoor
open Go.Shelf Go.RowKit Go.Sort Go.Lib Go.Proofs.YtohighedgdlflaaGreatDoorW.PrintWords Go.Proofs.YtohighedgdlflaaGreatDoor.PR
set_option linter.unusedVariables false
set_option linter.unusedSimpArgs false
def emp (x : ByteArray) : Bool := x.toList.isEmpty
theorem p2_ok (x : ByteArray) (W : World) : FnGives Tryz.prog 67 #[] #[.string x] (.bool (emp x)) W := by
  show Calls Tryz.prog 67 #[.string x] W _
  cases hx : x.toList.isEmpty with
  | true =>
    go_enter Tryz.func67, Tryz.ntmps67
    go_wp2_with fail
    go_ret
    exact ⟨by unfold emp; rw [hx]; rfl, 0, rfl⟩
  | false =>
    go_enter Tryz.func67, Tryz.ntmps67
    go_wp2_with fail
    go_ret
    exact ⟨by unfold emp; rw [hx]; rfl, 0, rfl⟩
theorem del_ok (g cap : Nat) (d : Array ByteArray) (w : World) (hH : Holds Value.string w g 0 d) (hg : g < w.heap.size) (hsz : d.size ≤ 9223372036854775807) (hcap : d.size ≤ cap) :
    Calls Tryz.prog 66 #[.slice (some ⟨g, 0, none⟩) d.size cap, .func (.func 67) #[] #[]] w fun e w' => e = .returned (.slice (some ⟨g, 0, none⟩) (d.toList.filter fun x => !emp x).length cap) ∧ Below g w w' ∧ ∀ (j : Nat) x, (d.toList.filter fun x => !emp x)[j]? = some x → w'.cell? ⟨g, j, none⟩ = some (.string x) := by
  have eg : ∀ args w, (callFunc 67 args).run Tryz.prog w = .ok (.enter 67 args) w := enters_of Tryz.func67 (by kernel_rfl) rfl
  have hcon := AnyE.slices_DeleteFunc Tryz.del66 Value.string (fun _ => rfl) emp 67 #[] eg ByteArray.empty Tryz.zeroValue9 g 0 cap d w
    (fun W x _ => p2_ok x W) (fun n os dk x _ => p2_ok x _) hH hsz hcap
  refine hcon.mono ?_
  rintro e w' ⟨rfl, q, rfl⟩
  obtain ⟨r, hr⟩ : ∃ r, r = (d.toList.filter fun x => !emp x) := ⟨_, rfl⟩
  have hrl : r.length ≤ d.size := by rw [hr]; simpa using List.length_filter_le (fun x => !emp x) d.toList
  rw [← hr]
  refine ⟨rfl, below_putRow (Below.refl _ _) (Nat.le_refl _), fun j x hx => ?_⟩
  have hj : j < r.length := by
    rcases Nat.lt_or_ge j r.length with h' | h'
    · exact h'
    · rw [List.getElem?_eq_none h'] at hx; simp at hx
  have h := cell?_putRow Value.string (Sort.ahead w q) g 0 d (r ++ List.replicate (d.size - r.length) ByteArray.empty).toArray hH (by simp; omega) j (by simp; omega)
  rw [Nat.zero_add] at h
  rw [h]
  congr 2
  rw [getElem!_pos _ j (by simp; omega)]
  have hx2 : r[j] = x := by rw [List.getElem?_eq_getElem hj] at hx; exact Option.some.inj hx
  simp [List.getElem_append_left hj, hx2]
end Go.Proofs.YtohighedgdlflaaGreatDoor

/- The pieces of a text of lines, and what they say. -/
namespace Go.Proofs.YtohighedgdlflaaGreatDoor
open Go.Shelf Go.RowKit Go.Sort Go.Lib Go.Proofs.YtohighedgdlflaaGreatDoorW.PrintWords Go.Proofs.YtohighedgdlflaaGreatDoor.PR
set_option linter.unusedVariables false
set_option linter.unusedSimpArgs false
def pieces (s : ByteArray) : List ByteArray := Lib.splitB ⟨#[10]⟩ 0 (Lib.countB s ⟨#[10]⟩) s
def cutB (s : ByteArray) : List ByteArray := Lib.splitB ⟨#[32]⟩ 0 (Lib.countB s ⟨#[32]⟩) s
def wordsB (s : ByteArray) : List ByteArray := (cutB s).filter fun x => !emp x
def PieceIs (x : ByteArray) (os : List S35) : Prop :=
  (wordsB x = [] ∧ os = []) ∨ ∃ t cl q p a b : Nat, GoodN t cl q p a b ∧ wordsB x = wordsN t cl q p a b ∧ os = [obN t cl q p a b]
theorem splitC_le (c : UInt8) : ∀ (s : List UInt8) (x : List UInt8), x ∈ splitC c s → x.length ≤ s.length
  | [], x, h => by simp [splitC] at h; simp [h]
  | b :: l, x, h => by
    have ih := splitC_le c l
    rw [splitC] at h
    split at h
    · rcases List.mem_cons.1 h with rfl | h
      · simp
      · have := ih x h; simp; omega
    · split at h
      · rename_i heq
        simp at h; subst h; simp
      · rename_i p ps heq
        rcases List.mem_cons.1 h with rfl | h
        · have := ih p (by rw [heq]; simp); simp; omega
        · have := ih x (by rw [heq]; simp [h]); simp; omega
theorem pieces_le {s x : ByteArray} (h : x ∈ pieces s) : x.size ≤ s.size := by
  have h1 : x.data.toList ∈ splitC 10 s.data.toList := by
    rw [← splitB_splitC]
    exact List.mem_map_of_mem h
  have := splitC_le _ _ _ h1
  rw [Lib.size_eq, Lib.size_eq]
  exact this
theorem pieces_len (s : ByteArray) : (pieces s).length = Lib.countB s ⟨#[10]⟩ + 1 := Lib.splitB_all _ (by decide) 0 _ s rfl
theorem cutB_len (s : ByteArray) : (cutB s).length = Lib.countB s ⟨#[32]⟩ + 1 := Lib.splitB_all _ (by decide) 0 _ s rfl
theorem count_small (s sep : ByteArray) (h1 : 1 ≤ sep.size) : Lib.countB s sep ≤ s.size := Lib.countB_le sep h1 _ s (Nat.le_refl _)
/-- A digit stands first. -/
theorem decS_first (t : Nat) : ∃ h : 0 < (decS t).size, ((((decS t)[0]'h).toNat : Int) != 35) = true := by
  have hz : 0 < (decS t).size := by
    rw [decS_size, ← Lib.decDigits_length]
    rw [Lib.decDigits]; split <;> simp
  refine ⟨hz, ?_⟩
  have key : ∀ (u : Nat) c, (Lib.decDigits u)[0]? = some c → 48 ≤ c.toNat := by
    intro u
    induction u using Nat.strongRecOn with
    | _ u ih =>
      intro c hc
      rw [Lib.decDigits] at hc
      split at hc
      · rename_i h
        simp at hc
        rw [← hc]
        rcases (show u = 0 ∨ u = 1 ∨ u = 2 ∨ u = 3 ∨ u = 4 ∨ u = 5 ∨ u = 6 ∨ u = 7 ∨ u = 8 ∨ u = 9 by omega) with h | h | h | h | h | h | h | h | h | h <;> subst h <;> decide
      · rename_i h
        refine ih (u / 10) (by omega) c ?_
        rw [List.getElem?_append_left] at hc
        · exact hc
        · rw [Lib.decDigits]; split <;> simp
  have h1 : (Lib.decDigits t)[0]? = some ((decS t)[0]'hz) := by
    have hl : 0 < (Lib.decDigits t).length := by rw [Lib.decDigits_length, ← decS_size]; exact hz
    rw [List.getElem?_eq_getElem hl]
    congr 1
  have h2 := key t _ h1
  rw [bne_iff_ne]
  omega
end Go.Proofs.YtohighedgdlflaaGreatDoor

/- Plain law: the pieces of a text that was written, and their words. -/
namespace Go.Proofs.YtohighedgdlflaaGreatDoor
open Go.Shelf Go.RowKit Go.Sort Go.Lib Go.Proofs.YtohighedgdlflaaGreatDoorW.PrintWords Go.Proofs.YtohighedgdlflaaGreatDoor.PR
set_option linter.unusedVariables false
set_option linter.unusedSimpArgs false
/-- A word: not empty, no blank, no end of a line. -/
def WordB (w : ByteArray) : Prop := w.data.toList ≠ [] ∧ ∀ c ∈ w.data.toList, c ≠ 10 ∧ c ≠ 32
theorem dec_word (n : Nat) : WordB (decS n) := by
  refine ⟨?_, ?_⟩
  · show Lib.decDigits n ≠ []
    rw [Lib.decDigits]; split <;> simp
  · intro c hc
    have h1 : 48 ≤ c.toNat ∧ c.toNat < 58 := dec_mem n c hc
    constructor <;> (intro h; subst h; revert h1; decide)
theorem hexDig_word (d : Nat) (h : d < 16) : hexDig d ≠ 10 ∧ hexDig d ≠ 32 := by
  rcases (show d = 0 ∨ d = 1 ∨ d = 2 ∨ d = 3 ∨ d = 4 ∨ d = 5 ∨ d = 6 ∨ d = 7 ∨ d = 8 ∨ d = 9 ∨ d = 10 ∨ d = 11 ∨ d = 12 ∨ d = 13 ∨ d = 14 ∨ d = 15 by omega) with h | h | h | h | h | h | h | h | h | h | h | h | h | h | h | h <;> subst h <;> decide
theorem hex_word (n : Nat) : WordB (hexS n) := by
  refine ⟨by simp [hexS, hexL], ?_⟩
  intro c hc
  have h1 : c ∈ hexL n := by simpa [hexS] using hc
  obtain ⟨j, _, rfl⟩ := List.mem_map.1 h1
  exact hexDig_word _ (Nat.mod_lt _ (by decide))
theorem app_word {a b : ByteArray} (ha : WordB a) (hb : WordB b) : WordB (a ++ b) := by
  constructor
  · rw [ByteArray.data_append, Array.toList_append]
    intro h
    exact ha.1 (List.append_eq_nil_iff.1 h).1
  · intro c hc
    rw [ByteArray.data_append, Array.toList_append] at hc
    rcases List.mem_append.1 hc with h | h
    · exact ha.2 c h
    · exact hb.2 c h
theorem kind_word (q : Nat) (h1 : 1 ≤ q) (h7 : q ≤ 7) : WordB (kindS.getD q ByteArray.empty) := by
  rcases (show q = 1 ∨ q = 2 ∨ q = 3 ∨ q = 4 ∨ q = 5 ∨ q = 6 ∨ q = 7 by omega) with h | h | h | h | h | h | h <;> subst h <;> exact ⟨by decide, by decide⟩
theorem fault_word (q : Nat) (h1 : 1 ≤ q) (h6 : q ≤ 6) : WordB (faultS.getD q ByteArray.empty) := by
  rcases (show q = 1 ∨ q = 2 ∨ q = 3 ∨ q = 4 ∨ q = 5 ∨ q = 6 by omega) with h | h | h | h | h | h <;> subst h <;> exact ⟨by decide, by decide⟩
theorem words_word {t cl q p a b : Nat} (hG : GoodN t cl q p a b) : ∀ w ∈ wordsN t cl q p a b, WordB w := by
  intro w hw
  unfold wordsN at hw
  rcases List.mem_append.1 hw with h | h
  · simp only [List.mem_cons, List.mem_nil_iff, or_false] at h
    rcases h with rfl | rfl | rfl | rfl
    · exact dec_word _
    · exact dec_word _
    · exact kind_word q hG.q1 hG.q7
    · exact hex_word _
  · have hk3 := hG.k3
    rcases (show q = 1 ∨ q = 2 ∨ q = 3 ∨ q = 4 ∨ q = 5 ∨ q = 6 ∨ q = 7 by have := hG.q1; have := hG.q7; omega) with h1 | h1 | h1 | h1 | h1 | h1 | h1 <;> subst h1 <;> simp [writeN] at h
    · rcases h with rfl | rfl <;> exact hex_word _
    · rcases h with rfl | rfl <;> exact hex_word _
    · rcases h with rfl | rfl
      · exact fault_word a (hk3 rfl).1 (hk3 rfl).2
      · exact hex_word _
    · subst h; exact dec_word _
    · subst h; exact app_word (hex_word _) (hex_word _)
    · subst h; exact hex_word _
theorem join_mem (c : UInt8) : ∀ (xs : List (List UInt8)) (b : UInt8), b ∈ Lib.join xs [c] → b = c ∨ ∃ x ∈ xs, b ∈ x
  | [], b, h => by simp [Lib.join_nil] at h
  | [x], b, h => by rw [Lib.join_one] at h; exact .inr ⟨x, by simp, h⟩
  | x :: y :: ys, b, h => by
    have e : Lib.join (x :: y :: ys) [c] = x ++ c :: Lib.join (y :: ys) [c] := by simp [Lib.join_cons, Lib.joinTail]
    rw [e] at h
    rcases List.mem_append.1 h with h | h
    · exact .inr ⟨x, by simp, h⟩
    · rcases List.mem_cons.1 h with h | h
      · exact .inl h
      · rcases join_mem c (y :: ys) b h with h | ⟨z, hz, h⟩
        · exact .inl h
        · exact .inr ⟨z, by simp at hz ⊢; exact .inr hz, h⟩
theorem map_ba' {xs ys : List ByteArray} (h : xs.map (·.data.toList) = ys.map (·.data.toList)) : xs = ys := by
  induction xs generalizing ys with
  | nil => cases ys with
    | nil => rfl
    | cons y ys => simp at h
  | cons x xs ih => cases ys with
    | nil => simp at h
    | cons y ys =>
      simp only [List.map_cons, List.cons.injEq] at h
      rw [ByteArray.ext (Array.toList_inj.1 h.1), ih h.2]
/-- The words of a line that was written. -/
theorem line_words {t cl q p a b : Nat} (hG : GoodN t cl q p a b) : wordsB (lineZ t cl q p a b) = wordsN t cl q p a b := by
  have hw := words_word hG
  have hc : cutB (lineZ t cl q p a b) = wordsN t cl q p a b := map_ba' (by
    show (Lib.splitB ⟨#[32]⟩ 0 (Lib.countB _ ⟨#[32]⟩) _).map (·.data.toList) = _
    rw [splitB_splitC]
    have hx : ∃ x xs, (wordsN t cl q p a b).map (·.data.toList) = x :: xs := ⟨_, _, rfl⟩
    obtain ⟨x, xs, hx⟩ := hx
    show splitC 32 (Lib.join ((wordsN t cl q p a b).map (·.data.toList)) [32]) = _
    rw [hx]
    refine splitC_join 32 x xs (fun y hy => ?_)
    rw [← hx] at hy
    obtain ⟨w, hw1, rfl⟩ := List.mem_map.1 hy
    exact fun h => (hw w hw1).2 32 h |>.2 rfl)
  unfold wordsB
  rw [hc, List.filter_eq_self]
  intro w hw1
  have h1 := (hw w hw1).1
  have : emp w = false := by
    unfold emp
    rw [← decide_eq_emptyBytes]
    refine decide_eq_false (fun h => h1 ?_)
    rw [h]; rfl
  rw [this]; rfl
theorem line_no10 {t cl q p a b : Nat} (hG : GoodN t cl q p a b) : (10 : UInt8) ∉ (lineZ t cl q p a b).data.toList := by
  intro h
  rcases join_mem 32 _ 10 h with h | ⟨x, hx, h⟩
  · exact absurd h (by decide)
  · obtain ⟨w, hw, rfl⟩ := List.mem_map.1 hx
    exact (words_word hG w hw).2 10 h |>.1 rfl
/-- The pieces of a text that was written: its lines, and an empty one behind them. -/
theorem text_pieces (l : List S35) (hm : ∀ o ∈ l, mayB o = true) (hF : ∀ o ∈ l, FitsT o) : ∃ zs : List ByteArray, pieces (textS l) = zs ++ [⟨#[]⟩] ∧ zs.length = l.length ∧ ∀ (k : Nat) z o, zs[k]? = some z → l[k]? = some o → PieceIs z [o] := by
  have each : ∀ o ∈ l, ∃ z : ByteArray, lineB o = z.data.toList ++ [10] ∧ (10 : UInt8) ∉ z.data.toList ∧ PieceIs z [o] := by
    intro o ho
    obtain ⟨t, cl, q, p, a, b, rfl, hG⟩ := good_of_may (hm o ho) (hF o ho)
    exact ⟨lineZ t cl q p a b, lineB_obN t cl q p a b, line_no10 hG, .inr ⟨t, cl, q, p, a, b, hG, line_words hG, rfl⟩⟩
  have build : ∀ (m : List S35), (∀ o ∈ m, ∃ z : ByteArray, lineB o = z.data.toList ++ [10] ∧ (10 : UInt8) ∉ z.data.toList ∧ PieceIs z [o]) → ∃ zs : List ByteArray, zs.length = m.length ∧ textB m = (zs.map (·.data.toList)).flatMap (fun x => x ++ [10]) ∧ (∀ z ∈ zs, (10 : UInt8) ∉ z.data.toList) ∧ ∀ (k : Nat) z o, zs[k]? = some z → m[k]? = some o → PieceIs z [o] := by
    intro m
    induction m with
    | nil => intro _; exact ⟨[], rfl, rfl, by simp, by simp⟩
    | cons o m ih =>
      intro h
      obtain ⟨z, h1, h2, h3⟩ := h o (by simp)
      obtain ⟨zs, g1, g2, g3, g4⟩ := ih (fun x hx => h x (by simp [hx]))
      refine ⟨z :: zs, by simp [g1], ?_, ?_, ?_⟩
      · have e : textB (o :: m) = lineB o ++ textB m := by simp [textB]
        rw [e, h1, g2]; simp
      · intro y hy
        rcases List.mem_cons.1 hy with rfl | hy
        · exact h2
        · exact g3 y hy
      · intro k y x hy hx
        match k with
        | 0 =>
          simp at hy hx
          subst hy; subst hx
          exact h3
        | k + 1 => exact g4 k y x (by simpa using hy) (by simpa using hx)
  obtain ⟨zs, g1, g2, g3, g4⟩ := build l each
  refine ⟨zs, map_ba' ?_, g1, g4⟩
  show (Lib.splitB ⟨#[10]⟩ 0 (Lib.countB _ ⟨#[10]⟩) _).map (·.data.toList) = _
  rw [splitB_splitC]
  show splitC 10 (textB l) = _
  rw [g2, splitC_lines 10 _ (fun y hy => by
    obtain ⟨z, hz, rfl⟩ := List.mem_map.1 hy
    exact g3 z hz)]
  simp
end Go.Proofs.YtohighedgdlflaaGreatDoor

/- What the calls of package wire's Reader that a trace uses come to. -/
namespace Go.Proofs.YtohighedgdlflaaGreatDoor
open Go.RowKit Go.Proofs.YtohighedgdlflaaGreatDoorW.PrintWords Go.Proofs.YtohighedgdlflaaGreatDoor.PR
set_option linter.unusedVariables false
set_option linter.unusedSimpArgs false
/-- Reader at block g: its bytes (a row of its own), how many have been read, nothing wrong. -/
structure Rd (w : World) (base g gb cap : Nat) (bs : List Int) (at_ : Nat) : Prop where
  mk' ::
  base_g : base ≤ g
  base_gb : base ≤ gb
  le : at_ ≤ bs.length
  small : bs.length ≤ 67108864
  cells : w.heap[g]? = some (.cells #[.slice (some ⟨gb, 0, none⟩) bs.length cap, .int .i64 at_, .int .i64 0, .int .i64 0] 126 (0, 0))
  own : w.ownsRow base 5 1 (.slice (some ⟨gb, 0, none⟩) bs.length cap) bs.length (nums .u8 bs)
theorem Rd.cap_le {w : World} {base g gb cap at_ : Nat} {bs : List Int} (h : Rd w base g gb cap bs at_) : bs.length ≤ cap ∧ cap ≤ 9223372036854775807 := by
  rcases h.own.2 with ⟨h, _⟩ | ⟨g', cap', cur, e, _, _, h1, h2, _⟩
  · cases h
  · injection e with _ _ e; subst e; exact ⟨h1, h2⟩
theorem Rd.byte {w : World} {base g gb cap at_ : Nat} {bs : List Int} (h : Rd w base g gb cap bs at_) (i : Nat) (hi : i < bs.length) : w.cell? ⟨gb, i, none⟩ = some (.int .u8 (bs.getD i 0)) := by
  have := (own_at h.own i (by omega) (by omega)).1
  simpa [rd] using this
set_option maxRecDepth 10000 in
set_option maxHeartbeats 400000 in
theorem next_ok (base g gb cap at_ n : Nat) (bs : List Int) (w : World) (hr : Rd w base g gb cap bs at_) (hn : at_ + n ≤ bs.length) (hn0 : 0 < n) :
    Calls Tryz.prog 95 #[.pointer (some ⟨g, 0, none⟩), .int .i64 n] w fun e w' => e = .returned (.slice (some ⟨gb, at_, none⟩) n (cap - at_)) ∧ ∃ m, w' = (w.setCell ⟨g, 1, none⟩ (.int .i64 ((at_ + n : Nat) : Int))).drewN m := by
  have h0 : w.cell? ⟨g, 0, none⟩ = some (.slice (some ⟨gb, 0, none⟩) bs.length cap) := by simp [World.cell?, hr.cells]
  have h1 : w.cell? ⟨g, 1, none⟩ = some (.int .i64 at_) := by simp [World.cell?, hr.cells]
  have h3 : w.cell? ⟨g, 3, none⟩ = some (.int .i64 0) := by simp [World.cell?, hr.cells]
  have hf : w.frozen? ⟨g, 1, none⟩ = false := by simp [World.frozen?, hr.cells]
  have hs := hr.small
  obtain ⟨hc1, hc2⟩ := hr.cap_le
  have h0' : (w.setCell ⟨g, 1, none⟩ (.int .i64 ((at_ : Int) + n))).cell? ⟨g, 0, none⟩ = some (.slice (some ⟨gb, 0, none⟩) bs.length cap) := by rw [World.cell?_setCell_other _ _ _ _ (by simp)]; exact h0
  have h1' : (w.setCell ⟨g, 1, none⟩ (.int .i64 ((at_ : Int) + n))).cell? ⟨g, 1, none⟩ = some (.int .i64 ((at_ : Int) + n)) := World.cell?_setCell_same' _ _ _ (by rw [h1]; rfl)
  have HR := Lib.hid hr
  clear hr
  go_enter Tryz.func95, Tryz.ntmps95
  go_wp2
  go_quiet (fail)
  go_wp2
  go_quiet (fail)
  go_wp2
  refine bodyPost_ret (results_tmp rfl _ _ _) rfl ?_
  rename_i nq1 _
  refine ⟨?_, nq1 + nq, ?_⟩
  · show Ending.returned (.slice _ (at_ + n - at_) _) = _
    rw [Nat.add_sub_cancel_left]
  · rw [Int.natCast_add]; simp [World.setCell, World.drewN, Nat.add_assoc]
/-- What a read leaves. -/
structure Rk (w w' : World) (base g gb cap : Nat) (bs : List Int) (at_ : Nat) : Prop where
  mk' ::
  rd : Rd w' base g gb cap bs at_
  keep : KeepBut w w' g none
  below : ∀ (B : Nat) (w0 : World), B ≤ g → Below B w0 w → Below B w0 w'
theorem Rd.step {w : World} {base g gb cap at_ n m : Nat} {bs : List Int} (h : Rd w base g gb cap bs at_) (hn : at_ + n ≤ bs.length) : Rk w ((w.setCell ⟨g, 1, none⟩ (.int .i64 ((at_ + n : Nat) : Int))).drewN m) base g gb cap bs (at_ + n) := by
  have hne : gb ≠ g := by
    rintro rfl
    rcases h.own.2 with ⟨h, _⟩ | ⟨g', cap', cur, e, _, hh, _⟩
    · cases h
    · injection e with e _ _; injection e with e; injection e with e; subst e
      rw [h.cells] at hh; injection hh with hh; injection hh with _ hh; cases hh
  refine ⟨⟨h.base_g, h.base_gb, hn, h.small, ?_, ?_⟩, ⟨?_, fun i hi hg _ => ?_⟩, fun B w0 hB hb => ?_⟩
  · show ((w.setCell _ _).heap)[g]? = _
    simp [World.setCell, Array.getElem?_modify, h.cells]
  · refine own_move (w := w) h.own (fun k hk => ?_)
    have : gb = k := by simpa [Value.ownBlock] using hk
    subst this
    exact Below.heap_setCell _ _ _ _ hne
  · simp [World.setCell, World.drewN]
  · exact Below.heap_setCell _ _ _ _ hg
  · exact pw_below_drewN (hb.setCell (p := ⟨g, 1, none⟩) hB _) m
end Go.Proofs.YtohighedgdlflaaGreatDoor
