/- Texts of a proof that TraceWrites holds, for every row of observations, merged in order. -/
import Derived.Test.YtohighedgdlflaaGreatDoorMW1
import Derived.Deep.QuietTactic
import Derived.BigQuiet
import Derived.Laws.EntriesVeiled
import Derived.Deep.RegionHeld3
import Derived.Laws.Strings3
import Derived.Lib.SplitLaws
import Derived.Lib.Join
import Derived.Defers
import Derived.Recover
import Derived.Test.YtohighedgdlflaaGreatDoorPRx3
/- trace.Text writes textS. -/
namespace Go.Proofs.YtohighedgdlflaaGreatDoor
open Go.Shelf Go.RowKit Go.Sort Go.Lib Go.Proofs.YtohighedgdlflaaGreatDoorW.PrintWords Go.Proofs.YtohighedgdlflaaGreatDoor.PR
set_option linter.unusedVariables false
set_option linter.unusedSimpArgs false
/-- Also the Tick is a uint64. -/
def FitsT (o : S35) : Prop := Fits o ∧ 0 ≤ o.f0 ∧ o.f0 < 18446744073709551616
theorem builder_new (w : World) : Lib.IsBuilderF 67 5 w.heap.size w.heap.size [] (w.alloc (.cells #[.pointer none, .slice none 0 0] 67)) :=
  .inl ⟨Nat.le_refl _, .slice none 0 0, blk_new _ _, World.ownsRowF_of (own_nil _ _ _ _), by simp [Value.ownBlock]⟩
theorem builder_below {B b : Nat} {bs : List Value} {W W' : World} (h : Lib.IsBuilderF 67 5 B b bs W) (hb : Below W.heap.size W W') : Lib.IsBuilderF 67 5 B b bs W' := by
  have key : ∀ p, Lib.BuilderAtF 67 5 B b p bs W → Lib.BuilderAtF 67 5 B b p bs W' := by
    rintro p ⟨h1, v, hv, ⟨hl, ho⟩, hne⟩
    refine ⟨h1, v, by rw [hb.block _ (heap_lt' hv)]; exact hv, ⟨hl, ?_⟩, hne⟩
    rcases ho with ho | ⟨g, cap, cur, fz, e, hg, hc, r⟩
    · exact .inl ho
    · exact .inr ⟨g, cap, cur, fz, e, hg, by rw [hb.block _ (heap_lt' hc)]; exact hc, r⟩
  exact h.elim (fun x => .inl (key _ x)) (fun x => .inr (key _ x))
/-- The row of the table that belongs to a kind. -/
theorem frm_row {w : World} {n : Nat} (h : Frm w n) (q : Nat) (hq1 : 1 ≤ q) (hq : q ≤ 7) : ∃ (mw : Nat) (fvw : Array Value) (nw : Int) (mr : Nat) (fvr : Array Value), w.cell? ⟨n + 2, q * 4, none⟩ = some (.string (kindS.getD q ByteArray.empty)) ∧ w.cell? ⟨n + 2, q * 4 + 1, none⟩ = some (.func (.func mw) #[] fvw) ∧ w.cell? ⟨n + 2, q * 4 + 2, none⟩ = some (.int .i64 nw) ∧ w.cell? ⟨n + 2, q * 4 + 3, none⟩ = some (.func (.func mr) #[] fvr) ∧ (formCells (n + 1))[q * 4 + 1]? = some (.func (.func mw) #[] fvw) := by
  rcases (show q = 1 ∨ q = 2 ∨ q = 3 ∨ q = 4 ∨ q = 5 ∨ q = 6 ∨ q = 7 by omega) with h1 | h1 | h1 | h1 | h1 | h1 | h1 <;> subst h1 <;> exact ⟨_, _, _, _, _, by simp only [World.cell?, h.tab]; rfl, by simp only [World.cell?, h.tab]; rfl, by simp only [World.cell?, h.tab]; rfl, by simp only [World.cell?, h.tab]; rfl, rfl⟩
theorem R_fresh {W : World} (base : Nat) (xs : List ByteArray) (hb : base ≤ W.heap.size) {n g : Nat} (hg : g = W.heap.size) (hm : xs.length ≤ 9223372036854775807) {cs : Array Value} (hcs : cs = (xs.map Value.string).toArray) {m : Nat} (hm1 : n = xs.length := by rfl) (hm2 : m = xs.length := by rfl) :
    Kd.string.R 9 (W.alloc (.cells cs 9)) base (fun _ => True) (.slice (some ⟨g, 0, none⟩) n m) xs := by
  subst hg hcs hm1 hm2
  refine Kd.R_of_own (enc := Value.string) (h1 := fun _ => rfl) ?_ (fun _ _ => trivial)
  have h2 := World.ownsRow_lit (base := base) (e := 9) (size := 1) W (xs.map Value.string).toArray xs.length hb (by simpa [maxLen] using hm) (by simp)
  simpa [encs] using h2
/-- The words behind the place, in numbers. -/
def writeN (q a b : Nat) : List ByteArray :=
  if q = 1 ∨ q = 2 then [hexS a, hexS b] else if q = 3 then [faultS.getD a ByteArray.empty, hexS b] else if q = 4 then [decS a] else if q = 5 then [hexS b ++ hexS a] else if q = 7 then [hexS a] else []
theorem writeL_eq {o : S35} {q a b : Nat} (h2 : o.f2 = q) (h4 : o.f4 = a) (h5 : o.f5 = b) : writeL o = writeN q a b := by
  unfold writeL writeN
  rw [h2, h4, h5]
  simp only [Int.toNat_natCast]
  repeat' split
  all_goals first | rfl | omega
theorem fn_inv {m m' : Nat} {f f' : Array Value} (h : some (Value.func (.func m) #[] f) = some (Value.func (.func m') #[] f')) : m' = m ∧ f' = f := by
  injection h with h
  injection h with h1 h2 h3
  injection h1 with h1
  exact ⟨h1.symm, h3.symm⟩
theorem enter_any {n q mw : Nat} {fvw : Array Value} (hq1 : 1 ≤ q) (hq7 : q ≤ 7) (h : (formCells (n + 1))[q * 4 + 1]? = some (.func (.func mw) #[] fvw)) : ∀ args w, (callFunc mw args).run Tryz.prog w = .ok (.enter mw args) w := by
  rcases (show q = 1 ∨ q = 2 ∨ q = 3 ∨ q = 4 ∨ q = 5 ∨ q = 6 ∨ q = 7 by omega) with h1 | h1 | h1 | h1 | h1 | h1 | h1 <;> subst h1
  · obtain ⟨rfl, rfl⟩ := fn_inv (m := 70) (f := #[]) h; exact enters_of Tryz.func70 (by kernel_rfl) rfl
  · obtain ⟨rfl, rfl⟩ := fn_inv (m := 70) (f := #[]) h; exact enters_of Tryz.func70 (by kernel_rfl) rfl
  · obtain ⟨rfl, rfl⟩ := fn_inv (m := 72) (f := #[.pointer (some ⟨n + 1, 0, none⟩)]) h; exact enters_of Tryz.func72 (by kernel_rfl) rfl
  · obtain ⟨rfl, rfl⟩ := fn_inv (m := 77) (f := #[]) h; exact enters_of Tryz.func77 (by kernel_rfl) rfl
  · obtain ⟨rfl, rfl⟩ := fn_inv (m := 80) (f := #[]) h; exact enters_of Tryz.func80 (by kernel_rfl) rfl
  · obtain ⟨rfl, rfl⟩ := fn_inv (m := 82) (f := #[]) h; exact enters_of Tryz.func82 (by kernel_rfl) rfl
  · obtain ⟨rfl, rfl⟩ := fn_inv (m := 84) (f := #[]) h; exact enters_of Tryz.func84 (by kernel_rfl) rfl
theorem write_any {W : World} {n q mw : Nat} {fvw : Array Value} (hF : Frm W n) (t cl p a b : Nat) (hq1 : 1 ≤ q) (hq7 : q ≤ 7) (ha : a < 4294967296) (hb : b < 4294967296) (h3 : q = 3 → a < 7) (h4 : q = 4 → a < 100) (h : (formCells (n + 1))[q * 4 + 1]? = some (.func (.func mw) #[] fvw)) :
    Calls Tryz.prog mw (#[.agg #[.int .u64 t, .int .i64 cl, .int .i64 q, .int .u32 p, .int .u32 a, .int .u32 b]] ++ fvw) W (WrR W (writeN q a b)) := by
  rcases (show q = 1 ∨ q = 2 ∨ q = 3 ∨ q = 4 ∨ q = 5 ∨ q = 6 ∨ q = 7 by omega) with h1 | h1 | h1 | h1 | h1 | h1 | h1 <;> subst h1
  · obtain ⟨rfl, rfl⟩ := fn_inv (m := 70) (f := #[]) h
    rw [show (#[Value.agg #[.int .u64 t, .int .i64 cl, .int .i64 ((1 : Nat) : Int), .int .u32 p, .int .u32 a, .int .u32 b]] ++ (#[] : Array Value)) = #[Value.agg #[.int .u64 t, .int .i64 cl, .int .i64 ((1 : Nat) : Int), .int .u32 p, .int .u32 a, .int .u32 b]] from rfl, show writeN 1 a b = [hexS a, hexS b] from rfl]
    exact w70_ok _ _ _ _ a b ha hb W
  · obtain ⟨rfl, rfl⟩ := fn_inv (m := 70) (f := #[]) h
    rw [show (#[Value.agg #[.int .u64 t, .int .i64 cl, .int .i64 ((2 : Nat) : Int), .int .u32 p, .int .u32 a, .int .u32 b]] ++ (#[] : Array Value)) = #[Value.agg #[.int .u64 t, .int .i64 cl, .int .i64 ((2 : Nat) : Int), .int .u32 p, .int .u32 a, .int .u32 b]] from rfl, show writeN 2 a b = [hexS a, hexS b] from rfl]
    exact w70_ok _ _ _ _ a b ha hb W
  · obtain ⟨rfl, rfl⟩ := fn_inv (m := 72) (f := #[.pointer (some ⟨n + 1, 0, none⟩)]) h
    rw [show (#[Value.agg #[.int .u64 t, .int .i64 cl, .int .i64 ((3 : Nat) : Int), .int .u32 p, .int .u32 a, .int .u32 b]] ++ (#[.pointer (some ⟨n + 1, 0, none⟩)] : Array Value)) = #[Value.agg #[.int .u64 t, .int .i64 cl, .int .i64 ((3 : Nat) : Int), .int .u32 p, .int .u32 a, .int .u32 b], .pointer (some ⟨n + 1, 0, none⟩)] from rfl, show writeN 3 a b = [faultS.getD a ByteArray.empty, hexS b] from rfl]
    exact w72_ok _ _ _ _ a b n (h3 rfl) hb W hF
  · obtain ⟨rfl, rfl⟩ := fn_inv (m := 77) (f := #[]) h
    rw [show (#[Value.agg #[.int .u64 t, .int .i64 cl, .int .i64 ((4 : Nat) : Int), .int .u32 p, .int .u32 a, .int .u32 b]] ++ (#[] : Array Value)) = #[Value.agg #[.int .u64 t, .int .i64 cl, .int .i64 ((4 : Nat) : Int), .int .u32 p, .int .u32 a, .int .u32 b]] from rfl, show writeN 4 a b = [⟨(Lib.decDigits a).toArray⟩] from rfl]
    exact w77_ok _ _ _ _ a b (h4 rfl) W
  · obtain ⟨rfl, rfl⟩ := fn_inv (m := 80) (f := #[]) h
    rw [show (#[Value.agg #[.int .u64 t, .int .i64 cl, .int .i64 ((5 : Nat) : Int), .int .u32 p, .int .u32 a, .int .u32 b]] ++ (#[] : Array Value)) = #[Value.agg #[.int .u64 t, .int .i64 cl, .int .i64 ((5 : Nat) : Int), .int .u32 p, .int .u32 a, .int .u32 b]] from rfl, show writeN 5 a b = [hexS b ++ hexS a] from rfl]
    exact w80_ok _ _ _ _ a b ha hb W
  · obtain ⟨rfl, rfl⟩ := fn_inv (m := 82) (f := #[]) h
    rw [show (#[Value.agg #[.int .u64 t, .int .i64 cl, .int .i64 ((6 : Nat) : Int), .int .u32 p, .int .u32 a, .int .u32 b]] ++ (#[] : Array Value)) = #[Value.agg #[.int .u64 t, .int .i64 cl, .int .i64 ((6 : Nat) : Int), .int .u32 p, .int .u32 a, .int .u32 b]] from rfl, show writeN 6 a b = [] from rfl]
    exact w82_ok _ _ _ _ a b W
  · obtain ⟨rfl, rfl⟩ := fn_inv (m := 84) (f := #[]) h
    rw [show (#[Value.agg #[.int .u64 t, .int .i64 cl, .int .i64 ((7 : Nat) : Int), .int .u32 p, .int .u32 a, .int .u32 b]] ++ (#[] : Array Value)) = #[Value.agg #[.int .u64 t, .int .i64 cl, .int .i64 ((7 : Nat) : Int), .int .u32 p, .int .u32 a, .int .u32 b]] from rfl, show writeN 7 a b = [hexS a] from rfl]
    exact w84_ok _ _ _ _ a b ha W
theorem R_cells {w : World} {base : Nat} {ok : Nat → Prop} {v : Value} {xs : List ByteArray} (h : Kd.string.R 9 w base ok v xs) (hn : 0 < xs.length) : ∃ g cap, v = .slice (some ⟨g, 0, none⟩) xs.length cap ∧ xs.length ≤ cap ∧ g < w.heap.size ∧ ∀ (j : Nat) x, xs[j]? = some x → w.cell? ⟨g, 0 + j, none⟩ = some (.string x) := by
  obtain ⟨_, ⟨_, h0⟩ | ⟨g, cap, cur, hv, hg, hb, hcap, hmx, hsz, htake⟩⟩ := Kd.own_of_R (enc := Value.string) (h1 := fun _ => rfl) h
  · omega
  · refine ⟨g, cap, hv, hcap, heap_lt' hb, fun j x hx => ?_⟩
    have hj : j < xs.length := by
      rcases Nat.lt_or_ge j xs.length with h' | h'
      · exact h'
      · rw [List.getElem?_eq_none h'] at hx; simp at hx
    have h2 : (cur.toList.take (xs.length * 1))[j]? = some (.string x) := by rw [htake]; simp [encs, hx]
    rw [List.getElem?_take_of_lt (by omega)] at h2
    rw [Nat.zero_add]
    simp only [World.cell?, hb]
    simpa using h2
end Go.Proofs.YtohighedgdlflaaGreatDoor

/- The read functions of trace.forms. -/
namespace Go.Proofs.YtohighedgdlflaaGreatDoor
open Go.Shelf Go.RowKit Go.Sort Go.Lib Go.Proofs.YtohighedgdlflaaGreatDoorW.PrintWords Go.Proofs.YtohighedgdlflaaGreatDoor.PR
set_option linter.unusedVariables false
set_option linter.unusedSimpArgs false
/-- The observation's block. -/
def ObN (W : World) (O t cl q p a b : Nat) : Prop := W.heap[O]? = some (.cells #[.int .u64 t, .int .i64 cl, .int .i64 q, .int .u32 p, .int .u32 a, .int .u32 b] 35 (0, 0))
theorem ObN.below {W W' : World} {O t cl q p a b : Nat} (h : ObN W O t cl q p a b) (hb : Below W.heap.size W W') : ObN W' O t cl q p a b := (hb.block O (heap_lt' h)).trans h
theorem ObN.cells {W : World} {O t cl q p a b : Nat} (h : ObN W O t cl q p a b) : W.cell? ⟨O, 0, none⟩ = some (.int .u64 t) ∧ W.cell? ⟨O, 1, none⟩ = some (.int .i64 cl) ∧ W.cell? ⟨O, 2, none⟩ = some (.int .i64 q) ∧ W.cell? ⟨O, 3, none⟩ = some (.int .u32 p) ∧ W.cell? ⟨O, 4, none⟩ = some (.int .u32 a) ∧ W.cell? ⟨O, 5, none⟩ = some (.int .u32 b) := by
  unfold ObN at h
  refine ⟨?_, ?_, ?_, ?_, ?_, ?_⟩ <;> simp [World.cell?, h]
theorem ObN.frozen {W : World} {O t cl q p a b : Nat} (h : ObN W O t cl q p a b) (j : Nat) : W.frozen? ⟨O, j, none⟩ = false := by
  unfold ObN at h
  simp [World.frozen?, h]
theorem ObN.set4 {W : World} {O t cl q p a b : Nat} (h : ObN W O t cl q p a b) (x : Nat) : ObN (W.setCell ⟨O, 4, none⟩ (.int .u32 x)) O t cl q p x b := by
  unfold ObN at *
  rw [heap_setCell_same _ _ _ _ _ _ h]; rfl
theorem ObN.set5 {W : World} {O t cl q p a b : Nat} (h : ObN W O t cl q p a b) (x : Nat) : ObN (W.setCell ⟨O, 5, none⟩ (.int .u32 x)) O t cl q p a x := by
  unfold ObN at *
  rw [heap_setCell_same _ _ _ _ _ _ h]; rfl
def RdR (W : World) (O t cl q p a b : Nat) (e : Ending) (w' : World) : Prop := e = .returned (.tuple #[]) ∧ ObN w' O t cl q p a b ∧ Below O W w'
theorem r83_ok (O t cl q p : Nat) (v : Value) (w : World) (hO : ObN w O t cl q p 0 0) : Calls Tryz.prog 83 #[.pointer (some ⟨O, 0, none⟩), v] w (RdR w O t cl q p 0 0) := by
  go_enter Tryz.func83, Tryz.ntmps83
  go_wp2_with fail
  go_end0
  exact ⟨rfl, hO, Below.refl _ _⟩
set_option maxRecDepth 100000 in
set_option maxHeartbeats 2000000 in
theorem r85_ok (O t cl q p a g c : Nat) (w : World) (ha : a < 4294967296) (hO : ObN w O t cl q p 0 0) (h0 : w.cell? ⟨g, 4, none⟩ = some (.string (hexS a))) :
    Calls Tryz.prog 85 #[.pointer (some ⟨O, 0, none⟩), .slice (some ⟨g, 4, none⟩) 1 c] w (RdR w O t cl q p a 0) := by
  have HO := Lib.hid hO
  go_enter Tryz.func85, Tryz.ntmps85
  go_wp2_with fail
  refine (unhex_ok a ha _).mono ?_
  rintro e w1 ⟨rfl, hb⟩
  have HB := Lib.hid hb
  have HO1 := Lib.hid (hO.below hb)
  obtain ⟨c0, c1, c2, c3, c4, c5⟩ := HO1.out.cells
  have f4 := HO1.out.frozen 4
  have hOlt := heap_lt' hO
  clear hb h0 hO
  go_wp2_with fail
  go_end0
  exact ⟨rfl, HO1.out.set4 a, (HB.out.mono (Nat.le_of_lt hOlt)).setCell (Nat.le_refl _) _⟩
set_option maxRecDepth 100000 in
set_option maxHeartbeats 2000000 in
theorem r78_ok (O t cl q p a g c : Nat) (w : World) (ha : a ≤ 31) (hO : ObN w O t cl q p 0 0) (h0 : w.cell? ⟨g, 4, none⟩ = some (.string (decS a))) :
    Calls Tryz.prog 78 #[.pointer (some ⟨O, 0, none⟩), .slice (some ⟨g, 4, none⟩) 1 c] w (RdR w O t cl q p a 0) := by
  have HO := Lib.hid hO
  go_enter Tryz.func78, Tryz.ntmps78
  go_wp2_with fail
  refine (decimal_ok a 31 (by omega) ha _).mono ?_
  rintro e w1 ⟨rfl, hb⟩
  have HB := Lib.hid hb
  have HO1 := Lib.hid (hO.below hb)
  obtain ⟨c0, c1, c2, c3, c4, c5⟩ := HO1.out.cells
  have f4 := HO1.out.frozen 4
  have hOlt := heap_lt' hO
  have ha2 : (a : Int) ≤ 31 := by omega
  clear hb h0 hO
  go_wp2_with fail
  go_end0
  exact ⟨rfl, HO1.out.set4 a, (HB.out.mono (Nat.le_of_lt hOlt)).setCell (Nat.le_refl _) _⟩
set_option maxRecDepth 100000 in
set_option maxHeartbeats 8000000 in
theorem r71_ok (O t cl q p a b g c : Nat) (w : World) (ha : a < 4294967296) (hb : b < 4294967296) (hO : ObN w O t cl q p 0 0) (h0 : w.cell? ⟨g, 4, none⟩ = some (.string (hexS a))) (h1 : w.cell? ⟨g, 5, none⟩ = some (.string (hexS b))) :
    Calls Tryz.prog 71 #[.pointer (some ⟨O, 0, none⟩), .slice (some ⟨g, 4, none⟩) 2 c] w (RdR w O t cl q p a b) := by
  have hOlt := heap_lt' hO
  have HF : Hid (∀ W, Below w.heap.size w W → W.cell? ⟨g, 4, none⟩ = some (.string (hexS a)) ∧ W.cell? ⟨g, 5, none⟩ = some (.string (hexS b)) ∧ ObN W O t cl q p 0 0) := fun W hW => ⟨cell_later hW h0, cell_later hW h1, hO.below hW⟩
  clear h0 h1 hO
  go_enter Tryz.func71, Tryz.ntmps71
  go_wp2_with fail
  obtain ⟨i0, i1, _⟩ := HF.out _ (Below.refl _ _)
  go_region_with (first
    | (go_at_call 76; with_reducible refine (unhex_ok a ha _).mono ?_; rintro e w5 ⟨rfl, hb5⟩; have HB5 := Lib.hid ((below_drew (Below.refl w.heap.size w)).trans (hb5.mono (by simp))); obtain ⟨d0, d1, d2⟩ := HF.out _ HB5.out; have HD2 := Lib.hid d2; clear hb5 d2)
    | (go_at_call 76; with_reducible refine (unhex_ok b hb _).mono ?_; rintro e w6 ⟨rfl, hb6⟩; have HB6 := Lib.hid (HB5.out.trans (hb6.mono HB5.out.size)); have HD3 := Lib.hid (HD2.out.below hb6); obtain ⟨x0, x1, x2, x3, x4, x5⟩ := HD3.out.cells; have f4 := HD3.out.frozen 4; have f5 := HD3.out.frozen 5; have y5 := (HD3.out.set4 a).cells.2.2.2.2.2; have z5 := (HD3.out.set4 a).frozen 5; clear hb6))
  all_goals
    go_wp2_with fail
    go_end0
    exact ⟨rfl, (HD3.out.set4 a).set5 b, ((HB6.out.mono (Nat.le_of_lt hOlt)).setCell (Nat.le_refl _) _).setCell (Nat.le_refl _) _⟩
end Go.Proofs.YtohighedgdlflaaGreatDoor

/- Two more read functions of trace.forms. -/
namespace Go.Proofs.YtohighedgdlflaaGreatDoor
open Go.Shelf Go.RowKit Go.Sort Go.Lib Go.Proofs.YtohighedgdlflaaGreatDoorW.PrintWords Go.Proofs.YtohighedgdlflaaGreatDoor.PR
set_option linter.unusedVariables false
set_option linter.unusedSimpArgs false
theorem cat_fst (a b : Nat) : (hexS a ++ hexS b).extract 0 8 = hexS a := by
  apply ByteArray.ext
  simp [hexS, hexL]
theorem cat_snd (a b : Nat) : (hexS a ++ hexS b).extract 8 16 = hexS b := by
  apply ByteArray.ext
  simp [hexS, hexL]
  exact List.take_of_length_le (by simp)
set_option maxRecDepth 100000 in
set_option maxHeartbeats 8000000 in
theorem r81_ok (O t cl q p a b g c : Nat) (w : World) (ha : a < 4294967296) (hb : b < 4294967296) (hO : ObN w O t cl q p 0 0) (h0 : w.cell? ⟨g, 4, none⟩ = some (.string (hexS b ++ hexS a))) :
    Calls Tryz.prog 81 #[.pointer (some ⟨O, 0, none⟩), .slice (some ⟨g, 4, none⟩) 1 c] w (RdR w O t cl q p a b) := by
  have hOlt := heap_lt' hO
  obtain ⟨x, hx⟩ : ∃ x, x = hexS b ++ hexS a := ⟨_, rfl⟩
  have hsz : x.size = 16 := by rw [hx, ByteArray.size_append, hexS_size, hexS_size]
  have hs1 : ∀ W : World, (Instr.slice 9 (.string x) none (some (.int .i64 8)) none).run Tryz.prog W = .ok (.string (hexS b)) W := fun W => by
    rw [run_slice_string_to_if W 9 x .i64 8 Tryz.underlying9, if_pos (by rw [hsz]; omega), hx, show (8 : Int).toNat = 8 from rfl, cat_fst]
  have hs2 : ∀ W : World, (Instr.slice 9 (.string x) (some (.int .i64 8)) none none).run Tryz.prog W = .ok (.string (hexS a)) W := fun W => by
    rw [run_slice_string_from_if W 9 x .i64 8 Tryz.underlying9, if_pos (by rw [hsz]; omega), hsz, hx, show (8 : Int).toNat = 8 from rfl, cat_snd]
  rw [← hx] at h0
  have HF : Hid (∀ W, Below w.heap.size w W → W.cell? ⟨g, 4, none⟩ = some (.string x) ∧ ObN W O t cl q p 0 0) := fun W hW => ⟨cell_later hW h0, hO.below hW⟩
  clear h0 hO hx
  go_enter Tryz.func81, Tryz.ntmps81
  obtain ⟨i0, _⟩ := HF.out _ (Below.refl _ _)
  go_wp2_with fail
  refine (must_ok _).mono ?_
  rintro e w1 ⟨rfl, rfl⟩
  go_wp2_with fail
  go_region_with (first
    | (go_at_call 76; with_reducible refine (unhex_ok b hb _).mono ?_; rintro e w5 ⟨rfl, hb5⟩; have HB5 := Lib.hid ((below_drew (Below.refl w1.heap.size w1)).trans (hb5.mono (by simp))); obtain ⟨d0, d2⟩ := HF.out _ HB5.out; have HD2 := Lib.hid d2; clear hb5 d2)
    | (go_at_call 76; with_reducible refine (unhex_ok a ha _).mono ?_; rintro e w6 ⟨rfl, hb6⟩; have HB6 := Lib.hid (HB5.out.trans (hb6.mono HB5.out.size)); have HD3 := Lib.hid (HD2.out.below hb6); obtain ⟨x0, x1, x2, x3, x4, x5⟩ := HD3.out.cells; have f4 := HD3.out.frozen 4; have f5 := HD3.out.frozen 5; have y5 := (HD3.out.set5 b).cells.2.2.2.2.1; have z5 := (HD3.out.set5 b).frozen 4; clear hb6))
  all_goals
    go_wp2_with fail
    go_end0
    exact ⟨rfl, (HD3.out.set5 b).set4 a, ((HB6.out.mono (Nat.le_of_lt hOlt)).setCell (Nat.le_refl _) _).setCell (Nat.le_refl _) _⟩
end Go.Proofs.YtohighedgdlflaaGreatDoor

/- The read function of a fault. -/
namespace Go.Proofs.YtohighedgdlflaaGreatDoor
open Go.Shelf Go.RowKit Go.Sort Go.Lib Go.Proofs.YtohighedgdlflaaGreatDoorW.PrintWords Go.Proofs.YtohighedgdlflaaGreatDoor.PR
set_option linter.unusedVariables false
set_option linter.unusedSimpArgs false
theorem idx_fault (a : Nat) (h1 : 1 ≤ a) (h6 : a ≤ 6) : Lib.idxOfS (faultS.take 7) (faultS.getD a ByteArray.empty) = a := by
  rcases (show a = 1 ∨ a = 2 ∨ a = 3 ∨ a = 4 ∨ a = 5 ∨ a = 6 by omega) with h | h | h | h | h | h <;> subst h <;> decide
set_option maxRecDepth 100000 in
set_option maxHeartbeats 8000000 in
theorem r73_ok (O t cl q p a b g c n : Nat) (w : World) (ha1 : 1 ≤ a) (ha6 : a ≤ 6) (hb : b < 4294967296) (hF : Frm w n) (hO : ObN w O t cl q p 0 0) (h0 : w.cell? ⟨g, 4, none⟩ = some (.string (faultS.getD a ByteArray.empty))) (h1 : w.cell? ⟨g, 5, none⟩ = some (.string (hexS b))) :
    Calls Tryz.prog 73 #[.pointer (some ⟨O, 0, none⟩), .slice (some ⟨g, 4, none⟩) 2 c, .pointer (some ⟨n + 1, 0, none⟩)] w (RdR w O t cl q p a b) := by
  have hOlt := heap_lt' hO
  obtain ⟨x, hx⟩ : ∃ x, x = faultS.getD a ByteArray.empty := ⟨_, rfl⟩
  have hidx : ∀ m, Calls Tryz.prog 74 #[.slice (some ⟨n, 0, none⟩) 7 7, .string x] (w.drewN m) fun e w' => e = .returned (.int .i64 a) ∧ w' = w.drewN m := fun m => by
    have h := Tryz.slices_Index_string n 0 7 7 faultS x (w.drewN m) (by decide) (by decide) (fun j hj => by
      have hj7 : j < 7 := hj
      rw [World.cell?_drewN, Nat.zero_add]
      simp only [World.cell?, hF.names]
      rcases (show j = 0 ∨ j = 1 ∨ j = 2 ∨ j = 3 ∨ j = 4 ∨ j = 5 ∨ j = 6 by omega) with h | h | h | h | h | h | h <;> subst h <;> rfl)
    rwa [hx, idx_fault a ha1 ha6, ← hx] at h
  have hptr : w.cell? ⟨n + 1, 0, none⟩ = some (.slice (some ⟨n, 0, none⟩) 7 7) := by simp [World.cell?, hF.ptr]
  rw [← hx] at h0
  have HF : Hid (∀ W, Below w.heap.size w W → W.cell? ⟨g, 5, none⟩ = some (.string (hexS b)) ∧ ObN W O t cl q p 0 0) := fun W hW => ⟨cell_later hW h1, hO.below hW⟩
  have hap : (0 : Int) < a := by omega
  have haw : (a : Int) < 4294967296 := by omega
  clear hx hF hO
  go_enter Tryz.func73, Tryz.ntmps73
  go_wp2_with fail
  go_quiet ((go_at_call 74; with_reducible exact Calls.quiet_of_same (hidx _)))
  clear hidx hptr h0
  go_wp2_with fail
  rw [show decide (0 < a) = true from decide_eq_true (by omega)]
  refine (must_ok _).mono ?_
  rintro e w1 ⟨rfl, rfl⟩
  go_wp2_with fail
  refine (unhex_ok b hb _).mono ?_
  rintro e w5 ⟨rfl, hb5⟩
  have HB5 := Lib.hid ((pw_below_drewN (Below.refl w.heap.size w) nq).trans (hb5.mono (by simp)))
  obtain ⟨d0, d2⟩ := HF.out _ HB5.out
  have HD2 := Lib.hid d2
  obtain ⟨x0, x1, x2, x3, x4, x5⟩ := HD2.out.cells
  have f4 := HD2.out.frozen 4
  have f5 := HD2.out.frozen 5
  have y5 := (HD2.out.set4 a).cells.2.2.2.2.2
  have z5 := (HD2.out.set4 a).frozen 5
  clear hb5 d2
  go_wp2_with fail
  go_end0
  exact ⟨rfl, (HD2.out.set4 a).set5 b, ((HB5.out.mono (Nat.le_of_lt hOlt)).setCell (Nat.le_refl _) _).setCell (Nat.le_refl _) _⟩
end Go.Proofs.YtohighedgdlflaaGreatDoor

/- slices.IndexFunc over trace.forms: the row of a kind's word. -/
namespace Go.Proofs.YtohighedgdlflaaGreatDoor
open Go.Shelf Go.RowKit Go.Sort Go.Lib Go.Proofs.YtohighedgdlflaaGreatDoorW.PrintWords Go.Proofs.YtohighedgdlflaaGreatDoor.PR
set_option linter.unusedVariables false
set_option linter.unusedSimpArgs false
set_option maxRecDepth 100000 in
set_option maxHeartbeats 2000000 in
theorem p108_0 (Wb g m c : Nat) (w : World) (hs : w.cell? ⟨Wb, 0, none⟩ = some (.slice (some ⟨g, 0, none⟩) m c)) :
    Calls Tryz.prog 108 #[.agg #[.string ⟨#[]⟩, .nilFunc, .int .i64 0, .nilFunc], .pointer (some ⟨Wb, 0, none⟩)] w fun e w' => e = .returned (.bool false) ∧ Below w.heap.size w w' := by
  have hbl := Lib.hid (below_alloc (Below.refl w.heap.size w) (.cells #[.string ⟨#[]⟩, .nilFunc, .int .i64 0, .nilFunc] 74 (0, 0)))
  go_enter Tryz.func108, Tryz.ntmps108
  go_wp2_with fail
  go_quiet (fail)
  go_wp2_with fail
  go_ret
  exact ⟨rfl, pw_below_drewN hbl.out _⟩
set_option maxRecDepth 100000 in
set_option maxHeartbeats 2000000 in
theorem p108_ok (wd x : ByteArray) (mw : Nat) (fvw : Array Value) (nw : Int) (mr : Nat) (fvr : Array Value) (Wb g m c : Nat) (r : Bool) (w : World) (hne : wd.toList.isEmpty = false) (hr : (wd.toList == x.toList) = r) (hm : 2 < m) (hs : w.cell? ⟨Wb, 0, none⟩ = some (.slice (some ⟨g, 0, none⟩) m c)) (hx : w.cell? ⟨g, 2, none⟩ = some (.string x)) :
    Calls Tryz.prog 108 #[.agg #[.string wd, .func (.func mw) #[] fvw, .int .i64 nw, .func (.func mr) #[] fvr], .pointer (some ⟨Wb, 0, none⟩)] w fun e w' => e = .returned (.bool r) ∧ Below w.heap.size w w' := by
  have hbl := Lib.hid (below_alloc (Below.refl w.heap.size w) (.cells #[.string wd, .func (.func mw) #[] fvw, .int .i64 nw, .func (.func mr) #[] fvr] 74 (0, 0)))
  have hm2 : (2 : Int) < m := by omega
  have l1 := block_lt_of_cell hs
  have l2 := block_lt_of_cell hx
  have hs' : (w.alloc (.cells #[.string wd, .func (.func mw) #[] fvw, .int .i64 nw, .func (.func mr) #[] fvr] 74)).cell? ⟨Wb, 0, none⟩ = some (.slice (some ⟨g, 0, none⟩) m c) := cell_later hbl.out hs
  have hx' : (w.alloc (.cells #[.string wd, .func (.func mw) #[] fvw, .int .i64 nw, .func (.func mr) #[] fvr] 74)).cell? ⟨g, 2, none⟩ = some (.string x) := cell_later hbl.out hx
  go_enter Tryz.func108, Tryz.ntmps108
  go_wp2_with fail
  go_quiet (fail)
  go_wp2_with fail
  go_ret
  exact ⟨by rw [← hr]; rfl, pw_below_drewN hbl.out _⟩
theorem kind_ne (k : Nat) (h1 : 1 ≤ k) (h7 : k ≤ 7) : (kindS.getD k ByteArray.empty).toList.isEmpty = false := by
  rcases (show k = 1 ∨ k = 2 ∨ k = 3 ∨ k = 4 ∨ k = 5 ∨ k = 6 ∨ k = 7 by omega) with h | h | h | h | h | h | h <;> subst h <;> kernel_rfl
theorem kind_lt (k q : Nat) (h1 : 1 ≤ k) (hkq : k < q) (h7 : q ≤ 7) : ((kindS.getD k ByteArray.empty).toList == (kindS.getD q ByteArray.empty).toList) = false := by
  rcases (show q = 2 ∨ q = 3 ∨ q = 4 ∨ q = 5 ∨ q = 6 ∨ q = 7 by omega) with h | h | h | h | h | h <;> subst h <;>
    rcases (show k = 1 ∨ k = 2 ∨ k = 3 ∨ k = 4 ∨ k = 5 ∨ k = 6 by omega) with h | h | h | h | h | h <;> subst h <;> first | omega | kernel_rfl
set_option maxRecDepth 100000 in
set_option maxHeartbeats 2000000 in
theorem idxForm_ok (n q Wb g m c : Nat) (w : World) (hF : Frm w n) (hq1 : 1 ≤ q) (hq7 : q ≤ 7) (hm : 2 < m) (hs : w.cell? ⟨Wb, 0, none⟩ = some (.slice (some ⟨g, 0, none⟩) m c)) (hx : w.cell? ⟨g, 2, none⟩ = some (.string (kindS.getD q ByteArray.empty))) :
    Calls Tryz.prog 107 #[.slice (some ⟨n + 2, 0, none⟩) 8 8, .func (.func 108) #[] #[.pointer (some ⟨Wb, 0, none⟩)]] w fun e w' => e = .returned (.int .i64 q) ∧ Below w.heap.size w w' := by
  have HF := Lib.hid hF
  have HS := Lib.hid hs
  have HX := Lib.hid hx
  clear hF hs hx
  go_enter Tryz.func107, Tryz.ntmps107
  go_wp2_with fail
  go_loopw [5, 8] (fun v5 v8 wr => ∃ k : Nat, k ≤ q ∧ v8 = .int .i64 k ∧ Hid (Below w.heap.size w wr)) (fun _ i _ => 8 - (RowKit.intOf i).toNat)
  case atStart => exact ⟨0, by omega, rfl, Below.refl _ _⟩
  case round =>
    obtain ⟨k, hk, rfl, HB⟩ := hrel
    have hk8 : (k : Int) < 8 := by omega
    have HS1 := Lib.hid (cell_later HB.out HS.out)
    have HX1 := Lib.hid (cell_later HB.out HX.out)
    by_cases hk0 : k = 0
    · subst hk0
      have hF := HF.out.below HB.out
      have g0 : wr.cell? ⟨n + 2, 0, none⟩ = some (.string ⟨#[]⟩) := by simp only [World.cell?, hF.tab]; rfl
      have g1 : wr.cell? ⟨n + 2, 1, none⟩ = some .nilFunc := by simp only [World.cell?, hF.tab]; rfl
      have g2 : wr.cell? ⟨n + 2, 2, none⟩ = some (.int .i64 0) := by simp only [World.cell?, hF.tab]; rfl
      have g3 : wr.cell? ⟨n + 2, 3, none⟩ = some .nilFunc := by simp only [World.cell?, hF.tab]; rfl
      clear hF
      go_wp2_with fail
      refine (p108_0 Wb g m c _ HS1.out).mono ?_
      rintro e w1 ⟨rfl, hb⟩
      have HB1 := Lib.hid (HB.out.trans (hb.mono HB.out.size))
      clear hb g0 g1 g2 g3
      go_wp2_with fail
      go_roundw
      case rel => exact ⟨1, by omega, rfl, HB1⟩
      case measure => simp [RowKit.intOf]
    · obtain ⟨mw, fvw, nw, mr, fvr, g0, g1, g2, g3, _⟩ := frm_row (HF.out.below HB.out) k (by omega) (by omega)
      by_cases hkq : k = q
      · subst hkq
        go_wp2_with fail
        refine (p108_ok _ _ mw fvw nw mr fvr Wb g m c true _ (kind_ne k hq1 hq7) (by simp) hm HS1.out HX1.out).mono ?_
        rintro e w1 ⟨rfl, hb⟩
        have HB1 := Lib.hid (HB.out.trans (hb.mono HB.out.size))
        clear hb g0 g1 g2 g3
        go_wp2_with fail
        go_ret
        exact ⟨rfl, HB1.out⟩
      · go_wp2_with fail
        refine (p108_ok _ _ mw fvw nw mr fvr Wb g m c false _ (kind_ne k (by omega) (by omega)) (kind_lt k q (by omega) (by omega) hq7) hm HS1.out HX1.out).mono ?_
        rintro e w1 ⟨rfl, hb⟩
        have HB1 := Lib.hid (HB.out.trans (hb.mono HB.out.size))
        clear hb g0 g1 g2 g3
        go_wp2_with fail
        go_roundw
        case rel => exact ⟨k + 1, by omega, by go_num, HB1⟩
        case measure => simp [RowKit.intOf]; omega
end Go.Proofs.YtohighedgdlflaaGreatDoor

/- The words of an observation that may be, and such numbers. -/
namespace Go.Proofs.YtohighedgdlflaaGreatDoor
open Go.Shelf Go.RowKit Go.Sort Go.Lib Go.Proofs.YtohighedgdlflaaGreatDoorW.PrintWords Go.Proofs.YtohighedgdlflaaGreatDoor.PR
set_option linter.unusedVariables false
set_option linter.unusedSimpArgs false
def wordsN (t cl q p a b : Nat) : List ByteArray := [decS t, decS cl, kindS.getD q ByteArray.empty, hexS p] ++ writeN q a b
/-- What may be, in numbers. -/
structure GoodN (t cl q p a b : Nat) : Prop where
  t63 : t ≤ 9223372036854775807
  cl1 : 1 ≤ cl
  cl8 : cl ≤ 8
  q1 : 1 ≤ q
  q7 : q ≤ 7
  p32 : p < 4294967296
  a32 : a < 4294967296
  b32 : b < 4294967296
  k3 : q = 3 → 1 ≤ a ∧ a ≤ 6
  k4 : q = 4 → a ≤ 31 ∧ b = 0
  k6 : q = 6 → a = 0 ∧ b = 0
  k7 : q = 7 → b = 0
  k5 : q = 5 → b ≤ 2147483647
def nWords (q : Nat) : Nat := if q = 1 ∨ q = 2 ∨ q = 3 then 2 else if q = 6 then 0 else 1
def obN (t cl q p a b : Nat) : S35 := ⟨t, cl, q, p, a, b⟩
theorem good_of_may {o : S35} (h : mayB o = true) (hF : FitsT o) : ∃ t cl q p a b : Nat, o = obN t cl q p a b ∧ GoodN t cl q p a b := by
  obtain ⟨o0, o1, o2, o3, o4, o5⟩ := o
  obtain ⟨⟨f1, f2, f3, f4, f5, f6⟩, f7, f8⟩ := hF
  unfold mayB kindB at h
  simp only [Bool.and_eq_true, decide_eq_true_eq] at h
  obtain ⟨⟨⟨m1, m2⟩, m3⟩, m4⟩ := h
  simp only at f1 f2 f3 f4 f5 f6 f7 f8
  have hq : 1 ≤ o2 ∧ o2 ≤ 7 ∧ (o2 = 3 → 1 ≤ o4 ∧ o4 ≤ 6) ∧ (o2 = 4 → o4 < 32 ∧ o5 = 0) ∧ (o2 = 5 → o5 ≤ 2147483647) ∧ (o2 = 6 → o4 = 0 ∧ o5 = 0) ∧ (o2 = 7 → o5 = 0) := by
    split at m4
    · omega
    · split at m4
      · omega
      · split at m4
        · simp at m4; omega
        · split at m4
          · simp at m4; omega
          · split at m4
            · simp at m4; omega
            · split at m4
              · simp at m4; omega
              · split at m4
                · simp at m4; omega
                · simp at m4
  obtain ⟨q1, q2, q3, q4, q5, q6, q7⟩ := hq
  refine ⟨o0.toNat, o1.toNat, o2.toNat, o3.toNat, o4.toNat, o5.toNat, ?_, ⟨by omega, by omega, by omega, by omega, by omega, by omega, by omega, by omega, by omega, by omega, by omega, by omega, by omega⟩⟩
  unfold obN
  congr <;> omega
theorem GoodN.may {t cl q p a b : Nat} (h : GoodN t cl q p a b) : mayB (obN t cl q p a b) = true := by
  obtain ⟨h1, h2, h3, h4, h5, h6, h7, h8, k3, k4, k6, k7, k5⟩ := h
  unfold mayB kindB obN
  simp only [Bool.and_eq_true, decide_eq_true_eq]
  refine ⟨⟨⟨by omega, by omega⟩, by omega⟩, ?_⟩
  rcases (show q = 1 ∨ q = 2 ∨ q = 3 ∨ q = 4 ∨ q = 5 ∨ q = 6 ∨ q = 7 by omega) with h | h | h | h | h | h | h <;> subst h <;> simp at * <;> omega
theorem wordsL_obN (t cl q p a b : Nat) : wordsL (obN t cl q p a b) = wordsN t cl q p a b := by
  unfold wordsL wordsN headL obN
  rw [writeL_eq (q := q) (a := a) (b := b) rfl rfl rfl]
  simp
def lineZ (t cl q p a b : Nat) : ByteArray := ⟨(Lib.join ((wordsN t cl q p a b).map (·.data.toList)) [32]).toArray⟩
theorem lineB_obN (t cl q p a b : Nat) : lineB (obN t cl q p a b) = (lineZ t cl q p a b).data.toList ++ [10] := by
  unfold lineB lineZ
  rw [wordsL_obN]
theorem writeN_len (q a b : Nat) (hq1 : 1 ≤ q) (hq : q ≤ 7) : (writeN q a b).length = nWords q := by
  rcases (show q = 1 ∨ q = 2 ∨ q = 3 ∨ q = 4 ∨ q = 5 ∨ q = 6 ∨ q = 7 by omega) with h1 | h1 | h1 | h1 | h1 | h1 | h1 <;> subst h1 <;> simp [writeN, nWords]
theorem wordsN_len (t cl q p a b : Nat) (hq1 : 1 ≤ q) (hq : q ≤ 7) : (wordsN t cl q p a b).length = 4 + nWords q := by
  unfold wordsN
  rw [List.length_append, writeN_len q a b hq1 hq]
  rfl
end Go.Proofs.YtohighedgdlflaaGreatDoor

/- trace.line reads the words of an observation that may be. -/
namespace Go.Proofs.YtohighedgdlflaaGreatDoor
open Go.Proofs.YtohighedgdlflaaGreatDoorW.PrintLast Go.Shelf Go.RowKit Go.Sort Go.Lib Go.Proofs.YtohighedgdlflaaGreatDoorW.PrintWords Go.Proofs.YtohighedgdlflaaGreatDoor.PR
set_option linter.unusedVariables false
set_option linter.unusedSimpArgs false
theorem step_below {B : Nat} {w1 X Y : World} {P1 P2 P3 P4 P5 : Prop} (hS : P1 ∧ P2 ∧ P3 ∧ P4 ∧ P5 ∧ Hid (Below B w1 X)) (hB : B ≤ w1.heap.size) (hb : Below X.heap.size X Y) : Hid (Below B w1 Y) :=
  hS.2.2.2.2.2.out.trans (hb.mono (Nat.le_trans hB hS.2.2.2.2.2.out.size))
theorem step_b {B : Nat} {w1 X Y : World} (hS : Hid (Below B w1 X)) (hB : B ≤ w1.heap.size) (hb : Below X.heap.size X Y) : Hid (Below B w1 Y) :=
  hS.out.trans (hb.mono (Nat.le_trans hB hS.out.size))
theorem alloc_below {B : Nat} {w1 X : World} {P1 P2 P3 P4 P5 : Prop} {o : Obj} (hS : P1 ∧ P2 ∧ P3 ∧ P4 ∧ P5 ∧ Hid (Below B w1 X)) (hB : B ≤ w1.heap.size) : Below B w1 (X.alloc o) :=
  hS.2.2.2.2.2.out.alloc (Nat.le_trans hB hS.2.2.2.2.2.out.size) _
theorem set6_below {B O : Nat} {w1 X : World} {P1 P2 P3 P4 P5 : Prop} {v0 v1 v2 v3 v4 v5 : Value} (hS : P1 ∧ P2 ∧ P3 ∧ P4 ∧ P5 ∧ Hid (Below B w1 X)) (hO : B ≤ O) : Below B w1 ((((((X.setCell ⟨O, 0, none⟩ v0).setCell ⟨O, 1, none⟩ v1).setCell ⟨O, 2, none⟩ v2).setCell ⟨O, 3, none⟩ v3).setCell ⟨O, 4, none⟩ v4).setCell ⟨O, 5, none⟩ v5) :=
  (((((hS.2.2.2.2.2.out.setCell hO _).setCell hO _).setCell hO _).setCell hO _).setCell hO _).setCell hO _
theorem set6b {B O : Nat} {w1 X : World} {v0 v1 v2 v3 v4 v5 : Value} (hS : Below B w1 X) (hO : B ≤ O) : Below B w1 ((((((X.setCell ⟨O, 0, none⟩ v0).setCell ⟨O, 1, none⟩ v1).setCell ⟨O, 2, none⟩ v2).setCell ⟨O, 3, none⟩ v3).setCell ⟨O, 4, none⟩ v4).setCell ⟨O, 5, none⟩ v5) :=
  (((((hS.setCell hO _).setCell hO _).setCell hO _).setCell hO _).setCell hO _).setCell hO _
theorem new_block {Y W : World} (hb : Below (Y.alloc (.cells #[.int .u64 0, .int .i64 0, .int .i64 0, .int .u32 0, .int .u32 0, .int .u32 0] 35 (0, 0))).heap.size (Y.alloc (.cells #[.int .u64 0, .int .i64 0, .int .i64 0, .int .u32 0, .int .u32 0, .int .u32 0] 35 (0, 0))) W) : W.heap[Y.heap.size]? = some (.cells #[.int .u64 0, .int .i64 0, .int .i64 0, .int .u32 0, .int .u32 0, .int .u32 0] 35 (0, 0)) :=
  (hb.block _ (by simp)).trans (blk_new _ _)
theorem zero_cells {W : World} {O : Nat} (h : W.heap[O]? = some (.cells #[.int .u64 0, .int .i64 0, .int .i64 0, .int .u32 0, .int .u32 0, .int .u32 0] 35 (0, 0))) : W.cell? ⟨O, 0, none⟩ = some (.int .u64 0) ∧ W.cell? ⟨O, 1, none⟩ = some (.int .i64 0) ∧ W.cell? ⟨O, 2, none⟩ = some (.int .i64 0) ∧ W.cell? ⟨O, 3, none⟩ = some (.int .u32 0) ∧ W.cell? ⟨O, 4, none⟩ = some (.int .u32 0) ∧ W.cell? ⟨O, 5, none⟩ = some (.int .u32 0) := by
  refine ⟨?_, ?_, ?_, ?_, ?_, ?_⟩ <;> simp [World.cell?, h]
theorem zero_frozen {W : World} {O : Nat} (h : W.heap[O]? = some (.cells #[.int .u64 0, .int .i64 0, .int .i64 0, .int .u32 0, .int .u32 0, .int .u32 0] 35 (0, 0))) (j : Nat) : W.frozen? ⟨O, j, none⟩ = false := by
  simp [World.frozen?, h]
theorem zero_sets {W : World} {O : Nat} (h : W.heap[O]? = some (.cells #[.int .u64 0, .int .i64 0, .int .i64 0, .int .u32 0, .int .u32 0, .int .u32 0] 35 (0, 0))) (v0 v1 v2 v3 v4 : Value) :
    (W.setCell ⟨O, 0, none⟩ v0).cell? ⟨O, 1, none⟩ = some (.int .i64 0) ∧
    ((W.setCell ⟨O, 0, none⟩ v0).setCell ⟨O, 1, none⟩ v1).cell? ⟨O, 2, none⟩ = some (.int .i64 0) ∧
    (((W.setCell ⟨O, 0, none⟩ v0).setCell ⟨O, 1, none⟩ v1).setCell ⟨O, 2, none⟩ v2).cell? ⟨O, 3, none⟩ = some (.int .u32 0) ∧
    ((((W.setCell ⟨O, 0, none⟩ v0).setCell ⟨O, 1, none⟩ v1).setCell ⟨O, 2, none⟩ v2).setCell ⟨O, 3, none⟩ v3).cell? ⟨O, 4, none⟩ = some (.int .u32 0) ∧
    (((((W.setCell ⟨O, 0, none⟩ v0).setCell ⟨O, 1, none⟩ v1).setCell ⟨O, 2, none⟩ v2).setCell ⟨O, 3, none⟩ v3).setCell ⟨O, 4, none⟩ v4).cell? ⟨O, 5, none⟩ = some (.int .u32 0) := by
  obtain ⟨z0, z1, z2, z3, z4, z5⟩ := zero_cells h
  refine ⟨?_, ?_, ?_, ?_, ?_⟩
  · rw [World.cell?_setCell_other _ _ _ _ (by simp)]; exact z1
  · rw [World.cell?_setCell_other _ _ _ _ (by simp), World.cell?_setCell_other _ _ _ _ (by simp)]; exact z2
  · rw [World.cell?_setCell_other _ _ _ _ (by simp), World.cell?_setCell_other _ _ _ _ (by simp), World.cell?_setCell_other _ _ _ _ (by simp)]; exact z3
  · rw [World.cell?_setCell_other _ _ _ _ (by simp), World.cell?_setCell_other _ _ _ _ (by simp), World.cell?_setCell_other _ _ _ _ (by simp), World.cell?_setCell_other _ _ _ _ (by simp)]; exact z4
  · rw [World.cell?_setCell_other _ _ _ _ (by simp), World.cell?_setCell_other _ _ _ _ (by simp), World.cell?_setCell_other _ _ _ _ (by simp), World.cell?_setCell_other _ _ _ _ (by simp), World.cell?_setCell_other _ _ _ _ (by simp)]; exact z5
theorem zero_setsf {W : World} {O : Nat} (h : W.heap[O]? = some (.cells #[.int .u64 0, .int .i64 0, .int .i64 0, .int .u32 0, .int .u32 0, .int .u32 0] 35 (0, 0))) (v0 v1 v2 v3 v4 : Value) :
    (W.setCell ⟨O, 0, none⟩ v0).frozen? ⟨O, 1, none⟩ = false ∧
    ((W.setCell ⟨O, 0, none⟩ v0).setCell ⟨O, 1, none⟩ v1).frozen? ⟨O, 2, none⟩ = false ∧
    (((W.setCell ⟨O, 0, none⟩ v0).setCell ⟨O, 1, none⟩ v1).setCell ⟨O, 2, none⟩ v2).frozen? ⟨O, 3, none⟩ = false ∧
    ((((W.setCell ⟨O, 0, none⟩ v0).setCell ⟨O, 1, none⟩ v1).setCell ⟨O, 2, none⟩ v2).setCell ⟨O, 3, none⟩ v3).frozen? ⟨O, 4, none⟩ = false ∧
    (((((W.setCell ⟨O, 0, none⟩ v0).setCell ⟨O, 1, none⟩ v1).setCell ⟨O, 2, none⟩ v2).setCell ⟨O, 3, none⟩ v3).setCell ⟨O, 4, none⟩ v4).frozen? ⟨O, 5, none⟩ = false := by
  refine ⟨?_, ?_, ?_, ?_, ?_⟩ <;> simp only [World.frozen?_setCell] <;> exact zero_frozen h _
theorem frm_words {w : World} {n : Nat} (h : Frm w n) (q : Nat) (hq1 : 1 ≤ q) (hq : q ≤ 7) : w.cell? ⟨n + 2, q * 4 + 2, none⟩ = some (.int .i64 (nWords q)) := by
  rcases (show q = 1 ∨ q = 2 ∨ q = 3 ∨ q = 4 ∨ q = 5 ∨ q = 6 ∨ q = 7 by omega) with h1 | h1 | h1 | h1 | h1 | h1 | h1 <;> subst h1 <;> simp only [World.cell?, h.tab] <;> rfl
theorem set6_ob {W : World} {O : Nat} {o0 o1 o2 o3 o4 o5 : Value} (h : W.heap[O]? = some (.cells #[o0, o1, o2, o3, o4, o5] 35 (0, 0))) (v0 v1 v2 v3 v4 v5 : Value) :
    ((((((W.setCell ⟨O, 0, none⟩ v0).setCell ⟨O, 1, none⟩ v1).setCell ⟨O, 2, none⟩ v2).setCell ⟨O, 3, none⟩ v3).setCell ⟨O, 4, none⟩ v4).setCell ⟨O, 5, none⟩ v5).heap[O]? = some (.cells #[v0, v1, v2, v3, v4, v5] 35 (0, 0)) := by
  have step : ∀ (X : World) (cs : Array Value) (j : Nat) (v : Value), X.heap[O]? = some (.cells cs 35 (0, 0)) → (X.setCell ⟨O, j, none⟩ v).heap[O]? = some (.cells (cs.setIfInBounds j v) 35 (0, 0)) := by
    intro X cs j v hx
    exact heap_setCell_same _ _ _ _ _ _ hx
  have h0 := step _ _ 0 v0 h
  have h1 := step _ _ 1 v1 h0
  have h2 := step _ _ 2 v2 h1
  have h3 := step _ _ 3 v3 h2
  have h4 := step _ _ 4 v4 h3
  exact step _ _ 5 v5 h4
theorem frm_row2 {w : World} {n : Nat} (h : Frm w n) (q : Nat) (hq1 : 1 ≤ q) (hq : q ≤ 7) : ∃ (mr : Nat) (fvr : Array Value), w.cell? ⟨n + 2, q * 4 + 3, none⟩ = some (.func (.func mr) #[] fvr) ∧ (formCells (n + 1))[q * 4 + 3]? = some (.func (.func mr) #[] fvr) := by
  rcases (show q = 1 ∨ q = 2 ∨ q = 3 ∨ q = 4 ∨ q = 5 ∨ q = 6 ∨ q = 7 by omega) with h1 | h1 | h1 | h1 | h1 | h1 | h1 <;> subst h1 <;> exact ⟨_, _, by simp only [World.cell?, h.tab]; rfl, rfl⟩
theorem renter_any {n q mw : Nat} {fvw : Array Value} (hq1 : 1 ≤ q) (hq7 : q ≤ 7) (h : (formCells (n + 1))[q * 4 + 3]? = some (.func (.func mw) #[] fvw)) : ∀ args w, (callFunc mw args).run Tryz.prog w = .ok (.enter mw args) w := by
  rcases (show q = 1 ∨ q = 2 ∨ q = 3 ∨ q = 4 ∨ q = 5 ∨ q = 6 ∨ q = 7 by omega) with h1 | h1 | h1 | h1 | h1 | h1 | h1 <;> subst h1
  · obtain ⟨rfl, rfl⟩ := fn_inv (m := 71) (f := #[]) h; exact enters_of Tryz.func71 (by kernel_rfl) rfl
  · obtain ⟨rfl, rfl⟩ := fn_inv (m := 71) (f := #[]) h; exact enters_of Tryz.func71 (by kernel_rfl) rfl
  · obtain ⟨rfl, rfl⟩ := fn_inv (m := 73) (f := #[.pointer (some ⟨n + 1, 0, none⟩)]) h; exact enters_of Tryz.func73 (by kernel_rfl) rfl
  · obtain ⟨rfl, rfl⟩ := fn_inv (m := 78) (f := #[]) h; exact enters_of Tryz.func78 (by kernel_rfl) rfl
  · obtain ⟨rfl, rfl⟩ := fn_inv (m := 81) (f := #[]) h; exact enters_of Tryz.func81 (by kernel_rfl) rfl
  · obtain ⟨rfl, rfl⟩ := fn_inv (m := 83) (f := #[]) h; exact enters_of Tryz.func83 (by kernel_rfl) rfl
  · obtain ⟨rfl, rfl⟩ := fn_inv (m := 85) (f := #[]) h; exact enters_of Tryz.func85 (by kernel_rfl) rfl
/-- What the table's reader gives. -/
theorem read_any {W : World} {n q mr : Nat} {fvr : Array Value} (hF : Frm W n) {O t cl p a b g c : Nat} {A : Option Addr} (hG : GoodN t cl q p a b) (h : (formCells (n + 1))[q * 4 + 3]? = some (.func (.func mr) #[] fvr)) (hA : nWords q ≠ 0 → A = some ⟨g, 4, none⟩) (hO : ObN W O t cl q p 0 0) (hw : ∀ (j : Nat) x, (wordsN t cl q p a b)[j]? = some x → W.cell? ⟨g, j, none⟩ = some (.string x)) :
    Calls Tryz.prog mr (#[.pointer (some ⟨O, 0, none⟩), .slice A (nWords q) c] ++ fvr) W (RdR W O t cl q p a b) := by
  have h4 := hw 4
  have h5 := hw 5
  obtain ⟨g1, g2, g3, hq1, hq7, g6, g7, g8, k3, k4, k6, k7, k5⟩ := hG
  rcases (show q = 1 ∨ q = 2 ∨ q = 3 ∨ q = 4 ∨ q = 5 ∨ q = 6 ∨ q = 7 by omega) with h1 | h1 | h1 | h1 | h1 | h1 | h1 <;> subst h1
  · obtain ⟨rfl, rfl⟩ := fn_inv (m := 71) (f := #[]) h
    rw [hA (by decide)]
    exact r71_ok O t cl 1 p a b g c W g7 g8 hO (h4 _ rfl) (h5 _ rfl)
  · obtain ⟨rfl, rfl⟩ := fn_inv (m := 71) (f := #[]) h
    rw [hA (by decide)]
    exact r71_ok O t cl 2 p a b g c W g7 g8 hO (h4 _ rfl) (h5 _ rfl)
  · obtain ⟨rfl, rfl⟩ := fn_inv (m := 73) (f := #[.pointer (some ⟨n + 1, 0, none⟩)]) h
    rw [hA (by decide)]
    exact r73_ok O t cl 3 p a b g c n W (k3 rfl).1 (k3 rfl).2 g8 hF hO (h4 _ rfl) (h5 _ rfl)
  · obtain ⟨rfl, rfl⟩ := fn_inv (m := 78) (f := #[]) h
    obtain ⟨ka, rfl⟩ := k4 rfl
    rw [hA (by decide)]
    exact r78_ok O t cl 4 p a g c W ka hO (h4 _ rfl)
  · obtain ⟨rfl, rfl⟩ := fn_inv (m := 81) (f := #[]) h
    rw [hA (by decide)]
    exact r81_ok O t cl 5 p a b g c W g7 g8 hO (h4 _ rfl)
  · obtain ⟨rfl, rfl⟩ := fn_inv (m := 83) (f := #[]) h
    obtain ⟨rfl, rfl⟩ := k6 rfl
    exact r83_ok O t cl 6 p _ W hO
  · obtain ⟨rfl, rfl⟩ := fn_inv (m := 85) (f := #[]) h
    obtain rfl := k7 rfl
    rw [hA (by decide)]
    exact r85_ok O t cl 7 p a g c W g7 hO (h4 _ rfl)
set_option maxRecDepth 100000 in
set_option maxHeartbeats 8000000 in
theorem line_ok (n g c t cl q p a b : Nat) (w : World) (hG : GoodN t cl q p a b) (hF : Frm w n) (hg : g < w.heap.size) (hc : 4 + nWords q ≤ c) (hw : ∀ (j : Nat) x, (wordsN t cl q p a b)[j]? = some x → w.cell? ⟨g, j, none⟩ = some (.string x)) :
    Calls Tryz.prog 68 #[.slice (some ⟨n + 2, 0, none⟩) 8 8, .slice (some ⟨g, 0, none⟩) (4 + nWords q) c] w fun e w' => e = .returned (.agg #[.int .u64 t, .int .i64 cl, .int .i64 q, .int .u32 p, .int .u32 a, .int .u32 b]) ∧ Below w.heap.size w w' := by
  have HF := Lib.hid hF
  have HW := Lib.hid hw
  have HG := Lib.hid hG
  clear hF hw
  obtain ⟨m, hm⟩ : ∃ m, m = nWords q := ⟨_, rfl⟩
  rw [← hm] at hc ⊢
  have hm2 : m ≤ 2 := by rw [hm]; unfold nWords; split <;> (try split) <;> omega
  have Hm := Lib.hid hm
  clear hm
  have hm4 : (4 : Int) ≤ 4 + (m : Int) := by omega
  go_enter Tryz.func68, Tryz.ntmps68
  go_wp2_with fail
  obtain ⟨hq1, hq7⟩ := And.intro hG.q1 hG.q7
  have hcell : Hid (∀ W, Below (w.heap.size + 2) ((w.alloc (.cells #[.slice (some ⟨g, 0, none⟩) (4 + m) c] 78)).alloc (.cells #[.int .u64 0, .int .i64 0, .int .i64 0, .int .u32 0, .int .u32 0, .int .u32 0] 35)) W → (W.cell? ⟨w.heap.size, 0, none⟩ = some (.slice (some ⟨g, 0, none⟩) (4 + m) c) ∧ W.cell? ⟨g, 0, none⟩ = some (.string (decS t)) ∧ W.cell? ⟨g, 1, none⟩ = some (.string (decS cl)) ∧ W.cell? ⟨g, 2, none⟩ = some (.string (kindS.getD q ByteArray.empty)) ∧ W.cell? ⟨g, 3, none⟩ = some (.string (hexS p))) ∧ Frm W n ∧ Below w.heap.size w W) := by
    intro W hW
    have hA : Below w.heap.size w ((w.alloc (.cells #[.slice (some ⟨g, 0, none⟩) (4 + m) c] 78)).alloc (.cells #[.int .u64 0, .int .i64 0, .int .i64 0, .int .u32 0, .int .u32 0, .int .u32 0] 35)) := below_alloc (below_alloc (Below.refl _ _) _) _
    have hB : Below w.heap.size w W := hA.trans (hW.mono (by omega))
    refine ⟨⟨?_, ?_, ?_, ?_, ?_⟩, HF.out.below hB, hB⟩
    · rw [hW.cell (by simp)]
      rw [World.cell?_alloc_old _ _ _ (by simp)]
      simp [World.cell?_alloc_new]
    · rw [hB.cell hg]; exact HW.out 0 _ rfl
    · rw [hB.cell hg]; exact HW.out 1 _ rfl
    · rw [hB.cell hg]; exact HW.out 2 _ rfl
    · rw [hB.cell hg]; exact HW.out 3 _ rfl
  have hR0 : Hid (((w.alloc (.cells #[.slice (some ⟨g, 0, none⟩) (4 + m) c] 78)).alloc (.cells #[.int .u64 0, .int .i64 0, .int .i64 0, .int .u32 0, .int .u32 0, .int .u32 0] 35)).heap[w.heap.size + 1]? = some (.cells #[.int .u64 0, .int .i64 0, .int .i64 0, .int .u32 0, .int .u32 0, .int .u32 0] 35 (0, 0))) := by
    have := blk_new (w.alloc (.cells #[.slice (some ⟨g, 0, none⟩) (4 + m) c] 78)) (.cells #[.int .u64 0, .int .i64 0, .int .i64 0, .int .u32 0, .int .u32 0, .int .u32 0] 35 (0, 0))
    rwa [World.size_alloc] at this
  obtain ⟨W0, hW0⟩ : ∃ W0, W0 = ((w.alloc (.cells #[.slice (some ⟨g, 0, none⟩) (4 + m) c] 78)).alloc (.cells #[.int .u64 0, .int .i64 0, .int .i64 0, .int .u32 0, .int .u32 0, .int .u32 0] 35)) := ⟨_, rfl⟩
  have hz0 : W0.heap.size = w.heap.size + 2 := by rw [hW0]; simp
  rw [← hW0] at hcell hR0 ⊢
  clear hW0
  refine (must_ok _).mono ?_
  rintro e w1 ⟨rfl, rfl⟩
  go_wp2_with fail
  obtain ⟨⟨cw, c0, c1, c2, c3⟩, hfr, _⟩ := hcell.out _ (Below.refl _ _)
  refine (idxForm_ok n q w.heap.size g (4 + m) c _ hfr hq1 hq7 (by omega) cw c2).mono ?_
  clear cw c0 c1 c2 c3 hfr
  rintro e w2 ⟨rfl, hb2⟩
  have HB2 := Lib.hid hb2
  clear hb2
  obtain ⟨⟨cw, c0, c1, c2, c3⟩, hfr, _⟩ := hcell.out _ (HB2.out.mono (Nat.le_of_eq hz0.symm))
  have cn := frm_words hfr q hq1 hq7
  rw [← Hm.out] at cn
  have hqI : (0 : Int) < q ∧ (q : Int) < 8 := by omega
  have hdq : decide ((0 : Int) < q) = true := decide_eq_true hqI.1
  have hdq' : decide (0 < q) = true := decide_eq_true hq1
  clear hfr
  go_wp2_with fail
  go_quiet ((go_at_call 75; with_reducible exact Calls.quiet_of_same (must_ok _)))
  clear cn hdq hdq'
  go_wp2_with fail
  have HS : Hid (∀ W, Below (w.heap.size + 2) w1 W → (W.cell? ⟨w.heap.size, 0, none⟩ = some (.slice (some ⟨g, 0, none⟩) (4 + m) c) ∧ W.cell? ⟨g, 0, none⟩ = some (.string (decS t)) ∧ W.cell? ⟨g, 1, none⟩ = some (.string (decS cl)) ∧ W.cell? ⟨g, 2, none⟩ = some (.string (kindS.getD q ByteArray.empty)) ∧ W.cell? ⟨g, 3, none⟩ = some (.string (hexS p)) ∧ Hid (Below (w.heap.size + 2) w1 W))) := fun W hW => by
    obtain ⟨⟨cw, c0, c1, c2, c3⟩, _⟩ := hcell.out _ hW
    exact ⟨cw, c0, c1, c2, c3, hW⟩
  have HB0 : Hid (Below (w.heap.size + 2) w1 (w2.drewN nq)) := pw_below_drewN (HB2.out.mono (Nat.le_of_eq hz0.symm)) nq
  have hz2 : w.heap.size + 2 ≤ (w2.drewN nq).heap.size := by have := HB0.out.size; omega
  obtain ⟨W2, hW2⟩ : ∃ W2, W2 = w2.drewN nq := ⟨_, rfl⟩
  rw [← hW2] at HB0 hz2 ⊢
  clear hW2 cw c0 c1 c2 c3 HB2
  have u1 : t < 18446744073709551616 := by have := hG.t63; omega
  have u2 : cl < 18446744073709551616 := by have := hG.cl8; omega
  have u3 : t ≤ 9223372036854775807 := hG.t63
  have u4 : cl ≤ 8 := hG.cl8
  have u5 : p < 4294967296 := hG.p32
  have clI : (0 : Int) ≤ cl ∧ (cl : Int) ≤ 8 := by omega
  have b0 : (0 : Int) < 4 + (m : Int) := by omega
  have b1 : (1 : Int) < 4 + (m : Int) := by omega
  have b3 : (3 : Int) < 4 + (m : Int) := by omega
  have hd1 : ∀ W, Calls Tryz.prog 79 #[.string (decS t), .int .u64 9223372036854775807] W fun e w' => e = .returned (.int .u64 t) ∧ Below W.heap.size W w' := fun W => decimal_ok t 9223372036854775807 u1 u3 W
  have hd2 : ∀ W, Calls Tryz.prog 79 #[.string (decS cl), .int .u64 8] W fun e w' => e = .returned (.int .u64 cl) ∧ Below W.heap.size W w' := fun W => decimal_ok cl 8 u2 u4 W
  have hz1 : w.heap.size + 2 ≤ w1.heap.size := Nat.le_of_eq hz0.symm
  have HBc : Hid (Below (w.heap.size + 2) w1 W2.drew) := below_drew HB0.out
  clear HB0
  refine start_ (n := 17) (S := fun w' => w'.cell? ⟨w.heap.size, 0, none⟩ = some (.slice (some ⟨g, 0, none⟩) (4 + m) c) ∧ w'.cell? ⟨g, 0, none⟩ = some (.string (decS t)) ∧ w'.cell? ⟨g, 1, none⟩ = some (.string (decS cl)) ∧ w'.cell? ⟨g, 3, none⟩ = some (.string (hexS p))) (ds := [16]) #[false, false, false, false, false, false, false, false, false, false, false, false, false, false, false, false, false] (by kernel_rfl) rfl rfl ⟨(HS.out _ HBc.out).1, (HS.out _ HBc.out).2.1, (HS.out _ HBc.out).2.2.1, (HS.out _ HBc.out).2.2.2.2.1⟩ (fun hHeld => ?_)
  generalize W2.drew = W3 at HBc hHeld ⊢
  refine pure_ (i := 9) (N := some 37) (v := ?_) (a' := ?_) #[false, false, false, false, false, false, false, false, false, true, false, false, false, false, false, false, false] rfl rfl (by kernel_rfl) (fun _ _ _ h => h) (Or.inl ⟨by rfl, ?_⟩) ?_ ?_
  rotate_left
  · intro w'
    go_simp
    with_reducible rfl
  rotate_left
  · simp only [Act.put, List.setIfInBounds_toArray, List.set_cons_zero, List.set_cons_succ, i64_w, i32_w]
    rfl
  refine take_ (i := 0) (N := some 28) (v := ?_) (a' := ?_) #[true, false, false, false, false, false, false, false, false, true, false, false, false, false, false, false, false] rfl rfl (by kernel_rfl) (fun _ _ _ h => h) (Or.inl ⟨by rfl, ?_⟩) hHeld ?_ ?_
  rotate_left
  · rintro w' ⟨s0, s1, s2, s3⟩
    go_simp
    with_reducible rfl
  rotate_left
  · simp only [Act.put, List.setIfInBounds_toArray, List.set_cons_zero, List.set_cons_succ, i64_w, i32_w]
    rfl
  refine pure_ (i := 1) (N := some 29) (v := ?_) (a' := ?_) #[true, true, false, false, false, false, false, false, false, true, false, false, false, false, false, false, false] rfl rfl (by kernel_rfl) (fun _ _ _ h => h) (Or.inl ⟨by rfl, ?_⟩) ?_ ?_
  rotate_left
  · intro w'
    go_simp
    with_reducible rfl
  rotate_left
  · simp only [Act.put, List.setIfInBounds_toArray, List.set_cons_zero, List.set_cons_succ, i64_w, i32_w]
    rfl
  refine take_ (i := 2) (N := some 30) (v := ?_) (a' := ?_) #[true, true, true, false, false, false, false, false, false, true, false, false, false, false, false, false, false] rfl rfl (by kernel_rfl) (fun _ _ _ h => h) (Or.inl ⟨by rfl, ?_⟩) hHeld ?_ ?_
  rotate_left
  · rintro w' ⟨s0, s1, s2, s3⟩
    go_simp
    with_reducible rfl
  rotate_left
  · simp only [Act.put, List.setIfInBounds_toArray, List.set_cons_zero, List.set_cons_succ, i64_w, i32_w]
    rfl
  refine take_ (i := 4) (N := some 32) (v := ?_) (a' := ?_) #[true, true, true, false, true, false, false, false, false, true, false, false, false, false, false, false, false] rfl rfl (by kernel_rfl) (fun _ _ _ h => h) (Or.inl ⟨by rfl, ?_⟩) hHeld ?_ ?_
  rotate_left
  · rintro w' ⟨s0, s1, s2, s3⟩
    go_simp
    with_reducible rfl
  rotate_left
  · simp only [Act.put, List.setIfInBounds_toArray, List.set_cons_zero, List.set_cons_succ, i64_w, i32_w]
    rfl
  refine pure_ (i := 5) (N := some 33) (v := ?_) (a' := ?_) #[true, true, true, false, true, true, false, false, false, true, false, false, false, false, false, false, false] rfl rfl (by kernel_rfl) (fun _ _ _ h => h) (Or.inl ⟨by rfl, ?_⟩) ?_ ?_
  rotate_left
  · intro w'
    go_simp
    with_reducible rfl
  rotate_left
  · simp only [Act.put, List.setIfInBounds_toArray, List.set_cons_zero, List.set_cons_succ, i64_w, i32_w]
    rfl
  refine take_ (i := 6) (N := some 34) (v := ?_) (a' := ?_) #[true, true, true, false, true, true, true, false, false, true, false, false, false, false, false, false, false] rfl rfl (by kernel_rfl) (fun _ _ _ h => h) (Or.inl ⟨by rfl, ?_⟩) hHeld ?_ ?_
  rotate_left
  · rintro w' ⟨s0, s1, s2, s3⟩
    go_simp
    with_reducible rfl
  rotate_left
  · simp only [Act.put, List.setIfInBounds_toArray, List.set_cons_zero, List.set_cons_succ, i64_w, i32_w]
    rfl
  refine take_ (i := 10) (N := some 38) (v := ?_) (a' := ?_) #[true, true, true, false, true, true, true, false, false, true, true, false, false, false, false, false, false] rfl rfl (by kernel_rfl) (fun _ _ _ h => h) (Or.inl ⟨by rfl, ?_⟩) hHeld ?_ ?_
  rotate_left
  · rintro w' ⟨s0, s1, s2, s3⟩
    go_simp
    with_reducible rfl
  rotate_left
  · simp only [Act.put, List.setIfInBounds_toArray, List.set_cons_zero, List.set_cons_succ, i64_w, i32_w]
    rfl
  refine pure_ (i := 11) (N := some 39) (v := ?_) (a' := ?_) #[true, true, true, false, true, true, true, false, false, true, true, true, false, false, false, false, false] rfl rfl (by kernel_rfl) (fun _ _ _ h => h) (Or.inl ⟨by rfl, ?_⟩) ?_ ?_
  rotate_left
  · intro w'
    go_simp
    with_reducible rfl
  rotate_left
  · simp only [Act.put, List.setIfInBounds_toArray, List.set_cons_zero, List.set_cons_succ, i64_w, i32_w]
    rfl
  refine take_ (i := 12) (N := some 40) (v := ?_) (a' := ?_) #[true, true, true, false, true, true, true, false, false, true, true, true, true, false, false, false, false] rfl rfl (by kernel_rfl) (fun _ _ _ h => h) (Or.inl ⟨by rfl, ?_⟩) hHeld ?_ ?_
  rotate_left
  · rintro w' ⟨s0, s1, s2, s3⟩
    go_simp
    with_reducible rfl
  rotate_left
  · simp only [Act.put, List.setIfInBounds_toArray, List.set_cons_zero, List.set_cons_succ, i64_w, i32_w]
    rfl
  refine join_ (σ := Nat) 1 #[true, true, true, true, true, true, true, true, true, true, true, true, true, true, true, true, false] (fun O => [(31, .int .u64 t), (35, .int .u64 cl), (36, .int .i64 (wrap64 cl)), (41, .int .u32 p), (42, .agg #[.int .u64 t, .int .i64 (wrap64 cl), .int .i64 q, .int .u32 p, .int .u32 0, .int .u32 0]), (6, .pointer (some ⟨O, 0, none⟩))]) (fun O w' => w.heap.size + 2 ≤ O ∧ w'.heap[O]? = some (.cells #[.int .u64 0, .int .i64 0, .int .i64 0, .int .u32 0, .int .u32 0, .int .u32 0] 35 (0, 0)) ∧ Below (w.heap.size + 2) w1 w') ?_ ?_
  rotate_left
  · intro hCont
    refine two_ (i := 3) (j := 15) (Ni := some 31) (Nj := some 6) #[true, true, true, true, true, true, true, false, false, true, true, true, true, false, false, false, false] #[true, true, true, false, true, true, true, false, false, true, true, true, true, false, false, true, false] rfl rfl rfl rfl (by kernel_rfl) (by decide) (by decide) (fun K hK => ?_) (fun K hK => ?_)
    · skip
      refine goes_ Tryz.func79 (by kernel_rfl) rfl #[.string (decS t), .int .u64 9223372036854775807] (by rfl) rfl rfl (by simp only [List.map_toArray, List.map_cons, List.map_nil]; rfl) ?_
      with_reducible refine (hd1 _).mono ?_
      rintro e w5 ⟨rfl, hb⟩
      refine ⟨_, rfl, ?_⟩
      replace HBc := step_b HBc hz1 hb
      clear hb
      refine hK.out _ _ ⟨(HS.out _ HBc.out).1, (HS.out _ HBc.out).2.1, (HS.out _ HBc.out).2.2.1, (HS.out _ HBc.out).2.2.2.2.1⟩ (fun hHeld => ?_)
      clear hK K
      refine norm_ (a' := ?_) ?_ ?_
      rotate_left
      · show Act.put _ (some 31) _ = _
        simp only [Act.put, List.setIfInBounds_toArray, List.set_cons_zero, List.set_cons_succ, i64_w, i32_w]
        rfl
      refine two_ (i := 7) (j := 15) (Ni := some 35) (Nj := some 6) #[true, true, true, true, true, true, true, true, false, true, true, true, true, false, false, false, false] #[true, true, true, true, true, true, true, false, false, true, true, true, true, false, false, true, false] rfl rfl rfl rfl (by kernel_rfl) (by decide) (by decide) (fun K hK => ?_) (fun K hK => ?_)
      · skip
        refine goes_ Tryz.func79 (by kernel_rfl) rfl #[.string (decS cl), .int .u64 8] (by rfl) rfl rfl (by simp only [List.map_toArray, List.map_cons, List.map_nil]; rfl) ?_
        with_reducible refine (hd2 _).mono ?_
        rintro e w6 ⟨rfl, hb⟩
        refine ⟨_, rfl, ?_⟩
        replace HBc := step_b HBc hz1 hb
        clear hb
        refine hK.out _ _ ⟨(HS.out _ HBc.out).1, (HS.out _ HBc.out).2.1, (HS.out _ HBc.out).2.2.1, (HS.out _ HBc.out).2.2.2.2.1⟩ (fun hHeld => ?_)
        clear hK K
        refine norm_ (a' := ?_) ?_ ?_
        rotate_left
        · show Act.put _ (some 35) _ = _
          simp only [Act.put, List.setIfInBounds_toArray, List.set_cons_zero, List.set_cons_succ, i64_w, i32_w]
          rfl
        refine pure_ (i := 8) (N := some 36) (v := ?_) (a' := ?_) #[true, true, true, true, true, true, true, true, true, true, true, true, true, false, false, false, false] rfl rfl (by kernel_rfl) (fun _ _ _ h => h) (Or.inl ⟨by rfl, ?_⟩) ?_ ?_
        rotate_left
        · intro w'
          go_simp
          with_reducible rfl
        rotate_left
        · simp only [Act.put, List.setIfInBounds_toArray, List.set_cons_zero, List.set_cons_succ, i64_w, i32_w]
          rfl
        refine two_ (i := 13) (j := 15) (Ni := some 41) (Nj := some 6) #[true, true, true, true, true, true, true, true, true, true, true, true, true, true, false, false, false] #[true, true, true, true, true, true, true, true, true, true, true, true, true, false, false, true, false] rfl rfl rfl rfl (by kernel_rfl) (by decide) (by decide) (fun K hK => ?_) (fun K hK => ?_)
        · skip
          refine goes_ Tryz.func76 (by kernel_rfl) rfl #[.string (hexS p)] (by rfl) rfl rfl (by simp only [List.map_toArray, List.map_cons, List.map_nil]; rfl) ?_
          with_reducible refine (unhex_ok p u5 _).mono ?_
          rintro e w7 ⟨rfl, hb⟩
          refine ⟨_, rfl, ?_⟩
          replace HBc := step_b HBc hz1 hb
          clear hb
          refine hK.out _ _ ⟨(HS.out _ HBc.out).1, (HS.out _ HBc.out).2.1, (HS.out _ HBc.out).2.2.1, (HS.out _ HBc.out).2.2.2.2.1⟩ (fun hHeld => ?_)
          clear hK K
          refine norm_ (a' := ?_) ?_ ?_
          rotate_left
          · show Act.put _ (some 41) _ = _
            simp only [Act.put, List.setIfInBounds_toArray, List.set_cons_zero, List.set_cons_succ, i64_w, i32_w]
            rfl
          refine pure_ (i := 14) (N := some 42) (v := ?_) (a' := ?_) #[true, true, true, true, true, true, true, true, true, true, true, true, true, true, true, false, false] rfl rfl (by kernel_rfl) (fun _ _ _ h => h) (Or.inl ⟨by rfl, ?_⟩) ?_ ?_
          rotate_left
          · intro w'
            go_simp
            with_reducible rfl
          rotate_left
          · simp only [Act.put, List.setIfInBounds_toArray, List.set_cons_zero, List.set_cons_succ, i64_w, i32_w]
            rfl
          refine one_ (i := 15) (N := some 6) #[true, true, true, true, true, true, true, true, true, true, true, true, true, true, true, true, false] rfl rfl (by kernel_rfl) (by decide) (fun K hK => ?_)
          refine value_ (w1 := ?_) (v := ?_) (by rfl) rfl ?_ ?_
          rotate_left 2
          · go_simp
            constructor
            · rfl
            · rfl
          have hO : w.heap.size + 2 ≤ w7.heap.size := Nat.le_trans hz1 HBc.out.size
          have HZ := Lib.hid (blk_new w7 (.cells #[.int .u64 0, .int .i64 0, .int .i64 0, .int .u32 0, .int .u32 0, .int .u32 0] 35 (0, 0)))
          replace HBc := Lib.hid (HBc.out.alloc hO (.cells #[.int .u64 0, .int .i64 0, .int .i64 0, .int .u32 0, .int .u32 0, .int .u32 0] 35))
          refine hK.out _ _ ⟨(HS.out _ HBc.out).1, (HS.out _ HBc.out).2.1, (HS.out _ HBc.out).2.2.1, (HS.out _ HBc.out).2.2.2.2.1⟩ (fun hHeld => ?_)
          clear hK K
          refine norm_ (a' := ?_) ?_ ?_
          rotate_left
          · show Act.put _ (some 6) _ = _
            simp only [Act.put, List.setIfInBounds_toArray, List.set_cons_zero, List.set_cons_succ, i64_w, i32_w]
            rfl
          exact norm_ (by simp only [putAll, Act.put, List.setIfInBounds_toArray, List.set_cons_zero, List.set_cons_succ]) (hCont w7.heap.size _ ⟨hO, HZ.out, HBc.out⟩)
        · skip
          refine value_ (w1 := ?_) (v := ?_) (by rfl) rfl ?_ ?_
          rotate_left 2
          · go_simp
            constructor
            · rfl
            · rfl
          have hO : w.heap.size + 2 ≤ w6.heap.size := Nat.le_trans hz1 HBc.out.size
          have HZ := Lib.hid (blk_new w6 (.cells #[.int .u64 0, .int .i64 0, .int .i64 0, .int .u32 0, .int .u32 0, .int .u32 0] 35 (0, 0)))
          replace HBc := Lib.hid (HBc.out.alloc hO (.cells #[.int .u64 0, .int .i64 0, .int .i64 0, .int .u32 0, .int .u32 0, .int .u32 0] 35))
          refine hK.out _ _ ⟨(HS.out _ HBc.out).1, (HS.out _ HBc.out).2.1, (HS.out _ HBc.out).2.2.1, (HS.out _ HBc.out).2.2.2.2.1⟩ (fun hHeld => ?_)
          clear hK K
          refine norm_ (a' := ?_) ?_ ?_
          rotate_left
          · show Act.put _ (some 6) _ = _
            simp only [Act.put, List.setIfInBounds_toArray, List.set_cons_zero, List.set_cons_succ, i64_w, i32_w]
            rfl
          refine one_ (i := 13) (N := some 41) #[true, true, true, true, true, true, true, true, true, true, true, true, true, true, false, true, false] rfl rfl (by kernel_rfl) (by decide) (fun K hK => ?_)
          refine goes_ Tryz.func76 (by kernel_rfl) rfl #[.string (hexS p)] (by rfl) rfl rfl (by simp only [List.map_toArray, List.map_cons, List.map_nil]; rfl) ?_
          with_reducible refine (unhex_ok p u5 _).mono ?_
          rintro e w7 ⟨rfl, hb⟩
          refine ⟨_, rfl, ?_⟩
          replace HZ := Lib.hid ((hb.block _ (heap_lt' HZ.out)).trans HZ.out)
          replace HBc := step_b HBc hz1 hb
          clear hb
          refine hK.out _ _ ⟨(HS.out _ HBc.out).1, (HS.out _ HBc.out).2.1, (HS.out _ HBc.out).2.2.1, (HS.out _ HBc.out).2.2.2.2.1⟩ (fun hHeld => ?_)
          clear hK K
          refine norm_ (a' := ?_) ?_ ?_
          rotate_left
          · show Act.put _ (some 41) _ = _
            simp only [Act.put, List.setIfInBounds_toArray, List.set_cons_zero, List.set_cons_succ, i64_w, i32_w]
            rfl
          refine pure_ (i := 14) (N := some 42) (v := ?_) (a' := ?_) #[true, true, true, true, true, true, true, true, true, true, true, true, true, true, true, true, false] rfl rfl (by kernel_rfl) (fun _ _ _ h => h) (Or.inl ⟨by rfl, ?_⟩) ?_ ?_
          rotate_left
          · intro w'
            go_simp
            with_reducible rfl
          rotate_left
          · simp only [Act.put, List.setIfInBounds_toArray, List.set_cons_zero, List.set_cons_succ, i64_w, i32_w]
            rfl
          exact norm_ (by simp only [putAll, Act.put, List.setIfInBounds_toArray, List.set_cons_zero, List.set_cons_succ]) (hCont w6.heap.size _ ⟨hO, HZ.out, HBc.out⟩)
      · skip
        refine value_ (w1 := ?_) (v := ?_) (by rfl) rfl ?_ ?_
        rotate_left 2
        · go_simp
          constructor
          · rfl
          · rfl
        have hO : w.heap.size + 2 ≤ w5.heap.size := Nat.le_trans hz1 HBc.out.size
        have HZ := Lib.hid (blk_new w5 (.cells #[.int .u64 0, .int .i64 0, .int .i64 0, .int .u32 0, .int .u32 0, .int .u32 0] 35 (0, 0)))
        replace HBc := Lib.hid (HBc.out.alloc hO (.cells #[.int .u64 0, .int .i64 0, .int .i64 0, .int .u32 0, .int .u32 0, .int .u32 0] 35))
        refine hK.out _ _ ⟨(HS.out _ HBc.out).1, (HS.out _ HBc.out).2.1, (HS.out _ HBc.out).2.2.1, (HS.out _ HBc.out).2.2.2.2.1⟩ (fun hHeld => ?_)
        clear hK K
        refine norm_ (a' := ?_) ?_ ?_
        rotate_left
        · show Act.put _ (some 6) _ = _
          simp only [Act.put, List.setIfInBounds_toArray, List.set_cons_zero, List.set_cons_succ, i64_w, i32_w]
          rfl
        refine one_ (i := 7) (N := some 35) #[true, true, true, true, true, true, true, true, false, true, true, true, true, false, false, true, false] rfl rfl (by kernel_rfl) (by decide) (fun K hK => ?_)
        refine goes_ Tryz.func79 (by kernel_rfl) rfl #[.string (decS cl), .int .u64 8] (by rfl) rfl rfl (by simp only [List.map_toArray, List.map_cons, List.map_nil]; rfl) ?_
        with_reducible refine (hd2 _).mono ?_
        rintro e w6 ⟨rfl, hb⟩
        refine ⟨_, rfl, ?_⟩
        replace HZ := Lib.hid ((hb.block _ (heap_lt' HZ.out)).trans HZ.out)
        replace HBc := step_b HBc hz1 hb
        clear hb
        refine hK.out _ _ ⟨(HS.out _ HBc.out).1, (HS.out _ HBc.out).2.1, (HS.out _ HBc.out).2.2.1, (HS.out _ HBc.out).2.2.2.2.1⟩ (fun hHeld => ?_)
        clear hK K
        refine norm_ (a' := ?_) ?_ ?_
        rotate_left
        · show Act.put _ (some 35) _ = _
          simp only [Act.put, List.setIfInBounds_toArray, List.set_cons_zero, List.set_cons_succ, i64_w, i32_w]
          rfl
        refine pure_ (i := 8) (N := some 36) (v := ?_) (a' := ?_) #[true, true, true, true, true, true, true, true, true, true, true, true, true, false, false, true, false] rfl rfl (by kernel_rfl) (fun _ _ _ h => h) (Or.inl ⟨by rfl, ?_⟩) ?_ ?_
        rotate_left
        · intro w'
          go_simp
          with_reducible rfl
        rotate_left
        · simp only [Act.put, List.setIfInBounds_toArray, List.set_cons_zero, List.set_cons_succ, i64_w, i32_w]
          rfl
        refine one_ (i := 13) (N := some 41) #[true, true, true, true, true, true, true, true, true, true, true, true, true, true, false, true, false] rfl rfl (by kernel_rfl) (by decide) (fun K hK => ?_)
        refine goes_ Tryz.func76 (by kernel_rfl) rfl #[.string (hexS p)] (by rfl) rfl rfl (by simp only [List.map_toArray, List.map_cons, List.map_nil]; rfl) ?_
        with_reducible refine (unhex_ok p u5 _).mono ?_
        rintro e w7 ⟨rfl, hb⟩
        refine ⟨_, rfl, ?_⟩
        replace HZ := Lib.hid ((hb.block _ (heap_lt' HZ.out)).trans HZ.out)
        replace HBc := step_b HBc hz1 hb
        clear hb
        refine hK.out _ _ ⟨(HS.out _ HBc.out).1, (HS.out _ HBc.out).2.1, (HS.out _ HBc.out).2.2.1, (HS.out _ HBc.out).2.2.2.2.1⟩ (fun hHeld => ?_)
        clear hK K
        refine norm_ (a' := ?_) ?_ ?_
        rotate_left
        · show Act.put _ (some 41) _ = _
          simp only [Act.put, List.setIfInBounds_toArray, List.set_cons_zero, List.set_cons_succ, i64_w, i32_w]
          rfl
        refine pure_ (i := 14) (N := some 42) (v := ?_) (a' := ?_) #[true, true, true, true, true, true, true, true, true, true, true, true, true, true, true, true, false] rfl rfl (by kernel_rfl) (fun _ _ _ h => h) (Or.inl ⟨by rfl, ?_⟩) ?_ ?_
        rotate_left
        · intro w'
          go_simp
          with_reducible rfl
        rotate_left
        · simp only [Act.put, List.setIfInBounds_toArray, List.set_cons_zero, List.set_cons_succ, i64_w, i32_w]
          rfl
        exact norm_ (by simp only [putAll, Act.put, List.setIfInBounds_toArray, List.set_cons_zero, List.set_cons_succ]) (hCont w5.heap.size _ ⟨hO, HZ.out, HBc.out⟩)
    · skip
      refine value_ (w1 := ?_) (v := ?_) (by rfl) rfl ?_ ?_
      rotate_left 2
      · go_simp
        constructor
        · rfl
        · rfl
      have hO : w.heap.size + 2 ≤ W3.heap.size := Nat.le_trans hz1 HBc.out.size
      have HZ := Lib.hid (blk_new W3 (.cells #[.int .u64 0, .int .i64 0, .int .i64 0, .int .u32 0, .int .u32 0, .int .u32 0] 35 (0, 0)))
      replace HBc := Lib.hid (HBc.out.alloc hO (.cells #[.int .u64 0, .int .i64 0, .int .i64 0, .int .u32 0, .int .u32 0, .int .u32 0] 35))
      refine hK.out _ _ ⟨(HS.out _ HBc.out).1, (HS.out _ HBc.out).2.1, (HS.out _ HBc.out).2.2.1, (HS.out _ HBc.out).2.2.2.2.1⟩ (fun hHeld => ?_)
      clear hK K
      refine norm_ (a' := ?_) ?_ ?_
      rotate_left
      · show Act.put _ (some 6) _ = _
        simp only [Act.put, List.setIfInBounds_toArray, List.set_cons_zero, List.set_cons_succ, i64_w, i32_w]
        rfl
      refine one_ (i := 3) (N := some 31) #[true, true, true, true, true, true, true, false, false, true, true, true, true, false, false, true, false] rfl rfl (by kernel_rfl) (by decide) (fun K hK => ?_)
      refine goes_ Tryz.func79 (by kernel_rfl) rfl #[.string (decS t), .int .u64 9223372036854775807] (by rfl) rfl rfl (by simp only [List.map_toArray, List.map_cons, List.map_nil]; rfl) ?_
      with_reducible refine (hd1 _).mono ?_
      rintro e w5 ⟨rfl, hb⟩
      refine ⟨_, rfl, ?_⟩
      replace HZ := Lib.hid ((hb.block _ (heap_lt' HZ.out)).trans HZ.out)
      replace HBc := step_b HBc hz1 hb
      clear hb
      refine hK.out _ _ ⟨(HS.out _ HBc.out).1, (HS.out _ HBc.out).2.1, (HS.out _ HBc.out).2.2.1, (HS.out _ HBc.out).2.2.2.2.1⟩ (fun hHeld => ?_)
      clear hK K
      refine norm_ (a' := ?_) ?_ ?_
      rotate_left
      · show Act.put _ (some 31) _ = _
        simp only [Act.put, List.setIfInBounds_toArray, List.set_cons_zero, List.set_cons_succ, i64_w, i32_w]
        rfl
      refine one_ (i := 7) (N := some 35) #[true, true, true, true, true, true, true, true, false, true, true, true, true, false, false, true, false] rfl rfl (by kernel_rfl) (by decide) (fun K hK => ?_)
      refine goes_ Tryz.func79 (by kernel_rfl) rfl #[.string (decS cl), .int .u64 8] (by rfl) rfl rfl (by simp only [List.map_toArray, List.map_cons, List.map_nil]; rfl) ?_
      with_reducible refine (hd2 _).mono ?_
      rintro e w6 ⟨rfl, hb⟩
      refine ⟨_, rfl, ?_⟩
      replace HZ := Lib.hid ((hb.block _ (heap_lt' HZ.out)).trans HZ.out)
      replace HBc := step_b HBc hz1 hb
      clear hb
      refine hK.out _ _ ⟨(HS.out _ HBc.out).1, (HS.out _ HBc.out).2.1, (HS.out _ HBc.out).2.2.1, (HS.out _ HBc.out).2.2.2.2.1⟩ (fun hHeld => ?_)
      clear hK K
      refine norm_ (a' := ?_) ?_ ?_
      rotate_left
      · show Act.put _ (some 35) _ = _
        simp only [Act.put, List.setIfInBounds_toArray, List.set_cons_zero, List.set_cons_succ, i64_w, i32_w]
        rfl
      refine pure_ (i := 8) (N := some 36) (v := ?_) (a' := ?_) #[true, true, true, true, true, true, true, true, true, true, true, true, true, false, false, true, false] rfl rfl (by kernel_rfl) (fun _ _ _ h => h) (Or.inl ⟨by rfl, ?_⟩) ?_ ?_
      rotate_left
      · intro w'
        go_simp
        with_reducible rfl
      rotate_left
      · simp only [Act.put, List.setIfInBounds_toArray, List.set_cons_zero, List.set_cons_succ, i64_w, i32_w]
        rfl
      refine one_ (i := 13) (N := some 41) #[true, true, true, true, true, true, true, true, true, true, true, true, true, true, false, true, false] rfl rfl (by kernel_rfl) (by decide) (fun K hK => ?_)
      refine goes_ Tryz.func76 (by kernel_rfl) rfl #[.string (hexS p)] (by rfl) rfl rfl (by simp only [List.map_toArray, List.map_cons, List.map_nil]; rfl) ?_
      with_reducible refine (unhex_ok p u5 _).mono ?_
      rintro e w7 ⟨rfl, hb⟩
      refine ⟨_, rfl, ?_⟩
      replace HZ := Lib.hid ((hb.block _ (heap_lt' HZ.out)).trans HZ.out)
      replace HBc := step_b HBc hz1 hb
      clear hb
      refine hK.out _ _ ⟨(HS.out _ HBc.out).1, (HS.out _ HBc.out).2.1, (HS.out _ HBc.out).2.2.1, (HS.out _ HBc.out).2.2.2.2.1⟩ (fun hHeld => ?_)
      clear hK K
      refine norm_ (a' := ?_) ?_ ?_
      rotate_left
      · show Act.put _ (some 41) _ = _
        simp only [Act.put, List.setIfInBounds_toArray, List.set_cons_zero, List.set_cons_succ, i64_w, i32_w]
        rfl
      refine pure_ (i := 14) (N := some 42) (v := ?_) (a' := ?_) #[true, true, true, true, true, true, true, true, true, true, true, true, true, true, true, true, false] rfl rfl (by kernel_rfl) (fun _ _ _ h => h) (Or.inl ⟨by rfl, ?_⟩) ?_ ?_
      rotate_left
      · intro w'
        go_simp
        with_reducible rfl
      rotate_left
      · simp only [Act.put, List.setIfInBounds_toArray, List.set_cons_zero, List.set_cons_succ, i64_w, i32_w]
        rfl
      exact norm_ (by simp only [putAll, Act.put, List.setIfInBounds_toArray, List.set_cons_zero, List.set_cons_succ]) (hCont W3.heap.size _ ⟨hO, HZ.out, HBc.out⟩)
  rintro O w8 ⟨hO, hZ, hBc⟩
  clear HBc
  have HZ := Lib.hid hZ
  have HBc := Lib.hid hBc
  have hHeld := And.intro (HS.out _ HBc.out).1 (And.intro (HS.out _ HBc.out).2.1 (And.intro (HS.out _ HBc.out).2.2.1 (HS.out _ HBc.out).2.2.2.2.1))
  obtain ⟨z0, z1, z2, z3, z4, z5⟩ := zero_cells HZ.out; obtain ⟨y1, y2, y3, y4, y5⟩ := zero_sets HZ.out (.int .u64 t) (.int .i64 (wrap64 cl)) (.int .i64 q) (.int .u32 p) (.int .u32 0); obtain ⟨x1, x2, x3, x4, x5⟩ := zero_setsf HZ.out (.int .u64 t) (.int .i64 (wrap64 cl)) (.int .i64 q) (.int .u32 p) (.int .u32 0); have zf0 := zero_frozen HZ.out 0; have zf1 := zero_frozen HZ.out 1; have zf2 := zero_frozen HZ.out 2; have zf3 := zero_frozen HZ.out 3; have zf4 := zero_frozen HZ.out 4; have zf5 := zero_frozen HZ.out 5
  refine norm_ (a' := ?_) ?_ ?_
  rotate_left
  · simp only [putAll, Act.put, List.setIfInBounds_toArray, List.set_cons_zero, List.set_cons_succ]
    rfl
  refine last_ (i := 16) (N := none) #[true, true, true, true, true, true, true, true, true, true, true, true, true, true, true, true, true] rfl rfl (by kernel_rfl) (by decide) (fun K hK => ?_)
  refine skip_ (w1 := ?_) (by rfl) rfl ?_ ?_
  rotate_left
  · go_simp
    rfl
  refine hK.out _ _ ?_
  clear hK K
  refine done_ (by kernel_rfl) ?_
  have hwc64 : wrap64 (cl : Int) = (cl : Int) := by unfold wrap64; omega
  obtain ⟨wc, hwc⟩ : ∃ wc, wc = ((((((w8.setCell ⟨O, 0, none⟩ (.int .u64 t)).setCell ⟨O, 1, none⟩ (.int .i64 (wrap64 cl))).setCell ⟨O, 2, none⟩ (.int .i64 q)).setCell ⟨O, 3, none⟩ (.int .u32 p)).setCell ⟨O, 4, none⟩ (.int .u32 0)).setCell ⟨O, 5, none⟩ (.int .u32 0)) := ⟨_, rfl⟩
  have HBd : Hid (Below (w.heap.size + 2) w1 wc) := by
    show Below (w.heap.size + 2) w1 wc
    rw [hwc]; exact set6b HBc.out hO
  have HOd : Hid (ObN wc O t cl q p 0 0) := by
    show ObN wc O t cl q p 0 0
    rw [hwc, hwc64]; exact set6_ob HZ.out _ _ _ _ _ _
  rw [← hwc]
  clear hwc z0 z1 z2 z3 z4 z5 y1 y2 y3 y4 y5 x1 x2 x3 x4 x5 zf0 zf1 zf2 zf3 zf4 zf5 HZ hHeld HBc hd1 hd2
  obtain ⟨_, hfrd, hBw⟩ := hcell.out _ HBd.out
  obtain ⟨mr, fvr, hmr, hmr2⟩ := frm_row2 hfrd q hq1 hq7
  have hent : ∀ args w, (callFunc mr args).run Tryz.prog w = .ok (.enter mr args) w := renter_any hq1 hq7 hmr2
  have HBd5 : Hid (wc.drew.cell? ⟨n + 2, q * 4 + 3, none⟩ = some (.func (.func mr) #[] fvr) ∧ wc.drew.cell? ⟨w.heap.size, 0, none⟩ = some (.slice (some ⟨g, 0, none⟩) (4 + m) c)) := ⟨hmr, (HS.out _ HBd.out).1⟩
  have hrd : Hid (∀ W, Below (w.heap.size + 2) w1 W → ObN W O t cl q p 0 0 → Calls Tryz.prog mr (#[.pointer (some ⟨O, 0, none⟩), .slice (if c = 4 then some ⟨g, 0, none⟩ else some ⟨g, 4, none⟩) m (c - 4)] ++ fvr) W (RdR W O t cl q p a b)) := by
    intro W hW hO'
    obtain ⟨_, hf, hBw'⟩ := hcell.out _ hW
    rw [Hm.out]
    exact read_any hf HG.out hmr2 (fun h => by rw [if_neg]; have := Hm.out; omega) hO' (fun j x hx => by rw [hBw'.cell hg]; exact HW.out j x hx)
  replace HBd : Hid (Below (w.heap.size + 2) w1 wc.drew) := below_drew HBd.out
  replace HOd : Hid (ObN wc.drew O t cl q p 0 0) := HOd.out
  go_wp2_with fail
  refine start_ (n := 8) (S := fun w' => w'.cell? ⟨n + 2, q * 4 + 3, none⟩ = some (.func (.func mr) #[] fvr) ∧ w'.cell? ⟨w.heap.size, 0, none⟩ = some (.slice (some ⟨g, 0, none⟩) (4 + m) c)) (ds := [7]) #[false, false, false, false, false, false, false, false] (by kernel_rfl) rfl rfl ⟨HBd5.out.1, HBd5.out.2⟩ (fun hHeld => ?_)
  generalize wc.drew = W5 at HBd HOd hHeld ⊢
  refine pure_ (i := 0) (N := some 43) (v := ?_) (a' := ?_) #[true, false, false, false, false, false, false, false] rfl rfl (by kernel_rfl) (fun _ _ _ h => h) (Or.inl ⟨by rfl, ?_⟩) ?_ ?_
  rotate_left
  · intro w'
    go_simp
    with_reducible rfl
  rotate_left
  · simp only [Act.put, List.setIfInBounds_toArray, List.set_cons_zero, List.set_cons_succ, i64_w, i32_w]
    rfl
  refine pure_ (i := 1) (N := some 44) (v := ?_) (a' := ?_) #[true, true, false, false, false, false, false, false] rfl rfl (by kernel_rfl) (fun _ _ _ h => h) (Or.inl ⟨by rfl, ?_⟩) ?_ ?_
  rotate_left
  · intro w'
    go_simp
    with_reducible rfl
  rotate_left
  · simp only [Act.put, List.setIfInBounds_toArray, List.set_cons_zero, List.set_cons_succ, i64_w, i32_w]
    rfl
  refine pure_ (i := 2) (N := some 45) (v := ?_) (a' := ?_) #[true, true, true, false, false, false, false, false] rfl rfl (by kernel_rfl) (fun _ _ _ h => h) (Or.inl ⟨by rfl, ?_⟩) ?_ ?_
  rotate_left
  · intro w'
    go_simp
    with_reducible rfl
  rotate_left
  · simp only [Act.put, List.setIfInBounds_toArray, List.set_cons_zero, List.set_cons_succ, i64_w, i32_w]
    rfl
  refine pure_ (i := 3) (N := some 46) (v := ?_) (a' := ?_) #[true, true, true, true, false, false, false, false] rfl rfl (by kernel_rfl) (fun _ _ _ h => h) (Or.inl ⟨by rfl, ?_⟩) ?_ ?_
  rotate_left
  · intro w'
    go_simp
    with_reducible rfl
  rotate_left
  · simp only [Act.put, List.setIfInBounds_toArray, List.set_cons_zero, List.set_cons_succ, i64_w, i32_w]
    rfl
  refine take_ (i := 4) (N := some 47) (v := ?_) (a' := ?_) #[true, true, true, true, true, false, false, false] rfl rfl (by kernel_rfl) (fun _ _ _ h => h) (Or.inl ⟨by rfl, ?_⟩) hHeld ?_ ?_
  rotate_left
  · rintro w' ⟨s0, s1⟩
    go_simp
    with_reducible rfl
  rotate_left
  · simp only [Act.put, List.setIfInBounds_toArray, List.set_cons_zero, List.set_cons_succ, i64_w, i32_w]
    rfl
  refine take_ (i := 5) (N := some 48) (v := ?_) (a' := ?_) #[true, true, true, true, true, true, false, false] rfl rfl (by kernel_rfl) (fun _ _ _ h => h) (Or.inl ⟨by rfl, ?_⟩) hHeld ?_ ?_
  rotate_left
  · rintro w' ⟨s0, s1⟩
    go_simp
    with_reducible rfl
  rotate_left
  · simp only [Act.put, List.setIfInBounds_toArray, List.set_cons_zero, List.set_cons_succ, i64_w, i32_w]
    rfl
  refine pure_ (i := 6) (N := some 49) (v := ?_) (a' := ?_) #[true, true, true, true, true, true, true, false] rfl rfl (by kernel_rfl) (fun _ _ _ h => h) (Or.inl ⟨by rfl, ?_⟩) ?_ ?_
  rotate_left
  · intro w'
    go_simp
    with_reducible rfl
  rotate_left
  · simp only [Act.put, List.setIfInBounds_toArray, List.set_cons_zero, List.set_cons_succ, i64_w, i32_w]
    rfl
  refine last_ (i := 7) (N := some 50) #[true, true, true, true, true, true, true, true] rfl rfl (by kernel_rfl) (by decide) (fun K hK => ?_)
  refine call_ mr (#[.pointer (some ⟨O, 0, none⟩), .slice (if c = 4 then some ⟨g, 0, none⟩ else some ⟨g, 4, none⟩) m (c - 4)] ++ fvr) (by rfl) rfl ?_ ?_
  · go_simp
  refine (hrd.out _ HBd.out HOd.out).mono ?_
  rintro e w10 ⟨rfl, ho, hb⟩
  refine ⟨_, rfl, ?_⟩
  refine hK.out _ _ ?_
  clear hK K
  refine norm_ (a' := ?_) ?_ ?_
  rotate_left
  · show Act.put _ (some 50) _ = _
    simp only [Act.put, List.setIfInBounds_toArray, List.set_cons_zero, List.set_cons_succ, i64_w, i32_w]
    rfl
  refine done_ (by kernel_rfl) ?_
  have HB10 : Hid (Below (w.heap.size + 2) w1 w10) := HBd.out.trans (hb.mono hO)
  have HO10 := Lib.hid ho
  clear hb ho HOd HBd hHeld HBd5 hrd hent hmr hmr2 hBw hfrd HS
  obtain ⟨c0, c1, c2, c3, c4, c5⟩ := HO10.out.cells
  generalize (if c = 4 then (some ⟨g, 0, none⟩ : Option Addr) else some ⟨g, 4, none⟩) = AA
  go_wp2_with fail
  refine (may_ok (obN t cl q p a b) _).mono ?_
  rintro e w11 ⟨rfl, hb⟩
  rw [HG.out.may]
  clear c0 c1 c2 c3 c4 c5
  have HO11 := Lib.hid (HO10.out.below hb)
  have HB11 := step_b HB10 hz1 hb
  clear hb HO10 HB10
  go_wp2_with fail
  refine (must_ok _).mono ?_
  rintro e w12 ⟨rfl, rfl⟩
  obtain ⟨c0, c1, c2, c3, c4, c5⟩ := HO11.out.cells
  have hR12 : w12.heap[w.heap.size + 1]? = some (.cells #[.int .u64 0, .int .i64 0, .int .i64 0, .int .u32 0, .int .u32 0, .int .u32 0] 35 (0, 0)) := (HB11.out.block _ (by omega)).trans hR0.out
  have HR12 := Lib.hid hR12
  obtain ⟨z0, z1, z2, z3, z4, z5⟩ := zero_cells hR12
  obtain ⟨y1, y2, y3, y4, y5⟩ := zero_sets hR12 (.int .u64 t) (.int .i64 cl) (.int .i64 q) (.int .u32 p) (.int .u32 a)
  obtain ⟨x1, x2, x3, x4, x5⟩ := zero_setsf hR12 (.int .u64 t) (.int .i64 cl) (.int .i64 q) (.int .u32 p) (.int .u32 a)
  have zf0 := zero_frozen hR12 0
  clear hR12
  go_wp2_with fail
  have hfin := set6_ob HR12.out (.int .u64 t) (.int .i64 cl) (.int .i64 q) (.int .u32 p) (.int .u32 a) (.int .u32 b)
  obtain ⟨e0, e1, e2, e3, e4, e5⟩ := ObN.cells (O := w.heap.size + 1) (t := t) (cl := cl) (q := q) (p := p) (a := a) (b := b) hfin
  obtain ⟨_, _, hBw12⟩ := hcell.out _ HB11.out
  have HBf := set6b (v0 := .int .u64 t) (v1 := .int .i64 cl) (v2 := .int .i64 q) (v3 := .int .u32 p) (v4 := .int .u32 a) (v5 := .int .u32 b) (O := w.heap.size + 1) hBw12 (by omega)
  generalize ((((((w12.setCell ⟨w.heap.size + 1, 0, none⟩ (.int .u64 t)).setCell ⟨w.heap.size + 1, 1, none⟩ (.int .i64 cl)).setCell ⟨w.heap.size + 1, 2, none⟩ (.int .i64 q)).setCell ⟨w.heap.size + 1, 3, none⟩ (.int .u32 p)).setCell ⟨w.heap.size + 1, 4, none⟩ (.int .u32 a)).setCell ⟨w.heap.size + 1, 5, none⟩ (.int .u32 b)) = WF at e0 e1 e2 e3 e4 e5 HBf ⊢
  clear c0 c1 c2 c3 c4 c5 z0 z1 z2 z3 z4 z5 y1 y2 y3 y4 y5 x1 x2 x3 x4 x5 zf0 hfin
  refine bodyPost_ret (v := .agg #[.int .u64 t, .int .i64 cl, .int .i64 q, .int .u32 p, .int .u32 a, .int .u32 b]) ?_ rfl ⟨rfl, HBf⟩
  simp [results, show Tryz.f68.results = #[.cell 4 35] from rfl, go_sem, e0, e1, e2, e3, e4, e5]
end Go.Proofs.YtohighedgdlflaaGreatDoor

/- strings.Split at one byte, as a plain recursion. -/
namespace Go.Proofs.YtohighedgdlflaaGreatDoor
open Go.Lib
def splitC (c : UInt8) : List UInt8 → List (List UInt8)
  | [] => [[]]
  | b :: l => if b = c then [] :: splitC c l else
    match splitC c l with
    | [] => [[b]]
    | p :: ps => (b :: p) :: ps
theorem splitK_splitC (c : UInt8) : ∀ (s : List UInt8), splitK [c] 0 (count s [c]) s = splitC c s
  | [] => by rw [count_miss (by simp [index])]; rfl
  | b :: l => by
    have ih := splitK_splitC c l
    by_cases h : b = c
    · subst h
      have hix : index (b :: l) [b] = 0 := by rw [index]; simp [List.isPrefixOf]
      rw [count_cons_eq, Nat.add_comm, splitK, hix]
      simp [splitC, ih]
    · have hp : ([c] : List UInt8).isPrefixOf (b :: l) = false := by simp [List.isPrefixOf, Ne.symm h]
      have hix : index (b :: l) [c] = if index l [c] == -1 then -1 else index l [c] + 1 := by rw [index, hp]; simp
      rw [count_cons_ne b c l h]
      by_cases hm : index l [c] = -1
      · rw [count_miss hm] at ih ⊢
        rw [splitK] at ih ⊢
        rw [splitC, if_neg h, ← ih]
      · have hge := index_ge l [c]
        obtain ⟨j, hj⟩ : ∃ j : Nat, index l [c] = j := ⟨(index l [c]).toNat, by omega⟩
        have hix' : index (b :: l) [c] = ((j + 1 : Nat) : Int) := by rw [hix, if_neg (fun e => hm (beq_iff_eq.1 e)), hj]; omega
        rw [count_hit (by simp) hj, Nat.add_comm] at ih ⊢
        rw [splitK, hj] at ih
        rw [splitK, hix']
        rw [if_neg (show ¬ ((((j : Nat) : Int) == -1) = true) by simp <;> omega)] at ih
        rw [if_neg (show ¬ ((((j + 1 : Nat) : Int) == -1) = true) by simp <;> omega)]
        rw [splitC, if_neg h, ← ih]
        have e1 : (((j + 1 : Nat) : Int)).toNat = j + 1 := by omega
        have e2 : ((j : Int)).toNat = j := by omega
        rw [e1, e2]
        simp [List.take_succ_cons]
theorem splitC_none (c : UInt8) : ∀ (s : List UInt8), c ∉ s → splitC c s = [s]
  | [], _ => rfl
  | b :: l, h => by
    have h1 : b ≠ c := fun e => h (by simp [e])
    have h2 : c ∉ l := fun e => h (by simp [e])
    rw [splitC, if_neg h1, splitC_none c l h2]
theorem splitC_app (c : UInt8) : ∀ (s r : List UInt8), c ∉ s → splitC c (s ++ c :: r) = s :: splitC c r
  | [], r, _ => by rw [List.nil_append, splitC, if_pos rfl]
  | b :: l, r, h => by
    have h1 : b ≠ c := fun e => h (by simp [e])
    have h2 : c ∉ l := fun e => h (by simp [e])
    rw [List.cons_append, splitC, if_neg h1, splitC_app c l r h2]
/-- A joined row, cut again. -/
theorem splitC_join (c : UInt8) : ∀ (x : List UInt8) (xs : List (List UInt8)), (∀ y ∈ x :: xs, c ∉ y) → splitC c (Lib.join (x :: xs) [c]) = x :: xs
  | x, [], h => by
    rw [Lib.join_one]
    exact splitC_none c x (h x (by simp))
  | x, y :: ys, h => by
    have ih := splitC_join c y ys (fun z hz => h z (by simp at hz ⊢; exact Or.inr hz))
    have : Lib.join (x :: y :: ys) [c] = x ++ c :: Lib.join (y :: ys) [c] := by
      simp [Lib.join_cons, Lib.joinTail]
    rw [this, splitC_app c x _ (h x (by simp)), ih]
theorem splitC_lines (c : UInt8) : ∀ (xs : List (List UInt8)), (∀ y ∈ xs, c ∉ y) → splitC c (xs.flatMap fun x => x ++ [c]) = xs ++ [[]]
  | [], _ => rfl
  | x :: xs, h => by
    have ih := splitC_lines c xs (fun z hz => h z (by simp [hz]))
    rw [List.flatMap_cons, List.append_assoc, List.singleton_append, splitC_app c x _ (h x (by simp)), ih]
    rfl
theorem splitB_splitC (c : UInt8) (s : ByteArray) : (splitB ⟨#[c]⟩ 0 (countB s ⟨#[c]⟩) s).map (·.data.toList) = splitC c s.data.toList := by
  rw [splitB_data]
  exact splitK_splitC c s.data.toList
end Go.Proofs.YtohighedgdlflaaGreatDoor

/- The pieces of a text of lines, and what they say. -/
namespace Go.Proofs.YtohighedgdlflaaGreatDoor
open Go.Shelf Go.RowKit Go.Sort Go.Lib Go.Proofs.YtohighedgdlflaaGreatDoorW.PrintWords Go.Proofs.YtohighedgdlflaaGreatDoor.PR
set_option linter.unusedVariables false
set_option linter.unusedSimpArgs false
def pieces (s : ByteArray) : List ByteArray := Lib.splitB ⟨#[10]⟩ 0 (Lib.countB s ⟨#[10]⟩) s
def cutB (s : ByteArray) : List ByteArray := Lib.splitB ⟨#[32]⟩ 0 (Lib.countB s ⟨#[32]⟩) s
def wordsB (s : ByteArray) : List ByteArray := (cutB s).filter fun x => !emp x
def PieceIs (x : ByteArray) (os : List S35) : Prop :=
  (wordsB x = [] ∧ os = []) ∨ ∃ t cl q p a b : Nat, GoodN t cl q p a b ∧ wordsB x = wordsN t cl q p a b ∧ os = [obN t cl q p a b]
theorem splitC_le (c : UInt8) : ∀ (s : List UInt8) (x : List UInt8), x ∈ splitC c s → x.length ≤ s.length
  | [], x, h => by simp [splitC] at h; simp [h]
  | b :: l, x, h => by
    have ih := splitC_le c l
    rw [splitC] at h
    split at h
    · rcases List.mem_cons.1 h with rfl | h
      · simp
      · have := ih x h; simp; omega
    · split at h
      · rename_i heq
        simp at h; subst h; simp
      · rename_i p ps heq
        rcases List.mem_cons.1 h with rfl | h
        · have := ih p (by rw [heq]; simp); simp; omega
        · have := ih x (by rw [heq]; simp [h]); simp; omega
theorem pieces_le {s x : ByteArray} (h : x ∈ pieces s) : x.size ≤ s.size := by
  have h1 : x.data.toList ∈ splitC 10 s.data.toList := by
    rw [← splitB_splitC]
    exact List.mem_map_of_mem h
  have := splitC_le _ _ _ h1
  rw [Lib.size_eq, Lib.size_eq]
  exact this
theorem pieces_len (s : ByteArray) : (pieces s).length = Lib.countB s ⟨#[10]⟩ + 1 := Lib.splitB_all _ (by decide) 0 _ s rfl
theorem cutB_len (s : ByteArray) : (cutB s).length = Lib.countB s ⟨#[32]⟩ + 1 := Lib.splitB_all _ (by decide) 0 _ s rfl
theorem count_small (s sep : ByteArray) (h1 : 1 ≤ sep.size) : Lib.countB s sep ≤ s.size := Lib.countB_le sep h1 _ s (Nat.le_refl _)
/-- A digit stands first. -/
theorem decS_first (t : Nat) : ∃ h : 0 < (decS t).size, ((((decS t)[0]'h).toNat : Int) != 35) = true := by
  have hz : 0 < (decS t).size := by
    rw [decS_size, ← Lib.decDigits_length]
    rw [Lib.decDigits]; split <;> simp
  refine ⟨hz, ?_⟩
  have key : ∀ (u : Nat) c, (Lib.decDigits u)[0]? = some c → 48 ≤ c.toNat := by
    intro u
    induction u using Nat.strongRecOn with
    | _ u ih =>
      intro c hc
      rw [Lib.decDigits] at hc
      split at hc
      · rename_i h
        simp at hc
        rw [← hc]
        rcases (show u = 0 ∨ u = 1 ∨ u = 2 ∨ u = 3 ∨ u = 4 ∨ u = 5 ∨ u = 6 ∨ u = 7 ∨ u = 8 ∨ u = 9 by omega) with h | h | h | h | h | h | h | h | h | h <;> subst h <;> decide
      · rename_i h
        refine ih (u / 10) (by omega) c ?_
        rw [List.getElem?_append_left] at hc
        · exact hc
        · rw [Lib.decDigits]; split <;> simp
  have h1 : (Lib.decDigits t)[0]? = some ((decS t)[0]'hz) := by
    have hl : 0 < (Lib.decDigits t).length := by rw [Lib.decDigits_length, ← decS_size]; exact hz
    rw [List.getElem?_eq_getElem hl]
    congr 1
  have h2 := key t _ h1
  rw [bne_iff_ne]
  omega
end Go.Proofs.YtohighedgdlflaaGreatDoor

/- Parse's deferred function, where nothing panicked. -/
namespace Go.Proofs.YtohighedgdlflaaGreatDoor
open Go.Shelf Go.RowKit Go.Sort Go.Lib Go.Proofs.YtohighedgdlflaaGreatDoorW.PrintWords Go.Proofs.YtohighedgdlflaaGreatDoor.PR
set_option linter.unusedVariables false
set_option linter.unusedSimpArgs false
set_option maxRecDepth 100000 in
theorem p64_idle (A B : Addr) (w : World) :
    CallsD Tryz.prog 64 #[.pointer (some A), .pointer (some B)] .returning w fun e u' w' => e = .returned (.tuple #[]) ∧ u' = .returning ∧ w' = w := by
  refine callsD_of_wpS Tryz.func64 rfl fun c₀ cs hu => ?_
  apply wpS_seq
  apply wpS_region
  simp [wpOpsS, go_sem, recoverD, hu, Tryz.ntmps64, Exit.thenS]
  apply wpS_seq
  apply wpS_region
  simp [wpOpsS, go_sem, recoverD, hu, Tryz.ntmps64, Exit.thenS]
  refine wpS_cond (t := false) (by simp [Act.eval, Array.replicate]) ?_
  simp only [Bool.false_eq_true, if_false]
  refine wpS_of_wp (wp_skip ?_)
  cases c₀
  simp_all [bodyPostS, results]
end Go.Proofs.YtohighedgdlflaaGreatDoor

/- trace.Parse reads the lines of observations that may be. -/
namespace Go.Proofs.YtohighedgdlflaaGreatDoor
open Go.Proofs.YtohighedgdlflaaGreatDoorW.PrintLast Go.Shelf Go.RowKit Go.Sort Go.Lib Go.Proofs.YtohighedgdlflaaGreatDoorW.PrintWords Go.Proofs.YtohighedgdlflaaGreatDoor.PR
set_option linter.unusedVariables false
set_option linter.unusedSimpArgs false
theorem del_cut (x : ByteArray) (W : World) (hx : x.size ≤ 1000000000) :
    Calls Tryz.prog 66 #[.slice (some ⟨W.heap.size, 0, none⟩) (Lib.countB x ⟨#[32]⟩ + 1) (Lib.countB x ⟨#[32]⟩ + 1), .func (.func 67) #[] #[]] (W.alloc (.cells ((cutB x).map Value.string).toArray 9)) fun e w' =>
      e = .returned (.slice (some ⟨W.heap.size, 0, none⟩) (wordsB x).length (Lib.countB x ⟨#[32]⟩ + 1)) ∧ Below W.heap.size W w' ∧ W.heap.size < w'.heap.size ∧ ∀ (j : Nat) y, (wordsB x)[j]? = some y → w'.cell? ⟨W.heap.size, j, none⟩ = some (.string y) := by
  have hl := cutB_len x
  have hcs := count_small x ⟨#[32]⟩ (by decide)
  rw [← hl]
  have hd : (cutB x).length = (cutB x).toArray.size := by simp
  rw [hd]
  have hH : Holds Value.string (W.alloc (.cells ((cutB x).map Value.string).toArray 9)) W.heap.size 0 (cutB x).toArray := by
    intro j hj
    have hj2 : j < (cutB x).length := by simpa using hj
    rw [Nat.zero_add]
    have hb := blk_new W (.cells ((cutB x).map Value.string).toArray 9)
    constructor
    · simp only [World.cell?, hb]
      simp [hj2, getElem!_pos, List.getElem?_eq_getElem hj2]
    · simp only [World.frozen?, hb]; simp
  refine (del_ok W.heap.size _ (cutB x).toArray _ hH (by simp) (by rw [← hd, hl]; omega) (Nat.le_refl _)).mono ?_
  rintro e w' ⟨rfl, hb, hc⟩
  have hb2 : Below W.heap.size W w' := (below_alloc (Below.refl _ _) _).trans hb
  refine ⟨by rw [← hd]; rfl, hb2, ?_, hc⟩
  have := hb.size
  rw [World.size_alloc] at this
  omega
theorem R_sl {W : World} {B : Nat} {ok : Nat → Prop} {v : Value} {xs : List S35} (h : Kd.R k35 35 W B ok v xs) : ∃ A L c, v = .slice A L c := by
  obtain ⟨A, c, hv⟩ := Kd.R_slice h
  exact ⟨A, _, c, hv⟩
theorem cell_one {W : World} {B q : Nat} {v : Value} (h : W.heap[B]? = some (.cells #[v] q (0, 0))) : W.cell? ⟨B, 0, none⟩ = some v ∧ W.frozen? ⟨B, 0, none⟩ = false := by
  constructor
  · simp only [World.cell?, h]; rfl
  · simp only [World.frozen?, h]; rfl
/-- What holds while the lines are read. -/
structure PInv (w W : World) (n G : Nat) (cs : Array Value) (v : Value) (xs : List S35) : Prop where
  low : Below w.heap.size w W
  l : W.heap[w.heap.size]? = some (.cells #[v] 22 (0, 0))
  e : W.heap[w.heap.size + 1]? = some (.cells #[.int .i64 0] 25 (0, 0))
  r : Kd.R k35 35 W w.heap.size (fun _ => True) v xs
  frm : Frm W n
  pcs : W.heap[G]? = some (.cells cs 9 (0, 0))
theorem PInv.below {w W W' : World} {n G : Nat} {cs : Array Value} {v : Value} {xs : List S35} (h : PInv w W n G cs v xs) (hb : Below W.heap.size W W') : PInv w W' n G cs v xs :=
  ⟨h.low.trans (hb.mono h.low.size), (hb.block _ (heap_lt' h.l)).trans h.l, (hb.block _ (heap_lt' h.e)).trans h.e, Kd.R_below h.r hb, h.frm.below hb, (hb.block _ (heap_lt' h.pcs)).trans h.pcs⟩
theorem PInv.cellv {w W : World} {n G : Nat} {cs : Array Value} {v : Value} {xs : List S35} (h : PInv w W n G cs v xs) : W.cell? ⟨w.heap.size, 0, none⟩ = some v ∧ W.frozen? ⟨w.heap.size, 0, none⟩ = false := by
  have := h.l
  exact ⟨by simp [World.cell?, this], by simp [World.frozen?, this]⟩
theorem PInv.celle {w W : World} {n G : Nat} {cs : Array Value} {v : Value} {xs : List S35} (h : PInv w W n G cs v xs) : W.cell? ⟨w.heap.size + 1, 0, none⟩ = some (.int .i64 0) ∧ W.frozen? ⟨w.heap.size + 1, 0, none⟩ = false := by
  have := h.e
  exact ⟨by simp [World.cell?, this], by simp [World.frozen?, this]⟩
theorem PInv.grown {w W W1 : World} {n G : Nat} {cs : Array Value} {v : Value} {xs : List S35} (h : PInv w W n G cs v xs) (hg : W.grownBy W1 v.ownBlock) : W1.heap[w.heap.size]? = some (.cells #[v] 22 (0, 0)) :=
  (hg.block _ (heap_lt' h.l) (Kd.R_ne h.r h.l (by decide))).trans h.l
theorem k35_E {q : Nat} (h : q ∈ 35 :: k35.E) : q = 35 := by simpa [k35, Kd.iso, Kd.pair, Kd.int, Kd.scalar] using h
theorem PInv.put {w W W1 : World} {n G : Nat} {cs : Array Value} {v v1 : Value} {xs ys : List S35} (h : PInv w W n G cs v xs) (hg : W.grownBy W1 v.ownBlock) (hr : Kd.R k35 35 W1 w.heap.size (fun _ => True) v1 ys) (hb : Below w.heap.size w W1) (hn : w.heap.size < n) (hG : w.heap.size < G) : PInv w (W1.setCell ⟨w.heap.size, 0, none⟩ v1) n G cs v1 ys := by
  have hl := h.grown hg
  have mv : ∀ (k : Nat) (cells : Array Value) (q : Nat), w.heap.size ≠ k → q ≠ 35 → W.heap[k]? = some (.cells cells q (0, 0)) → (W1.setCell ⟨w.heap.size, 0, none⟩ v1).heap[k]? = some (.cells cells q (0, 0)) := fun k cells q hk hq hc => by
    rw [Below.heap_setCell _ _ _ _ (by simp; omega)]
    exact (hg.block _ (heap_lt' hc) (Kd.R_ne h.r hc (by omega))).trans hc
  refine ⟨hb.setCell (Nat.le_refl _) _, heap_setCell_same _ _ _ _ _ _ hl, mv _ _ _ (by omega) (by decide) h.e, Kd.R_set hr hl (fun q hq => by rw [k35_E hq]; decide) 0 v1, ⟨mv _ _ _ (by omega) (by decide) h.frm.names, mv _ _ _ (by omega) (by decide) h.frm.ptr, mv _ _ _ (by omega) (by decide) h.frm.tab⟩, mv _ _ _ (by omega) (by decide) h.pcs⟩
set_option maxRecDepth 100000 in
set_option maxHeartbeats 8000000 in
theorem parse_ok (s : ByteArray) (m : Int) (oss : List (List S35)) (w : World) (hs : s.size ≤ 1000000000) (hm : w.cell? ⟨2, 0, none⟩ = some (.int .i64 m)) (hlen : oss.length = (pieces s).length)
    (hP : ∀ (k : Nat) x os, (pieces s)[k]? = some x → oss[k]? = some os → PieceIs x os) (hn : oss.flatten.length ≤ 1000000) :
    Calls Tryz.prog 31 #[.string s] w fun e w' => ∃ v, e = .returned (.tuple #[v, .int .i64 0, .int .i64 0]) ∧ Kd.R k35 35 w' w.heap.size (fun _ => True) v oss.flatten ∧ Below w.heap.size w w' := by
  have HP := Lib.hid hP
  have HM := Lib.hid hm
  have h2 : 2 < w.heap.size := World.block_lt_of_cell? _ _ hm
  clear hP hm
  have hpl := pieces_len s
  obtain ⟨N, hN⟩ : ∃ N, N = (pieces s).length := ⟨_, rfl⟩
  have hmf : ∀ (fn : Fn) (first cap : Array Value) (w : World), (Instr.makeFunc fn first cap).run Tryz.prog w = .ok (.func fn first cap) w := fun _ _ _ _ => rfl
  go_enter_defers Tryz.func31, Tryz.ntmps31
  go_wp2_with fail
  have hA0 : ((w.alloc (.cells #[.slice none 0 0] 22)).alloc (.cells #[.int .i64 0] 25)).heap[w.heap.size]? = some (.cells #[.slice none 0 0] 22 (0, 0)) :=
    (below_alloc (Below.refl _ _) _ |>.block _ (by simp)).trans (blk_new w (.cells #[.slice none 0 0] 22))
  have hA1 : ((w.alloc (.cells #[.slice none 0 0] 22)).alloc (.cells #[.int .i64 0] 25)).heap[w.heap.size + 1]? = some (.cells #[.int .i64 0] 25 (0, 0)) := by
    have := blk_new (w.alloc (.cells #[.slice none 0 0] 22)) (.cells #[.int .i64 0] 25)
    rwa [World.size_alloc] at this
  have hB0 : Below w.heap.size w ((w.alloc (.cells #[.slice none 0 0] 22)).alloc (.cells #[.int .i64 0] 25)) := below_alloc (below_alloc (Below.refl _ _) _) _
  refine (forms_ok _).mono ?_
  rintro e w1 ⟨rfl, hfr, hb1⟩
  have HB1 := Lib.hid (hB0.trans (hb1.mono hB0.size))
  have HA1 := Lib.hid (And.intro ((hb1.block _ (heap_lt' hA0)).trans hA0) ((hb1.block _ (heap_lt' hA1)).trans hA1))
  simp only [World.size_alloc] at hfr ⊢
  generalize hn2 : w.heap.size + 1 + 1 = n at hfr ⊢
  have HF1 := Lib.hid hfr
  have hG1 : n + 2 < w1.heap.size := hfr.lt
  clear hA0 hA1 hB0 hfr hb1
  go_wp2_with fail
  refine (Tryz.strings_Split s ⟨#[10]⟩ m _ (by omega) ?_ (by decide)).mono ?_
  · rw [HB1.out.cell h2]; exact HM.out
  rintro e w2 ⟨rfl, rfl⟩
  have hNs : Lib.countB s ⟨#[10]⟩ + 1 ≤ 1000000001 := by
    have := count_small s ⟨#[10]⟩ (by decide)
    omega
  have hN' : (pieces s).length = N := hN.symm
  rw [← hpl, hN'] at hNs
  rw [← hpl, hN']
  have HN := Lib.hid hN'
  have hol : oss.length = N := hlen.trans hN'
  have HOL := Lib.hid hol
  clear hN hN' hpl hol hlen
  obtain ⟨cs, hcs⟩ : ∃ cs, cs = ((pieces s).map Value.string).toArray := ⟨_, rfl⟩
  have hI : PInv w (w1.alloc (.cells cs 9)) n w1.heap.size cs (.slice none 0 0) [] := by
    have hba := below_alloc (Below.refl w1.heap.size w1) (.cells cs 9)
    refine ⟨HB1.out.trans (hba.mono HB1.out.size), (hba.block _ (heap_lt' HA1.out.1)).trans HA1.out.1, (hba.block _ (heap_lt' HA1.out.2)).trans HA1.out.2, Kd.R_nil _ _ _ _ _, HF1.out.below hba, ?_⟩
    exact blk_new _ _
  have hcs2 : ((Lib.splitB ⟨#[10]⟩ 0 (Lib.countB s ⟨#[10]⟩) s).map Value.string).toArray = cs := by rw [hcs]; rfl
  rw [hcs2]
  have HI0 := Lib.hid hI
  have HCS := Lib.hid hcs
  clear HF1 HA1 HB1 hcs2 hcs hI
  go_wp2_with fail
  generalize w1.alloc (.cells cs 9) = w2 at HI0 ⊢
  go_loopw [4, 6, 7, 8, 14] (fun v4 v6 v7 v8 v14 wr => ∃ (k : Nat) (v : Value), k ≤ N ∧ v14 = .int .i64 k ∧ Hid (PInv w wr n w1.heap.size cs v (oss.take k).flatten)) (fun _ _ _ _ i _ => N - (RowKit.intOf i).toNat)
  case atStart => exact ⟨0, _, by omega, rfl, HI0⟩
  case round =>
    clear HI0
    obtain ⟨k, v, hk, rfl, HI⟩ := hrel
    by_cases hlt : k < N
    · obtain ⟨x, hx⟩ : ∃ x, (pieces s)[k]? = some x := ⟨_, List.getElem?_eq_getElem (by rw [HN.out]; exact hlt)⟩
      obtain ⟨os, hos⟩ : ∃ os, oss[k]? = some os := ⟨_, List.getElem?_eq_getElem (by rw [HOL.out]; exact hlt)⟩
      have HPI := Lib.hid (HP.out k x os hx hos)
      have hxs : x.size ≤ 1000000000 := Nat.le_trans (pieces_le (List.mem_of_getElem? hx)) hs
      have hcx : wr.cell? ⟨w1.heap.size, k, none⟩ = some (.string x) := by
        have h1 := HI.out.pcs
        have h2 := HCS.out
        simp only [World.cell?, h1, h2]
        simp [hx]
      have Hos := Lib.hid hos
      clear hx hos
      go_wp2_with fail
      refine (Tryz.strings_Split x ⟨#[32]⟩ m _ (by omega) ?_ (by decide)).mono ?_
      · rw [HI.out.low.cell h2]; exact HM.out
      rintro e w3 ⟨rfl, rfl⟩
      go_wp2_with fail
      refine (del_cut x _ hxs).mono ?_
      rintro e w4 ⟨rfl, hb4, hg4, hw4⟩
      have HI4 := Lib.hid (HI.out.below hb4)
      have HW4 := Lib.hid hw4
      have hcb : (wordsB x).length ≤ Lib.countB x ⟨#[32]⟩ + 1 := by rw [← cutB_len x]; exact List.length_filter_le _ _
      generalize wr.heap.size = g at hg4 HW4 ⊢
      generalize Lib.countB x ⟨#[32]⟩ + 1 = c at hcb ⊢
      clear hb4 hw4 HI hcx
      rcases HPI.out with ⟨hwe, hose⟩ | ⟨t, cl, q, p, a, b, hG, hwn, hose⟩
      · rw [hwe, List.length_nil]
        have HI5 : Hid (PInv w w4 n w1.heap.size cs v (oss.take (k + 1)).flatten) := by
          show PInv w w4 n w1.heap.size cs v (oss.take (k + 1)).flatten
          rw [List.take_add_one, Hos.out, hose]
          simpa using HI4.out
        clear HI4 HPI hwe hcb HW4
        go_wp2_with fail
        go_roundw
        case rel => exact ⟨k + 1, v, by omega, by go_num, HI5⟩
        case measure => simp [RowKit.intOf]; omega
      · obtain ⟨acc, hacc⟩ : ∃ acc, acc = (oss.take k).flatten := ⟨_, rfl⟩
        have hfl : (oss.take (k + 1)).flatten = acc ++ [obN t cl q p a b] := by
          rw [List.take_add_one, Hos.out, hose, hacc]; simp
        have hal : acc.length + 1 ≤ 1000000 := by
          have h1 : ((oss.take (k + 1)).flatten).length ≤ oss.flatten.length := by
            have h0 : oss.flatten = (oss.take (k + 1)).flatten ++ (oss.drop (k + 1)).flatten := by rw [← List.flatten_append, List.take_append_drop]
            rw [h0, List.length_append]; omega
          rw [hfl, List.length_append, List.length_singleton] at h1
          omega
        rw [← hacc] at HI4
        have Hfl := Lib.hid hfl
        clear hfl hacc hose HPI
        rw [hwn, wordsN_len t cl q p a b hG.q1 hG.q7] at hcb ⊢
        have hW0 := HW4.out 0 (decS t) (by rw [hwn]; rfl)
        have HW : Hid (∀ (j : Nat) x, (wordsN t cl q p a b)[j]? = some x → w4.cell? ⟨g, j, none⟩ = some (.string x)) := by
          intro j y hy
          exact HW4.out j y (by rw [hwn]; exact hy)
        have HG := Lib.hid hG
        have HI := HI4
        obtain ⟨hz0, hne⟩ := decS_first t
        have hpos : (0 : Int) < 4 + (nWords q : Int) := by omega
        have hg := hg4
        have hc := hcb
        clear hwn HW4 HI4 hG hg4 hcb
        go_upto_region 9 with (fail)
        clear hne hpos hW0
        have hc32 : k35.sz = 6 := rfl
        refine wp_region_noPanic ?_
        refine start_ (n := 7) (S := fun w' => w'.cell? ⟨w.heap.size, 0, none⟩ = some v) (ds := [6]) #[false, false, false, false, false, false, false] (by kernel_rfl) rfl rfl (HI.out.cellv.1) (fun hHeld => ?_)
        replace HI : Hid (PInv w w4.drew n w1.heap.size cs v acc) := HI.out.below (below_drew (Below.refl _ _))
        replace HW : Hid (∀ (j : Nat) x, (wordsN t cl q p a b)[j]? = some x → w4.drew.cell? ⟨g, j, none⟩ = some (.string x)) := HW.out
        replace hg : g < w4.drew.heap.size := hg
        generalize w4.drew = WY at HI HW hg hHeld ⊢
        refine pure_ (i := 1) (N := some 35) (v := ?_) (a' := ?_) #[false, true, false, false, false, false, false] rfl rfl (by kernel_rfl) (fun _ _ _ h => h) (Or.inl ⟨by rfl, ?_⟩) ?_ ?_
        rotate_left
        · intro w'
          go_simp
          with_reducible rfl
        rotate_left
        · simp only [Act.put, List.setIfInBounds_toArray, List.set_cons_zero, List.set_cons_succ, i64_w, i32_w]
          rfl
        refine pure_ (i := 2) (N := some 36) (v := ?_) (a' := ?_) #[false, true, true, false, false, false, false] rfl rfl (by kernel_rfl) (fun _ _ _ h => h) (Or.inl ⟨by rfl, ?_⟩) ?_ ?_
        rotate_left
        · intro w'
          go_simp
          with_reducible rfl
        rotate_left
        · simp only [Act.put, List.setIfInBounds_toArray, List.set_cons_zero, List.set_cons_succ, i64_w, i32_w]
          rfl
        refine take_ (i := 0) (N := some 34) (v := ?_) (a' := ?_) #[true, true, true, false, false, false, false] rfl rfl (by kernel_rfl) (fun _ _ _ h => h) (Or.inl ⟨by rfl, ?_⟩) hHeld ?_ ?_
        rotate_left
        · intro w' s0
          go_simp
          with_reducible rfl
        rotate_left
        · simp only [Act.put, List.setIfInBounds_toArray, List.set_cons_zero, List.set_cons_succ, i64_w, i32_w]
          rfl
        refine one_ (i := 3) (N := some 37) #[true, true, true, true, false, false, false] rfl rfl (by kernel_rfl) (by decide) (fun K hK => ?_)
        refine goes_ Tryz.func68 (by kernel_rfl) rfl #[.slice (some ⟨n + 2, 0, none⟩) 8 8, .slice (some ⟨g, 0, none⟩) (4 + nWords q) c] (by rfl) rfl rfl (by simp only [List.map_toArray, List.map_cons, List.map_nil]; rfl) ?_
        with_reducible refine (line_ok n g c t cl q p a b _ HG.out HI.out.frm hg hc HW.out).mono ?_
        rintro e w7 ⟨rfl, hb⟩
        refine ⟨_, rfl, ?_⟩
        replace HI := Lib.hid (HI.out.below hb)
        clear hb
        refine hK.out _ _ (HI.out.cellv.1) (fun hHeld => ?_)
        clear hK K
        refine norm_ (a' := ?_) ?_ ?_
        rotate_left
        · show Act.put _ (some 37) _ = _
          simp only [Act.put, List.setIfInBounds_toArray, List.set_cons_zero, List.set_cons_succ, i64_w, i32_w]
          rfl
        refine one_ (i := 4) (N := some 38) #[true, true, true, true, true, false, false] rfl rfl (by kernel_rfl) (by decide) (fun K hK => ?_)
        refine value_ (w1 := ?_) (v := ?_) (by rfl) rfl ?_ ?_
        rotate_left 2
        · go_simp
          constructor
          · rfl
          · rfl
        refine hK.out _ _ ((HI.out.below (below_alloc (Below.refl _ _) _)).cellv.1) (fun hHeld => ?_)
        clear hK K
        refine norm_ (a' := ?_) ?_ ?_
        rotate_left
        · show Act.put _ (some 38) _ = _
          simp only [Act.put, List.setIfInBounds_toArray, List.set_cons_zero, List.set_cons_succ, i64_w, i32_w]
          rfl
        refine one_ (i := 5) (N := some 39) #[true, true, true, true, true, true, false] rfl rfl (by kernel_rfl) (by decide) (fun K hK => ?_)
        refine Kd.R_append_step k35 (w0 := w) w.heap.size (by rfl) (.tmp 34) (.tmp 38) 22 35 (.agg #[(.int .u64 0), (.int .i64 0), (.int .i64 0), (.int .u32 0), (.int .u32 0), (.int .u32 0)]) 40 rfl Tryz.underlying22 info35 rfl (by decide) (by omega) v acc (obN t cl q p a b) [.int .u64 t, .int .i64 cl, .int .i64 q, .int .u32 p, .int .u32 a, .int .u32 b] (fun _ => True) (fun _ => False) (by rfl) (by rfl) (k35_mkM _ _ _ (obN t cl q p a b)) (fun _ hk => hk.elim) (fun _ _ => trivial) HI.out.r HI.out.low HI.out.low.size (by omega) ?_
        intro v9 w9 ho9 hb9 hg9 hat9
        have HO9 := Lib.hid ho9
        have HB9 := Lib.hid hb9
        have HG9 := Lib.hid hg9
        clear ho9 hb9 hg9 hat9
        obtain ⟨A9, L9, c9, rfl⟩ := R_sl HO9.out
        obtain ⟨hz9, hf9⟩ := cell_one (HI.out.grown HG9.out)
        refine hK.out _ _ (hz9) (fun hHeld => ?_)
        clear hK K
        refine norm_ (a' := ?_) ?_ ?_
        rotate_left
        · show Act.put _ (some 39) _ = _
          simp only [Act.put, List.setIfInBounds_toArray, List.set_cons_zero, List.set_cons_succ, i64_w, i32_w]
          rfl
        refine last_ (i := 6) (N := none) #[true, true, true, true, true, true, true] rfl rfl (by kernel_rfl) (by decide) (fun K hK => ?_)
        refine skip_ (w1 := ?_) (by rfl) rfl ?_ ?_
        rotate_left
        · go_simp
          rfl
        refine hK.out _ _ ?_
        clear hK K
        refine done_ (by kernel_rfl) ?_
        refine NoPanic.normal ?_
        have HI9 : Hid (PInv w (w9.setCell ⟨w.heap.size, 0, none⟩ (.slice A9 L9 c9)) n w1.heap.size cs (.slice A9 L9 c9) (oss.take (k + 1)).flatten) := by
          show PInv w (w9.setCell ⟨w.heap.size, 0, none⟩ (.slice A9 L9 c9)) n w1.heap.size cs (.slice A9 L9 c9) (oss.take (k + 1)).flatten
          rw [Hfl.out]
          exact HI.out.put HG9.out HO9.out HB9.out (by omega) (by omega)
        clear HI HO9 HG9 HB9 hz9 hf9 HW HG hHeld
        go_wp2_with fail
        go_roundw
        case rel => exact ⟨k + 1, _, by omega, by go_num, HI9⟩
        case measure => simp [RowKit.intOf]; omega
    · obtain rfl : k = N := by omega
      obtain ⟨A0, L0, c0, rfl⟩ := R_sl HI.out.r
      obtain ⟨hcv, hfv⟩ := HI.out.cellv
      obtain ⟨hce, hfe⟩ := HI.out.celle
      have hll := HI.out.l
      have hee := HI.out.e
      have hl1 := heap_setCell_same _ _ 0 _ _ (.slice A0 L0 c0) hll
      have he1 : (wr.setCell ⟨w.heap.size, 0, none⟩ (.slice A0 L0 c0)).heap[w.heap.size + 1]? = some (.cells #[.int .i64 0] 25 (0, 0)) := by
        rw [Below.heap_setCell _ _ _ _ (by simp)]; exact hee
      have hl2 : ((wr.setCell ⟨w.heap.size, 0, none⟩ (.slice A0 L0 c0)).setCell ⟨w.heap.size + 1, 0, none⟩ (.int .i64 0)).heap[w.heap.size]? = some (.cells #[.slice A0 L0 c0] 22 (0, 0)) := by
        rw [Below.heap_setCell _ _ _ _ (by simp)]; exact hl1
      have he2 := heap_setCell_same _ _ 0 _ _ (.int .i64 0) he1
      have hr2 : Kd.R k35 35 ((wr.setCell ⟨w.heap.size, 0, none⟩ (.slice A0 L0 c0)).setCell ⟨w.heap.size + 1, 0, none⟩ (.int .i64 0)) w.heap.size (fun _ => True) (.slice A0 L0 c0) oss.flatten := by
        have h1 := HI.out.r
        rw [List.take_of_length_le (by rw [HOL.out]; exact Nat.le_refl _)] at h1
        exact Kd.R_set (Kd.R_set h1 hll (fun q hq => by rw [k35_E hq]; decide) 0 _) he1 (fun q hq => by rw [k35_E hq]; decide) 0 _
      have hb2 : Below w.heap.size w ((wr.setCell ⟨w.heap.size, 0, none⟩ (.slice A0 L0 c0)).setCell ⟨w.heap.size + 1, 0, none⟩ (.int .i64 0)) := (HI.out.low.setCell (Nat.le_refl _) _).setCell (by simp) _
      have hce1 := (cell_one he1)
      obtain ⟨hce1, hfe1⟩ := hce1
      clear hl1 he1 hll hee HI hce hfe
      have Hr2 := Lib.hid hr2
      have Hb2 := Lib.hid hb2
      have Hl2 := Lib.hid hl2
      have He2 := Lib.hid he2
      clear hr2 hb2 hl2 he2
      go_wp2_with fail
      generalize ((wr.setCell ⟨w.heap.size, 0, none⟩ (.slice A0 L0 c0)).setCell ⟨w.heap.size + 1, 0, none⟩ (.int .i64 0)) = wF at Hr2 Hb2 Hl2 He2 ⊢
      refine leaves_cons (f := 64) (args := #[.pointer (some ⟨w.heap.size, 0, none⟩), .pointer (some ⟨w.heap.size + 1, 0, none⟩)]) (by simp) (by simp [go_sem]) ?_
      refine (p64_idle _ _ _).mono ?_
      rintro e u' w'' ⟨rfl, rfl, rfl⟩
      obtain ⟨cv, _⟩ := cell_one Hl2.out
      obtain ⟨ce, _⟩ := cell_one He2.out
      have hres : Tryz.f31.results = #[.cell 2 22, .cell 3 25, .tmp 4] := rfl
      simp [Leaves, settle, results, hres, go_sem, cv, ce]
      exact ⟨Hr2.out, Hb2.out⟩
end Go.Proofs.YtohighedgdlflaaGreatDoor

/- trace.Text writes textS. -/
namespace Go.Proofs.YtohighedgdlflaaGreatDoor
open Go.Shelf Go.RowKit Go.Sort Go.Lib Go.Proofs.YtohighedgdlflaaGreatDoorW.PrintWords Go.Proofs.YtohighedgdlflaaGreatDoor.PR
set_option linter.unusedVariables false
set_option linter.unusedSimpArgs false
set_option maxRecDepth 100000 in
set_option maxHeartbeats 8000000 in
theorem text_ok (l : List S35) (A : Option Addr) (c : Nat) (w : World) (hT : PTab w) (hR : Kd.C k35 w A l.length l) (hF : ∀ o ∈ l, FitsT o) (hl : l.length ≤ 1000000) :
    Calls Tryz.prog 13 #[.slice A l.length c] w (TextR w l) := by
  have HR := Lib.hid hR
  have HT := Lib.hid hT
  have HF := Lib.hid hF
  have hm := Kd.C_max hR
  clear hR hT hF
  go_enter Tryz.func13, Tryz.ntmps13
  go_wp2_with fail
  have hbl : Hid (Below w.heap.size w (w.alloc (.cells #[.pointer none, .slice none 0 0] 67))) := below_alloc (Below.refl _ _) _
  have hnb : Hid (Lib.IsBuilderF 67 5 w.heap.size w.heap.size [] (w.alloc (.cells #[.pointer none, .slice none 0 0] 67))) := builder_new w
  refine (forms_ok _).mono ?_
  rintro e w1 ⟨rfl, hfr, hb1⟩
  rw [World.size_alloc] at hfr
  have HF1 := Lib.hid hfr
  have HB1 := Lib.hid (hbl.out.trans (hb1.mono hbl.out.size))
  have hNB1 : Lib.IsBuilderF 67 5 w.heap.size w.heap.size [] w1 := builder_below hnb.out hb1
  have HNB1 := Lib.hid hNB1
  clear hnb hbl hfr hb1 hNB1
  simp only [World.size_alloc]
  go_wp2_with fail
  go_loopw [7, 8, 9, 13] (fun v7 v8 v9 v13 wr => ∃ k : Nat, k ≤ l.length ∧ v13 = .int .i64 k ∧ Hid ((l.take k).all mayB = true) ∧ Hid (Frm wr (w.heap.size + 1)) ∧ Hid (Lib.IsBuilderF 67 5 w.heap.size w.heap.size (Lib.byteCells (textB (l.take k))) wr) ∧ Hid (Below w.heap.size w wr)) (fun _ _ _ i _ => l.length - (RowKit.intOf i).toNat)
  case atStart => exact ⟨0, by omega, rfl, rfl, HF1, HNB1, HB1⟩
  case round =>
    clear HF1 HNB1 HB1
    obtain ⟨k, hk, rfl, hall, HFr, HNB, HB⟩ := hrel
    by_cases hlt : k < l.length
    · obtain ⟨o, ho⟩ : ∃ o, o = rd_T35 l k := ⟨_, rfl⟩
      have ho2 : Hid (l[k]? = some o) := by
        show l[k]? = some o
        rw [ho]; simp [rd_T35, List.getD_eq_getElem?_getD, List.getElem?_eq_getElem hlt]
      obtain ⟨ad, rfl, c0, c1, c2, c3, c4, c5⟩ := at_T35 (Kd.C_below HR.out HB.out) k (by omega) (by omega)
      rw [← ho] at c0 c1 c2 c3 c4 c5
      simp only [Int.toNat_natCast] at c0 c1 c2 c3 c4 c5
      clear ho
      have hfit := Lib.hid (HF.out o (List.mem_of_getElem? ho2.out))
      go_wp2_with fail
      refine (may_ok o _).mono ?_
      rintro e w2 ⟨rfl, hb2⟩
      have hbo : Hid (Below w.heap.size w (wr.alloc (.cells #[.int .u64 o.f0, .int .i64 o.f1, .int .i64 o.f2, .int .u32 o.f3, .int .u32 o.f4, .int .u32 o.f5] 35))) := below_alloc HB.out _
      cases hmb : mayB o with
      | false =>
        have HB2 := Lib.hid (hbo.out.trans (hb2.mono hbo.out.size))
        have hbad : Hid (l.all mayB = false) := by
          show l.all mayB = false
          rw [List.all_eq_false]
          exact ⟨o, List.mem_of_getElem? ho2.out, by rw [hmb]; decide⟩
        clear hbo hb2
        go_wp2_with fail
        refine bodyPost_ret (results_tmp2 rfl _ _ _) rfl ?_
        exact TextR.bad hbad.out HB2.out
      | true =>
        have HB2 := Lib.hid (hbo.out.trans (hb2.mono hbo.out.size))
        have hlow : Below wr.heap.size wr w2 := (below_alloc (Below.refl _ _) _).trans (hb2.mono (by simp))
        have HFr2 := Lib.hid (HFr.out.below hlow)
        have hO6 : Ob6 w2 wr.heap.size o := by
          unfold Ob6
          rw [hb2.block _ (by simp)]
          exact blk_new _ _
        obtain ⟨t, cl, q, p, a, b, hq1, hq7, hcl, ht, hp, ha, hb, h0, h1, h2, h3, h4, h5, hk1, hk2⟩ : ∃ t cl q p a b : Nat, 1 ≤ q ∧ q ≤ 7 ∧ cl < 10 ∧ t < 18446744073709551616 ∧ p < 4294967296 ∧ a < 4294967296 ∧ b < 4294967296 ∧ o.f0 = t ∧ o.f1 = cl ∧ o.f2 = q ∧ o.f3 = p ∧ o.f4 = a ∧ o.f5 = b ∧ (q = 3 → a < 7) ∧ (q = 4 → a < 100) := by
          obtain ⟨⟨f1, f2, f3, f4, f5, f6⟩, f7, f8⟩ := hfit.out
          have hm2 := hmb
          unfold mayB kindB at hm2
          simp only [Bool.and_eq_true, decide_eq_true_eq] at hm2
          obtain ⟨⟨⟨m1, m2⟩, m3⟩, m4⟩ := hm2
          have hq : 1 ≤ o.f2 ∧ o.f2 ≤ 7 ∧ (o.f2 = 3 → o.f4 ≤ 6) ∧ (o.f2 = 4 → o.f4 < 32) := by
            split at m4
            · omega
            · split at m4
              · omega
              · split at m4
                · simp at m4; omega
                · split at m4
                  · simp at m4; omega
                  · split at m4
                    · omega
                    · split at m4
                      · omega
                      · split at m4
                        · omega
                        · simp at m4
          exact ⟨o.f0.toNat, o.f1.toNat, o.f2.toNat, o.f3.toNat, o.f4.toNat, o.f5.toNat, by omega, by omega, by omega, by omega, by omega, by omega, by omega, by omega, by omega, by omega, by omega, by omega, by omega, by omega, by omega⟩
        obtain ⟨mw, fvw, nw, mr, fvr, g0, g1, g2, g3, hfw⟩ := frm_row HFr2.out q hq1 hq7
        clear c0 c1 c2 c3 c4 c5
        obtain ⟨c0, c1, c2, c3, c4, c5⟩ := hO6.cells
        have hOlt : wr.heap.size < w2.heap.size := heap_lt hO6
        rw [h0] at c0; rw [h1] at c1; rw [h2] at c2; rw [h3] at c3; rw [h4] at c4; rw [h5] at c5
        have Hfw := Lib.hid hfw
        obtain ⟨wd, hwd⟩ : ∃ wd, wd = kindS.getD q ByteArray.empty := ⟨_, rfl⟩
        rw [← hwd] at g0
        have Hwd := Lib.hid hwd
        have Hk12 := Lib.hid (And.intro hk1 hk2)
        have Hhs := Lib.hid (And.intro h0 (And.intro h1 (And.intro h2 (And.intro h3 (And.intro h4 h5)))))
        have hq8 : (0 : Int) ≤ q ∧ (q : Int) < 8 := by omega
        have HL2 := Lib.hid hlow
        clear hwd hfw hlow hb2 hbo hfit hk1 hk2 h0 h1 h2 h3 h4 h5
        have hcell : Hid (∀ W, Below (w2.heap.size + 1) (w2.alloc (.cells #[.string wd, .func (.func mw) #[] fvw, .int .i64 nw, .func (.func mr) #[] fvr] 74)) W → W.cell? ⟨wr.heap.size, 0, none⟩ = some (.int .u64 t) ∧ W.cell? ⟨wr.heap.size, 1, none⟩ = some (.int .i64 cl) ∧ W.cell? ⟨wr.heap.size, 3, none⟩ = some (.int .u32 p) ∧ W.cell? ⟨w2.heap.size, 0, none⟩ = some (.string wd) ∧ PTab W) := by
          intro W hW
          have hA : Below w2.heap.size w2 (w2.alloc (.cells #[.string wd, .func (.func mw) #[] fvw, .int .i64 nw, .func (.func mr) #[] fvr] 74)) := below_alloc (Below.refl _ _) _
          have hB : Below w2.heap.size w2 W := hA.trans (hW.mono (by omega))
          refine ⟨?_, ?_, ?_, ?_, HT.out.below (HB2.out.trans (hB.mono HB2.out.size))⟩
          · rw [hB.cell (by simp; omega)]; exact c0
          · rw [hB.cell (by simp; omega)]; exact c1
          · rw [hB.cell (by simp; omega)]; exact c3
          · rw [hW.cell (by simp)]; simp [World.cell?_alloc_new]
        have hcell2 : Hid (∀ W, Below (w2.heap.size + 1) (w2.alloc (.cells #[.string wd, .func (.func mw) #[] fvw, .int .i64 nw, .func (.func mr) #[] fvr] 74)) W → W.cell? ⟨wr.heap.size, 0, none⟩ = some (.int .u64 t) ∧ W.cell? ⟨wr.heap.size, 1, none⟩ = some (.int .i64 cl) ∧ W.cell? ⟨wr.heap.size, 2, none⟩ = some (.int .i64 q) ∧ W.cell? ⟨wr.heap.size, 3, none⟩ = some (.int .u32 p) ∧ W.cell? ⟨wr.heap.size, 4, none⟩ = some (.int .u32 a) ∧ W.cell? ⟨wr.heap.size, 5, none⟩ = some (.int .u32 b) ∧ W.cell? ⟨w2.heap.size, 1, none⟩ = some (.func (.func mw) #[] fvw)) := by
          intro W hW
          have hA : Below w2.heap.size w2 (w2.alloc (.cells #[.string wd, .func (.func mw) #[] fvw, .int .i64 nw, .func (.func mr) #[] fvr] 74)) := below_alloc (Below.refl _ _) _
          have hB : Below w2.heap.size w2 W := hA.trans (hW.mono (by omega))
          refine ⟨?_, ?_, ?_, ?_, ?_, ?_, ?_⟩
          · rw [hB.cell (by simp; omega)]; exact c0
          · rw [hB.cell (by simp; omega)]; exact c1
          · rw [hB.cell (by simp; omega)]; exact c2
          · rw [hB.cell (by simp; omega)]; exact c3
          · rw [hB.cell (by simp; omega)]; exact c4
          · rw [hB.cell (by simp; omega)]; exact c5
          · rw [hW.cell (by simp)]; simp [World.cell?_alloc_new]
        go_upto_region 9 with (fail)
        clear g0 g1 g2 g3 c0 c1 c2 c3 c4 c5 hq8
        go_cut [9] (fun v9 wc => Hid (Kd.string.R 9 wc (w2.heap.size + 1) (fun _ => True) v9 [decS t, decS cl, wd, hexS p]) ∧ Hid (Below (w2.heap.size + 1) (w2.alloc (.cells #[.string wd, .func (.func mw) #[] fvw, .int .i64 nw, .func (.func mr) #[] fvr] 74)) wc))
        case first =>
          clear hcell2 HR HT HF HFr HNB HB ho2 hall HB2 HFr2 Hfw Hwd Hk12 Hhs
          have HS : Hid (∀ W, Below (w2.heap.size + 1) (w2.alloc (.cells #[.string wd, .func (.func mw) #[] fvw, .int .i64 nw, .func (.func mr) #[] fvr] 74)) W → (W.cell? ⟨wr.heap.size, 0, none⟩ = some (.int .u64 t) ∧ W.cell? ⟨wr.heap.size, 1, none⟩ = some (.int .i64 cl) ∧ W.cell? ⟨wr.heap.size, 3, none⟩ = some (.int .u32 p) ∧ W.cell? ⟨w2.heap.size, 0, none⟩ = some (.string wd) ∧ Hid (PTab W) ∧ Hid (Below (w2.heap.size + 1) (w2.alloc (.cells #[.string wd, .func (.func mw) #[] fvw, .int .i64 nw, .func (.func mr) #[] fvr] 74)) W))) := fun W hW => by
            obtain ⟨e0, e1, e3, ef, ep⟩ := hcell.out _ hW
            exact ⟨e0, e1, e3, ef, ep, hW⟩
          have HB0 := Lib.hid (Below.refl (w2.heap.size + 1) (w2.alloc (.cells #[.string wd, .func (.func mw) #[] fvw, .int .i64 nw, .func (.func mr) #[] fvr] 74)))
          clear hcell
          go_region_held3 (fun W => W.cell? ⟨wr.heap.size, 0, none⟩ = some (.int .u64 t) ∧ W.cell? ⟨wr.heap.size, 1, none⟩ = some (.int .i64 cl) ∧ W.cell? ⟨wr.heap.size, 3, none⟩ = some (.int .u32 p) ∧ W.cell? ⟨w2.heap.size, 0, none⟩ = some (.string wd) ∧ Hid (PTab W) ∧ Hid (Below (w2.heap.size + 1) (w2.alloc (.cells #[.string wd, .func (.func mw) #[] fvw, .int .i64 nw, .func (.func mr) #[] fvr] 74)) W))
            (first
              | exact HS.out _ HB0.out
              | exact HS.out _ (below_drew HB0.out)
              | exact HS.out _ HB5.out
              | exact HS.out _ HB7.out
              | exact HS.out _ (HB7.out.alloc (by have hz := HB7.out.size; simp at hz; omega) _))
            (first
              | (go_at_call 34; with_reducible refine (fmt_ok t ht _ (HS.out _ (below_drew HB0.out)).2.2.2.2.1.out).mono ?_; rintro e w5 ⟨rfl, hb5⟩; have HB5 := Lib.hid ((below_drew HB0.out).trans (hb5.mono (by simp))))
              | (go_at_call 35; with_reducible refine (Tryz.strconv_Itoa_small cl (by omega) _).mono ?_; rintro e w6 ⟨rfl, rfl⟩)
              | (go_at_call 36; with_reducible refine (hex_ok p hp _).mono ?_; rintro e w7 ⟨rfl, hb7⟩; have HB7 := Lib.hid (HB5.out.trans (hb7.mono (by have hz := HB5.out.size; simp at hz; omega)))))
          all_goals
            go_wp2_with fail
            go_meet
            case rel =>
              refine ⟨?_, ?_⟩
              · exact R_fresh _ [decS t, decS cl, wd, hexS p] (by have hz := HB7.out.size; simp at hz; omega) rfl (by simp) rfl
              · exact HB7.out.alloc (by have hz := HB7.out.size; simp at hz; omega) _
        case rest =>
          obtain ⟨HV, HBc⟩ := hcut
          obtain ⟨A9, cp9, rfl, hc9, hC9⟩ := Kd.R_reads HV.out
          have hent : ∀ args w, (callFunc mw args).run Tryz.prog w = .ok (.enter mw args) w := enter_any hq1 hq7 Hfw.out
          have hwr : Hid (∀ W, Below (w2.heap.size + 1) (w2.alloc (.cells #[.string wd, .func (.func mw) #[] fvw, .int .i64 nw, .func (.func mr) #[] fvr] 74)) W → Calls Tryz.prog mw (#[.agg #[.int .u64 t, .int .i64 cl, .int .i64 q, .int .u32 p, .int .u32 a, .int .u32 b]] ++ fvw) W (WrR W (writeL o))) := by
            intro W hW
            obtain ⟨h0, h1, h2, h3, h4, h5⟩ := Hhs.out
            rw [writeL_eq h2 h4 h5]
            refine write_any (HFr2.out.below ?_) t cl p a b hq1 hq7 ha hb Hk12.out.1 Hk12.out.2 Hfw.out
            exact (below_alloc (Below.refl w2.heap.size w2) _).trans (hW.mono (by omega))
          obtain ⟨c0, c1, c2, c3, c4, c5, f1⟩ := hcell2.out _ HBc.out
          have HLc : Hid (Below wr.heap.size wr wc) := HL2.out.trans ((below_alloc (Below.refl w2.heap.size w2) _ |>.trans (HBc.out.mono (by omega))).mono HL2.out.size)
          have HCc : Hid (Below w.heap.size w wc) := HB.out.trans (HLc.out.mono HB.out.size)
          have hsz : wr.heap.size ≤ wc.heap.size ∧ w2.heap.size + 1 ≤ wc.heap.size := ⟨HLc.out.size, by have hz := HBc.out.size; simp at hz; omega⟩
          go_wp2_with fail
          refine (hwr.out _ HBc.out).mono ?_
          rintro e w10 ⟨v10, rfl, hr10, hb10⟩
          clear c0 c1 c2 c3 c4 c5 f1 hcell hcell2
          obtain ⟨A10, c10, rfl, hc10, hC10⟩ := Kd.R_reads hr10
          have HC10 := Lib.hid hC10
          have HV10 : Hid (Kd.string.R 9 w10 (w2.heap.size + 1) (fun _ => True) (.slice A9 [decS t, decS cl, wd, hexS p].length cp9) [decS t, decS cl, wd, hexS p]) := Kd.R_below HV.out hb10
          have HL10 : Hid (Below wr.heap.size wr w10) := HLc.out.trans (hb10.mono hsz.1)
          have HB10 : Hid (Below w.heap.size w w10) := HCc.out.trans (hb10.mono HCc.out.size)
          have hs10 : w2.heap.size + 1 ≤ w10.heap.size := by have := hb10.size; omega
          have hwl : (writeL o).length ≤ 2 := by unfold writeL; repeat' (first | split | simp)
          clear hr10 hb10 hC10 hC9 HV HBc hwr hent
          go_wp2_with (at_builtin; refine Kd.R_append_row Value.string ByteArray.empty (w0 := wr) wr.heap.size rfl (.tmp 37) (.tmp 41) 78 9 (.string ⟨#[]⟩) 16 rfl Tryz.underlying78 info9 rfl (by decide) _ _ (writeL o) A10 _ c10 (fun _ => True) rfl rfl (fun _ _ => trivial) (Kd.R_lower HV10.out (by omega)) HC10.out HL10.out HL10.out.size (by simp; omega) ?_; intro v11 w11 hr11 hb11 hg11 hat11; have HR11 := Lib.hid hr11; have HL11 := Lib.hid hb11; clear hr11 hb11 hg11 hat11)
          have hws : [decS t, decS cl, wd, hexS p] ++ writeL o = wordsL o := by
            obtain ⟨h0, h1, h2, h3, h4, h5⟩ := Hhs.out
            simp [wordsL, headL, h0, h1, h2, h3, Hwd.out]
          have HR11' := HR11.out
          rw [hws] at HR11'
          obtain ⟨g11, c11, rfl, hcp11, hg11, hcell11⟩ := R_cells HR11' (by simp [wordsL, headL])
          have HX11 := Lib.hid hcell11
          have hll : (lineB o).length ≤ 200 := by
            obtain ⟨h0, h1, h2, h3, h4, h5⟩ := Hhs.out
            exact words_len o (by omega) (by omega) (by omega)
          have hjl : (Lib.join ((wordsL o).map (·.data.toList)) [32]).length ≤ 199 := by unfold lineB at hll; rw [List.length_append] at hll; simp at hll; omega
          have HJ := Lib.hid hjl
          have hwl2 : (wordsL o).length ≤ 6 := by rw [← hws, List.length_append]; simp; omega
          clear HR11 HR11' hcell11 hws hjl HC10 HV10
          refine (Tryz.strings_Join g11 0 c11 (wordsL o) _ _ HX11.out hg11 (by omega) hcp11 (by have := HJ.out; simpa using Nat.le_trans this (by omega))).mono ?_
          rintro e w12 ⟨rfl, hb12⟩
          have HL12 := Lib.hid (HL11.out.trans (hb12.mono HL11.out.size))
          clear HX11 hb12 HL11
          obtain ⟨ln, hln⟩ : ∃ ln : ByteArray, ln = ⟨(Lib.join ((wordsL o).map (·.data.toList)) [32]).toArray⟩ := ⟨_, rfl⟩
          have hlb : (ln ++ ⟨#[10]⟩ : ByteArray).data.toList = lineB o := by rw [hln]; simp [lineB]
          have h10 : (⟨#[10]⟩ : ByteArray).size = 1 := rfl
          have hls : ln.size ≤ 199 := by rw [hln]; simpa [ByteArray.size] using HJ.out
          have hlz : (ln ++ ⟨#[10]⟩ : ByteArray).size ≤ 200 := by rw [ByteArray.size_append, h10]; omega
          have Hlb := Lib.hid hlb
          have hadd : ∀ W : World, (Op.stringOp .add ln ⟨#[10]⟩).run Tryz.prog W = .ok (.string (ln ++ ⟨#[10]⟩)) W := fun W => run_string_add_sum W _ _ (by rw [h10]; omega)
          rw [← hln]
          clear hln hls hlb HJ
          go_wp2_with fail
          have hbuf : (Lib.byteCells (textB (l.take k))).length ≤ 200 * 1000000 := by
            rw [Lib.byteCells_length]
            refine Nat.le_trans (text_len _ (fun x hx => ?_)) ?_
            · have hx2 := HF.out x (List.mem_of_mem_take hx)
              obtain ⟨⟨f1, f2, f3, f4, f5, f6⟩, f7, f8⟩ := hx2
              have := List.all_eq_true.1 hall.out x hx
              unfold mayB at this
              simp only [Bool.and_eq_true, decide_eq_true_eq] at this
              exact words_len x (by omega) (by omega) (by omega)
            · rw [List.length_take]; exact Nat.mul_le_mul_left _ (by omega)
          have HB12 := Lib.hid (HB.out.trans (HL12.out.mono HB.out.size))
          have hW := Tryz.Builder_WriteString_k w.heap.size w.heap.size _ (ln ++ ⟨#[10]⟩) w12 (builder_below HNB.out HL12.out) (by omega) HB12.out.size
          obtain ⟨lz, hz⟩ : ∃ lz : ByteArray, lz = ln ++ ⟨#[10]⟩ := ⟨_, rfl⟩
          rw [← hz] at hW ⊢
          have Hz := Lib.hid hz
          clear hz
          refine hW.mono ?_
          clear hW
          rintro e w13 ⟨rfl, hbu, hb13, hok13⟩
          have HFr13 := Lib.hid ((HFr.out.below HL12.out).others hok13 (by omega))
          have HB13 := Lib.hid (HB12.out.trans hb13)
          have hall13 : Hid ((l.take (k + 1)).all mayB = true) := by
            show (l.take (k + 1)).all mayB = true
            rw [List.take_add_one, ho2.out]
            simp [hall.out, hmb]
          have HNB13 : Hid (Lib.IsBuilderF 67 5 w.heap.size w.heap.size (Lib.byteCells (textB (l.take (k + 1)))) w13) := by
            have h1 := hbu
            rw [Lib.strCells_eq, Hz.out, Hlb.out] at h1
            have h2 : Lib.byteCells (textB (l.take (k + 1))) = Lib.byteCells (textB (l.take k)) ++ Lib.byteCells (lineB o) := by
              rw [List.take_add_one, ho2.out]
              simp [textB, Lib.byteCells]
            show Lib.IsBuilderF 67 5 w.heap.size w.heap.size (Lib.byteCells (textB (l.take (k + 1)))) w13
            rw [h2]
            exact .inr h1
          clear hbu hb13 hok13 hbuf hall HNB HB HFr HL12 HB12 hadd
          go_wp2_with fail
          go_roundw
          case rel => exact ⟨k + 1, by omega, by go_num, hall13, HFr13, HNB13, HB13⟩
          case measure => simp [RowKit.intOf]; omega
    · obtain rfl : k = l.length := by omega
      go_wp2_with fail
      refine (Tryz.Builder_String_any_f w.heap.size w.heap.size _ wr HNB.out HB.out.size).mono ?_
      rintro e w14 ⟨rfl, _, hb14⟩
      have HB14 := Lib.hid (HB.out.trans hb14)
      clear hb14
      go_wp2_with fail
      refine bodyPost_ret (results_tmp2 rfl _ _ _) rfl ?_
      have h1 := hall.out
      rw [List.take_of_length_le (Nat.le_refl _)] at h1
      refine ⟨?_, HB14.out⟩
      rw [if_pos h1, if_pos h1]
      rfl
end Go.Proofs.YtohighedgdlflaaGreatDoor

/- known (9): the document's first example holds. -/
namespace Go.Proofs.YtohighedgdlflaaGreatDoor
open Go.Shelf Go.RowKit Go.Sort Go.Lib Go.Proofs.YtohighedgdlflaaGreatDoorW.PrintWords Go.Proofs.YtohighedgdlflaaGreatDoor.PR
set_option linter.unusedVariables false
set_option linter.unusedSimpArgs false
def kS : ByteArray := ⟨#[53, 32, 32, 50, 32, 99, 108, 111, 99, 107, 32, 48, 48, 48, 48, 48, 48, 48, 48, 32, 48, 48, 48, 48, 48, 48, 48, 49, 48, 48, 48, 48, 48, 48, 48, 53, 32]⟩
def kL : ByteArray := ⟨#[51, 55, 32, 49, 32, 108, 111, 97, 100, 32, 48, 48, 48, 48, 48, 48, 49, 48, 32, 48, 48, 48, 48, 49, 48, 48, 48, 32, 48, 48, 48, 48, 48, 48, 50, 97, 10]⟩
theorem ba_ext {a b : ByteArray} (h : a.data.toList = b.data.toList) : a = b := by
  apply ByteArray.ext
  exact Array.toList_inj.1 h
theorem map_ba {xs ys : List ByteArray} (h : xs.map (·.data.toList) = ys.map (·.data.toList)) : xs = ys := by
  induction xs generalizing ys with
  | nil => cases ys with
    | nil => rfl
    | cons y ys => simp at h
  | cons x xs ih => cases ys with
    | nil => simp at h
    | cons y ys =>
      simp only [List.map_cons, List.cons.injEq] at h
      rw [ba_ext h.1, ih h.2]
theorem dec1 (n : Nat) (h : n < 10) : decS n = ⟨#[UInt8.ofNat (48 + n)]⟩ := by
  unfold decS; rw [Lib.decDigits_one h]
theorem emp_eq (x : ByteArray) : emp x = decide (x = ⟨#[]⟩) := (decide_eq_emptyBytes x).symm
theorem kPieces : pieces kS = [kS] := map_ba (by
  show (Lib.splitB ⟨#[10]⟩ 0 (Lib.countB kS ⟨#[10]⟩) kS).map (·.data.toList) = _
  rw [splitB_splitC]; decide)
theorem kCut : cutB kS = [⟨#[53]⟩, ⟨#[]⟩, ⟨#[50]⟩, ⟨#[99, 108, 111, 99, 107]⟩, ⟨#[48, 48, 48, 48, 48, 48, 48, 48]⟩, ⟨#[48, 48, 48, 48, 48, 48, 48, 49, 48, 48, 48, 48, 48, 48, 48, 53]⟩, ⟨#[]⟩] := map_ba (by
  show (Lib.splitB ⟨#[32]⟩ 0 (Lib.countB kS ⟨#[32]⟩) kS).map (·.data.toList) = _
  rw [splitB_splitC]; decide)
theorem hex0 : hexS 0 = ⟨#[48, 48, 48, 48, 48, 48, 48, 48]⟩ := ba_ext (by decide)
theorem hex15 : hexS 1 ++ hexS 5 = ⟨#[48, 48, 48, 48, 48, 48, 48, 49, 48, 48, 48, 48, 48, 48, 48, 53]⟩ := ba_ext (by
  rw [ByteArray.data_append, Array.toList_append]; decide)
theorem kWords : wordsB kS = wordsN 5 2 5 0 5 1 := by
  unfold wordsB wordsN writeN
  rw [kCut, dec1 5 (by decide), dec1 2 (by decide), hex0, hex15]
  simp only [emp_eq]
  decide
theorem kGood : GoodN 5 2 5 0 5 1 := ⟨by decide, by decide, by decide, by decide, by decide, by decide, by decide, by decide, by decide, by decide, by decide, by decide, by decide⟩
theorem kGoodL : GoodN 37 1 1 16 4096 42 := ⟨by decide, by decide, by decide, by decide, by decide, by decide, by decide, by decide, by decide, by decide, by decide, by decide, by decide⟩
theorem kText : textS [obN 37 1 1 16 4096 42] = kL := ba_ext (by
  have h37 : Lib.decDigits 37 = [51, 55] := by rw [Lib.decDigits_two (by decide) (by decide)]; rfl
  simp only [textS, textB, List.flatMap_cons, List.flatMap_nil, lineB_obN, lineZ, wordsN, writeN, decS, h37, Lib.decDigits_one (show 1 < 10 by decide)]
  decide)
theorem addr_add (g o i : Nat) : (⟨g, o, none⟩ : Addr).add i = ⟨g, o + i, none⟩ := by simp [Addr.add]
theorem cell_in {W : World} {g j q : Nat} {cs : Array Value} {fz : Nat × Nat} (h : W.heap[g]? = some (.cells cs q fz)) : W.cell? ⟨g, j, none⟩ = cs[j]? := by
  simp only [World.cell?, h]; rfl
theorem known_ok (m : Int) (w : World) (hT : PTab w) (hm : w.cell? ⟨2, 0, none⟩ = some (.int .i64 m)) :
    Calls Tryz.prog 9 #[] w fun e w' => e = .returned (.bool true) ∧ Below w.heap.size w w' := by
  have HT := Lib.hid hT
  have HM := Lib.hid hm
  have h2 : 2 < w.heap.size := World.block_lt_of_cell? _ _ hm
  clear hT hm
  go_enter Tryz.func9, Tryz.ntmps9
  go_wp2_with fail
  have hC : Kd.C k35 (w.alloc (.cells #[.int .u64 37, .int .i64 1, .int .i64 1, .int .u32 16, .int .u32 4096, .int .u32 42] 35)) (some ⟨w.heap.size, 0, none⟩) [obN 37 1 1 16 4096 42].length [obN 37 1 1 16 4096 42] := by
    refine ⟨rfl, by decide, fun _ => ⟨_, rfl, fun j p hj => ?_⟩⟩
    match j with
    | 0 =>
      obtain rfl : obN 37 1 1 16 4096 42 = p := Option.some.inj hj
      refine ⟨_, rfl, k35_mk _ _, fun i u hu => ?_⟩
      have hb := blk_new w (.cells #[.int .u64 37, .int .i64 1, .int .i64 1, .int .u32 16, .int .u32 4096, .int .u32 42] 35)
      rw [Nat.zero_mul, Nat.zero_add, addr_add, Nat.zero_add, cell_in hb]
      simpa [obN] using hu
    | j + 1 => simp at hj
  have hft : ∀ o ∈ [obN 37 1 1 16 4096 42], FitsT o := by
    intro o ho
    rw [List.mem_singleton] at ho
    subst ho
    exact ⟨⟨by decide, by decide, by decide, by decide, by decide, by decide⟩, by decide, by decide⟩
  have hba : Below w.heap.size w (w.alloc (.cells #[.int .u64 37, .int .i64 1, .int .i64 1, .int .u32 16, .int .u32 4096, .int .u32 42] 35)) := below_alloc (Below.refl _ _) _
  have htx := text_ok [obN 37 1 1 16 4096 42] (some ⟨w.heap.size, 0, none⟩) 1 _ (HT.out.below hba) hC hft (by decide)
  have hmay : [obN 37 1 1 16 4096 42].all mayB = true := by decide
  refine htx.mono ?_
  clear htx hC hft
  rintro e w1 ⟨rfl, hb1⟩
  rw [if_pos hmay, if_pos hmay, kText]
  unfold kL
  clear hmay
  have HB1 := Lib.hid (hba.trans (hb1.mono hba.size))
  clear hba hb1
  go_wp2_with fail
  have hps := parse_ok kS m [[obN 5 2 5 0 5 1]] w1 (by decide) (by rw [HB1.out.cell h2]; exact HM.out) (by rw [kPieces]; rfl) (by
    intro k x os hx ho
    rw [kPieces] at hx
    match k with
    | 0 =>
      obtain rfl : kS = x := Option.some.inj hx
      obtain rfl : [obN 5 2 5 0 5 1] = os := Option.some.inj ho
      exact .inr ⟨5, 2, 5, 0, 5, 1, kGood, kWords, rfl⟩
    | k + 1 => simp at hx) (by decide)
  refine hps.mono ?_
  clear hps
  rintro e w2 ⟨v, rfl, hr, hb⟩
  have HB2 := Lib.hid (HB1.out.trans (hb.mono HB1.out.size))
  obtain ⟨g, c, rfl, _, _, _⟩ := Kd.R_form hr (by decide)
  obtain ⟨_, _, hC⟩ := Kd.R_reads' hr
  obtain ⟨ad, had, c0, c1, c2, c3, c4, c5⟩ := at_T35 hC 0 (by decide) (by decide)
  have e35 : rd_T35 ([[obN 5 2 5 0 5 1]].flatten) 0 = obN 5 2 5 0 5 1 := rfl
  rw [e35] at c0 c1 c2 c3 c4 c5
  obtain rfl := Option.some.inj had
  simp only [obN, show Int.toNat 0 * 6 = 0 from rfl, addr_add, Nat.zero_add] at c0 c1 c2 c3 c4 c5
  clear hr hb HB1 hC
  go_wp2_with fail
  go_ret
  exact ⟨rfl, HB2.out⟩
end Go.Proofs.YtohighedgdlflaaGreatDoor

/- What the document's own writers of numbers give: decS and hexS. -/
namespace Go.Proofs.YtohighedgdlflaaGreatDoor
open Go.Shelf Go.RowKit Go.Sort Go.Lib Go.Proofs.YtohighedgdlflaaGreatDoorW.PrintWords Go.Proofs.YtohighedgdlflaaGreatDoor.PR
set_option linter.unusedVariables false
set_option linter.unusedSimpArgs false
theorem w64_small (n : Nat) (h : n < 9223372036854775808) : wrap64 (n : Int) = (n : Int) := by unfold wrap64; omega
theorem w64_succ (i : Nat) (h : i + 1 < 9223372036854775808) : wrap64 ((i : Int) + 1) = ((i + 1 : Nat) : Int) := by
  have := w64_small (i + 1) h
  rw [← this]; congr 1
theorem dig10 (d : Nat) (h : d < 10) : (⟨#[48, 49, 50, 51, 52, 53, 54, 55, 56, 57]⟩ : ByteArray).extract d (d + 1) = ⟨#[UInt8.ofNat (48 + d)]⟩ := by
  rcases (show d = 0 ∨ d = 1 ∨ d = 2 ∨ d = 3 ∨ d = 4 ∨ d = 5 ∨ d = 6 ∨ d = 7 ∨ d = 8 ∨ d = 9 by omega) with h | h | h | h | h | h | h | h | h | h <;> subst h <;> decide
theorem dig16 (d : Nat) (h : d < 16) : (⟨#[48, 49, 50, 51, 52, 53, 54, 55, 56, 57, 97, 98, 99, 100, 101, 102]⟩ : ByteArray).extract d (d + 1) = ⟨#[hexDig d]⟩ := by
  rcases (show d = 0 ∨ d = 1 ∨ d = 2 ∨ d = 3 ∨ d = 4 ∨ d = 5 ∨ d = 6 ∨ d = 7 ∨ d = 8 ∨ d = 9 ∨ d = 10 ∨ d = 11 ∨ d = 12 ∨ d = 13 ∨ d = 14 ∨ d = 15 by omega) with h | h | h | h | h | h | h | h | h | h | h | h | h | h | h | h <;> subst h <;> decide
theorem decS_size_le (n : Nat) (h : n < 18446744073709551616) : (decS n).size ≤ 20 := by
  rw [decS_size]; exact Lib.nDigits_le20 _ h
theorem decimal_fk : ∀ (k n : Nat), n < 10 ^ (k + 1) → n < 18446744073709551616 → cloisterref22_decimal.f (k + 1) (n : Int) = some (decS n) := by
  intro k
  induction k with
  | zero =>
    intro n h10 h
    have h10 : n < 10 := by simpa using h10
    have hm : Int.tmod (n : Int) 10 = ((n % 10 : Nat) : Int) := by rw [Int.tmod_eq_emod_of_nonneg (by omega)]; omega
    have e1 : wrap64 (((n % 10 : Nat) : Int)) = ((n % 10 : Nat) : Int) := w64_small _ (by omega)
    have e2 : wrap64 (((n % 10 : Nat) : Int) + 1) = ((n % 10 + 1 : Nat) : Int) := by
      have := w64_small (n % 10 + 1) (by omega)
      rw [← this]; congr 1
    have hd : (⟨#[48, 49, 50, 51, 52, 53, 54, 55, 56, 57]⟩ : ByteArray).extract ((n % 10 : Nat) : Int).toNat ((n % 10 + 1 : Nat) : Int).toNat = ⟨#[UInt8.ofNat (48 + n % 10)]⟩ := by rw [Int.toNat_natCast, Int.toNat_natCast]; exact dig10 (n % 10) (Nat.mod_lt _ (by decide))
    rw [cloisterref22_decimal.f, hm, e1, e2, if_pos (by omega), if_pos (by omega), if_pos (by omega), if_pos (by omega), hd]
    congr 1
    unfold decS
    rw [Lib.decDigits_one h10, Nat.mod_eq_of_lt h10]
  | succ k ih =>
    intro n h10k h
    have hm : Int.tmod (n : Int) 10 = ((n % 10 : Nat) : Int) := by rw [Int.tmod_eq_emod_of_nonneg (by omega)]; omega
    have e1 : wrap64 (((n % 10 : Nat) : Int)) = ((n % 10 : Nat) : Int) := w64_small _ (by omega)
    have e2 : wrap64 (((n % 10 : Nat) : Int) + 1) = ((n % 10 + 1 : Nat) : Int) := by
      have := w64_small (n % 10 + 1) (by omega)
      rw [← this]; congr 1
    have hd : (⟨#[48, 49, 50, 51, 52, 53, 54, 55, 56, 57]⟩ : ByteArray).extract ((n % 10 : Nat) : Int).toNat ((n % 10 + 1 : Nat) : Int).toNat = ⟨#[UInt8.ofNat (48 + n % 10)]⟩ := by rw [Int.toNat_natCast, Int.toNat_natCast]; exact dig10 (n % 10) (Nat.mod_lt _ (by decide))
    by_cases h10 : n < 10
    · rw [cloisterref22_decimal.f, hm, e1, e2, if_pos (by omega), if_pos (by omega), if_pos (by omega), if_pos (by omega), hd]
      congr 1
      unfold decS
      rw [Lib.decDigits_one h10, Nat.mod_eq_of_lt h10]
    · have hk := ih (n / 10) (by rw [Nat.pow_succ] at h10k; exact Nat.div_lt_of_lt_mul (by rw [Nat.mul_comm]; exact h10k)) (by omega)
      have hdv : IntKind.u64.wrap (Int.tdiv (n : Int) 10) = ((n / 10 : Nat) : Int) := by
        rw [Int.tdiv_eq_ediv_of_nonneg (by omega)]
        have : ((n : Int) / 10) = ((n / 10 : Nat) : Int) := by omega
        rw [this]
        show ((n / 10 : Nat) : Int) % 18446744073709551616 = _
        omega
      have hsz : (decS (n / 10)).size + (⟨#[UInt8.ofNat (48 + n % 10)]⟩ : ByteArray).size ≤ 9223372036854775807 := by
        have := decS_size_le (n / 10) (by omega)
        have h2 : (⟨#[UInt8.ofNat (48 + n % 10)]⟩ : ByteArray).size = 1 := rfl
        omega
      rw [cloisterref22_decimal.f, hm, e1, e2, if_pos (by omega), if_pos (by omega), if_pos (by omega), if_neg (by omega), hdv, hk, hd, Option.bind_some, if_pos hsz]
      congr 1
      rw [show decS n = ⟨(Lib.decDigits n).toArray⟩ from rfl, Lib.decDigits, dif_neg h10]
      apply ByteArray.ext
      apply Array.toList_inj.1
      simp [decS]
theorem decimal_f (k n : Nat) (hk : 20 ≤ k) (h : n < 18446744073709551616) : cloisterref22_decimal.f k (n : Int) = some (decS n) := by
  obtain ⟨j, rfl⟩ : ∃ j, k = j + 1 := ⟨k - 1, by omega⟩
  refine decimal_fk j n ?_ h
  refine Nat.lt_of_lt_of_le h (Nat.le_trans (show 18446744073709551616 ≤ 10 ^ 20 by decide) (Nat.pow_le_pow_right (by omega) hk))
def hexSuf (n i : Nat) : ByteArray := ⟨((hexL n).drop (8 - i)).toArray⟩
theorem hexL_get (n j : Nat) (h : j < 8) : (hexL n).drop j = hexAt n j :: (hexL n).drop (j + 1) := by
  have hl : (hexL n).length = 8 := by simp [hexL]
  rw [List.drop_eq_getElem_cons (by omega)]
  congr 1
  simp [hexL]
theorem hexSuf_succ (n i : Nat) (h : i < 8) : (⟨#[hexDig (n / 16 ^ i % 16)]⟩ : ByteArray) ++ hexSuf n i = hexSuf n (i + 1) := by
  apply ByteArray.ext
  apply Array.toList_inj.1
  have e : 8 - i = (8 - (i + 1)) + 1 := by omega
  simp only [hexSuf]
  rw [hexL_get n (8 - (i + 1)) (by omega), ← e]
  have e2 : 7 - (8 - (i + 1)) = i := by omega
  simp only [hexAt, e2]
  rfl
theorem tdiv16 (q : Nat) (h : q < 4294967296) : (Int.tdiv (q : Int) 16) % 4294967296 = ((q / 16 : Nat) : Int) := by
  rw [Int.tdiv_eq_ediv_of_nonneg (Int.natCast_nonneg q)]
  have : ((q : Int) / 16) = ((q / 16 : Nat) : Int) := by omega
  rw [this]
  exact Int.emod_eq_of_lt (by omega) (by omega)
theorem i8 {i j : Nat} (h : i = 8 - (j + 1)) : (i : Int) < 8 := by omega
theorem one_sz (d : UInt8) : (⟨#[d]⟩ : ByteArray).size = 1 := rfl
theorem hex_l (n e : Nat) (h : n < 4294967296) : ∀ j : Nat, j ≤ 8 → cloisterref22_hex.l0 (j + e + 1) ((n / 16 ^ (8 - j) : Nat) : Int) (hexSuf n (8 - j)) ((8 - j : Nat) : Int) = some (hexS n) := by
  intro j
  induction j with
  | zero =>
    intro _
    rw [Nat.zero_add, cloisterref22_hex.l0, if_neg (by omega)]
    rfl
  | succ j ih =>
    intro hj
    replace ih := ih (by omega)
    rw [show j + 1 + e = (j + e) + 1 by omega]
    obtain ⟨i, hi⟩ : ∃ i, i = 8 - (j + 1) := ⟨_, rfl⟩
    have e8 : 8 - j = i + 1 := by omega
    rw [e8] at ih
    rw [← hi]
    obtain ⟨q, hq⟩ : ∃ q, q = n / 16 ^ i := ⟨_, rfl⟩
    rw [← hq]
    have hqn : q ≤ n := by rw [hq]; exact Nat.div_le_self _ _
    have hqd : n / 16 ^ (i + 1) = q / 16 := by rw [hq, Nat.pow_succ, Nat.div_div_eq_div_mul]
    have hs := hexSuf_succ n i (by clear hq; omega)
    rw [← hq] at hs
    rw [hqd] at ih
    clear hq hqd
    obtain ⟨suf, hsuf⟩ : ∃ suf, suf = hexSuf n i := ⟨_, rfl⟩
    have hsz0 : suf.size ≤ 8 := by rw [hsuf]; simp [hexSuf, ByteArray.size, hexL]
    rw [← hsuf] at hs ⊢
    have hm : Int.tmod (q : Int) 16 = ((q % 16 : Nat) : Int) := by rw [Int.tmod_eq_emod_of_nonneg (Int.natCast_nonneg q)]; omega
    have e1 : wrap64 (((q % 16 : Nat) : Int)) = ((q % 16 : Nat) : Int) := w64_small _ (by omega)
    have e2 : wrap64 (((q % 16 : Nat) : Int) + 1) = ((q % 16 + 1 : Nat) : Int) := w64_succ _ (by omega)
    have e3 : wrap64 ((i : Int) + 1) = ((i + 1 : Nat) : Int) := w64_succ _ (by omega)
    have hdv : (Int.tdiv (q : Int) 16) % 4294967296 = ((q / 16 : Nat) : Int) := by
      exact tdiv16 q (Nat.lt_of_le_of_lt hqn h)
    have h8 : ((i : Nat) : Int) < 8 := i8 hi
    have g0 : (0 : Int) ≤ ((q % 16 : Nat) : Int) := Int.natCast_nonneg _
    have g1 : ((q % 16 : Nat) : Int) ≤ ((q % 16 + 1 : Nat) : Int) := Int.ofNat_le.2 (Nat.le_succ _)
    have g2 : ((q % 16 + 1 : Nat) : Int) ≤ 16 := Int.ofNat_le.2 (Nat.mod_lt _ (by decide))
    have hd : (⟨#[48, 49, 50, 51, 52, 53, 54, 55, 56, 57, 97, 98, 99, 100, 101, 102]⟩ : ByteArray).extract ((q % 16 : Nat) : Int).toNat ((q % 16 + 1 : Nat) : Int).toNat = ⟨#[hexDig (q % 16)]⟩ := by rw [Int.toNat_natCast, Int.toNat_natCast]; exact dig16 (q % 16) (Nat.mod_lt _ (by decide))
    obtain ⟨dg, hdg⟩ : ∃ dg, dg = hexDig (q % 16) := ⟨_, rfl⟩
    rw [← hdg] at hd hs
    clear hdg
    have hsz : (⟨#[dg]⟩ : ByteArray).size + suf.size ≤ 9223372036854775807 := by
      have h1 : (⟨#[dg]⟩ : ByteArray).size = 1 := one_sz dg
      omega
    clear hsz0 hsuf
    rw [cloisterref22_hex.l0, if_pos h8]
    rw [hm, e1]
    rw [e2, if_pos g0, if_pos g1, if_pos g2, hd, if_pos hsz, hs, hdv, e3]
    exact ih
theorem hex_f (k n : Nat) (hk : 9 ≤ k) (h : n < 4294967296) : cloisterref22_hex.f k (n : Int) = some (hexS n) := by
  obtain ⟨e, rfl⟩ : ∃ e, k = 8 + e + 1 := ⟨k - 9, by omega⟩
  have h8 := hex_l n e h 8 (Nat.le_refl _)
  have e : hexSuf n (8 - 8) = (⟨#[]⟩ : ByteArray) := by
    apply ByteArray.ext
    apply Array.toList_inj.1
    simp [hexSuf, hexL]
  rw [e, Nat.sub_self, Nat.pow_zero, Nat.div_one] at h8
  exact h8
end Go.Proofs.YtohighedgdlflaaGreatDoor
