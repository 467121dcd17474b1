/- The law TraceLong of package trace answers true, for every two numbers. -/
import Derived.Test.YtohighedgdlflaaGreatDoorLPRx2
import Derived.Test.YtohighedgdlflaaGreatDoorLML1
import Derived.Lib.BufferMore
import Derived.RangeFuncNested
import Derived.RangeFuncBound
import Derived.RangeFuncCalls
import Derived.RangeFuncLeaves
import Derived.Shelf.Abstract
import Derived.Shelf.RegionOpen
import Derived.WalkKit
import Derived.OwnWalkIn
import Derived.TacticsInMore
import Derived.LoopNIn
import Derived.LoopIn
import Derived.Test.YtohighedgdlflaaGreatDoorLML5
import Derived.RangeFuncBox
import Derived.Maps.AppendAt
/- slices.Clone of a row of observations: a row of the call's own that holds the same. -/
namespace Go.Proofs.YtohighedgdlflaaGreatDoor
open Go.RowKit Go.Proofs.YtohighedgdlflaaGreatDoorW.PrintWords Go.Proofs.YtohighedgdlflaaGreatDoor.PR
set_option linter.unusedVariables false
set_option linter.unusedSimpArgs false
theorem R_empty35 (W : World) : k35.R 35 (W.alloc (.cells #[] 35)) W.heap.size (fun _ => True) (.slice (some ⟨W.heap.size, 0, none⟩) 0 0) [] :=
  ⟨fun _ _ => trivial, [], ⟨rfl, .inr ⟨W.heap.size, 0, #[], rfl, Nat.le_refl _, heap_alloc_new _ _, Nat.le_refl _, Nat.zero_le _, rfl, rfl⟩⟩, Reps.none _ _⟩
set_option maxRecDepth 100000 in
set_option maxHeartbeats 1000000 in
theorem clone_ok (l : List S35) (A : Option Addr) (c : Nat) (w : World) (hR : Kd.C k35 w A l.length l) (hc : l.length ≤ c) (hl : l.length ≤ 1000000) :
    Calls Tryz.prog 61 #[.slice A l.length c] w fun e w' => ∃ v, e = .returned v ∧ Kd.R k35 35 w' w.heap.size (fun _ => True) v l ∧ Below w.heap.size w w' := by
  have HR := Lib.hid hR
  cases A with
  | none =>
    have h0 : l.length = 0 := by
      rcases Nat.eq_zero_or_pos l.length with h | h
      · exact h
      · obtain ⟨ad, had, _⟩ := hR.2.2 h
        cases had
    have hx : l = [] := List.eq_nil_of_length_eq_zero h0
    subst hx
    clear hR
    have kq := fun W : World => Lib.run_eql_slice_nil_nil (P := Tryz.prog) W (t := 22) (e := 35) 0 c Tryz.underlying22
    go_enter Tryz.func61, Tryz.ntmps61
    go_wp2_with fail
    go_ret
    exact ⟨_, rfl, Kd.R_nil _ _ _ _ _, Below.refl _ _⟩
  | some ad =>
    clear hR
    have HRa : Hid (Kd.C k35 (w.alloc (.cells #[] 35)) (some ad) l.length l) := Kd.C_alloc HR.out _
    have kq := fun W : World => Lib.run_eql_slice_some_nil (P := Tryz.prog) W (t := 22) (e := 35) ad l.length c Tryz.underlying22
    go_enter Tryz.func61, Tryz.ntmps61
    go_wp2_with (first | ((with_reducible refine gate_builtin (b := .append) (xs := #[.tmp 5, .tmp 6]) rfl ?_); at_builtin; refine Kd.R_append_rows k35 (w0 := w) w.heap.size rfl (.tmp 5) (.tmp 6) 22 35 (.agg #[(.int .u64 0), (.int .i64 0), (.int .i64 0), (.int .u32 0), (.int .u32 0), (.int .u32 0)]) 40 rfl Tryz.underlying22 info35 rfl (by decide) (by omega) (.slice (some ⟨w.heap.size, 0, none⟩) 0 0) ([] : List (S35)) l (some ad) l.length c (fun _ => True) (fun _ => False) rfl rfl (R_empty35 w) HRa.out (fun _ _ h => h) (fun _ h => h.elim) (fun _ _ => trivial) (below_alloc (Below.refl _ _) _) (by simp) (by simp; omega) ?_; intro v3 w3 ho hb hg hat; have HO := Lib.hid ho; have HB := Lib.hid hb; clear ho hb hg hat))
    go_ret
    exact ⟨_, rfl, HO.out, HB.out⟩
end Go.Proofs.YtohighedgdlflaaGreatDoor

/- trace.Of answers the iterator over a copy of the row: the function 62 with two boxes. -/
namespace Go.Proofs.YtohighedgdlflaaGreatDoor
open Go.RowKit Go.Proofs.YtohighedgdlflaaGreatDoorW.PrintWords Go.Proofs.YtohighedgdlflaaGreatDoor.PR
set_option linter.unusedVariables false
set_option linter.unusedSimpArgs false
set_option maxRecDepth 100000 in
set_option maxHeartbeats 1000000 in
theorem of_ok (cell : Int) (l : List S35) (A : Option Addr) (c : Nat) (w : World) (hR : Kd.C k35 w A l.length l) (hc : l.length ≤ c) (hl : l.length ≤ 1000000) :
    Calls Tryz.prog 24 #[.int .i64 cell, .slice A l.length c] w fun e w' => ∃ v, e = .returned (.func (.func 62) #[] #[.pointer (some ⟨w.heap.size + 1, 0, none⟩), .pointer (some ⟨w.heap.size, 0, none⟩)]) ∧
      w'.cell? ⟨w.heap.size, 0, none⟩ = some (.int .i64 cell) ∧ w'.cell? ⟨w.heap.size + 1, 0, none⟩ = some v ∧ Kd.R k35 35 w' (w.heap.size + 2) (fun _ => True) v l ∧ Below w.heap.size w w' := by
  have HR := Lib.hid hR
  clear hR
  go_enter Tryz.func24, Tryz.ntmps24
  go_wp2_with fail
  obtain ⟨W2, hW2⟩ : ∃ W2, W2 = (w.alloc (.cells #[.int .i64 cell] 3)).alloc (.cells #[.slice A l.length c] 22) := ⟨_, rfl⟩
  have hs2 : W2.heap.size = w.heap.size + 2 := by rw [hW2]; simp
  have hc0 : W2.cell? ⟨w.heap.size, 0, none⟩ = some (.int .i64 cell) := by
    rw [hW2, World.cell?_alloc_old _ _ _ (by simp)]
    simp [World.cell?_alloc_new]
  have hc1 : W2.cell? ⟨w.heap.size + 1, 0, none⟩ = some (.slice A l.length c) ∧ W2.frozen? ⟨w.heap.size + 1, 0, none⟩ = false := by
    have h := heap_alloc_new (w.alloc (.cells #[.int .i64 cell] 3)) (.cells #[.slice A l.length c] 22)
    rw [World.size_alloc, ← hW2] at h
    constructor
    · simp [World.cell?, h]
    · simp [World.frozen?, h]
  have hC2 : Kd.C k35 W2 A l.length l := by rw [hW2]; exact Kd.C_alloc (Kd.C_alloc HR.out _) _
  have hB2 : Below w.heap.size w W2 := by rw [hW2]; exact below_alloc (below_alloc (Below.refl _ _) _) _
  rw [← hW2]
  clear hW2 HR
  have HB2 := Lib.hid hB2
  refine (clone_ok l A c W2 hC2 hc hl).mono ?_
  rintro e w3 ⟨v, rfl, hr, hb⟩
  have d0 : w3.cell? ⟨w.heap.size, 0, none⟩ = some (.int .i64 cell) := (hb.cell (by show w.heap.size < _; omega)).trans hc0
  have d1 : w3.cell? ⟨w.heap.size + 1, 0, none⟩ = some (.slice A l.length c) := (hb.cell (by show w.heap.size + 1 < _; omega)).trans hc1.1
  have d2 : w3.frozen? ⟨w.heap.size + 1, 0, none⟩ = false := (World.frozen?_of_block (hb.block _ (by show w.heap.size + 1 < _; omega))).trans hc1.2
  obtain ⟨A3, c3, rfl, hc3, _⟩ := Kd.R_reads hr
  have hr2 := Kd.R_mono (ok' := fun k => w.heap.size + 2 ≤ k) (Kd.R_bound hr) (fun k hk => by have := hk.2.1; omega)
  have hk : KeepBut w3 (w3.setCell ⟨w.heap.size + 1, 0, none⟩ (.slice A3 l.length c3)) (w.heap.size + 1) none := (KeepBut.refl _ _ _).set_ _ _
  have HR3 := Lib.hid (Kd.R_keep hr2 hk (fun k hk => by omega))
  have HB3 := Lib.hid (HB2.out.trans (hb.mono HB2.out.size))
  have e0 : (w3.setCell ⟨w.heap.size + 1, 0, none⟩ (.slice A3 l.length c3)).cell? ⟨w.heap.size, 0, none⟩ = some (.int .i64 cell) := by
    rw [World.cell?_setCell_other _ _ _ _ (by simp)]; exact d0
  have e1 : (w3.setCell ⟨w.heap.size + 1, 0, none⟩ (.slice A3 l.length c3)).cell? ⟨w.heap.size + 1, 0, none⟩ = some (.slice A3 l.length c3) := World.cell?_setCell_same' _ _ _ (by rw [d1]; rfl)
  have HE := Lib.hid (And.intro e0 e1)
  clear hr hb hr2 hk e0 e1 d0 hc0 hc1 hC2 hB2
  go_wp2_with fail
  go_ret
  exact ⟨_, rfl, HE.out.1, HE.out.2, Kd.R_lower (Kd.R_mono HR3.out (fun _ _ => trivial)) (by omega), HB3.out.setCell (by show w.heap.size ≤ w.heap.size + 1; omega) _⟩
end Go.Proofs.YtohighedgdlflaaGreatDoor

/- The iterator that trace.Of answers: it hands on the observations of the cell, in order, as long as it is asked. -/
namespace Go.Proofs.YtohighedgdlflaaGreatDoor
open Go.RowKit Go.Shelf Go.Proofs.YtohighedgdlflaaGreatDoorW.PrintWords Go.Proofs.YtohighedgdlflaaGreatDoor.PR
set_option linter.unusedVariables false
set_option linter.unusedSimpArgs false
attribute [local go_sem] Oper.semAt_some
def ob6 (x : S35) : Value := .agg #[.int .u64 x.f0, .int .i64 x.f1, .int .i64 x.f2, .int .u32 x.f3, .int .u32 x.f4, .int .u32 x.f5]
def ofL (cell : Int) (l : List S35) : List S35 := l.filter (fun o => o.f1 == cell)
theorem ofL_succ (cell : Int) (l : List S35) (k : Nat) (x : S35) (h : l[k]? = some x) : ofL cell (l.take (k + 1)) = if x.f1 = cell then ofL cell (l.take k) ++ [x] else ofL cell (l.take k) := by
  have hk : k < l.length := by
    rcases Nat.lt_or_ge k l.length with h' | h'
    · exact h'
    · rw [List.getElem?_eq_none h'] at h; simp at h
  have hx : l[k] = x := by rw [List.getElem?_eq_getElem hk] at h; exact Option.some.inj h
  unfold ofL
  rw [List.take_succ_eq_append_getElem hk, List.filter_append, hx]
  by_cases hc : x.f1 = cell
  · simp [hc]
  · simp [hc]
def Six (W : World) (g j : Nat) (x : S35) : Prop := W.cell? ⟨g, j * 6, none⟩ = some (.int .u64 x.f0) ∧ W.cell? ⟨g, j * 6 + 1, none⟩ = some (.int .i64 x.f1) ∧ W.cell? ⟨g, j * 6 + 2, none⟩ = some (.int .i64 x.f2) ∧ W.cell? ⟨g, j * 6 + 3, none⟩ = some (.int .u32 x.f3) ∧ W.cell? ⟨g, j * 6 + 4, none⟩ = some (.int .u32 x.f4) ∧ W.cell? ⟨g, j * 6 + 5, none⟩ = some (.int .u32 x.f5)
/-- What lay in a span of the heap lies there still. -/
def Span (lo hi : Nat) (W W' : World) : Prop := W.heap.size ≤ W'.heap.size ∧ ∀ k, lo ≤ k → k < hi → W'.heap[k]? = W.heap[k]?
theorem Span.refl (lo hi : Nat) (W : World) : Span lo hi W W := ⟨Nat.le_refl _, fun _ _ _ => rfl⟩
theorem Span.trans {lo hi : Nat} {A B C : World} (h : Span lo hi A B) (k : Span lo hi B C) : Span lo hi A C := ⟨Nat.le_trans h.1 k.1, fun i h1 h2 => (k.2 i h1 h2).trans (h.2 i h1 h2)⟩
theorem Span.of_below {lo hi : Nat} {W W' : World} (h : Below hi W W') : Span lo hi W W' := ⟨h.size, fun k _ hk => h.block k hk⟩
theorem Span.of_below' {lo hi n : Nat} {W W' : World} (h : Below n W W') (hn : hi ≤ n) : Span lo hi W W' := ⟨h.size, fun k _ hk => h.block k (by omega)⟩
theorem Span.alloc {lo hi : Nat} {A W : World} (h : Span lo hi A W) (hh : hi ≤ W.heap.size) (o : Obj) : Span lo hi A (W.alloc o) := h.trans (Span.of_below ((Below.refl hi W).alloc hh o))
theorem Span.put {lo hi : Nat} {W : World} {l : Nat} (hl : hi ≤ l ∨ l < lo) (o' : Obj) : Span lo hi W (W.putObj l o') := by
  refine ⟨by simp [World.putObj], fun k h1 h2 => ?_⟩
  exact World.putObj_heap_other (by omega)
theorem Span.cell {lo hi : Nat} {W W' : World} (h : Span lo hi W W') {p : Addr} {u : Value} (h1 : lo ≤ p.block) (h2 : p.block < hi) (hc : W.cell? p = some u) : W'.cell? p = some u := by
  rw [← hc]
  unfold World.cell?
  rw [h.2 _ h1 h2]
set_option maxRecDepth 100000 in
set_option maxHeartbeats 2000000 in
theorem of1_in (lo : Nat) (F : Fence) (n : Nat) (h62 : F.fn 62) (hro : F.round = none) (hn : 1 ≤ n) (y Bl Bc n₀ g c : Nat) (A : Option Addr) (cell : Int) (l : List S35) (hl : l.length ≤ 1000000) (hA : 0 < l.length → A = some ⟨g, 0, none⟩) (hg : g < n₀) (hBc : Bc < n₀) (hgl : lo ≤ g) (hBcl : lo ≤ Bc) (J Jx : List S35 → World → Prop)
    (hJ : ∀ pre W W', J pre W → W.grownBy W' none → J pre W')
    (hY : ∀ pre x W, x ∈ l → J pre W → pre.length < l.length → YieldAt F (n - 1) Tryz.prog y #[ob6 x] W fun e W' =>
      (e = .returned (.bool true) ∧ J (pre ++ [x]) W' ∧ Span lo n₀ W W') ∨ (e = .returned (.bool false) ∧ Jx (pre ++ [x]) W'))
    (W : World) (hn0 : n₀ ≤ W.heap.size) (hBl : W.cell? ⟨Bl, 0, none⟩ = some (.slice A l.length c)) (hBcc : W.cell? ⟨Bc, 0, none⟩ = some (.int .i64 cell)) (hc : ∀ j x, l[j]? = some x → Six W g j x) (h0 : J [] W) :
    CallsIn F n Tryz.prog 62 #[.func (.yield y) #[] #[], .pointer (some ⟨Bl, 0, none⟩), .pointer (some ⟨Bc, 0, none⟩)] W fun e W' => (∃ v, e = .returned v) ∧
      ((∃ ys, ys = ofL cell l ∧ J ys W') ∨ (∃ pre, pre <+: ofL cell l ∧ Jx pre W')) := by
  refine callsIn_of_wp Tryz.func62 rfl h62 ?_ hro
  simp only [Tryz.ntmps62, List.size_toArray, List.length_cons, List.length_nil, Nat.reduceAdd, Nat.reduceSub, Array.replicate_succ, Array.replicate_zero, List.push_toArray, List.append_toArray, List.nil_append, List.cons_append]
  gi_wp2
  gi_loopw [8] (fun i wr => ∃ k : Nat, k ≤ l.length ∧ i = .int .i64 k ∧ J (ofL cell (l.take k)) wr ∧ Span lo n₀ W wr) (fun i _ => l.length - (RowKit.intOf i).toNat)
  case atStart => exact ⟨0, Nat.zero_le _, rfl, h0, Span.refl _ _ _⟩
  case round =>
    obtain ⟨k, hk, rfl, hJs, hnx⟩ := hrel
    by_cases hlt : k < l.length
    · obtain ⟨x, hx⟩ : ∃ x, x = l[k] := ⟨_, rfl⟩
      have hget : l[k]? = some x := by rw [List.getElem?_eq_getElem hlt, hx]
      obtain ⟨s0, s1, s2, s3, s4, s5⟩ := hc k x hget
      have hb : ∀ p u, lo ≤ p.block → p.block < n₀ → W.cell? p = some u → wr.cell? p = some u := fun p u hp0 hp h => hnx.cell hp0 hp h
      have c0 := hb _ _ hgl hg s0
      have c1 := hb _ _ hgl hg s1
      have c2 := hb _ _ hgl hg s2
      have c3 := hb _ _ hgl hg s3
      have c4 := hb _ _ hgl hg s4
      have c5 := hb _ _ hgl hg s5
      have cB := hb _ _ hBcl hBc hBcc
      obtain rfl := hA (by omega)
      have hstep := ofL_succ cell l k x hget
      have hmem := Lib.hid (List.mem_of_getElem? hget)
      have hpl : (ofL cell (l.take k)).length < l.length := by
        have := List.length_filter_le (fun o : S35 => o.f1 == cell) (l.take k)
        unfold ofL
        rw [List.length_take] at this
        omega
      have hbB : Bc < wr.heap.size := World.block_lt_of_cell? wr _ cB
      have cB' : (wr.alloc (.cells #[.int .u64 x.f0, .int .i64 x.f1, .int .i64 x.f2, .int .u32 x.f3, .int .u32 x.f4, .int .u32 x.f5] 35)).cell? ⟨Bc, 0, none⟩ = some (.int .i64 cell) := by
        rw [World.cell?_alloc_old _ _ _ (by show Bc ≠ _; omega)]; exact cB
      have hJ1 : J (ofL cell (l.take k)) (wr.alloc (.cells #[.int .u64 x.f0, .int .i64 x.f1, .int .i64 x.f2, .int .u32 x.f3, .int .u32 x.f4, .int .u32 x.f5] 35)) := hJ _ _ _ hJs (World.grownBy_alloc _ _ _)
      have hn1 : Span lo n₀ W (wr.alloc (.cells #[.int .u64 x.f0, .int .i64 x.f1, .int .i64 x.f2, .int .u32 x.f3, .int .u32 x.f4, .int .u32 x.f5] 35)) := hnx.alloc (Nat.le_trans hn0 hnx.1) _
      clear s0 s1 s2 s3 s4 s5 hb hget hx hA
      by_cases he : x.f1 = cell
      · rw [if_pos he] at hstep
        obtain ⟨fn, tmps, assign, body, hy, hR⟩ := hY _ x _ hmem.out hJ1 hpl
        unfold ob6 at hy
        have heq : (x.f1 == cell) = true := beq_iff_eq.2 he
        have Hstep := Lib.hid hstep
        clear hstep he
        gi_wp2
        refine hR.mono ?_
        rintro e W3 (⟨rfl, hJ3, hk3⟩ | ⟨rfl, hJx3⟩)
        · gi_wp2
          go_roundw
          case rel => exact ⟨k + 1, by omega, by simp, by rw [Hstep.out]; exact hJ3, hn1.trans hk3⟩
          case measure => simp [RowKit.intOf]; omega
        · gi_wp2
          refine bodyPost_ret (results_none rfl _ _ _) rfl ?_
          refine ⟨⟨_, rfl⟩, .inr ⟨_, ?_, hJx3⟩⟩
          rw [← Hstep.out]
          unfold ofL
          exact (List.take_prefix _ _).filter _
      · rw [if_neg he] at hstep
        have hne : (x.f1 == cell) = false := beq_eq_false_iff_ne.2 he
        have Hstep := Lib.hid hstep
        clear hstep
        gi_wp2
        refine ⟨fun _ h => (by cases h), ?_⟩
        gi_wp2
        go_roundw
        case rel => exact ⟨k + 1, by omega, by simp, by rw [Hstep.out]; exact hJ1, hn1⟩
        case measure => simp [RowKit.intOf]; omega
    · obtain rfl : k = l.length := by omega
      gi_wp2
      go_end0
      rw [List.take_length] at hJs
      exact ⟨⟨_, rfl⟩, .inl ⟨_, rfl, hJs⟩⟩
/-- What trace.Of answers, as a range over it wants it. -/
theorem of1_stops (F : Fence) (n : Nat) (h62 : F.fn 62) (hro : F.round = none) (hn : 1 ≤ n) (Bl Bc n₀ g c : Nat) (A : Option Addr) (cell : Int) (l : List S35) (hl : l.length ≤ 1000000) (hA : 0 < l.length → A = some ⟨g, 0, none⟩) (hg : g < n₀) (hBc : Bc < n₀) (hBl : Bl < n₀)
    (w : World) (hn0 : n₀ ≤ w.heap.size) (hBlc : w.cell? ⟨Bl, 0, none⟩ = some (.slice A l.length c)) (hBcc : w.cell? ⟨Bc, 0, none⟩ = some (.int .i64 cell)) (hc : ∀ j x, l[j]? = some x → Six w g j x) :
    SeqStopsK F n Tryz.prog 62 #[.pointer (some ⟨Bl, 0, none⟩), .pointer (some ⟨Bc, 0, none⟩)] (fun x : S35 => #[ob6 x]) (Below n₀) (fun ys => ys = ofL cell l) (fun pre => pre <+: ofL cell l) l.length w := fun y J Jx W hW hJ _ hY h0 => by
  have hcell : ∀ p u, p.block < n₀ → w.cell? p = some u → W.cell? p = some u := fun p u hp h => (hW.cell (Nat.lt_of_lt_of_le hp hn0)).trans h
  exact of1_in 0 F n h62 hro hn y Bl Bc n₀ g c A cell l hl hA hg hBc (Nat.zero_le _) (Nat.zero_le _) J Jx (fun pre W1 W2 hs hgr => hJ pre W1 W2 none hs hgr (fun r h => by cases h)) (fun pre x W _ hj hlen => (hY pre x W hj hlen).mono (fun e W2 h => by rcases h with ⟨he, hj, hk⟩ | h; exact .inl ⟨he, hj, Span.of_below hk⟩; exact .inr h)) W (Nat.le_trans hn0 hW.size) (hcell _ _ hBl hBlc) (hcell _ _ hBc hBcc)
    (fun j x hx => by
      obtain ⟨s0, s1, s2, s3, s4, s5⟩ := hc j x hx
      exact ⟨hcell _ _ hg s0, hcell _ _ hg s1, hcell _ _ hg s2, hcell _ _ hg s3, hcell _ _ hg s4, hcell _ _ hg s5⟩) h0
/-- The observations of which a property is known. -/
abbrev FS (p : S35 → Prop) := { x : S35 // p x }
/-- What trace.Of answers, each element with its property. -/
theorem of1_stopsF (lo : Nat) (p : S35 → Prop) (F : Fence) (n : Nat) (h62 : F.fn 62) (hro : F.round = none) (hn : 1 ≤ n) (Bl Bc n₀ g c : Nat) (A : Option Addr) (cell : Int) (l : List S35) (hp : ∀ x ∈ l, p x) (hl : l.length ≤ 1000000) (hA : 0 < l.length → A = some ⟨g, 0, none⟩) (hg : g < n₀) (hBc : Bc < n₀) (hBl : Bl < n₀) (hgl : lo ≤ g) (hBcl : lo ≤ Bc)
    (w : World) (hn0 : n₀ ≤ w.heap.size) (hBlc : w.cell? ⟨Bl, 0, none⟩ = some (.slice A l.length c)) (hBcc : w.cell? ⟨Bc, 0, none⟩ = some (.int .i64 cell)) (hc : ∀ j x, l[j]? = some x → Six w g j x) :
    SeqStopsK F n Tryz.prog 62 #[.pointer (some ⟨Bl, 0, none⟩), .pointer (some ⟨Bc, 0, none⟩)] (fun x : FS p => #[ob6 x.1]) (Span lo n₀) (fun ys => ys.map (·.1) = ofL cell l) (fun pre => pre.map (·.1) <+: ofL cell l) l.length w := fun y J Jx W hW hJ _ hY h0 => by
  have hcell : ∀ p u, p.block < n₀ → w.cell? p = some u → W.cell? p = some u := fun p u hp h => (hW.cell (Nat.lt_of_lt_of_le hp hn0)).trans h
  refine (of1_in lo F n h62 hro hn y Bl Bc n₀ g c A cell l hl hA hg hBc hgl hBcl (fun pre W => ∃ q : List (FS p), q.map (·.1) = pre ∧ J q W) (fun pre W => ∃ q : List (FS p), q.map (·.1) = pre ∧ Jx q W)
    (fun pre W1 W2 ⟨q, hq, hs⟩ hgr => ⟨q, hq, hJ q W1 W2 none hs hgr (fun r h => by cases h)⟩)
    (fun pre x W1 hx ⟨q, hq, hs⟩ hlen => (hY q ⟨x, hp x hx⟩ W1 hs (by rw [← hq, List.length_map] at hlen; exact hlen)).mono (fun e W2 h => by
      rcases h with ⟨he, hj, hk⟩ | ⟨he, hj⟩
      · exact .inl ⟨he, ⟨_, by rw [List.map_append, hq]; rfl, hj⟩, hk⟩
      · exact .inr ⟨he, ⟨_, by rw [List.map_append, hq]; rfl, hj⟩⟩))
    W (Nat.le_trans hn0 hW.size) (hcell _ _ hBl hBlc) (hcell _ _ hBc hBcc)
    (fun j x hx => by
      obtain ⟨s0, s1, s2, s3, s4, s5⟩ := hc j x hx
      exact ⟨hcell _ _ hg s0, hcell _ _ hg s1, hcell _ _ hg s2, hcell _ _ hg s3, hcell _ _ hg s4, hcell _ _ hg s5⟩) ⟨[], rfl, h0⟩).mono ?_
  rintro e W' ⟨hv, ⟨ys, hys, q, hq, hj⟩ | ⟨pre, hpre, q, hq, hj⟩⟩
  · exact ⟨hv, .inl ⟨q, hq.trans hys, hj⟩⟩
  · exact ⟨hv, .inr ⟨q, (show q.map (·.1) <+: ofL cell l by rw [hq]; exact hpre), hj⟩⟩
end Go.Proofs.YtohighedgdlflaaGreatDoor

/- The bytes of which a cell's digest is the sum. -/
namespace Go.Proofs.YtohighedgdlflaaGreatDoor
open Go.RowKit Go.Shelf Go.Proofs.YtohighedgdlflaaGreatDoorW.PrintWords Go.Proofs.YtohighedgdlflaaGreatDoor.PR
set_option linter.unusedVariables false
set_option linter.unusedSimpArgs false
/-- The bytes of which a cell's digest is the sum. -/
def digB (l : List S35) : List Int := (l.filter mayB).flatMap rowB
def digI (cell : Int) (l : List S35) : Int := Crc.crc (digB (ofL cell l))
theorem digB_succ (l : List S35) (k : Nat) (x : S35) (h : l[k]? = some x) : digB (l.take (k + 1)) = if mayB x = true then digB (l.take k) ++ rowB x else digB (l.take k) := by
  unfold digB
  rw [List.take_add_one, h, List.filter_append]
  by_cases hc : mayB x = true
  · simp [hc]
  · simp [hc]
theorem digB_bytes (l : List S35) : Crc.Bytes (digB l) := by
  intro y hy
  simp only [digB, List.mem_flatMap, rowB, List.mem_append] at hy
  obtain ⟨o, _, h⟩ := hy
  rcases h with ((((h | h) | h) | h) | h) | h <;> exact leb_bytes _ _ y h
theorem digB_len (l : List S35) : (digB l).length ≤ 22 * l.length := by
  unfold digB
  rw [flat_len]
  have := List.length_filter_le mayB l
  omega
end Go.Proofs.YtohighedgdlflaaGreatDoor

/- slices.AppendSeq and slices.Collect over an iterator of observations. -/
namespace Go.Proofs.YtohighedgdlflaaGreatDoor
open Go.RowKit Go.Shelf Go.Proofs.YtohighedgdlflaaGreatDoorW.PrintWords Go.Proofs.YtohighedgdlflaaGreatDoor.PR
set_option linter.unusedVariables false
set_option linter.unusedSimpArgs false
attribute [local go_sem] Oper.semAt_some
def c6 (x : S35) : List Value := [.int .u64 x.f0, .int .i64 x.f1, .int .i64 x.f2, .int .u32 x.f3, .int .u32 x.f4, .int .u32 x.f5]
theorem flat_snoc (pre : List S35) (x : S35) : (pre ++ [x]).flatMap c6 = pre.flatMap c6 ++ c6 x := by simp
def Box6 (W : World) (B : Nat) (x : S35) : Prop := W.heap[B]? = some (.cells #[.int .u64 x.f0, .int .i64 x.f1, .int .i64 x.f2, .int .u32 x.f3, .int .u32 x.f4, .int .u32 x.f5] 35 (0, 0))
theorem Box6.cells {W : World} {B : Nat} {x : S35} (h : Box6 W B x) : W.cell? ⟨B, 0, none⟩ = some (.int .u64 x.f0) ∧ W.cell? ⟨B, 1, none⟩ = some (.int .i64 x.f1) ∧ W.cell? ⟨B, 2, none⟩ = some (.int .i64 x.f2) ∧ W.cell? ⟨B, 3, none⟩ = some (.int .u32 x.f3) ∧ W.cell? ⟨B, 4, none⟩ = some (.int .u32 x.f4) ∧ W.cell? ⟨B, 5, none⟩ = some (.int .u32 x.f5) := by
  unfold Box6 at h
  refine ⟨?_, ?_, ?_, ?_, ?_, ?_⟩ <;> simp [World.cell?, h]
theorem Box6.kept {W W' : World} {B : Nat} {x : S35} {row : Option Nat} (h : Box6 W B x) (hg : W.grownBy W' row) (hr : ∀ r, row = some r → ∃ o : Obj, W.heap[r]? = some o ∧ o.isCells = false) : Box6 W' B x := by
  unfold Box6 at h ⊢
  rw [hg.block B (Array.getElem?_eq_some_iff.1 h).1 (fun e => ?_)]
  · exact h
  · obtain ⟨o, ho, hc⟩ := hr B e.symm
    rw [h] at ho; cases ho; cases hc
theorem c6_new (W : World) (x : S35) : ∀ j u, (c6 x)[j]? = some u → (W.alloc (.cells #[.int .u64 x.f0, .int .i64 x.f1, .int .i64 x.f2, .int .u32 x.f3, .int .u32 x.f4, .int .u32 x.f5] 35)).cell? ((⟨W.heap.size, 0, none⟩ : Addr).add j) = some u := by
  intro j u hu
  rw [show ((⟨W.heap.size, 0, none⟩ : Addr).add j) = ⟨W.heap.size, j, none⟩ from by unfold Addr.add; split <;> simp_all]
  simp only [World.cell?, heap_alloc_new]
  simpa [c6] using hu
theorem c6_one (x : S35) : ∀ u ∈ c6 x, u.oneCell' = true := by
  intro u hu
  simp only [c6, List.mem_cons, List.not_mem_nil, or_false] at hu
  rcases hu with rfl | rfl | rfl | rfl | rfl | rfl <;> rfl
set_option maxRecDepth 100000 in
set_option maxHeartbeats 2000000 in
theorem appendSeq_in (F : Fence) (n : Nat) (h104 : F.fn 104) (hro : F.round = none) (hn : 3 ≤ n) (gf : Nat) (lb : Array Value) (hgf : F.fn gf) (eg : ∀ args w, (callFunc gf args).run Tryz.prog w = .ok (.enter gf args) w) (zs : List S35) (Sp : List S35 → Prop) (M : Nat) (hM : M ≤ 1000000) (w : World)
    (hseq : ∀ w0, Below w.heap.size w w0 → SeqStopsK F (n - 1) Tryz.prog gf lb (fun x : S35 => #[ob6 x]) (Below w.heap.size) (fun ys => ys = zs) Sp M w0) :
    CallsIn F n Tryz.prog 104 #[.slice none 0 0, .func (.func gf) #[] lb] w fun e W' => ∃ v, e = .returned v ∧ W'.ownsRow w.heap.size 35 6 v zs.length (zs.flatMap c6) ∧ Below w.heap.size w W' := by
  have h1 : 1 ≤ n := by omega
  refine callsIn_of_wp_marks Tryz.func104 rfl h104 ?_ hro
  simp only [Tryz.ntmps104, List.size_toArray, List.length_cons, List.length_nil, Nat.reduceAdd, Nat.reduceSub, Array.replicate_succ, Array.replicate_zero, List.push_toArray, List.append_toArray, List.nil_append, List.cons_append]
  gi_wp2
  have b0 := Boxed.new w 22 (.slice none 0 0)
  have hB0 : Below w.heap.size w (w.alloc (.cells #[.slice none 0 0] 22)) := (Below.refl _ w).alloc (Nat.le_refl _) _
  have hsz : (w.alloc (.cells #[.slice none 0 0] 22)).heap.size = w.heap.size + 1 := by simp
  obtain ⟨W0, hW0⟩ : ∃ W0, w.alloc (.cells #[.slice none 0 0] 22) = W0 := ⟨_, rfl⟩
  rw [hW0] at b0 hB0 hsz ⊢
  clear hW0
  refine wpIn_rangeFunc_ownH hro h1 (gf := gf) (lb := lb) rfl hgf eg (hseq W0 hB0) belowK_t (belowK_b (by omega)) (Below.refl _ _) (fun _ => rfl)
    (fun pre W => (∃ v, Boxed W w.heap.size 22 v ∧ W.ownsRow w.heap.size 35 6 v pre.length (pre.flatMap c6) ∧ pre.length ≤ M) ∧ Below w.heap.size w W)
    (fun _ _ _ => False)
    (OwnFrom.and (Own.from (holdsRow_own w.heap.size w.heap.size 22 35 6 (fun pre : List S35 => pre.length) (fun pre => pre.flatMap c6) (fun pre _ => pre.length ≤ M)) _) (ownFrom_below (Nat.le_refl _) (by omega)))
    (fun _ _ _ _ _ hs _ _ => hs)
    ⟨⟨_, b0, World.ownsRow_nil _ _ _ _, Nat.zero_le _⟩, hB0⟩
    (fun x a' W => ∃ Bx, w.heap.size < Bx ∧ Box6 W Bx x ∧ a' = { tmps := #[.slice none 0 0, .func (.func gf) #[] lb, .pointer (some ⟨w.heap.size, 0, none⟩), undef, .slice none 0 0, .pointer (some ⟨Bx, 0, none⟩), .func (.func gf) #[] lb, ob6 x, undef, undef, undef, undef, undef], defers := [] })
    (fun x a' _ X Y row hs hg hr => by obtain ⟨Bx, h1, h2, h3⟩ := hs; exact ⟨Bx, h1, h2.kept hg (fun r e => (hr r e).2), h3⟩)
    ?assign ?body ?done ?stop
  case assign =>
    rintro y pre x W K hi hK
    obtain ⟨⟨v, bv, hv, hm⟩, hB⟩ := hi
    unfold ob6
    gi_wp2
    refine hK _ _ ((KeepsOthers.alloc _ _).from _) ((Below.refl _ W).alloc hB.size _) ⟨⟨v, bv.alloc _, hv.alloc _, hm⟩, hB.alloc hB.size _⟩ ⟨W.heap.size, bv.lt, ?_, rfl⟩
    exact heap_alloc_new _ _
  case body =>
    rintro y pre x a' W hy ⟨r, hr⟩ ⟨⟨v, bv, hv, hm⟩, hB⟩ ⟨Bx, hBx, bX, rfl⟩ hlt
    have cv := bv.cell
    have fv := bv.frozen
    obtain ⟨z0, z1, z2, z3, z4, z5⟩ := bX.cells
    obtain ⟨i0, hi, hz0, hz1, hz2⟩ := info_parts info35
    unfold ob6
    gi_wp2_with (gi_at_builtin; refine wpListIn_append_own _ rfl _ _ 22 rfl w.heap.size 35 i0 _ 6 40 Tryz.underlying22 hi hz0 hz1 hz2 rfl (by decide) _ _ _ rfl (hv.alloc _) ⟨W.heap.size, 0, none⟩ 1 1 (c6 x) rfl rfl (c6_new W x) (c6_one x) (by simp only [maxLen]; omega) (by omega) (by have := hB.size; simp; omega) ?_; intro v' w1 hown' hgrow _; obtain ⟨g', cap', rfl⟩ := ownsRow_succ hown'; obtain ⟨hv1, hv2, hr2, hk2, hb2⟩ := bv.appended (by decide) hv hB.size (Nat.le_refl _) hown' hgrow; have hc1 := hv1.cell; have hf1 := hv1.frozen)
    refine ⟨hk2.from _, hb2, ⟨_, hv2, ?_, ?_⟩, hB.trans (hb2.mono (Nat.le_refl _))⟩
    · rw [flat_snoc, List.length_append]; exact hr2
    · rw [List.length_append, List.length_singleton]; omega
  case done =>
    rintro D ys W hD rfl ⟨⟨v, bv, hv, hm⟩, hB⟩ hK
    have cv := bv.cell
    gi_wp2
    refine ⟨by simp, .inl ⟨_, _, rfl, run_takeDeferred hK, ?_⟩⟩
    refine ⟨_, results_tmp rfl _ _ _, v, rfl, ?_, hB.trans (belowK_b (w := w) (Nat.le_refl _) W D _ _ (by omega) hK rfl rfl)⟩
    refine own_move hv (fun k hk => ?_)
    obtain ⟨cs, hcs⟩ := own_typed hv k hk
    refine (grownBy_putObj' W D (.deferred none)).block k (Array.getElem?_eq_some_iff.1 hcs).1 (fun e => ?_)
    cases e
    rw [hcs] at hK
    cases hK
  case stop =>
    rintro D c pre W _ _ h _
    exact h.elim
set_option maxRecDepth 100000 in
set_option maxHeartbeats 2000000 in
theorem collect_in (F : Fence) (n : Nat) (h60 : F.fn 60) (h104 : F.fn 104) (hro : F.round = none) (hn : 4 ≤ n) (gf : Nat) (lb : Array Value) (hgf : F.fn gf) (eg : ∀ args w, (callFunc gf args).run Tryz.prog w = .ok (.enter gf args) w) (zs : List S35) (Sp : List S35 → Prop) (M : Nat) (hM : M ≤ 1000000) (w : World)
    (hseq : ∀ w0, Below w.heap.size w w0 → SeqStopsK F (n - 1 - 1) Tryz.prog gf lb (fun x : S35 => #[ob6 x]) (Below w.heap.size) (fun ys => ys = zs) Sp M w0) :
    CallsIn F n Tryz.prog 60 #[.func (.func gf) #[] lb] w fun e W' => ∃ v, e = .returned v ∧ W'.ownsRow w.heap.size 35 6 v zs.length (zs.flatMap c6) ∧ Below w.heap.size w W' := by
  have h1 : 1 ≤ n := by omega
  refine callsIn_of_wp Tryz.func60 rfl h60 ?_ hro
  simp only [Tryz.ntmps60, List.size_toArray, List.length_cons, List.length_nil, Nat.reduceAdd, Nat.reduceSub, Array.replicate_succ, Array.replicate_zero, List.push_toArray, List.append_toArray, List.nil_append, List.cons_append]
  gi_wp2_with (gi_at_call 104; refine (appendSeq_in F (n - 1) h104 hro (by omega) gf lb hgf eg zs Sp M hM w hseq).mono ?_; rintro e w' ⟨v, rfl, hv, hb⟩)
  go_ret
  exact ⟨_, rfl, hv, hb⟩
end Go.Proofs.YtohighedgdlflaaGreatDoor

/- slices.Collect of what trace.Of answers: the observations of the cell, in order. -/
namespace Go.Proofs.YtohighedgdlflaaGreatDoor
open Go.RowKit Go.Shelf Go.Proofs.YtohighedgdlflaaGreatDoorW.PrintWords Go.Proofs.YtohighedgdlflaaGreatDoor.PR
set_option linter.unusedVariables false
set_option linter.unusedSimpArgs false
theorem six_of {W : World} {A : Option Addr} {l : List S35} {g c : Nat} (h : Kd.C k35 W (some ⟨g, 0, none⟩) l.length l) : ∀ j x, l[j]? = some x → Six W g j x := by
  intro j x hx
  have hj : 0 < l.length := by
    rcases Nat.lt_or_ge j l.length with h' | h'
    · omega
    · rw [List.getElem?_eq_none h'] at hx; simp at hx
  obtain ⟨ad, had, cs⟩ := h.2.2 hj
  obtain rfl := Option.some.inj had
  obtain ⟨c, _, hK, hcell⟩ := cs j x hx
  obtain rfl := k35_open hK
  have e : ∀ i, ((⟨g, 0, none⟩ : Addr).add (j * 6 + i)) = ⟨g, j * 6 + i, none⟩ := fun i => by unfold Addr.add; split <;> simp_all
  have hc : ∀ i u, ([Value.int .u64 x.f0, .int .i64 x.f1, .int .i64 x.f2, .int .u32 x.f3, .int .u32 x.f4, .int .u32 x.f5] : List Value)[i]? = some u → W.cell? ⟨g, j * 6 + i, none⟩ = some u := fun i u hu => by
    have h1 := hcell i u hu
    rw [← e i]; exact h1
  exact ⟨hc 0 _ rfl, hc 1 _ rfl, hc 2 _ rfl, hc 3 _ rfl, hc 4 _ rfl, hc 5 _ rfl⟩
/-- slices.Collect at what trace.Of has answered. -/
theorem collect_of (cell : Int) (l : List S35) (hl : l.length ≤ 1000000) (Bl Bc g c : Nat) (A : Option Addr) (w : World) (hA : 0 < l.length → A = some ⟨g, 0, none⟩) (hg : g < w.heap.size) (hBl : Bl < w.heap.size) (hBc : Bc < w.heap.size)
    (hBlc : w.cell? ⟨Bl, 0, none⟩ = some (.slice A l.length c)) (hBcc : w.cell? ⟨Bc, 0, none⟩ = some (.int .i64 cell)) (hc : ∀ j x, l[j]? = some x → Six w g j x) :
    Calls Tryz.prog 60 #[.func (.func 62) #[] #[.pointer (some ⟨Bl, 0, none⟩), .pointer (some ⟨Bc, 0, none⟩)]] w fun e W' => ∃ v, e = .returned v ∧ W'.ownsRow w.heap.size 35 6 v (ofL cell l).length ((ofL cell l).flatMap c6) ∧ Below w.heap.size w W' := by
  refine (callsIn_wide (n := 4)).1 (collect_in _ 4 trivial trivial rfl (by omega) 62 _ trivial (enters_of Tryz.func62 (by kernel_rfl) rfl) (ofL cell l) (fun pre => pre <+: ofL cell l) l.length hl w ?_)
  intro w0 hw0
  have hcell : ∀ p u, p.block < w.heap.size → w.cell? p = some u → w0.cell? p = some u := fun p u hp h => (hw0.cell hp).trans h
  exact of1_stops _ (4 - 1 - 1) trivial rfl (by omega) Bl Bc w.heap.size g c A cell l hl hA hg hBc hBl w0 hw0.size (hcell _ _ hBl hBlc) (hcell _ _ hBc hBcc)
    (fun j x hx => by
      obtain ⟨s0, s1, s2, s3, s4, s5⟩ := hc j x hx
      exact ⟨hcell _ _ hg s0, hcell _ _ hg s1, hcell _ _ hg s2, hcell _ _ hg s3, hcell _ _ hg s4, hcell _ _ hg s5⟩)
end Go.Proofs.YtohighedgdlflaaGreatDoor
