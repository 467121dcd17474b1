/- The law TraceSums of package trace answers true, for every cell, every two rows of observations and every place to stop. -/
import Derived.RangeFuncNested
import Derived.RangeFuncBound
import Derived.RangeFuncCalls
import Derived.RangeFuncLeaves
import Derived.Shelf.Abstract
import Derived.Shelf.RegionOpen
import Derived.WalkKit
import Derived.OwnWalkIn
import Derived.TacticsInMore
import Derived.LoopNIn
import Derived.LoopIn
import Derived.Test.YtohighedgdlflaaGreatDoorTMS12
import Derived.Test.YtohighedgdlflaaGreatDoorTMS8
import Derived.RangeFuncBox
import Derived.Maps.AppendAt
/- The iterator that trace.Of answers: it hands on the observations of the cell, in order, as long as it is asked. -/
namespace Go.Proofs.YtohighedgdlflaaGreatDoor
open Go.RowKit Go.Shelf Go.Proofs.YtohighedgdlflaaGreatDoorW.PrintWords Go.Proofs.YtohighedgdlflaaGreatDoor.PR
set_option linter.unusedVariables false
set_option linter.unusedSimpArgs false
attribute [local go_sem] Oper.semAt_some
def ob6 (x : S35) : Value := .agg #[.int .u64 x.f0, .int .i64 x.f1, .int .i64 x.f2, .int .u32 x.f3, .int .u32 x.f4, .int .u32 x.f5]
def ofL (cell : Int) (l : List S35) : List S35 := l.filter (fun o => o.f1 == cell)
theorem ofL_succ (cell : Int) (l : List S35) (k : Nat) (x : S35) (h : l[k]? = some x) : ofL cell (l.take (k + 1)) = if x.f1 = cell then ofL cell (l.take k) ++ [x] else ofL cell (l.take k) := by
  have hk : k < l.length := by
    rcases Nat.lt_or_ge k l.length with h' | h'
    · exact h'
    · rw [List.getElem?_eq_none h'] at h; simp at h
  have hx : l[k] = x := by rw [List.getElem?_eq_getElem hk] at h; exact Option.some.inj h
  unfold ofL
  rw [List.take_succ_eq_append_getElem hk, List.filter_append, hx]
  by_cases hc : x.f1 = cell
  · simp [hc]
  · simp [hc]
def Six (W : World) (g j : Nat) (x : S35) : Prop := W.cell? ⟨g, j * 6, none⟩ = some (.int .u64 x.f0) ∧ W.cell? ⟨g, j * 6 + 1, none⟩ = some (.int .i64 x.f1) ∧ W.cell? ⟨g, j * 6 + 2, none⟩ = some (.int .i64 x.f2) ∧ W.cell? ⟨g, j * 6 + 3, none⟩ = some (.int .u32 x.f3) ∧ W.cell? ⟨g, j * 6 + 4, none⟩ = some (.int .u32 x.f4) ∧ W.cell? ⟨g, j * 6 + 5, none⟩ = some (.int .u32 x.f5)
/-- What lay in a span of the heap lies there still. -/
def Span (lo hi : Nat) (W W' : World) : Prop := W.heap.size ≤ W'.heap.size ∧ ∀ k, lo ≤ k → k < hi → W'.heap[k]? = W.heap[k]?
theorem Span.refl (lo hi : Nat) (W : World) : Span lo hi W W := ⟨Nat.le_refl _, fun _ _ _ => rfl⟩
theorem Span.trans {lo hi : Nat} {A B C : World} (h : Span lo hi A B) (k : Span lo hi B C) : Span lo hi A C := ⟨Nat.le_trans h.1 k.1, fun i h1 h2 => (k.2 i h1 h2).trans (h.2 i h1 h2)⟩
theorem Span.of_below {lo hi : Nat} {W W' : World} (h : Below hi W W') : Span lo hi W W' := ⟨h.size, fun k _ hk => h.block k hk⟩
theorem Span.of_below' {lo hi n : Nat} {W W' : World} (h : Below n W W') (hn : hi ≤ n) : Span lo hi W W' := ⟨h.size, fun k _ hk => h.block k (by omega)⟩
theorem Span.alloc {lo hi : Nat} {A W : World} (h : Span lo hi A W) (hh : hi ≤ W.heap.size) (o : Obj) : Span lo hi A (W.alloc o) := h.trans (Span.of_below ((Below.refl hi W).alloc hh o))
theorem Span.put {lo hi : Nat} {W : World} {l : Nat} (hl : hi ≤ l ∨ l < lo) (o' : Obj) : Span lo hi W (W.putObj l o') := by
  refine ⟨by simp [World.putObj], fun k h1 h2 => ?_⟩
  exact World.putObj_heap_other (by omega)
theorem Span.cell {lo hi : Nat} {W W' : World} (h : Span lo hi W W') {p : Addr} {u : Value} (h1 : lo ≤ p.block) (h2 : p.block < hi) (hc : W.cell? p = some u) : W'.cell? p = some u := by
  rw [← hc]
  unfold World.cell?
  rw [h.2 _ h1 h2]
set_option maxRecDepth 100000 in
set_option maxHeartbeats 2000000 in
theorem of1_in (lo : Nat) (F : Fence) (n : Nat) (h62 : F.fn 62) (hro : F.round = none) (hn : 1 ≤ n) (y Bl Bc n₀ g c : Nat) (A : Option Addr) (cell : Int) (l : List S35) (hl : l.length ≤ 1000000) (hA : 0 < l.length → A = some ⟨g, 0, none⟩) (hg : g < n₀) (hBc : Bc < n₀) (hgl : lo ≤ g) (hBcl : lo ≤ Bc) (J Jx : List S35 → World → Prop)
    (hJ : ∀ pre W W', J pre W → W.grownBy W' none → J pre W')
    (hY : ∀ pre x W, x ∈ l → J pre W → pre.length < l.length → YieldAt F (n - 1) Tryz.prog y #[ob6 x] W fun e W' =>
      (e = .returned (.bool true) ∧ J (pre ++ [x]) W' ∧ Span lo n₀ W W') ∨ (e = .returned (.bool false) ∧ Jx (pre ++ [x]) W'))
    (W : World) (hn0 : n₀ ≤ W.heap.size) (hBl : W.cell? ⟨Bl, 0, none⟩ = some (.slice A l.length c)) (hBcc : W.cell? ⟨Bc, 0, none⟩ = some (.int .i64 cell)) (hc : ∀ j x, l[j]? = some x → Six W g j x) (h0 : J [] W) :
    CallsIn F n Tryz.prog 62 #[.func (.yield y) #[] #[], .pointer (some ⟨Bl, 0, none⟩), .pointer (some ⟨Bc, 0, none⟩)] W fun e W' => (∃ v, e = .returned v) ∧
      ((∃ ys, ys = ofL cell l ∧ J ys W') ∨ (∃ pre, pre <+: ofL cell l ∧ Jx pre W')) := by
  refine callsIn_of_wp Tryz.func62 rfl h62 ?_ hro
  simp only [Tryz.ntmps62, List.size_toArray, List.length_cons, List.length_nil, Nat.reduceAdd, Nat.reduceSub, Array.replicate_succ, Array.replicate_zero, List.push_toArray, List.append_toArray, List.nil_append, List.cons_append]
  gi_wp2
  gi_loopw [8] (fun i wr => ∃ k : Nat, k ≤ l.length ∧ i = .int .i64 k ∧ J (ofL cell (l.take k)) wr ∧ Span lo n₀ W wr) (fun i _ => l.length - (RowKit.intOf i).toNat)
  case atStart => exact ⟨0, Nat.zero_le _, rfl, h0, Span.refl _ _ _⟩
  case round =>
    obtain ⟨k, hk, rfl, hJs, hnx⟩ := hrel
    by_cases hlt : k < l.length
    · obtain ⟨x, hx⟩ : ∃ x, x = l[k] := ⟨_, rfl⟩
      have hget : l[k]? = some x := by rw [List.getElem?_eq_getElem hlt, hx]
      obtain ⟨s0, s1, s2, s3, s4, s5⟩ := hc k x hget
      have hb : ∀ p u, lo ≤ p.block → p.block < n₀ → W.cell? p = some u → wr.cell? p = some u := fun p u hp0 hp h => hnx.cell hp0 hp h
      have c0 := hb _ _ hgl hg s0
      have c1 := hb _ _ hgl hg s1
      have c2 := hb _ _ hgl hg s2
      have c3 := hb _ _ hgl hg s3
      have c4 := hb _ _ hgl hg s4
      have c5 := hb _ _ hgl hg s5
      have cB := hb _ _ hBcl hBc hBcc
      obtain rfl := hA (by omega)
      have hstep := ofL_succ cell l k x hget
      have hmem := Lib.hid (List.mem_of_getElem? hget)
      have hpl : (ofL cell (l.take k)).length < l.length := by
        have := List.length_filter_le (fun o : S35 => o.f1 == cell) (l.take k)
        unfold ofL
        rw [List.length_take] at this
        omega
      have hbB : Bc < wr.heap.size := World.block_lt_of_cell? wr _ cB
      have cB' : (wr.alloc (.cells #[.int .u64 x.f0, .int .i64 x.f1, .int .i64 x.f2, .int .u32 x.f3, .int .u32 x.f4, .int .u32 x.f5] 35)).cell? ⟨Bc, 0, none⟩ = some (.int .i64 cell) := by
        rw [World.cell?_alloc_old _ _ _ (by show Bc ≠ _; omega)]; exact cB
      have hJ1 : J (ofL cell (l.take k)) (wr.alloc (.cells #[.int .u64 x.f0, .int .i64 x.f1, .int .i64 x.f2, .int .u32 x.f3, .int .u32 x.f4, .int .u32 x.f5] 35)) := hJ _ _ _ hJs (World.grownBy_alloc _ _ _)
      have hn1 : Span lo n₀ W (wr.alloc (.cells #[.int .u64 x.f0, .int .i64 x.f1, .int .i64 x.f2, .int .u32 x.f3, .int .u32 x.f4, .int .u32 x.f5] 35)) := hnx.alloc (Nat.le_trans hn0 hnx.1) _
      clear s0 s1 s2 s3 s4 s5 hb hget hx hA
      by_cases he : x.f1 = cell
      · rw [if_pos he] at hstep
        obtain ⟨fn, tmps, assign, body, hy, hR⟩ := hY _ x _ hmem.out hJ1 hpl
        unfold ob6 at hy
        have heq : (x.f1 == cell) = true := beq_iff_eq.2 he
        have Hstep := Lib.hid hstep
        clear hstep he
        gi_wp2
        refine hR.mono ?_
        rintro e W3 (⟨rfl, hJ3, hk3⟩ | ⟨rfl, hJx3⟩)
        · gi_wp2
          go_roundw
          case rel => exact ⟨k + 1, by omega, by simp, by rw [Hstep.out]; exact hJ3, hn1.trans hk3⟩
          case measure => simp [RowKit.intOf]; omega
        · gi_wp2
          refine bodyPost_ret (results_none rfl _ _ _) rfl ?_
          refine ⟨⟨_, rfl⟩, .inr ⟨_, ?_, hJx3⟩⟩
          rw [← Hstep.out]
          unfold ofL
          exact (List.take_prefix _ _).filter _
      · rw [if_neg he] at hstep
        have hne : (x.f1 == cell) = false := beq_eq_false_iff_ne.2 he
        have Hstep := Lib.hid hstep
        clear hstep
        gi_wp2
        refine ⟨fun _ h => (by cases h), ?_⟩
        gi_wp2
        go_roundw
        case rel => exact ⟨k + 1, by omega, by simp, by rw [Hstep.out]; exact hJ1, hn1⟩
        case measure => simp [RowKit.intOf]; omega
    · obtain rfl : k = l.length := by omega
      gi_wp2
      go_end0
      rw [List.take_length] at hJs
      exact ⟨⟨_, rfl⟩, .inl ⟨_, rfl, hJs⟩⟩
/-- What trace.Of answers, as a range over it wants it. -/
theorem of1_stops (F : Fence) (n : Nat) (h62 : F.fn 62) (hro : F.round = none) (hn : 1 ≤ n) (Bl Bc n₀ g c : Nat) (A : Option Addr) (cell : Int) (l : List S35) (hl : l.length ≤ 1000000) (hA : 0 < l.length → A = some ⟨g, 0, none⟩) (hg : g < n₀) (hBc : Bc < n₀) (hBl : Bl < n₀)
    (w : World) (hn0 : n₀ ≤ w.heap.size) (hBlc : w.cell? ⟨Bl, 0, none⟩ = some (.slice A l.length c)) (hBcc : w.cell? ⟨Bc, 0, none⟩ = some (.int .i64 cell)) (hc : ∀ j x, l[j]? = some x → Six w g j x) :
    SeqStopsK F n Tryz.prog 62 #[.pointer (some ⟨Bl, 0, none⟩), .pointer (some ⟨Bc, 0, none⟩)] (fun x : S35 => #[ob6 x]) (Below n₀) (fun ys => ys = ofL cell l) (fun pre => pre <+: ofL cell l) l.length w := fun y J Jx W hW hJ _ hY h0 => by
  have hcell : ∀ p u, p.block < n₀ → w.cell? p = some u → W.cell? p = some u := fun p u hp h => (hW.cell (Nat.lt_of_lt_of_le hp hn0)).trans h
  exact of1_in 0 F n h62 hro hn y Bl Bc n₀ g c A cell l hl hA hg hBc (Nat.zero_le _) (Nat.zero_le _) J Jx (fun pre W1 W2 hs hgr => hJ pre W1 W2 none hs hgr (fun r h => by cases h)) (fun pre x W _ hj hlen => (hY pre x W hj hlen).mono (fun e W2 h => by rcases h with ⟨he, hj, hk⟩ | h; exact .inl ⟨he, hj, Span.of_below hk⟩; exact .inr h)) W (Nat.le_trans hn0 hW.size) (hcell _ _ hBl hBlc) (hcell _ _ hBc hBcc)
    (fun j x hx => by
      obtain ⟨s0, s1, s2, s3, s4, s5⟩ := hc j x hx
      exact ⟨hcell _ _ hg s0, hcell _ _ hg s1, hcell _ _ hg s2, hcell _ _ hg s3, hcell _ _ hg s4, hcell _ _ hg s5⟩) h0
/-- The observations of which a property is known. -/
abbrev FS (p : S35 → Prop) := { x : S35 // p x }
/-- What trace.Of answers, each element with its property. -/
theorem of1_stopsF (lo : Nat) (p : S35 → Prop) (F : Fence) (n : Nat) (h62 : F.fn 62) (hro : F.round = none) (hn : 1 ≤ n) (Bl Bc n₀ g c : Nat) (A : Option Addr) (cell : Int) (l : List S35) (hp : ∀ x ∈ l, p x) (hl : l.length ≤ 1000000) (hA : 0 < l.length → A = some ⟨g, 0, none⟩) (hg : g < n₀) (hBc : Bc < n₀) (hBl : Bl < n₀) (hgl : lo ≤ g) (hBcl : lo ≤ Bc)
    (w : World) (hn0 : n₀ ≤ w.heap.size) (hBlc : w.cell? ⟨Bl, 0, none⟩ = some (.slice A l.length c)) (hBcc : w.cell? ⟨Bc, 0, none⟩ = some (.int .i64 cell)) (hc : ∀ j x, l[j]? = some x → Six w g j x) :
    SeqStopsK F n Tryz.prog 62 #[.pointer (some ⟨Bl, 0, none⟩), .pointer (some ⟨Bc, 0, none⟩)] (fun x : FS p => #[ob6 x.1]) (Span lo n₀) (fun ys => ys.map (·.1) = ofL cell l) (fun pre => pre.map (·.1) <+: ofL cell l) l.length w := fun y J Jx W hW hJ _ hY h0 => by
  have hcell : ∀ p u, p.block < n₀ → w.cell? p = some u → W.cell? p = some u := fun p u hp h => (hW.cell (Nat.lt_of_lt_of_le hp hn0)).trans h
  refine (of1_in lo F n h62 hro hn y Bl Bc n₀ g c A cell l hl hA hg hBc hgl hBcl (fun pre W => ∃ q : List (FS p), q.map (·.1) = pre ∧ J q W) (fun pre W => ∃ q : List (FS p), q.map (·.1) = pre ∧ Jx q W)
    (fun pre W1 W2 ⟨q, hq, hs⟩ hgr => ⟨q, hq, hJ q W1 W2 none hs hgr (fun r h => by cases h)⟩)
    (fun pre x W1 hx ⟨q, hq, hs⟩ hlen => (hY q ⟨x, hp x hx⟩ W1 hs (by rw [← hq, List.length_map] at hlen; exact hlen)).mono (fun e W2 h => by
      rcases h with ⟨he, hj, hk⟩ | ⟨he, hj⟩
      · exact .inl ⟨he, ⟨_, by rw [List.map_append, hq]; rfl, hj⟩, hk⟩
      · exact .inr ⟨he, ⟨_, by rw [List.map_append, hq]; rfl, hj⟩⟩))
    W (Nat.le_trans hn0 hW.size) (hcell _ _ hBl hBlc) (hcell _ _ hBc hBcc)
    (fun j x hx => by
      obtain ⟨s0, s1, s2, s3, s4, s5⟩ := hc j x hx
      exact ⟨hcell _ _ hg s0, hcell _ _ hg s1, hcell _ _ hg s2, hcell _ _ hg s3, hcell _ _ hg s4, hcell _ _ hg s5⟩) ⟨[], rfl, h0⟩).mono ?_
  rintro e W' ⟨hv, ⟨ys, hys, q, hq, hj⟩ | ⟨pre, hpre, q, hq, hj⟩⟩
  · exact ⟨hv, .inl ⟨q, hq.trans hys, hj⟩⟩
  · exact ⟨hv, .inr ⟨q, (show q.map (·.1) <+: ofL cell l by rw [hq]; exact hpre), hj⟩⟩
end Go.Proofs.YtohighedgdlflaaGreatDoor

/- The bytes of which a cell's digest is the sum. -/
namespace Go.Proofs.YtohighedgdlflaaGreatDoor
open Go.RowKit Go.Shelf Go.Proofs.YtohighedgdlflaaGreatDoorW.PrintWords Go.Proofs.YtohighedgdlflaaGreatDoor.PR
set_option linter.unusedVariables false
set_option linter.unusedSimpArgs false
/-- The bytes of which a cell's digest is the sum. -/
def digB (l : List S35) : List Int := (l.filter mayB).flatMap rowB
def digI (cell : Int) (l : List S35) : Int := Crc.crc (digB (ofL cell l))
theorem digB_succ (l : List S35) (k : Nat) (x : S35) (h : l[k]? = some x) : digB (l.take (k + 1)) = if mayB x = true then digB (l.take k) ++ rowB x else digB (l.take k) := by
  unfold digB
  rw [List.take_add_one, h, List.filter_append]
  by_cases hc : mayB x = true
  · simp [hc]
  · simp [hc]
theorem digB_bytes (l : List S35) : Crc.Bytes (digB l) := by
  intro y hy
  simp only [digB, List.mem_flatMap, rowB, List.mem_append] at hy
  obtain ⟨o, _, h⟩ := hy
  rcases h with ((((h | h) | h) | h) | h) | h <;> exact leb_bytes _ _ y h
theorem digB_len (l : List S35) : (digB l).length ≤ 22 * l.length := by
  unfold digB
  rw [flat_len]
  have := List.length_filter_le mayB l
  omega
end Go.Proofs.YtohighedgdlflaaGreatDoor

/- slices.AppendSeq and slices.Collect over an iterator of observations. -/
namespace Go.Proofs.YtohighedgdlflaaGreatDoor
open Go.RowKit Go.Shelf Go.Proofs.YtohighedgdlflaaGreatDoorW.PrintWords Go.Proofs.YtohighedgdlflaaGreatDoor.PR
set_option linter.unusedVariables false
set_option linter.unusedSimpArgs false
attribute [local go_sem] Oper.semAt_some
def c6 (x : S35) : List Value := [.int .u64 x.f0, .int .i64 x.f1, .int .i64 x.f2, .int .u32 x.f3, .int .u32 x.f4, .int .u32 x.f5]
theorem flat_snoc (pre : List S35) (x : S35) : (pre ++ [x]).flatMap c6 = pre.flatMap c6 ++ c6 x := by simp
def Box6 (W : World) (B : Nat) (x : S35) : Prop := W.heap[B]? = some (.cells #[.int .u64 x.f0, .int .i64 x.f1, .int .i64 x.f2, .int .u32 x.f3, .int .u32 x.f4, .int .u32 x.f5] 35 (0, 0))
theorem Box6.cells {W : World} {B : Nat} {x : S35} (h : Box6 W B x) : W.cell? ⟨B, 0, none⟩ = some (.int .u64 x.f0) ∧ W.cell? ⟨B, 1, none⟩ = some (.int .i64 x.f1) ∧ W.cell? ⟨B, 2, none⟩ = some (.int .i64 x.f2) ∧ W.cell? ⟨B, 3, none⟩ = some (.int .u32 x.f3) ∧ W.cell? ⟨B, 4, none⟩ = some (.int .u32 x.f4) ∧ W.cell? ⟨B, 5, none⟩ = some (.int .u32 x.f5) := by
  unfold Box6 at h
  refine ⟨?_, ?_, ?_, ?_, ?_, ?_⟩ <;> simp [World.cell?, h]
theorem Box6.kept {W W' : World} {B : Nat} {x : S35} {row : Option Nat} (h : Box6 W B x) (hg : W.grownBy W' row) (hr : ∀ r, row = some r → ∃ o : Obj, W.heap[r]? = some o ∧ o.isCells = false) : Box6 W' B x := by
  unfold Box6 at h ⊢
  rw [hg.block B (Array.getElem?_eq_some_iff.1 h).1 (fun e => ?_)]
  · exact h
  · obtain ⟨o, ho, hc⟩ := hr B e.symm
    rw [h] at ho; cases ho; cases hc
theorem c6_new (W : World) (x : S35) : ∀ j u, (c6 x)[j]? = some u → (W.alloc (.cells #[.int .u64 x.f0, .int .i64 x.f1, .int .i64 x.f2, .int .u32 x.f3, .int .u32 x.f4, .int .u32 x.f5] 35)).cell? ((⟨W.heap.size, 0, none⟩ : Addr).add j) = some u := by
  intro j u hu
  rw [show ((⟨W.heap.size, 0, none⟩ : Addr).add j) = ⟨W.heap.size, j, none⟩ from by unfold Addr.add; split <;> simp_all]
  simp only [World.cell?, heap_alloc_new]
  simpa [c6] using hu
theorem c6_one (x : S35) : ∀ u ∈ c6 x, u.oneCell' = true := by
  intro u hu
  simp only [c6, List.mem_cons, List.not_mem_nil, or_false] at hu
  rcases hu with rfl | rfl | rfl | rfl | rfl | rfl <;> rfl
set_option maxRecDepth 100000 in
set_option maxHeartbeats 2000000 in
theorem appendSeq_in (F : Fence) (n : Nat) (h104 : F.fn 104) (hro : F.round = none) (hn : 3 ≤ n) (gf : Nat) (lb : Array Value) (hgf : F.fn gf) (eg : ∀ args w, (callFunc gf args).run Tryz.prog w = .ok (.enter gf args) w) (zs : List S35) (Sp : List S35 → Prop) (M : Nat) (hM : M ≤ 1000000) (w : World)
    (hseq : ∀ w0, Below w.heap.size w w0 → SeqStopsK F (n - 1) Tryz.prog gf lb (fun x : S35 => #[ob6 x]) (Below w.heap.size) (fun ys => ys = zs) Sp M w0) :
    CallsIn F n Tryz.prog 104 #[.slice none 0 0, .func (.func gf) #[] lb] w fun e W' => ∃ v, e = .returned v ∧ W'.ownsRow w.heap.size 35 6 v zs.length (zs.flatMap c6) ∧ Below w.heap.size w W' := by
  have h1 : 1 ≤ n := by omega
  refine callsIn_of_wp_marks Tryz.func104 rfl h104 ?_ hro
  simp only [Tryz.ntmps104, List.size_toArray, List.length_cons, List.length_nil, Nat.reduceAdd, Nat.reduceSub, Array.replicate_succ, Array.replicate_zero, List.push_toArray, List.append_toArray, List.nil_append, List.cons_append]
  gi_wp2
  have b0 := Boxed.new w 22 (.slice none 0 0)
  have hB0 : Below w.heap.size w (w.alloc (.cells #[.slice none 0 0] 22)) := (Below.refl _ w).alloc (Nat.le_refl _) _
  have hsz : (w.alloc (.cells #[.slice none 0 0] 22)).heap.size = w.heap.size + 1 := by simp
  obtain ⟨W0, hW0⟩ : ∃ W0, w.alloc (.cells #[.slice none 0 0] 22) = W0 := ⟨_, rfl⟩
  rw [hW0] at b0 hB0 hsz ⊢
  clear hW0
  refine wpIn_rangeFunc_ownH hro h1 (gf := gf) (lb := lb) rfl hgf eg (hseq W0 hB0) belowK_t (belowK_b (by omega)) (Below.refl _ _) (fun _ => rfl)
    (fun pre W => (∃ v, Boxed W w.heap.size 22 v ∧ W.ownsRow w.heap.size 35 6 v pre.length (pre.flatMap c6) ∧ pre.length ≤ M) ∧ Below w.heap.size w W)
    (fun _ _ _ => False)
    (OwnFrom.and (Own.from (holdsRow_own w.heap.size w.heap.size 22 35 6 (fun pre : List S35 => pre.length) (fun pre => pre.flatMap c6) (fun pre _ => pre.length ≤ M)) _) (ownFrom_below (Nat.le_refl _) (by omega)))
    (fun _ _ _ _ _ hs _ _ => hs)
    ⟨⟨_, b0, World.ownsRow_nil _ _ _ _, Nat.zero_le _⟩, hB0⟩
    (fun x a' W => ∃ Bx, w.heap.size < Bx ∧ Box6 W Bx x ∧ a' = { tmps := #[.slice none 0 0, .func (.func gf) #[] lb, .pointer (some ⟨w.heap.size, 0, none⟩), undef, .slice none 0 0, .pointer (some ⟨Bx, 0, none⟩), .func (.func gf) #[] lb, ob6 x, undef, undef, undef, undef, undef], defers := [] })
    (fun x a' _ X Y row hs hg hr => by obtain ⟨Bx, h1, h2, h3⟩ := hs; exact ⟨Bx, h1, h2.kept hg (fun r e => (hr r e).2), h3⟩)
    ?assign ?body ?done ?stop
  case assign =>
    rintro y pre x W K hi hK
    obtain ⟨⟨v, bv, hv, hm⟩, hB⟩ := hi
    unfold ob6
    gi_wp2
    refine hK _ _ ((KeepsOthers.alloc _ _).from _) ((Below.refl _ W).alloc hB.size _) ⟨⟨v, bv.alloc _, hv.alloc _, hm⟩, hB.alloc hB.size _⟩ ⟨W.heap.size, bv.lt, ?_, rfl⟩
    exact heap_alloc_new _ _
  case body =>
    rintro y pre x a' W hy ⟨r, hr⟩ ⟨⟨v, bv, hv, hm⟩, hB⟩ ⟨Bx, hBx, bX, rfl⟩ hlt
    have cv := bv.cell
    have fv := bv.frozen
    obtain ⟨z0, z1, z2, z3, z4, z5⟩ := bX.cells
    obtain ⟨i0, hi, hz0, hz1, hz2⟩ := info_parts info35
    unfold ob6
    gi_wp2_with (gi_at_builtin; refine wpListIn_append_own _ rfl _ _ 22 rfl w.heap.size 35 i0 _ 6 40 Tryz.underlying22 hi hz0 hz1 hz2 rfl (by decide) _ _ _ rfl (hv.alloc _) ⟨W.heap.size, 0, none⟩ 1 1 (c6 x) rfl rfl (c6_new W x) (c6_one x) (by simp only [maxLen]; omega) (by omega) (by have := hB.size; simp; omega) ?_; intro v' w1 hown' hgrow _; obtain ⟨g', cap', rfl⟩ := ownsRow_succ hown'; obtain ⟨hv1, hv2, hr2, hk2, hb2⟩ := bv.appended (by decide) hv hB.size (Nat.le_refl _) hown' hgrow; have hc1 := hv1.cell; have hf1 := hv1.frozen)
    refine ⟨hk2.from _, hb2, ⟨_, hv2, ?_, ?_⟩, hB.trans (hb2.mono (Nat.le_refl _))⟩
    · rw [flat_snoc, List.length_append]; exact hr2
    · rw [List.length_append, List.length_singleton]; omega
  case done =>
    rintro D ys W hD rfl ⟨⟨v, bv, hv, hm⟩, hB⟩ hK
    have cv := bv.cell
    gi_wp2
    refine ⟨by simp, .inl ⟨_, _, rfl, run_takeDeferred hK, ?_⟩⟩
    refine ⟨_, results_tmp rfl _ _ _, v, rfl, ?_, hB.trans (belowK_b (w := w) (Nat.le_refl _) W D _ _ (by omega) hK rfl rfl)⟩
    refine own_move hv (fun k hk => ?_)
    obtain ⟨cs, hcs⟩ := own_typed hv k hk
    refine (grownBy_putObj' W D (.deferred none)).block k (Array.getElem?_eq_some_iff.1 hcs).1 (fun e => ?_)
    cases e
    rw [hcs] at hK
    cases hK
  case stop =>
    rintro D c pre W _ _ h _
    exact h.elim
set_option maxRecDepth 100000 in
set_option maxHeartbeats 2000000 in
theorem collect_in (F : Fence) (n : Nat) (h60 : F.fn 60) (h104 : F.fn 104) (hro : F.round = none) (hn : 4 ≤ n) (gf : Nat) (lb : Array Value) (hgf : F.fn gf) (eg : ∀ args w, (callFunc gf args).run Tryz.prog w = .ok (.enter gf args) w) (zs : List S35) (Sp : List S35 → Prop) (M : Nat) (hM : M ≤ 1000000) (w : World)
    (hseq : ∀ w0, Below w.heap.size w w0 → SeqStopsK F (n - 1 - 1) Tryz.prog gf lb (fun x : S35 => #[ob6 x]) (Below w.heap.size) (fun ys => ys = zs) Sp M w0) :
    CallsIn F n Tryz.prog 60 #[.func (.func gf) #[] lb] w fun e W' => ∃ v, e = .returned v ∧ W'.ownsRow w.heap.size 35 6 v zs.length (zs.flatMap c6) ∧ Below w.heap.size w W' := by
  have h1 : 1 ≤ n := by omega
  refine callsIn_of_wp Tryz.func60 rfl h60 ?_ hro
  simp only [Tryz.ntmps60, List.size_toArray, List.length_cons, List.length_nil, Nat.reduceAdd, Nat.reduceSub, Array.replicate_succ, Array.replicate_zero, List.push_toArray, List.append_toArray, List.nil_append, List.cons_append]
  gi_wp2_with (gi_at_call 104; refine (appendSeq_in F (n - 1) h104 hro (by omega) gf lb hgf eg zs Sp M hM w hseq).mono ?_; rintro e w' ⟨v, rfl, hv, hb⟩)
  go_ret
  exact ⟨_, rfl, hv, hb⟩
end Go.Proofs.YtohighedgdlflaaGreatDoor

/- slices.Collect of what trace.Of answers: the observations of the cell, in order. -/
namespace Go.Proofs.YtohighedgdlflaaGreatDoor
open Go.RowKit Go.Shelf Go.Proofs.YtohighedgdlflaaGreatDoorW.PrintWords Go.Proofs.YtohighedgdlflaaGreatDoor.PR
set_option linter.unusedVariables false
set_option linter.unusedSimpArgs false
theorem six_of {W : World} {A : Option Addr} {l : List S35} {g c : Nat} (h : Kd.C k35 W (some ⟨g, 0, none⟩) l.length l) : ∀ j x, l[j]? = some x → Six W g j x := by
  intro j x hx
  have hj : 0 < l.length := by
    rcases Nat.lt_or_ge j l.length with h' | h'
    · omega
    · rw [List.getElem?_eq_none h'] at hx; simp at hx
  obtain ⟨ad, had, cs⟩ := h.2.2 hj
  obtain rfl := Option.some.inj had
  obtain ⟨c, _, hK, hcell⟩ := cs j x hx
  obtain rfl := k35_open hK
  have e : ∀ i, ((⟨g, 0, none⟩ : Addr).add (j * 6 + i)) = ⟨g, j * 6 + i, none⟩ := fun i => by unfold Addr.add; split <;> simp_all
  have hc : ∀ i u, ([Value.int .u64 x.f0, .int .i64 x.f1, .int .i64 x.f2, .int .u32 x.f3, .int .u32 x.f4, .int .u32 x.f5] : List Value)[i]? = some u → W.cell? ⟨g, j * 6 + i, none⟩ = some u := fun i u hu => by
    have h1 := hcell i u hu
    rw [← e i]; exact h1
  exact ⟨hc 0 _ rfl, hc 1 _ rfl, hc 2 _ rfl, hc 3 _ rfl, hc 4 _ rfl, hc 5 _ rfl⟩
/-- slices.Collect at what trace.Of has answered. -/
theorem collect_of (cell : Int) (l : List S35) (hl : l.length ≤ 1000000) (Bl Bc g c : Nat) (A : Option Addr) (w : World) (hA : 0 < l.length → A = some ⟨g, 0, none⟩) (hg : g < w.heap.size) (hBl : Bl < w.heap.size) (hBc : Bc < w.heap.size)
    (hBlc : w.cell? ⟨Bl, 0, none⟩ = some (.slice A l.length c)) (hBcc : w.cell? ⟨Bc, 0, none⟩ = some (.int .i64 cell)) (hc : ∀ j x, l[j]? = some x → Six w g j x) :
    Calls Tryz.prog 60 #[.func (.func 62) #[] #[.pointer (some ⟨Bl, 0, none⟩), .pointer (some ⟨Bc, 0, none⟩)]] w fun e W' => ∃ v, e = .returned v ∧ W'.ownsRow w.heap.size 35 6 v (ofL cell l).length ((ofL cell l).flatMap c6) ∧ Below w.heap.size w W' := by
  refine (callsIn_wide (n := 4)).1 (collect_in _ 4 trivial trivial rfl (by omega) 62 _ trivial (enters_of Tryz.func62 (by kernel_rfl) rfl) (ofL cell l) (fun pre => pre <+: ofL cell l) l.length hl w ?_)
  intro w0 hw0
  have hcell : ∀ p u, p.block < w.heap.size → w.cell? p = some u → w0.cell? p = some u := fun p u hp h => (hw0.cell hp).trans h
  exact of1_stops _ (4 - 1 - 1) trivial rfl (by omega) Bl Bc w.heap.size g c A cell l hl hA hg hBc hBl w0 hw0.size (hcell _ _ hBl hBlc) (hcell _ _ hBc hBcc)
    (fun j x hx => by
      obtain ⟨s0, s1, s2, s3, s4, s5⟩ := hc j x hx
      exact ⟨hcell _ _ hg s0, hcell _ _ hg s1, hcell _ _ hg s2, hcell _ _ hg s3, hcell _ _ hg s4, hcell _ _ hg s5⟩)
end Go.Proofs.YtohighedgdlflaaGreatDoor

/- trace.Digest: the sum of the rows of a cell's observations that may be. -/
namespace Go.Proofs.YtohighedgdlflaaGreatDoor
open Go.RowKit Go.Shelf Go.Proofs.YtohighedgdlflaaGreatDoorW.PrintWords Go.Proofs.YtohighedgdlflaaGreatDoor.PR
set_option linter.unusedVariables false
set_option linter.unusedSimpArgs false
attribute [local go_sem] Oper.semAt_some
/-- What trace.Of has answered: it lies in the blocks from s up to hi. -/
structure SeqIs (W : World) (s hi : Nat) (cell : Int) (l : List S35) : Prop where
  lt : s + 1 < hi
  le : hi ≤ W.heap.size
  cellc : W.cell? ⟨s, 0, none⟩ = some (.int .i64 cell)
  row : ∃ (A : Option Addr) (g c : Nat), W.cell? ⟨s + 1, 0, none⟩ = some (.slice A l.length c) ∧ (0 < l.length → A = some ⟨g, 0, none⟩) ∧ s ≤ g ∧ g < hi ∧ ∀ j x, l[j]? = some x → Six W g j x
def seqV (s : Nat) : Value := .func (.func 62) #[] #[.pointer (some ⟨s + 1, 0, none⟩), .pointer (some ⟨s, 0, none⟩)]
theorem SeqIs.keep {W W' : World} {s hi : Nat} {cell : Int} {l : List S35} (h : SeqIs W s hi cell l) (hk : Span s hi W W') : SeqIs W' s hi cell l := by
  obtain ⟨lt, le, hc, A, g, c, hr, hA, hsg, hg, hsix⟩ := h
  have hs := hk.1
  refine ⟨lt, by omega, hk.cell (Nat.le_refl _) (by show s < _; omega) hc, A, g, c, hk.cell (by show s ≤ s + 1; omega) lt hr, hA, hsg, hg, fun j x hx => ?_⟩
  obtain ⟨s0, s1, s2, s3, s4, s5⟩ := hsix j x hx
  exact ⟨hk.cell hsg hg s0, hk.cell hsg hg s1, hk.cell hsg hg s2, hk.cell hsg hg s3, hk.cell hsg hg s4, hk.cell hsg hg s5⟩
theorem SeqIs.below {W W' : World} {s hi : Nat} {cell : Int} {l : List S35} (h : SeqIs W s hi cell l) (hb : Below W.heap.size W W') : SeqIs W' s hi cell l := h.keep (Span.of_below' hb h.le)
/-- trace.Of (24). -/
theorem of_seq (cell : Int) (l : List S35) (A : Option Addr) (c : Nat) (w : World) (hR : Kd.C k35 w A l.length l) (hc : l.length ≤ c) (hl : l.length ≤ 1000000) :
    Calls Tryz.prog 24 #[.int .i64 cell, .slice A l.length c] w fun e w' => e = .returned (seqV w.heap.size) ∧ SeqIs w' w.heap.size w'.heap.size cell l ∧ Below w.heap.size w w' := by
  refine (of_ok cell l A c w hR hc hl).mono ?_
  rintro e w1 ⟨v, rfl, h0, h1, hr, hb⟩
  obtain ⟨A3, c3, rfl, hc3, hC⟩ := Kd.R_reads hr
  have b0 := World.block_lt_of_cell? w1 _ h0
  have b1 := World.block_lt_of_cell? w1 _ h1
  refine ⟨rfl, ⟨b1, Nat.le_refl _, h0, ?_⟩, hb⟩
  by_cases hp : 0 < l.length
  · obtain ⟨g, c4, he, hg0, hg1, _⟩ := Kd.R_form hr hp
    injection he with he1 _ he3
    subst he1
    exact ⟨_, g, c3, h1, fun _ => rfl, by omega, hg1, six_of (A := none) (c := 0) hC⟩
  · have hx : l = [] := List.eq_nil_of_length_eq_zero (by omega)
    subst hx
    exact ⟨A3, w.heap.size, c3, h1, fun h => absurd h (by simp), Nat.le_refl _, b0, fun j x h => by simp at h⟩
/-- A range over it. -/
theorem SeqIs.stops (p : S35 → Prop) (F : Fence) (n : Nat) (h62 : F.fn 62) (hro : F.round = none) (hn : 1 ≤ n) {s hi : Nat} {cell : Int} {l : List S35} {W : World} (hp : ∀ x ∈ l, p x) (hl : l.length ≤ 1000000) (h : SeqIs W s hi cell l) :
    SeqStopsK F n Tryz.prog 62 #[.pointer (some ⟨s + 1, 0, none⟩), .pointer (some ⟨s, 0, none⟩)] (fun x : FS p => #[ob6 x.1]) (Span s hi) (fun ys => ys.map (·.1) = ofL cell l) (fun pre => pre.map (·.1) <+: ofL cell l) l.length W := by
  obtain ⟨lt, le, hc, A, g, c, hr, hA, hsg, hg, hsix⟩ := h
  exact of1_stopsF s p F n h62 hro hn (s + 1) s hi g c A cell l hp hl hA hg (by omega) lt hsg (Nat.le_refl _) W le hr hc hsix
theorem spanK_t {lo hi : Nat} {A B C : World} (h : Span lo hi A B) (k : Span lo hi B C) : Span lo hi A C := h.trans k
theorem spanK_b {lo hi n : Nat} (hn : hi ≤ n) : ∀ (W : World) (l : Nat) (o o' : Obj), n ≤ l → W.heap[l]? = some o → o.isCells = false → o.isWalk = false → Span lo hi W (W.putObj l o') := fun W l o o' hl _ _ _ => Span.put (.inl (by omega)) o'
/-- A row's own append in a box, where nothing was made ahead; the box may lie below the row's base. -/
theorem boxed_appended1 {W w1 : World} {n₀ B : Nat} {t e : TypeId} {size : Nat} {v v' : Value} {k m : Nat} {xs ys : List Value}
    (hv : Boxed W B t v) (hte : t ≠ e) (hrow : W.ownsRow n₀ e size v k xs) (hn₀ : n₀ ≤ W.heap.size)
    (hown' : w1.ownsRow n₀ e size v' m ys) (hgrow : W.grownBy w1 v.ownBlock) :
    Boxed w1 B t v ∧ Boxed (w1.setCell ⟨B, 0, none⟩ v') B t v' ∧ (w1.setCell ⟨B, 0, none⟩ v').ownsRow n₀ e size v' m ys ∧ KeepsOthers W (w1.setCell ⟨B, 0, none⟩ v') ∧ Below n₀ W w1 := by
  have hv1 : Boxed w1 B t v := hv.kept hgrow (hv.not_row hte hrow)
  refine ⟨hv1, hv1.set v', hown'.kept (grownBy_setCell' w1 B v') (.inr (hv1.not_row hte hown').symm), ?_, ?_⟩
  · refine (KeepsOthers.of_grownBy hgrow fun j o ej hj => ?_).trans (KeepsOthers.setCell _ _ _)
    rcases hrow.2 with ⟨rfl, _⟩ | ⟨g, cap, cur, rfl, _, hgb, _⟩
    · simp [Value.ownBlock] at ej
    · obtain rfl : g = j := by simpa [Value.ownBlock] using ej
      rw [hgb] at hj; cases hj; rfl
  · refine (Below.refl n₀ W).grown hgrow (by omega) fun j ej => ?_
    rcases hrow.2 with ⟨rfl, _⟩ | ⟨g, cap, cur, rfl, hb, _, _⟩
    · simp [Value.ownBlock] at ej
    · obtain rfl : g = j := by simpa [Value.ownBlock] using ej
      exact hb
theorem Span.setBox {lo hi : Nat} {W : World} {B : Nat} (hB : B < lo ∨ hi ≤ B) (hh : hi ≤ W.heap.size) (v : Value) : Span lo hi W (W.setCell ⟨B, 0, none⟩ v) :=
  ⟨(grownBy_setCell' W B v).size, fun k h1 h2 => (grownBy_setCell' W B v).block k (by omega) (fun e => by cases e; omega)⟩
theorem keepsFrom_below {B : Nat} {W W' : World} (h : Below W.heap.size W W') : KeepsFrom B W W' :=
  ⟨h.size, fun k o _ h0 _ => (h.block k (heap_lt h0)).trans h0⟩
theorem boxed_below {W W' : World} {B : Nat} {t : TypeId} {v : Value} (h : Boxed W B t v) (hb : Below W.heap.size W W') : Boxed W' B t v := (hb.block _ h.lt).trans h
theorem box6_below {W W' : World} {B : Nat} {x : S35} (h : Box6 W B x) (hb : Below W.heap.size W W') : Box6 W' B x := (hb.block _ (heap_lt h)).trans h
theorem own_below' {W W' : World} {base : Nat} {e : TypeId} {size n : Nat} {v : Value} {xs : List Value} (h : W.ownsRow base e size v n xs) (hb : Below W.heap.size W W') : W'.ownsRow base e size v n xs := own_move h (fun k hk => hb.block k (own_lt h k hk))
theorem ownFrom_size {β : Type} (B N : Nat) : OwnFrom B (fun (_ : β) (W : World) => N ≤ W.heap.size) := fun _ _ _ _ hs hg _ => Nat.le_trans hs hg.size
theorem nums_cells {W : World} {ad : Addr} {n : Nat} {xs : List Int} (h : ReadsInt W .u8 (some ad) n xs) : ∀ j u, (nums .u8 xs)[j]? = some u → W.cell? (ad.add j) = some u := by
  intro j u hu
  have hj : j < xs.length := by
    rcases Nat.lt_or_ge j xs.length with h' | h'
    · exact h'
    · rw [List.getElem?_eq_none (by simpa [nums] using h')] at hu; simp at hu
  obtain ⟨ad', e, hc⟩ := h.2.2 (by have := h.1; omega)
  obtain rfl := Option.some.inj e
  rw [hc j (by have := h.1; omega)]
  simp only [nums, List.getElem?_map, List.getElem?_eq_getElem hj, Option.map_some, Option.some.injEq] at hu
  rw [List.getD_eq_getElem?_getD, List.getElem?_eq_getElem hj, ← hu]
  rfl
theorem nums_one (xs : List Int) : ∀ u ∈ nums .u8 xs, u.oneCell' = true := by
  intro u hu
  simp only [nums, List.mem_map] at hu
  obtain ⟨x, _, rfl⟩ := hu
  rfl
theorem nums_append (xs ys : List Int) : nums .u8 (xs ++ ys) = nums .u8 xs ++ nums .u8 ys := by simp [nums]
theorem digB_snoc (l : List S35) (x : S35) : digB (l ++ [x]) = if mayB x = true then digB l ++ rowB x else digB l := by
  unfold digB
  rw [List.filter_append]
  by_cases hc : mayB x = true
  · simp [hc]
  · simp [hc]
set_option maxRecDepth 100000 in
set_option maxHeartbeats 4000000 in
theorem digest_ok (cell : Int) (l : List S35) (A : Option Addr) (c : Nat) (w : World) (hT : WTab w) (hR : Kd.C k35 w A l.length l) (hc : l.length ≤ c) (hl : l.length ≤ 1000000) (hF : ∀ o ∈ l, Fits o) :
    Calls Tryz.prog 22 #[.int .i64 cell, .slice A l.length c] w fun e w' => e = .returned (.int .u32 (digI cell l)) ∧ Below w.heap.size w w' := by
  have HT := Lib.hid hT
  have HR := Lib.hid hR
  have HF := Lib.hid hF
  clear hT hR hF
  refine (callsIn_wide (n := 8)).1 ?_
  refine callsIn_of_wp_marks Tryz.func22 rfl trivial ?_ rfl
  simp only [Tryz.ntmps22, List.size_toArray, List.length_cons, List.length_nil, Nat.reduceAdd, Nat.reduceSub, Array.replicate_succ, Array.replicate_zero, List.push_toArray, List.append_toArray, List.nil_append, List.cons_append]
  gi_wp2
  refine ⟨trivial, (callsIn_wide.2 (of_seq cell l A c _ (Kd.C_alloc HR.out _) hc hl)).mono ?_⟩
  rintro e w1 ⟨rfl, hs1, hb1⟩
  have hsz : (w.alloc (.cells #[.slice none 0 0] 37)).heap.size = w.heap.size + 1 := by simp
  have b1 : Boxed w1 w.heap.size 37 (.slice none 0 0) := boxed_below (Boxed.new w 37 (.slice none 0 0)) hb1
  have hB1 : Below w.heap.size w w1 := ((Below.refl _ w).alloc (Nat.le_refl _) _).trans (hb1.mono (by rw [hsz]; omega))
  have hs1sz := hb1.size
  rw [hsz] at hs1 hs1sz ⊢
  have HT1 := Lib.hid (HT.out.below hB1)
  unfold seqV
  gi_wp2
  refine wpIn_rangeFunc_ownH rfl (by omega) (gf := 62) rfl trivial (enters_of Tryz.func62 (by kernel_rfl) rfl) (hs1.stops Fits Fence.wide 7 trivial rfl (by omega) HF.out hl) spanK_t (spanK_b (Nat.le_refl _)) (Below.refl _ _) (fun _ => rfl)
    (fun pre W => (∃ v, Boxed W w.heap.size 37 v ∧ W.ownsRow w1.heap.size 5 1 v (digB (pre.map (·.1))).length (nums .u8 (digB (pre.map (·.1)))) ∧ pre.length ≤ 1000000) ∧ Below w.heap.size w W ∧ w1.heap.size ≤ W.heap.size)
    (fun _ _ _ => False)
    (OwnFrom.and (Own.from (holdsRow_own w1.heap.size w.heap.size 37 5 1 (fun pre : List (FS Fits) => (digB (pre.map (·.1))).length) (fun pre => nums .u8 (digB (pre.map (·.1)))) (fun pre _ => pre.length ≤ 1000000)) _) (OwnFrom.and (ownFrom_below (Nat.le_refl _) (by omega)) (ownFrom_size _ _)))
    (fun _ _ _ _ _ hs _ _ => hs)
    ⟨⟨_, b1, World.ownsRow_nil _ _ _ _, Nat.zero_le _⟩, hB1, Nat.le_refl _⟩
    (fun x a' W => ∃ Bx, w.heap.size < Bx ∧ Box6 W Bx x.1 ∧ a' = { tmps := #[.int .i64 cell, .slice A l.length c, undef, undef, .int .u32 0, .pointer (some ⟨w.heap.size, 0, none⟩), .pointer (some ⟨Bx, 0, none⟩), undef, undef, undef, undef, .int .i64 cell, .slice A l.length c, seqV (w.heap.size + 1), ob6 x.1, undef, undef, undef, undef, undef, undef, undef, undef, undef, undef, undef, undef, undef, undef, undef, undef, undef, undef, undef, undef], defers := [] })
    (fun x a' _ X Y row hs hg hr => by obtain ⟨Bx, h1, h2, h3⟩ := hs; exact ⟨Bx, h1, h2.kept hg (fun r e => (hr r e).2), h3⟩)
    ?assign ?body ?done ?stop
  case assign =>
    rintro y pre x W K hi hK
    obtain ⟨⟨v, bv, hv, hm⟩, hB, hsz1⟩ := hi
    unfold ob6
    gi_wp2
    exact hK _ _ ((KeepsOthers.alloc _ _).from _) ((Span.refl _ _ W).alloc hsz1 _) ⟨⟨v, bv.alloc _, hv.alloc _, hm⟩, hB.alloc hB.size _, by simp; omega⟩ ⟨W.heap.size, bv.lt, heap_alloc_new _ _, rfl⟩
  case body =>
    rintro y pre x a' W hy ⟨r, hr⟩ ⟨⟨v, bv, hv, hm⟩, hB, hsz1⟩ ⟨Bx, hBx, bX, rfl⟩ hlt
    obtain ⟨z0, z1, z2, z3, z4, z5⟩ := bX.cells
    have hsn := Lib.hid (digB_snoc (pre.map (·.1)) x.1)
    have hdl : Hid ((digB (pre.map (·.1))).length ≤ 22000000) := by
      have := digB_len (pre.map (fun x : FS Fits => x.1))
      rw [List.length_map] at this
      show _ ≤ 22000000; omega
    have HBX := Lib.hid bX
    have HBV := Lib.hid bv
    have HV := Lib.hid hv
    have HBW := Lib.hid hB
    have hle : w.heap.size ≤ W.heap.size := hB.size
    clear bX bv hv hB hr
    unfold ob6 seqV
    gi_wp2
    refine ⟨trivial, (CallsIn.inRound y (callsIn_wide.2 (may_ok x.1 W))).mono ?_⟩
    rintro e w2 ⟨rfl, hb2⟩
    have HB2 := Lib.hid hb2
    clear hb2
    cases hmb : mayB x.1 with
    | false =>
      have HM := Lib.hid hmb
      clear hmb z0 z1 z2 z3 z4 z5
      gi_wp2
      refine ⟨keepsFrom_below HB2.out, Span.of_below' HB2.out hsz1, ⟨v, boxed_below HBV.out HB2.out, ?_, by rw [List.length_append, List.length_singleton]; omega⟩, HBW.out.trans (HB2.out.mono hle), Nat.le_trans hsz1 HB2.out.size⟩
      rw [List.map_append]
      show w2.ownsRow w1.heap.size 5 1 v (digB (pre.map (·.1) ++ [x.1])).length (nums .u8 (digB (pre.map (·.1) ++ [x.1])))
      rw [hsn.out, if_neg (by rw [HM.out]; decide)]
      exact own_below' HV.out HB2.out
    | true =>
      have HM := Lib.hid hmb
      clear hmb z0 z1 z2 z3 z4 z5
      gi_wp2
      refine ⟨trivial, (CallsIn.inRound y (callsIn_wide.2 (newWriter_ok 22 W.heap.size W w2 (by omega) (by omega) HB2.out HB2.out.size))).mono ?_⟩
      rintro e w3 ⟨g, rfl, hW3, hg3, hb3, _⟩
      obtain ⟨y0, y1, y2, y3, y4, y5⟩ := (box6_below HBX.out hb3).cells
      have HW3 := Lib.hid hW3
      have HB3 := Lib.hid hb3
      clear hW3 hb3 HB2 hg3
      gi_wp2
      refine ⟨trivial, (CallsIn.inRound y (callsIn_wide.2 (row_ok W.heap.size g 22 x.1 _ [] W w3 HW3.out (by omega) (by simp) x.2 HB3.out))).mono ?_⟩
      rintro e w4 ⟨rfl, v4, hW4, _, hb4⟩
      rw [List.nil_append] at hW4
      have HW4 := Lib.hid hW4
      have HB4 := Lib.hid hb4
      clear hW4 hb4 HB3 HW3 y0 y1 y2 y3 y4 y5
      gi_wp2
      refine ⟨trivial, (CallsIn.inRound y (callsIn_wide.2 (done_ok W.heap.size g 22 v4 (rowB x.1) W w4 HW4.out (by omega) (by rw [rowB_length]; omega) HB4.out HB4.out.size))).mono ?_⟩
      rintro e w5 ⟨v5, rfl, hr5, hb5, _⟩
      obtain ⟨g5, c5, rfl, hg50, hg51, _⟩ := Kd.R_form hr5 (by rw [rowB_length]; omega)
      obtain ⟨A5, c5', he5, _, hC5⟩ := Kd.R_reads hr5
      injection he5 with he5
      subst he5
      have HC5 := Lib.hid (C_reads hC5)
      have HB5 := Lib.hid hb5
      have hrl := rowB_length x.1
      have bv5 := boxed_below HBV.out hb5
      have hv5 := own_below' HV.out hb5
      have cv := bv5.cell
      have fv := bv5.frozen
      have hle5 := hb5.size
      rw [hrl] at HC5 ⊢
      clear hr5 hb5 hC5 HB4 HW4 hg50 hg51 hrl
      obtain ⟨i0, hi, hz0, hz1, hz2⟩ := info_parts info5
      gi_wp2_with (gi_at_builtin; refine wpListIn_append_own _ rfl _ _ 37 rfl w1.heap.size 5 i0 _ 1 1 Tryz.underlying37 hi hz0 hz1 hz2 rfl (by decide) _ _ _ rfl hv5 ⟨g5, 0, none⟩ 22 _ (nums .u8 (rowB x.1)) rfl (by simp [nums, rowB_length]) (nums_cells HC5.out) (nums_one _) (by have := hdl.out; simp only [maxLen]; omega) (by have := hdl.out; omega) (by omega) ?_; intro v' w6 hown' hgrow _; obtain ⟨g', cap', rfl⟩ := ownsRow_succ hown'; obtain ⟨hv1, hv2, hr2, hk2, hb2⟩ := boxed_appended1 bv5 (by decide) hv5 (by omega) hown' hgrow; have hc1 := hv1.cell; have hf1 := hv1.frozen)
      refine ⟨(keepsFrom_below HB5.out).trans (hk2.from _), (Span.of_below' HB5.out hsz1).trans ((Span.of_below' hb2 (Nat.le_refl _)).trans (Span.setBox (.inl (by omega)) (by have := hb2.size; omega) _)), ⟨_, hv2, ?_, by rw [List.length_append, List.length_singleton]; omega⟩, ((HBW.out.trans (HB5.out.mono hle)).trans (hb2.mono (by omega))).setCell (p := ⟨w.heap.size, 0, none⟩) (Nat.le_refl _) _, ?_⟩
      · rw [List.map_append]
        show (w6.setCell _ _).ownsRow w1.heap.size 5 1 _ (digB (pre.map (·.1) ++ [x.1])).length (nums .u8 (digB (pre.map (·.1) ++ [x.1])))
        rw [hsn.out, if_pos HM.out, nums_append, List.length_append, rowB_length]
        exact hr2
      · have h1 := hb2.size
        have h2 := (grownBy_setCell' w6 w.heap.size (.slice (some ⟨g', 0, none⟩) ((digB (pre.map (·.1))).length + 22) cap')).size
        exact Nat.le_trans (by omega) h2
  case done =>
    rintro D ys W hD hys ⟨⟨v, bv, hv, hm⟩, hB, hsz1⟩ hK
    obtain ⟨A5, c5, rfl⟩ := own_slice hv
    have cv := bv.cell
    have hdd : digB (ys.map (·.1)) = digB (ofL cell l) := by rw [hys]
    rw [hdd] at hv cv
    gi_wp2
    refine ⟨trivial, (callsIn_wide.2 (sum_ok (digB (ofL cell l)) A5 c5 _ _ _ (HT.out.below (hB.alloc hB.size _)) (by simp) ?_ (digB_bytes _))).mono ?_⟩
    · obtain ⟨A', c', e', _, hC⟩ := Kd.R_reads (Kd.R_of_own hv (ok := fun _ => True) (fun _ _ => trivial))
      injection e' with e'
      subst e'
      exact Kd.C_alloc hC _
    rintro e w7 ⟨rfl, rfl⟩
    gi_wp2
    refine ⟨by simp, .inl ⟨_, _, rfl, run_takeDeferred ((KeepsOthers.alloc W _).same D _ hK rfl), ?_⟩⟩
    refine ⟨_, results_tmp rfl _ _ _, rfl, (hB.alloc hB.size _).trans (belowK_b (w := w) (Nat.le_refl _) _ D _ _ (by omega) ((KeepsOthers.alloc W _).same D _ hK rfl) rfl rfl)⟩
  case stop =>
    rintro D c pre W _ _ h _
    exact h.elim
end Go.Proofs.YtohighedgdlflaaGreatDoor

/- trace.Part answers where two rows of observations of a cell part. -/
namespace Go.Proofs.YtohighedgdlflaaGreatDoor
open Go.RowKit Go.Proofs.YtohighedgdlflaaGreatDoorW.PrintWords Go.Proofs.YtohighedgdlflaaGreatDoor.PR
set_option linter.unusedVariables false
set_option linter.unusedSimpArgs false
/-- How long two rows are the same. -/
def comm : List S35 → List S35 → Nat
  | x :: xs, y :: ys => if x.f0 = y.f0 ∧ x.f1 = y.f1 ∧ x.f2 = y.f2 ∧ x.f3 = y.f3 ∧ x.f4 = y.f4 ∧ x.f5 = y.f5 then comm xs ys + 1 else 0
  | _, _ => 0
def partI (xs ys : List S35) : Int := if comm xs ys = xs.length ∧ comm xs ys = ys.length then -1 else (comm xs ys : Int)
/-- What Of has answered, collected at once. -/
theorem of_collect (cell : Int) (l : List S35) (A : Option Addr) (c : Nat) (w : World) (hR : Kd.C k35 w A l.length l) (hc : l.length ≤ c) (hl : l.length ≤ 1000000) :
    Calls Tryz.prog 24 #[.int .i64 cell, .slice A l.length c] w fun e w' => ∃ lb, e = .returned (.func (.func 62) #[] lb) ∧ Below w.heap.size w w' ∧
      Calls Tryz.prog 60 #[.func (.func 62) #[] lb] w' fun e W' => ∃ v, e = .returned v ∧ W'.ownsRow w'.heap.size 35 6 v (ofL cell l).length ((ofL cell l).flatMap c6) ∧ Below w'.heap.size w' W' := by
  refine (of_ok cell l A c w hR hc hl).mono ?_
  rintro e w1 ⟨v, rfl, h0, h1, hr, hb⟩
  refine ⟨_, rfl, hb, ?_⟩
  obtain ⟨A3, c3, rfl, hc3, hC⟩ := Kd.R_reads hr
  have b0 := World.block_lt_of_cell? w1 _ h0
  have b1 := World.block_lt_of_cell? w1 _ h1
  by_cases hp : 0 < l.length
  · obtain ⟨g, c4, he, hg0, hg1, _⟩ := Kd.R_form hr hp
    injection he with he1 _ he3
    subst he1
    exact collect_of cell l hl (w.heap.size + 1) w.heap.size g c3 _ w1 (fun _ => rfl) hg1 b1 b0 h1 h0 (six_of (A := none) (c := 0) hC)
  · have hx : l = [] := List.eq_nil_of_length_eq_zero (by omega)
    subst hx
    exact collect_of cell [] hl (w.heap.size + 1) w.heap.size w.heap.size c3 _ w1 (fun h => absurd h (by simp)) b0 b1 b0 h1 h0 (fun j x h => by simp at h)
end Go.Proofs.YtohighedgdlflaaGreatDoor

/- What two rows have in common, and a row of observations of a cell: small laws. -/
namespace Go.Proofs.YtohighedgdlflaaGreatDoor
open Go.RowKit Go.Proofs.YtohighedgdlflaaGreatDoorW.PrintWords Go.Proofs.YtohighedgdlflaaGreatDoor.PR
set_option linter.unusedVariables false
set_option linter.unusedSimpArgs false
theorem ofL_le (cell : Int) (l : List S35) : (ofL cell l).length ≤ l.length := List.length_filter_le _ _
theorem ofL_mem {cell : Int} {l : List S35} {o : S35} (h : o ∈ ofL cell l) : o ∈ l := (List.mem_filter.1 h).1
theorem comm_le : ∀ xs ys : List S35, comm xs ys ≤ xs.length ∧ comm xs ys ≤ ys.length
  | [], ys => by simp [comm]
  | x :: xs, [] => by simp [comm]
  | x :: xs, y :: ys => by
    have ih := comm_le xs ys
    unfold comm
    split
    · simp only [List.length_cons]; omega
    · simp
abbrev same6 (x y : S35) : Prop := x.f0 = y.f0 ∧ x.f1 = y.f1 ∧ x.f2 = y.f2 ∧ x.f3 = y.f3 ∧ x.f4 = y.f4 ∧ x.f5 = y.f5
theorem same6_iff {x y : S35} : same6 x y ↔ x = y := by
  obtain ⟨a, b, c, d, e, f⟩ := x
  obtain ⟨a', b', c', d', e', f'⟩ := y
  simp [same6]
theorem comm_spec : ∀ (xs ys : List S35) (n : Nat) (x y : S35), n ≤ comm xs ys → xs[n]? = some x → ys[n]? = some y → (n < comm xs ys ↔ same6 x y)
  | [], ys, n, x, y, _, h, _ => by simp at h
  | x0 :: xs, [], n, x, y, _, _, h => by simp at h
  | x0 :: xs, y0 :: ys, 0, x, y, _, hx, hy => by
    simp only [List.getElem?_cons_zero, Option.some.injEq] at hx hy
    subst hx; subst hy
    unfold comm
    by_cases h : same6 x0 y0
    · rw [if_pos h]; exact ⟨fun _ => h, fun _ => by omega⟩
    · rw [if_neg h]; exact ⟨fun h' => absurd h' (by omega), fun h' => absurd h' h⟩
  | x0 :: xs, y0 :: ys, n + 1, x, y, hn, hx, hy => by
    simp only [List.getElem?_cons_succ] at hx hy
    unfold comm at hn ⊢
    by_cases h : same6 x0 y0
    · rw [if_pos h] at hn ⊢
      have ih := comm_spec xs ys n x y (by omega) hx hy
      rw [← ih]; omega
    · rw [if_neg h] at hn
      omega
theorem comm_before : ∀ (xs ys : List S35) (n : Nat) (x y : S35), n < comm xs ys → xs[n]? = some x → ys[n]? = some y → same6 x y := fun xs ys n x y h hx hy => (comm_spec xs ys n x y (by omega) hx hy).1 h
theorem reps6 (W : World) (base : Nat) (ok : Nat → Prop) (l : List S35) : Reps (k35.M W base ok) 6 l (l.flatMap c6) := by
  have h : ∀ k, k ≤ l.length → Reps (k35.M W base ok) 6 (l.take k) ((l.take k).flatMap c6) := by
    intro k
    induction k with
    | zero => intro _; exact Reps.none _ _
    | succ k ih =>
      intro hk
      rw [List.take_succ_eq_append_getElem (by omega), List.flatMap_append]
      have : [l[k]].flatMap c6 = c6 l[k] := by simp
      rw [this]
      exact Reps.snoc (ih (by omega)) (k35_mkM _ _ _ _) rfl
  have := h l.length (Nat.le_refl _)
  rwa [List.take_length] at this
theorem R_of_own6 {W : World} {base : Nat} {v : Value} {l : List S35} (h : W.ownsRow base 35 6 v l.length (l.flatMap c6)) : Kd.R k35 35 W base (fun _ => True) v l :=
  ⟨fun _ _ => trivial, _, h, reps6 _ _ _ l⟩
end Go.Proofs.YtohighedgdlflaaGreatDoor
