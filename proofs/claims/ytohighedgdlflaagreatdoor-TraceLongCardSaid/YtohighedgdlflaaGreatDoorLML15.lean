/- The law TraceLong of package trace answers true, for every two numbers. -/
import Derived.Test.YtohighedgdlflaaGreatDoorLPRx5
import Derived.Test.YtohighedgdlflaaGreatDoorLML14
import Derived.Test.YtohighedgdlflaaGreatDoorLML13
import Derived.Test.YtohighedgdlflaaGreatDoorLML12
import Derived.Sort.QuietTacIn
import Derived.OwnWalkIn
/- The document's Of, Digest and Part, in plain Lean. -/
namespace Go.Proofs.YtohighedgdlflaaGreatDoor
open Go.Shelf Go.RowKit Go.Sort Go.Lib Go.Proofs.YtohighedgdlflaaGreatDoorW.PrintWords Go.Proofs.YtohighedgdlflaaGreatDoor.PR
set_option linter.unusedVariables false
set_option linter.unusedSimpArgs false
theorem ofR_l (cell : Int) (l : List S35) (hl : l.length ≤ 1000000) (F : Nat) : ∀ j : Nat, j ≤ l.length →
    cloisterref22_Of.l0 (j + F + 1) cell l (ofL cell (l.take (l.length - j))) ((l.length - j : Nat) : Int) = some (ofL cell l)
  | 0, _ => by
    rw [Nat.sub_zero, List.take_length, cloisterref22_Of.l0, if_neg (by omega)]
  | j + 1, hj => by
    have ih := ofR_l cell l hl F j (by omega)
    obtain ⟨i, hi⟩ : ∃ i, i = l.length - (j + 1) := ⟨_, rfl⟩
    have e8 : l.length - j = i + 1 := by omega
    rw [e8] at ih
    have hil : i < l.length := by omega
    rw [← hi, show j + 1 + F + 1 = (j + F + 1) + 1 by omega, cloisterref22_Of.l0, if_pos (by omega), if_pos (by omega)]
    obtain ⟨o, ho⟩ : ∃ o, o = rd_T35 l i := ⟨_, rfl⟩
    have ho2 : l[i]? = some o := by
      rw [ho]; simp [rd_T35, List.getD_eq_getElem?_getD, List.getElem?_eq_getElem hil]
    have hs := ofL_succ cell l i o ho2
    have hle : (ofL cell (l.take i)).length ≤ i := Nat.le_trans (ofL_le _ _) (by rw [List.length_take]; omega)
    rw [← ho, w64_succ i (by omega)]
    by_cases hc : o.f1 = cell
    · rw [if_pos hc] at hs ⊢
      rw [if_pos (by omega)]
      rw [hs] at ih
      exact ih
    · rw [if_neg hc] at hs ⊢
      rw [hs] at ih
      exact ih
theorem ofR_f (cell : Int) (l : List S35) (hl : l.length ≤ 1000000) (k : Nat) (hk : l.length + 1 ≤ k) : cloisterref22_Of.f k cell l = some (ofL cell l) := by
  have h := ofR_l cell l hl (k - l.length - 1) l.length (Nat.le_refl _)
  rw [Nat.sub_self, show l.length + (k - l.length - 1) + 1 = k by omega] at h
  exact h
theorem sum_fk (xs : List Int) (hb : Crc.Bytes xs) (hl : xs.length < 1000000000) : ∀ e : Nat, cloisterref22_Sum.f (10 * xs.length + 1 + e) xs = some (Crc.crc xs)
  | 0 => sum_f xs hb hl
  | e + 1 => cloisterref22_Sum.mono _ _ _ (sum_fk xs hb hl e)
theorem digR_l (m : List S35) (hF : ∀ o ∈ m, FitsT o) (hl : m.length ≤ 1000000) (F : Nat) (hF2 : 10 * (22 * m.length) + 9 ≤ F) : ∀ j : Nat, j ≤ m.length →
    cloisterref22_Digest.l0 (j + F + 1) (digB (m.take (m.length - j))) m ((m.length - j : Nat) : Int) = some (Crc.crc (digB m))
  | 0, _ => by
    have hle := digB_len m
    have hs := sum_fk (digB m) (digB_bytes m) (by omega) (F - (10 * (digB m).length + 1))
    rw [show 10 * (digB m).length + 1 + (F - (10 * (digB m).length + 1)) = F by omega] at hs
    rw [Nat.sub_zero, List.take_length, Nat.zero_add, cloisterref22_Digest.l0, if_neg (by omega), hs, Option.bind_some]
  | j + 1, hj => by
    have ih := digR_l m hF hl F hF2 j (by omega)
    obtain ⟨i, hi⟩ : ∃ i, i = m.length - (j + 1) := ⟨_, rfl⟩
    have e8 : m.length - j = i + 1 := by omega
    rw [e8] at ih
    have hil : i < m.length := by omega
    rw [← hi, show j + 1 + F + 1 = (j + F + 1) + 1 by omega, cloisterref22_Digest.l0, if_pos (by omega), if_pos (by omega)]
    obtain ⟨o, ho⟩ : ∃ o, o = rd_T35 m i := ⟨_, rfl⟩
    have ho2 : m[i]? = some o := by
      rw [ho]; simp [rd_T35, List.getD_eq_getElem?_getD, List.getElem?_eq_getElem hil]
    have hm := List.mem_of_getElem? ho2
    have hs := digB_succ m i o ho2
    have hle : (digB (m.take i)).length ≤ 22 * i := Nat.le_trans (digB_len _) (by rw [List.length_take]; omega)
    have hmf := refMay_f o (j + F - 1)
    rw [show j + F - 1 + 2 = j + F + 1 by omega] at hmf
    rw [← ho, hmf, Option.bind_some, w64_succ i (by omega)]
    cases hmb : mayB o with
    | false =>
      rw [if_neg (by decide)]
      rw [if_neg (by rw [hmb]; decide)] at hs
      rw [hs] at ih
      exact ih
    | true =>
      obtain ⟨t, cl, q, p, a, b, hob, hG⟩ := good_of_may hmb (hF o hm)
      have hr := row_f (j + F + 1) (by omega) hG
      have hro := rowB_length o
      rw [if_pos rfl, hob]
      show ((cloisterref22_Row.f (j + F + 1) (t : Int) (cl : Int) (q : Int) (p : Int) (a : Int) (b : Int)).bind _) = _
      rw [hr, Option.bind_some, ← hob, if_pos (by omega)]
      rw [if_pos hmb] at hs
      rw [hs] at ih
      exact ih
theorem digR_f (cell : Int) (l : List S35) (hF : ∀ o ∈ l, FitsT o) (hl : l.length ≤ 1000000) : cloisterref22_Digest.f (l.length + (10 * (22 * l.length) + 9) + 1) cell l = some (digI cell l) := by
  have hle := ofL_le cell l
  have h := digR_l (ofL cell l) (fun o ho => hF o (ofL_mem ho)) (by omega) (l.length - (ofL cell l).length + (10 * (22 * l.length) + 9)) (by omega) (ofL cell l).length (Nat.le_refl _)
  rw [Nat.sub_self, show (ofL cell l).length + (l.length - (ofL cell l).length + (10 * (22 * l.length) + 9)) + 1 = l.length + (10 * (22 * l.length) + 9) + 1 by omega] at h
  unfold cloisterref22_Digest.f
  rw [ofR_f cell l hl _ (by omega), Option.bind_some]
  exact h
/-- cloisterref22.Digest (25). -/
theorem refDigest_ok (cell : Int) (l : List S35) (A : Option Addr) (c : Nat) (w : World) (hr : Kd.C k35 w A l.length l) (hc : l.length ≤ c) (hF : ∀ o ∈ l, FitsT o) (hl : l.length ≤ 1000000) :
    Calls Tryz.prog 25 #[.int .i64 cell, .slice A l.length c] w fun e w' => e = .returned (.int .u32 (digI cell l)) ∧ Below w.heap.size w w' :=
  cloisterref22_Digest.calls _ cell A c l _ w hr hc (digR_f cell l hF hl)
end Go.Proofs.YtohighedgdlflaaGreatDoor

/- What the law TraceSums writes into its rows, and what stays where few blocks are written. -/
namespace Go.Proofs.YtohighedgdlflaaGreatDoor
open Go.RowKit Go.Shelf Go.Proofs.YtohighedgdlflaaGreatDoorW.PrintWords Go.Proofs.YtohighedgdlflaaGreatDoor.PR
set_option linter.unusedVariables false
set_option linter.unusedSimpArgs false
/-- All blocks but two lie as they lay. -/
def Off (g h : Nat) (W W' : World) : Prop := W.heap.size ≤ W'.heap.size ∧ ∀ k, k < W.heap.size → k ≠ g → k ≠ h → W'.heap[k]? = W.heap[k]?
theorem Off.refl (g h : Nat) (W : World) : Off g h W W := ⟨Nat.le_refl _, fun _ _ _ _ => rfl⟩
theorem Off.trans {g h : Nat} {A B C : World} (x : Off g h A B) (y : Off g h B C) : Off g h A C := ⟨Nat.le_trans x.1 y.1, fun k hk h1 h2 => (y.2 k (Nat.lt_of_lt_of_le hk x.1) h1 h2).trans (x.2 k hk h1 h2)⟩
theorem Off.of_below {g h : Nat} {W W' : World} (hb : Below W.heap.size W W') : Off g h W W' := ⟨hb.size, fun k hk _ _ => hb.block k hk⟩
theorem heap_setCell_ne (W : World) (p : Addr) (v : Value) (k : Nat) (hk : k ≠ p.block) : (W.setCell p v).heap[k]? = W.heap[k]? := by
  unfold World.setCell
  split <;> simp only [Array.getElem?_modify] <;> rw [if_neg (by omega)]
theorem Off.set {g h : Nat} {A W : World} (x : Off g h A W) (p : Addr) (v : Value) (hp : p.block = g ∨ p.block = h) : Off g h A (W.setCell p v) :=
  x.trans ⟨by simp, fun k _ h1 h2 => heap_setCell_ne W p v k (by rcases hp with e | e <;> rw [e] <;> assumption)⟩
theorem Off.mono {g h g' h' : Nat} {W W' : World} (x : Off g h W W') (hg : g = g' ∨ g = h' ∨ W.heap.size ≤ g) (hh : h = g' ∨ h = h' ∨ W.heap.size ≤ h) : Off g' h' W W' :=
  ⟨x.1, fun k hk h1 h2 => x.2 k hk (by omega) (by omega)⟩
theorem SeqIs.off {g h : Nat} {W W' : World} {s hi : Nat} {cell : Int} {l : List S35} (q : SeqIs W s hi cell l) (x : Off g h W W') (hg : g < s ∨ hi ≤ g) (hh : h < s ∨ hi ≤ h) : SeqIs W' s hi cell l :=
  q.keep ⟨x.1, fun k h1 h2 => x.2 k (by have := q.le; omega) (by omega) (by omega)⟩
theorem boxed_off {g h : Nat} {W W' : World} {B : Nat} {t : TypeId} {v : Value} (q : Boxed W B t v) (x : Off g h W W') (hg : B ≠ g) (hh : B ≠ h) : Boxed W' B t v := (x.2 B q.lt hg hh).trans q
theorem orow_off {g h : Nat} {W W' : World} {k : Nat} {l : List S35} (q : ORow W k l) (x : Off g h W W') (hg : k ≠ g) (hh : k ≠ h) : ORow W' k l := by
  obtain ⟨cur, h1, h2⟩ := q
  exact ⟨cur, (x.2 k (heap_lt h1) hg hh).trans h1, h2⟩
theorem cell_of_heap {W W' : World} {p : Addr} {u : Value} (h : W'.heap[p.block]? = W.heap[p.block]?) (hc : W.cell? p = some u) : W'.cell? p = some u := by
  rw [← hc]
  unfold World.cell?
  rw [h]
/-- A row of observations in a block below n. -/
structure LRow (W : World) (n : Nat) (A : Option Addr) (l : List S35) : Prop where
  c : Kd.C k35 W A l.length l
  lt : ∀ ad, A = some ad → 0 < l.length → ad.block < n
  le : n ≤ W.heap.size
theorem LRow.keep {W W' : World} {n : Nat} {A : Option Addr} {l : List S35} (h : LRow W n A l) (hs : n ≤ W'.heap.size) (hb : ∀ k, k < n → W'.heap[k]? = W.heap[k]?) : LRow W' n A l := by
  obtain ⟨hC, hl, hn⟩ := h
  refine ⟨⟨hC.1, hC.2.1, fun hp => ?_⟩, hl, hs⟩
  obtain ⟨ad, had, cs⟩ := hC.2.2 hp
  refine ⟨ad, had, fun j p hj => ?_⟩
  obtain ⟨c, h1, h2, h3⟩ := cs j p hj
  obtain rfl := k35_open h2
  refine ⟨_, h1, k35_mk _ _, fun i u hu => cell_of_heap ?_ (h3 i u hu)⟩
  have e : ∀ m, (ad.add m).block = ad.block := fun m => by unfold Addr.add; split <;> rfl
  rw [e]
  exact hb _ (hl ad had hp)
theorem LRow.below {W W' : World} {n m : Nat} {A : Option Addr} {l : List S35} (h : LRow W n A l) (hb : Below m W W') (hm : n ≤ m) : LRow W' n A l := h.keep (Nat.le_trans h.le hb.size) (fun k hk => hb.block k (by omega))
theorem LRow.off {g g' : Nat} {W W' : World} {n : Nat} {A : Option Addr} {l : List S35} (h : LRow W n A l) (x : Off g g' W W') (hg : n ≤ g) (hh : n ≤ g') : LRow W' n A l := h.keep (Nat.le_trans h.le x.1) (fun k hk => x.2 k (by have := h.le; omega) (by omega) (by omega))
/-- A function value is not nil. -/
theorem run_eql_func (w : World) (f : Fn) (ts : Array Value) (lb : Array Value) : (binOp .eql 53 (.func f ts lb) .nilFunc).run Tryz.prog w = .ok (.bool false) w := by
  have h : ∀ d : Nat, (Op.equalIn (d + 1) 53 (.func f ts lb) .nilFunc).run Tryz.prog w = .ok false w := fun d => by
    simp [Op.equalIn, run_underlying Tryz.underlying53]
  simp only [binOp]
  simp [Op.equal, Op.maxDepth, h 9999]
/-- Where the law's things lie. -/
structure SumP (w1 : World) (g h s hi j nA nB : Nat) (a1 b1 : List S35) : Prop where
  n1 : w1.heap.size ≤ nA
  n2 : w1.heap.size ≤ nB
  ag : nA ≤ g
  bg : nB ≤ g
  gh : g < h
  hs : h < s
  hj : hi ≤ j
/-- What the law holds while it goes on. -/
structure SumSt (w1 W : World) (g h s hi j nA nB : Nat) (A3 B4 : Option Addr) (xs ys a1 b1 : List S35) (cell : Int) : Prop where
  hb : Below w1.heap.size w1 W
  x : ORow W g xs
  y : ORow W h ys
  a : LRow W nA A3 a1
  b : LRow W nB B4 b1
  q : SeqIs W s hi cell a1
  j : Boxed W j 53 (seqV s)
theorem SumSt.below {w1 W W' : World} {g h s hi j nA nB : Nat} {A3 B4 : Option Addr} {xs ys a1 b1 : List S35} {cell : Int} (t : SumSt w1 W g h s hi j nA nB A3 B4 xs ys a1 b1 cell) (hb : Below W.heap.size W W') : SumSt w1 W' g h s hi j nA nB A3 B4 xs ys a1 b1 cell :=
  ⟨t.hb.trans (hb.mono t.hb.size), t.x.below hb, t.y.below hb, t.a.below hb t.a.le, t.b.below hb t.b.le, t.q.below hb, boxed_below t.j hb⟩
theorem SumSt.lt {w1 W : World} {g h s hi j nA nB : Nat} {A3 B4 : Option Addr} {xs ys a1 b1 : List S35} {cell : Int} (t : SumSt w1 W g h s hi j nA nB A3 B4 xs ys a1 b1 cell) : g < W.heap.size ∧ h < W.heap.size ∧ hi ≤ W.heap.size ∧ s < hi ∧ j < W.heap.size :=
  ⟨t.x.lt, t.y.lt, t.q.le, by have := t.q.lt; omega, t.j.lt⟩
theorem part_n (cell : Int) (a b : List S35) (n m : Nat) (hn : a.length = n) (hm : b.length = m) (A B : Option Addr) (ca cb : Nat) (w : World) (hA : Kd.C k35 w A a.length a) (hca : n ≤ ca) (ha : n ≤ 1000000) (hB : Kd.C k35 w B b.length b) (hcb : m ≤ cb) (hb : m ≤ 1000000) :
    Calls Tryz.prog 23 #[.int .i64 cell, .slice A n ca, .slice B m cb] w fun e w' => e = .returned (.int .i64 (partI (ofL cell a) (ofL cell b))) ∧ Below w.heap.size w w' := by
  subst hn hm; exact part_ok cell a b A B ca cb w hA hca ha hB hcb hb
theorem ownFrom_off {β : Type} (g B : Nat) (W0 : World) (hB : W0.heap.size ≤ B) : OwnFrom B (fun (_ : β) (W : World) => Off g g W0 W) := fun _ X Y row hs hg hr =>
  ⟨Nat.le_trans hs.1 hg.size, fun k hk h1 h2 => (hg.block k (Nat.lt_of_lt_of_le hk hs.1) (fun e => by have := (hr k e.symm).1; omega)).trans (hs.2 k hk h1 h2)⟩
/-- The n-th element, as the walk reads it. -/
theorem LRow.six {W : World} {n : Nat} {A : Option Addr} {l : List S35} (h : LRow W n A l) {k : Nat} {x : S35} (hx : l[k]? = some x) : ∃ ad, A = some ad ∧ W.cell? (ad.add (k * 6)) = some (.int .u64 x.f0) ∧ W.cell? ⟨(ad.add (k * 6)).block, (ad.add (k * 6)).off + 1, none⟩ = some (.int .i64 x.f1) ∧ W.cell? ⟨(ad.add (k * 6)).block, (ad.add (k * 6)).off + 2, none⟩ = some (.int .i64 x.f2) ∧ W.cell? ⟨(ad.add (k * 6)).block, (ad.add (k * 6)).off + 3, none⟩ = some (.int .u32 x.f3) ∧ W.cell? ⟨(ad.add (k * 6)).block, (ad.add (k * 6)).off + 4, none⟩ = some (.int .u32 x.f4) ∧ W.cell? ⟨(ad.add (k * 6)).block, (ad.add (k * 6)).off + 5, none⟩ = some (.int .u32 x.f5) := by
  have hk : k < l.length := by
    rcases Nat.lt_or_ge k l.length with h' | h'
    · exact h'
    · rw [List.getElem?_eq_none h'] at hx; simp at hx
  obtain ⟨ad, e, h1, h2, h3, h4, h5, h6⟩ := at_T35 h.c (k : Int) (by omega) (by omega)
  have hr : rd_T35 l (k : Int) = x := by
    simp [rd_T35, List.getD_eq_getElem?_getD, hx]
  rw [hr] at h1 h2 h3 h4 h5 h6
  simp only [Int.toNat_natCast] at h1 h2 h3 h4 h5 h6
  exact ⟨ad, e, h1, h2, h3, h4, h5, h6⟩
end Go.Proofs.YtohighedgdlflaaGreatDoor

/- The rows of the law TraceLong, in plain Lean. -/
namespace Go.Proofs.YtohighedgdlflaaGreatDoor
open Go.RowKit Go.Shelf Go.Proofs.YtohighedgdlflaaGreatDoorW.PrintWords Go.Proofs.YtohighedgdlflaaGreatDoor.PR
set_option linter.unusedVariables false
set_option linter.unusedSimpArgs false
/-- The i-th observation. -/
def obL (i : Nat) : S35 := ⟨(i : Int) * 3, 1 + (i : Int) % 2, 7, (i : Int), (i : Int) * 7, 0⟩
def longL (n : Nat) : List S35 := (List.range n).map obL
theorem longL_len (n : Nat) : (longL n).length = n := by simp [longL]
theorem longL_succ (n : Nat) : longL (n + 1) = longL n ++ [obL n] := by simp [longL, List.range_succ]
theorem longL_get (n k : Nat) (h : k < n) : (longL n)[k]? = some (obL k) := by
  simp [longL, h]
theorem obL_may (i : Nat) (h : i < 1000000) : mayB (obL i) = true := by
  have h1 : (1 : Int) ≤ (1 + (i : Int) % 2) := by omega
  have h2 : (1 + (i : Int) % 2) ≤ 8 := by omega
  have h3 : ((i : Int) * 3) ≤ 9223372036854775807 := by omega
  have hk : kindB 7 ((i : Int) * 7) 0 = true := by
    unfold kindB
    simp
  simp only [mayB, obL, h1, h2, h3, hk, decide_true, Bool.and_true]
theorem obL_fits (i : Nat) (h : i < 100000) : FitsT (obL i) := by
  refine ⟨⟨?_, ?_, ?_, ?_, ?_, ?_⟩, ?_, ?_⟩ <;> simp only [obL] <;> omega
theorem longL_may (n : Nat) (h : n ≤ 100000) : ∀ o ∈ longL n, mayB o = true := by
  intro o ho
  obtain ⟨i, hi, rfl⟩ := List.mem_map.1 ho
  exact obL_may i (by have := List.mem_range.1 hi; omega)
theorem longL_fits (n : Nat) (h : n ≤ 100000) : ∀ o ∈ longL n, FitsT o := by
  intro o ho
  obtain ⟨i, hi, rfl⟩ := List.mem_map.1 ho
  exact obL_fits i (by have := List.mem_range.1 hi; omega)
/-- How many of a cell there are. -/
theorem ofL_count (r : Nat) (hr : r < 2) : ∀ n, (ofL (1 + (r : Int)) (longL n)).length = (n + 1 - r) / 2
  | 0 => by simp [longL, ofL]; omega
  | n + 1 => by
    have ih := ofL_count r hr n
    have e : ofL (1 + (r : Int)) (longL (n + 1)) = if n % 2 = r then ofL (1 + (r : Int)) (longL n) ++ [obL n] else ofL (1 + (r : Int)) (longL n) := by
      rw [longL_succ]
      unfold ofL
      rw [List.filter_append]
      by_cases h : n % 2 = r
      · have : ((obL n).f1 == (1 + (r : Int))) = true := beq_iff_eq.2 (by simp only [obL]; omega)
        rw [if_pos h, List.filter_cons, if_pos (by simpa using this)]; rfl
      · have : ((obL n).f1 == (1 + (r : Int))) = false := beq_eq_false_iff_ne.2 (by simp only [obL]; omega)
        rw [if_neg h, List.filter_cons, if_neg (by simpa using this), List.filter_nil, List.append_nil]
    rw [e]
    split
    · rw [List.length_append, List.length_singleton, ih]; omega
    · rw [ih]; omega
/-- One observation's A is another one. -/
def chA (x : S35) (v : Int) : S35 := ⟨x.f0, x.f1, x.f2, x.f3, v, x.f5⟩
theorem longL_split (n k : Nat) (h : k < n) : longL n = longL k ++ obL k :: (longL n).drop (k + 1) := by
  have h1 : longL n = (longL n).take k ++ (longL n).drop k := (List.take_append_drop k _).symm
  have h2 : (longL n).drop k = obL k :: (longL n).drop (k + 1) := by
    rw [List.drop_eq_getElem_cons (by rw [longL_len]; exact h)]
    congr 1
    have := longL_get n k h
    rw [List.getElem?_eq_getElem (by rw [longL_len]; exact h)] at this
    exact Option.some.inj this
  have h3 : (longL n).take k = longL k := by
    unfold longL
    rw [← List.map_take, List.take_range, Nat.min_eq_left (by omega)]
  rw [h2, h3] at h1
  exact h1
theorem longL_set (n k : Nat) (h : k < n) (y : S35) : (longL n).set k y = longL k ++ y :: (longL n).drop (k + 1) := by
  have h1 := longL_split n k h
  have hl : (longL k).length = k := longL_len k
  rw [h1, List.set_append_right _ _ (by omega), hl, Nat.sub_self, List.set_cons_zero, ← h1]
theorem ofL_app (c : Int) (a b : List S35) : ofL c (a ++ b) = ofL c a ++ ofL c b := by simp [ofL]
theorem ofL_cons (c : Int) (x : S35) (b : List S35) : ofL c (x :: b) = if x.f1 = c then x :: ofL c b else ofL c b := by
  unfold ofL
  by_cases h : x.f1 = c
  · simp [h]
  · simp [h]
theorem comm_app : ∀ (p : List S35) (x y : S35) (r s : List S35), ¬ same6 x y → comm (p ++ x :: r) (p ++ y :: s) = p.length
  | [], x, y, r, s, h => by
    show comm (x :: r) (y :: s) = 0
    unfold comm
    rw [if_neg h]
  | z :: p, x, y, r, s, h => by
    have ih := comm_app p x y r s h
    show comm (z :: (p ++ x :: r)) (z :: (p ++ y :: s)) = _
    unfold comm
    rw [if_pos ⟨rfl, rfl, rfl, rfl, rfl, rfl⟩, ih, List.length_cons]
theorem comm_self : ∀ p : List S35, comm p p = p.length
  | [] => rfl
  | z :: p => by
    unfold comm
    rw [if_pos ⟨rfl, rfl, rfl, rfl, rfl, rfl⟩, comm_self p, List.length_cons]
theorem of_k (n k : Nat) : (ofL (1 + (k : Int) % 2) (longL n)).length = (n + 1 - k % 2) / 2 := by
  have e : (1 + (k : Int) % 2) = 1 + ((k % 2 : Nat) : Int) := by omega
  rw [e]; exact ofL_count (k % 2) (by omega) n
/-- Where the two rows part, .. -/
theorem part_here (n k : Nat) (h : k < n) (v : Int) (hv : v ≠ ((k : Int) * 7)) : partI (ofL (1 + (k : Int) % 2) (longL n)) (ofL (1 + (k : Int) % 2) ((longL n).set k (chA (obL k) v))) = ((k / 2 : Nat) : Int) := by
  have hc : (ofL (1 + (k : Int) % 2) (longL k)).length = k / 2 := by
    rw [of_k]; omega
  rw [longL_set n k h]
  conv => lhs; arg 1; rw [longL_split n k h]
  rw [ofL_app, ofL_app, ofL_cons, ofL_cons, if_pos (by simp only [obL]), if_pos (by simp only [chA, obL])]
  have hn : ¬ same6 (obL k) (chA (obL k) v) := fun hs => hv (by have := hs.2.2.2.2.1; simp only [obL, chA] at this; exact this.symm)
  have hcm := comm_app (ofL (1 + (k : Int) % 2) (longL k)) (obL k) (chA (obL k) v) (ofL (1 + (k : Int) % 2) ((longL n).drop (k + 1))) (ofL (1 + (k : Int) % 2) ((longL n).drop (k + 1))) hn
  unfold partI
  rw [hcm, if_neg (fun hx => by have := hx.1; rw [List.length_append, List.length_cons] at this; omega), hc]
/-- .. and those of the other cell. -/
theorem part_other (n k : Nat) (h : k < n) (v : Int) (c : Int) (hc : c ≠ (1 + (k : Int) % 2)) : partI (ofL c (longL n)) (ofL c ((longL n).set k (chA (obL k) v))) = -1 := by
  have e : ofL c ((longL n).set k (chA (obL k) v)) = ofL c (longL n) := by
    rw [longL_set n k h]
    conv => rhs; rw [longL_split n k h]
    rw [ofL_app, ofL_app, ofL_cons, ofL_cons, if_neg (by simp only [chA, obL]; omega), if_neg (by simp only [obL]; omega)]
  rw [e]
  unfold partI
  rw [comm_self, if_pos ⟨rfl, rfl⟩]
theorem of_here (n k : Nat) (h : k < n) : (ofL (1 + (k : Int) % 2) (longL n))[k / 2]? = some (obL k) := by
  have hc : (ofL (1 + (k : Int) % 2) (longL k)).length = k / 2 := by
    rw [of_k]; omega
  rw [longL_split n k h, ofL_app, ofL_cons, if_pos (by simp only [obL]), List.getElem?_append_right (by omega), hc, Nat.sub_self]
  rfl
theorem of_many (n k : Nat) : n / 2 ≤ (ofL (1 + (k : Int) % 2) (longL n)).length := by
  rw [of_k]; omega
end Go.Proofs.YtohighedgdlflaaGreatDoor

/- A region that draws its order and only reads, within a round of a loop over a function: one walk of the lexical order serves every order. -/
namespace Go.Proofs.YtohighedgdlflaaGreatDoor
open Go
section
variable {F : Fence} {n : Nat} {P : Program} {ops : Array Oper} {md : Region.Mode} {C : World → Prop}
end
end Go.Proofs.YtohighedgdlflaaGreatDoor
