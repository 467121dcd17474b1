/- The law TraceLong of package trace answers true, for every two numbers. -/
import Derived.Test.YtohighedgdlflaaGreatDoorLML13
import Derived.Test.YtohighedgdlflaaGreatDoorLPRx4
import Derived.Test.YtohighedgdlflaaGreatDoorLML4
import Derived.Test.YtohighedgdlflaaGreatDoorLML5
import Derived.Test.YtohighedgdlflaaGreatDoorLML3
/- trace.Digest: the sum of the rows of a cell's observations that may be. -/
namespace Go.Proofs.YtohighedgdlflaaGreatDoor
open Go.RowKit Go.Shelf Go.Proofs.YtohighedgdlflaaGreatDoorW.PrintWords Go.Proofs.YtohighedgdlflaaGreatDoor.PR
set_option linter.unusedVariables false
set_option linter.unusedSimpArgs false
attribute [local go_sem] Oper.semAt_some
/-- What trace.Of has answered: it lies in the blocks from s up to hi. -/
structure SeqIs (W : World) (s hi : Nat) (cell : Int) (l : List S35) : Prop where
  lt : s + 1 < hi
  le : hi ≤ W.heap.size
  cellc : W.cell? ⟨s, 0, none⟩ = some (.int .i64 cell)
  row : ∃ (A : Option Addr) (g c : Nat), W.cell? ⟨s + 1, 0, none⟩ = some (.slice A l.length c) ∧ (0 < l.length → A = some ⟨g, 0, none⟩) ∧ s ≤ g ∧ g < hi ∧ ∀ j x, l[j]? = some x → Six W g j x
def seqV (s : Nat) : Value := .func (.func 62) #[] #[.pointer (some ⟨s + 1, 0, none⟩), .pointer (some ⟨s, 0, none⟩)]
theorem SeqIs.keep {W W' : World} {s hi : Nat} {cell : Int} {l : List S35} (h : SeqIs W s hi cell l) (hk : Span s hi W W') : SeqIs W' s hi cell l := by
  obtain ⟨lt, le, hc, A, g, c, hr, hA, hsg, hg, hsix⟩ := h
  have hs := hk.1
  refine ⟨lt, by omega, hk.cell (Nat.le_refl _) (by show s < _; omega) hc, A, g, c, hk.cell (by show s ≤ s + 1; omega) lt hr, hA, hsg, hg, fun j x hx => ?_⟩
  obtain ⟨s0, s1, s2, s3, s4, s5⟩ := hsix j x hx
  exact ⟨hk.cell hsg hg s0, hk.cell hsg hg s1, hk.cell hsg hg s2, hk.cell hsg hg s3, hk.cell hsg hg s4, hk.cell hsg hg s5⟩
theorem SeqIs.below {W W' : World} {s hi : Nat} {cell : Int} {l : List S35} (h : SeqIs W s hi cell l) (hb : Below W.heap.size W W') : SeqIs W' s hi cell l := h.keep (Span.of_below' hb h.le)
/-- trace.Of (24). -/
theorem of_seq (cell : Int) (l : List S35) (A : Option Addr) (c : Nat) (w : World) (hR : Kd.C k35 w A l.length l) (hc : l.length ≤ c) (hl : l.length ≤ 1000000) :
    Calls Tryz.prog 24 #[.int .i64 cell, .slice A l.length c] w fun e w' => e = .returned (seqV w.heap.size) ∧ SeqIs w' w.heap.size w'.heap.size cell l ∧ Below w.heap.size w w' := by
  refine (of_ok cell l A c w hR hc hl).mono ?_
  rintro e w1 ⟨v, rfl, h0, h1, hr, hb⟩
  obtain ⟨A3, c3, rfl, hc3, hC⟩ := Kd.R_reads hr
  have b0 := World.block_lt_of_cell? w1 _ h0
  have b1 := World.block_lt_of_cell? w1 _ h1
  refine ⟨rfl, ⟨b1, Nat.le_refl _, h0, ?_⟩, hb⟩
  by_cases hp : 0 < l.length
  · obtain ⟨g, c4, he, hg0, hg1, _⟩ := Kd.R_form hr hp
    injection he with he1 _ he3
    subst he1
    exact ⟨_, g, c3, h1, fun _ => rfl, by omega, hg1, six_of (A := none) (c := 0) hC⟩
  · have hx : l = [] := List.eq_nil_of_length_eq_zero (by omega)
    subst hx
    exact ⟨A3, w.heap.size, c3, h1, fun h => absurd h (by simp), Nat.le_refl _, b0, fun j x h => by simp at h⟩
/-- A range over it. -/
theorem SeqIs.stops (p : S35 → Prop) (F : Fence) (n : Nat) (h62 : F.fn 62) (hro : F.round = none) (hn : 1 ≤ n) {s hi : Nat} {cell : Int} {l : List S35} {W : World} (hp : ∀ x ∈ l, p x) (hl : l.length ≤ 1000000) (h : SeqIs W s hi cell l) :
    SeqStopsK F n Tryz.prog 62 #[.pointer (some ⟨s + 1, 0, none⟩), .pointer (some ⟨s, 0, none⟩)] (fun x : FS p => #[ob6 x.1]) (Span s hi) (fun ys => ys.map (·.1) = ofL cell l) (fun pre => pre.map (·.1) <+: ofL cell l) l.length W := by
  obtain ⟨lt, le, hc, A, g, c, hr, hA, hsg, hg, hsix⟩ := h
  exact of1_stopsF s p F n h62 hro hn (s + 1) s hi g c A cell l hp hl hA hg (by omega) lt hsg (Nat.le_refl _) W le hr hc hsix
theorem spanK_t {lo hi : Nat} {A B C : World} (h : Span lo hi A B) (k : Span lo hi B C) : Span lo hi A C := h.trans k
theorem spanK_b {lo hi n : Nat} (hn : hi ≤ n) : ∀ (W : World) (l : Nat) (o o' : Obj), n ≤ l → W.heap[l]? = some o → o.isCells = false → o.isWalk = false → Span lo hi W (W.putObj l o') := fun W l o o' hl _ _ _ => Span.put (.inl (by omega)) o'
/-- A row's own append in a box, where nothing was made ahead; the box may lie below the row's base. -/
theorem boxed_appended1 {W w1 : World} {n₀ B : Nat} {t e : TypeId} {size : Nat} {v v' : Value} {k m : Nat} {xs ys : List Value}
    (hv : Boxed W B t v) (hte : t ≠ e) (hrow : W.ownsRow n₀ e size v k xs) (hn₀ : n₀ ≤ W.heap.size)
    (hown' : w1.ownsRow n₀ e size v' m ys) (hgrow : W.grownBy w1 v.ownBlock) :
    Boxed w1 B t v ∧ Boxed (w1.setCell ⟨B, 0, none⟩ v') B t v' ∧ (w1.setCell ⟨B, 0, none⟩ v').ownsRow n₀ e size v' m ys ∧ KeepsOthers W (w1.setCell ⟨B, 0, none⟩ v') ∧ Below n₀ W w1 := by
  have hv1 : Boxed w1 B t v := hv.kept hgrow (hv.not_row hte hrow)
  refine ⟨hv1, hv1.set v', hown'.kept (grownBy_setCell' w1 B v') (.inr (hv1.not_row hte hown').symm), ?_, ?_⟩
  · refine (KeepsOthers.of_grownBy hgrow fun j o ej hj => ?_).trans (KeepsOthers.setCell _ _ _)
    rcases hrow.2 with ⟨rfl, _⟩ | ⟨g, cap, cur, rfl, _, hgb, _⟩
    · simp [Value.ownBlock] at ej
    · obtain rfl : g = j := by simpa [Value.ownBlock] using ej
      rw [hgb] at hj; cases hj; rfl
  · refine (Below.refl n₀ W).grown hgrow (by omega) fun j ej => ?_
    rcases hrow.2 with ⟨rfl, _⟩ | ⟨g, cap, cur, rfl, hb, _, _⟩
    · simp [Value.ownBlock] at ej
    · obtain rfl : g = j := by simpa [Value.ownBlock] using ej
      exact hb
theorem Span.setBox {lo hi : Nat} {W : World} {B : Nat} (hB : B < lo ∨ hi ≤ B) (hh : hi ≤ W.heap.size) (v : Value) : Span lo hi W (W.setCell ⟨B, 0, none⟩ v) :=
  ⟨(grownBy_setCell' W B v).size, fun k h1 h2 => (grownBy_setCell' W B v).block k (by omega) (fun e => by cases e; omega)⟩
theorem keepsFrom_below {B : Nat} {W W' : World} (h : Below W.heap.size W W') : KeepsFrom B W W' :=
  ⟨h.size, fun k o _ h0 _ => (h.block k (heap_lt h0)).trans h0⟩
theorem boxed_below {W W' : World} {B : Nat} {t : TypeId} {v : Value} (h : Boxed W B t v) (hb : Below W.heap.size W W') : Boxed W' B t v := (hb.block _ h.lt).trans h
theorem box6_below {W W' : World} {B : Nat} {x : S35} (h : Box6 W B x) (hb : Below W.heap.size W W') : Box6 W' B x := (hb.block _ (heap_lt h)).trans h
theorem own_below' {W W' : World} {base : Nat} {e : TypeId} {size n : Nat} {v : Value} {xs : List Value} (h : W.ownsRow base e size v n xs) (hb : Below W.heap.size W W') : W'.ownsRow base e size v n xs := own_move h (fun k hk => hb.block k (own_lt h k hk))
theorem ownFrom_size {β : Type} (B N : Nat) : OwnFrom B (fun (_ : β) (W : World) => N ≤ W.heap.size) := fun _ _ _ _ hs hg _ => Nat.le_trans hs hg.size
theorem nums_cells {W : World} {ad : Addr} {n : Nat} {xs : List Int} (h : ReadsInt W .u8 (some ad) n xs) : ∀ j u, (nums .u8 xs)[j]? = some u → W.cell? (ad.add j) = some u := by
  intro j u hu
  have hj : j < xs.length := by
    rcases Nat.lt_or_ge j xs.length with h' | h'
    · exact h'
    · rw [List.getElem?_eq_none (by simpa [nums] using h')] at hu; simp at hu
  obtain ⟨ad', e, hc⟩ := h.2.2 (by have := h.1; omega)
  obtain rfl := Option.some.inj e
  rw [hc j (by have := h.1; omega)]
  simp only [nums, List.getElem?_map, List.getElem?_eq_getElem hj, Option.map_some, Option.some.injEq] at hu
  rw [List.getD_eq_getElem?_getD, List.getElem?_eq_getElem hj, ← hu]
  rfl
theorem nums_one (xs : List Int) : ∀ u ∈ nums .u8 xs, u.oneCell' = true := by
  intro u hu
  simp only [nums, List.mem_map] at hu
  obtain ⟨x, _, rfl⟩ := hu
  rfl
theorem nums_append (xs ys : List Int) : nums .u8 (xs ++ ys) = nums .u8 xs ++ nums .u8 ys := by simp [nums]
theorem digB_snoc (l : List S35) (x : S35) : digB (l ++ [x]) = if mayB x = true then digB l ++ rowB x else digB l := by
  unfold digB
  rw [List.filter_append]
  by_cases hc : mayB x = true
  · simp [hc]
  · simp [hc]
set_option maxRecDepth 100000 in
set_option maxHeartbeats 4000000 in
theorem digest_ok (cell : Int) (l : List S35) (A : Option Addr) (c : Nat) (w : World) (hT : WTab w) (hR : Kd.C k35 w A l.length l) (hc : l.length ≤ c) (hl : l.length ≤ 1000000) (hF : ∀ o ∈ l, Fits o) :
    Calls Tryz.prog 22 #[.int .i64 cell, .slice A l.length c] w fun e w' => e = .returned (.int .u32 (digI cell l)) ∧ Below w.heap.size w w' := by
  have HT := Lib.hid hT
  have HR := Lib.hid hR
  have HF := Lib.hid hF
  clear hT hR hF
  refine (callsIn_wide (n := 8)).1 ?_
  refine callsIn_of_wp_marks Tryz.func22 rfl trivial ?_ rfl
  simp only [Tryz.ntmps22, List.size_toArray, List.length_cons, List.length_nil, Nat.reduceAdd, Nat.reduceSub, Array.replicate_succ, Array.replicate_zero, List.push_toArray, List.append_toArray, List.nil_append, List.cons_append]
  gi_wp2
  refine ⟨trivial, (callsIn_wide.2 (of_seq cell l A c _ (Kd.C_alloc HR.out _) hc hl)).mono ?_⟩
  rintro e w1 ⟨rfl, hs1, hb1⟩
  have hsz : (w.alloc (.cells #[.slice none 0 0] 37)).heap.size = w.heap.size + 1 := by simp
  have b1 : Boxed w1 w.heap.size 37 (.slice none 0 0) := boxed_below (Boxed.new w 37 (.slice none 0 0)) hb1
  have hB1 : Below w.heap.size w w1 := ((Below.refl _ w).alloc (Nat.le_refl _) _).trans (hb1.mono (by rw [hsz]; omega))
  have hs1sz := hb1.size
  rw [hsz] at hs1 hs1sz ⊢
  have HT1 := Lib.hid (HT.out.below hB1)
  unfold seqV
  gi_wp2
  refine wpIn_rangeFunc_ownH rfl (by omega) (gf := 62) rfl trivial (enters_of Tryz.func62 (by kernel_rfl) rfl) (hs1.stops Fits Fence.wide 7 trivial rfl (by omega) HF.out hl) spanK_t (spanK_b (Nat.le_refl _)) (Below.refl _ _) (fun _ => rfl)
    (fun pre W => (∃ v, Boxed W w.heap.size 37 v ∧ W.ownsRow w1.heap.size 5 1 v (digB (pre.map (·.1))).length (nums .u8 (digB (pre.map (·.1)))) ∧ pre.length ≤ 1000000) ∧ Below w.heap.size w W ∧ w1.heap.size ≤ W.heap.size)
    (fun _ _ _ => False)
    (OwnFrom.and (Own.from (holdsRow_own w1.heap.size w.heap.size 37 5 1 (fun pre : List (FS Fits) => (digB (pre.map (·.1))).length) (fun pre => nums .u8 (digB (pre.map (·.1)))) (fun pre _ => pre.length ≤ 1000000)) _) (OwnFrom.and (ownFrom_below (Nat.le_refl _) (by omega)) (ownFrom_size _ _)))
    (fun _ _ _ _ _ hs _ _ => hs)
    ⟨⟨_, b1, World.ownsRow_nil _ _ _ _, Nat.zero_le _⟩, hB1, Nat.le_refl _⟩
    (fun x a' W => ∃ Bx, w.heap.size < Bx ∧ Box6 W Bx x.1 ∧ a' = { tmps := #[.int .i64 cell, .slice A l.length c, undef, undef, .int .u32 0, .pointer (some ⟨w.heap.size, 0, none⟩), .pointer (some ⟨Bx, 0, none⟩), undef, undef, undef, undef, .int .i64 cell, .slice A l.length c, seqV (w.heap.size + 1), ob6 x.1, undef, undef, undef, undef, undef, undef, undef, undef, undef, undef, undef, undef, undef, undef, undef, undef, undef, undef, undef, undef], defers := [] })
    (fun x a' _ X Y row hs hg hr => by obtain ⟨Bx, h1, h2, h3⟩ := hs; exact ⟨Bx, h1, h2.kept hg (fun r e => (hr r e).2), h3⟩)
    ?assign ?body ?done ?stop
  case assign =>
    rintro y pre x W K hi hK
    obtain ⟨⟨v, bv, hv, hm⟩, hB, hsz1⟩ := hi
    unfold ob6
    gi_wp2
    exact hK _ _ ((KeepsOthers.alloc _ _).from _) ((Span.refl _ _ W).alloc hsz1 _) ⟨⟨v, bv.alloc _, hv.alloc _, hm⟩, hB.alloc hB.size _, by simp; omega⟩ ⟨W.heap.size, bv.lt, heap_alloc_new _ _, rfl⟩
  case body =>
    rintro y pre x a' W hy ⟨r, hr⟩ ⟨⟨v, bv, hv, hm⟩, hB, hsz1⟩ ⟨Bx, hBx, bX, rfl⟩ hlt
    obtain ⟨z0, z1, z2, z3, z4, z5⟩ := bX.cells
    have hsn := Lib.hid (digB_snoc (pre.map (·.1)) x.1)
    have hdl : Hid ((digB (pre.map (·.1))).length ≤ 22000000) := by
      have := digB_len (pre.map (fun x : FS Fits => x.1))
      rw [List.length_map] at this
      show _ ≤ 22000000; omega
    have HBX := Lib.hid bX
    have HBV := Lib.hid bv
    have HV := Lib.hid hv
    have HBW := Lib.hid hB
    have hle : w.heap.size ≤ W.heap.size := hB.size
    clear bX bv hv hB hr
    unfold ob6 seqV
    gi_wp2
    refine ⟨trivial, (CallsIn.inRound y (callsIn_wide.2 (may_ok x.1 W))).mono ?_⟩
    rintro e w2 ⟨rfl, hb2⟩
    have HB2 := Lib.hid hb2
    clear hb2
    cases hmb : mayB x.1 with
    | false =>
      have HM := Lib.hid hmb
      clear hmb z0 z1 z2 z3 z4 z5
      gi_wp2
      refine ⟨keepsFrom_below HB2.out, Span.of_below' HB2.out hsz1, ⟨v, boxed_below HBV.out HB2.out, ?_, by rw [List.length_append, List.length_singleton]; omega⟩, HBW.out.trans (HB2.out.mono hle), Nat.le_trans hsz1 HB2.out.size⟩
      rw [List.map_append]
      show w2.ownsRow w1.heap.size 5 1 v (digB (pre.map (·.1) ++ [x.1])).length (nums .u8 (digB (pre.map (·.1) ++ [x.1])))
      rw [hsn.out, if_neg (by rw [HM.out]; decide)]
      exact own_below' HV.out HB2.out
    | true =>
      have HM := Lib.hid hmb
      clear hmb z0 z1 z2 z3 z4 z5
      gi_wp2
      refine ⟨trivial, (CallsIn.inRound y (callsIn_wide.2 (newWriter_ok 22 W.heap.size W w2 (by omega) (by omega) HB2.out HB2.out.size))).mono ?_⟩
      rintro e w3 ⟨g, rfl, hW3, hg3, hb3, _⟩
      obtain ⟨y0, y1, y2, y3, y4, y5⟩ := (box6_below HBX.out hb3).cells
      have HW3 := Lib.hid hW3
      have HB3 := Lib.hid hb3
      clear hW3 hb3 HB2 hg3
      gi_wp2
      refine ⟨trivial, (CallsIn.inRound y (callsIn_wide.2 (row_ok W.heap.size g 22 x.1 _ [] W w3 HW3.out (by omega) (by simp) x.2 HB3.out))).mono ?_⟩
      rintro e w4 ⟨rfl, v4, hW4, _, hb4⟩
      rw [List.nil_append] at hW4
      have HW4 := Lib.hid hW4
      have HB4 := Lib.hid hb4
      clear hW4 hb4 HB3 HW3 y0 y1 y2 y3 y4 y5
      gi_wp2
      refine ⟨trivial, (CallsIn.inRound y (callsIn_wide.2 (done_ok W.heap.size g 22 v4 (rowB x.1) W w4 HW4.out (by omega) (by rw [rowB_length]; omega) HB4.out HB4.out.size))).mono ?_⟩
      rintro e w5 ⟨v5, rfl, hr5, hb5, _⟩
      obtain ⟨g5, c5, rfl, hg50, hg51, _⟩ := Kd.R_form hr5 (by rw [rowB_length]; omega)
      obtain ⟨A5, c5', he5, _, hC5⟩ := Kd.R_reads hr5
      injection he5 with he5
      subst he5
      have HC5 := Lib.hid (C_reads hC5)
      have HB5 := Lib.hid hb5
      have hrl := rowB_length x.1
      have bv5 := boxed_below HBV.out hb5
      have hv5 := own_below' HV.out hb5
      have cv := bv5.cell
      have fv := bv5.frozen
      have hle5 := hb5.size
      rw [hrl] at HC5 ⊢
      clear hr5 hb5 hC5 HB4 HW4 hg50 hg51 hrl
      obtain ⟨i0, hi, hz0, hz1, hz2⟩ := info_parts info5
      gi_wp2_with (gi_at_builtin; refine wpListIn_append_own _ rfl _ _ 37 rfl w1.heap.size 5 i0 _ 1 1 Tryz.underlying37 hi hz0 hz1 hz2 rfl (by decide) _ _ _ rfl hv5 ⟨g5, 0, none⟩ 22 _ (nums .u8 (rowB x.1)) rfl (by simp [nums, rowB_length]) (nums_cells HC5.out) (nums_one _) (by have := hdl.out; simp only [maxLen]; omega) (by have := hdl.out; omega) (by omega) ?_; intro v' w6 hown' hgrow _; obtain ⟨g', cap', rfl⟩ := ownsRow_succ hown'; obtain ⟨hv1, hv2, hr2, hk2, hb2⟩ := boxed_appended1 bv5 (by decide) hv5 (by omega) hown' hgrow; have hc1 := hv1.cell; have hf1 := hv1.frozen)
      refine ⟨(keepsFrom_below HB5.out).trans (hk2.from _), (Span.of_below' HB5.out hsz1).trans ((Span.of_below' hb2 (Nat.le_refl _)).trans (Span.setBox (.inl (by omega)) (by have := hb2.size; omega) _)), ⟨_, hv2, ?_, by rw [List.length_append, List.length_singleton]; omega⟩, ((HBW.out.trans (HB5.out.mono hle)).trans (hb2.mono (by omega))).setCell (p := ⟨w.heap.size, 0, none⟩) (Nat.le_refl _) _, ?_⟩
      · rw [List.map_append]
        show (w6.setCell _ _).ownsRow w1.heap.size 5 1 _ (digB (pre.map (·.1) ++ [x.1])).length (nums .u8 (digB (pre.map (·.1) ++ [x.1])))
        rw [hsn.out, if_pos HM.out, nums_append, List.length_append, rowB_length]
        exact hr2
      · have h1 := hb2.size
        have h2 := (grownBy_setCell' w6 w.heap.size (.slice (some ⟨g', 0, none⟩) ((digB (pre.map (·.1))).length + 22) cap')).size
        exact Nat.le_trans (by omega) h2
  case done =>
    rintro D ys W hD hys ⟨⟨v, bv, hv, hm⟩, hB, hsz1⟩ hK
    obtain ⟨A5, c5, rfl⟩ := own_slice hv
    have cv := bv.cell
    have hdd : digB (ys.map (·.1)) = digB (ofL cell l) := by rw [hys]
    rw [hdd] at hv cv
    gi_wp2
    refine ⟨trivial, (callsIn_wide.2 (sum_ok (digB (ofL cell l)) A5 c5 _ _ _ (HT.out.below (hB.alloc hB.size _)) (by simp) ?_ (digB_bytes _))).mono ?_⟩
    · obtain ⟨A', c', e', _, hC⟩ := Kd.R_reads (Kd.R_of_own hv (ok := fun _ => True) (fun _ _ => trivial))
      injection e' with e'
      subst e'
      exact Kd.C_alloc hC _
    rintro e w7 ⟨rfl, rfl⟩
    gi_wp2
    refine ⟨by simp, .inl ⟨_, _, rfl, run_takeDeferred ((KeepsOthers.alloc W _).same D _ hK rfl), ?_⟩⟩
    refine ⟨_, results_tmp rfl _ _ _, rfl, (hB.alloc hB.size _).trans (belowK_b (w := w) (Nat.le_refl _) _ D _ _ (by omega) ((KeepsOthers.alloc W _).same D _ hK rfl) rfl rfl)⟩
  case stop =>
    rintro D c pre W _ _ h _
    exact h.elim
end Go.Proofs.YtohighedgdlflaaGreatDoor

/- trace.Part answers where two rows of observations of a cell part. -/
namespace Go.Proofs.YtohighedgdlflaaGreatDoor
open Go.RowKit Go.Proofs.YtohighedgdlflaaGreatDoorW.PrintWords Go.Proofs.YtohighedgdlflaaGreatDoor.PR
set_option linter.unusedVariables false
set_option linter.unusedSimpArgs false
/-- How long two rows are the same. -/
def comm : List S35 → List S35 → Nat
  | x :: xs, y :: ys => if x.f0 = y.f0 ∧ x.f1 = y.f1 ∧ x.f2 = y.f2 ∧ x.f3 = y.f3 ∧ x.f4 = y.f4 ∧ x.f5 = y.f5 then comm xs ys + 1 else 0
  | _, _ => 0
def partI (xs ys : List S35) : Int := if comm xs ys = xs.length ∧ comm xs ys = ys.length then -1 else (comm xs ys : Int)
/-- What Of has answered, collected at once. -/
theorem of_collect (cell : Int) (l : List S35) (A : Option Addr) (c : Nat) (w : World) (hR : Kd.C k35 w A l.length l) (hc : l.length ≤ c) (hl : l.length ≤ 1000000) :
    Calls Tryz.prog 24 #[.int .i64 cell, .slice A l.length c] w fun e w' => ∃ lb, e = .returned (.func (.func 62) #[] lb) ∧ Below w.heap.size w w' ∧
      Calls Tryz.prog 60 #[.func (.func 62) #[] lb] w' fun e W' => ∃ v, e = .returned v ∧ W'.ownsRow w'.heap.size 35 6 v (ofL cell l).length ((ofL cell l).flatMap c6) ∧ Below w'.heap.size w' W' := by
  refine (of_ok cell l A c w hR hc hl).mono ?_
  rintro e w1 ⟨v, rfl, h0, h1, hr, hb⟩
  refine ⟨_, rfl, hb, ?_⟩
  obtain ⟨A3, c3, rfl, hc3, hC⟩ := Kd.R_reads hr
  have b0 := World.block_lt_of_cell? w1 _ h0
  have b1 := World.block_lt_of_cell? w1 _ h1
  by_cases hp : 0 < l.length
  · obtain ⟨g, c4, he, hg0, hg1, _⟩ := Kd.R_form hr hp
    injection he with he1 _ he3
    subst he1
    exact collect_of cell l hl (w.heap.size + 1) w.heap.size g c3 _ w1 (fun _ => rfl) hg1 b1 b0 h1 h0 (six_of (A := none) (c := 0) hC)
  · have hx : l = [] := List.eq_nil_of_length_eq_zero (by omega)
    subst hx
    exact collect_of cell [] hl (w.heap.size + 1) w.heap.size w.heap.size c3 _ w1 (fun h => absurd h (by simp)) b0 b1 b0 h1 h0 (fun j x h => by simp at h)
end Go.Proofs.YtohighedgdlflaaGreatDoor

/- What two rows have in common, and a row of observations of a cell: small laws. -/
namespace Go.Proofs.YtohighedgdlflaaGreatDoor
open Go.RowKit Go.Proofs.YtohighedgdlflaaGreatDoorW.PrintWords Go.Proofs.YtohighedgdlflaaGreatDoor.PR
set_option linter.unusedVariables false
set_option linter.unusedSimpArgs false
theorem ofL_le (cell : Int) (l : List S35) : (ofL cell l).length ≤ l.length := List.length_filter_le _ _
theorem ofL_mem {cell : Int} {l : List S35} {o : S35} (h : o ∈ ofL cell l) : o ∈ l := (List.mem_filter.1 h).1
theorem comm_le : ∀ xs ys : List S35, comm xs ys ≤ xs.length ∧ comm xs ys ≤ ys.length
  | [], ys => by simp [comm]
  | x :: xs, [] => by simp [comm]
  | x :: xs, y :: ys => by
    have ih := comm_le xs ys
    unfold comm
    split
    · simp only [List.length_cons]; omega
    · simp
abbrev same6 (x y : S35) : Prop := x.f0 = y.f0 ∧ x.f1 = y.f1 ∧ x.f2 = y.f2 ∧ x.f3 = y.f3 ∧ x.f4 = y.f4 ∧ x.f5 = y.f5
theorem comm_spec : ∀ (xs ys : List S35) (n : Nat) (x y : S35), n ≤ comm xs ys → xs[n]? = some x → ys[n]? = some y → (n < comm xs ys ↔ same6 x y)
  | [], ys, n, x, y, _, h, _ => by simp at h
  | x0 :: xs, [], n, x, y, _, _, h => by simp at h
  | x0 :: xs, y0 :: ys, 0, x, y, _, hx, hy => by
    simp only [List.getElem?_cons_zero, Option.some.injEq] at hx hy
    subst hx; subst hy
    unfold comm
    by_cases h : same6 x0 y0
    · rw [if_pos h]; exact ⟨fun _ => h, fun _ => by omega⟩
    · rw [if_neg h]; exact ⟨fun h' => absurd h' (by omega), fun h' => absurd h' h⟩
  | x0 :: xs, y0 :: ys, n + 1, x, y, hn, hx, hy => by
    simp only [List.getElem?_cons_succ] at hx hy
    unfold comm at hn ⊢
    by_cases h : same6 x0 y0
    · rw [if_pos h] at hn ⊢
      have ih := comm_spec xs ys n x y (by omega) hx hy
      rw [← ih]; omega
    · rw [if_neg h] at hn
      omega
theorem reps6 (W : World) (base : Nat) (ok : Nat → Prop) (l : List S35) : Reps (k35.M W base ok) 6 l (l.flatMap c6) := by
  have h : ∀ k, k ≤ l.length → Reps (k35.M W base ok) 6 (l.take k) ((l.take k).flatMap c6) := by
    intro k
    induction k with
    | zero => intro _; exact Reps.none _ _
    | succ k ih =>
      intro hk
      rw [List.take_succ_eq_append_getElem (by omega), List.flatMap_append]
      have : [l[k]].flatMap c6 = c6 l[k] := by simp
      rw [this]
      exact Reps.snoc (ih (by omega)) (k35_mkM _ _ _ _) rfl
  have := h l.length (Nat.le_refl _)
  rwa [List.take_length] at this
theorem R_of_own6 {W : World} {base : Nat} {v : Value} {l : List S35} (h : W.ownsRow base 35 6 v l.length (l.flatMap c6)) : Kd.R k35 35 W base (fun _ => True) v l :=
  ⟨fun _ _ => trivial, _, h, reps6 _ _ _ l⟩
end Go.Proofs.YtohighedgdlflaaGreatDoor

/- trace.Part, walked. -/
namespace Go.Proofs.YtohighedgdlflaaGreatDoor
open Go.RowKit Go.Proofs.YtohighedgdlflaaGreatDoorW.PrintWords Go.Proofs.YtohighedgdlflaaGreatDoor.PR
set_option linter.unusedVariables false
set_option linter.unusedSimpArgs false
/-- How two observations compare. -/
theorem eq35_run {p q : S35} (b : Bool) (h : b = true ↔ same6 p q) (d : Nat) (w : World) :
    (Op.equalIn (d + 2) 35 (.agg #[.int .u64 p.f0, .int .i64 p.f1, .int .i64 p.f2, .int .u32 p.f3, .int .u32 p.f4, .int .u32 p.f5]) (.agg #[.int .u64 q.f0, .int .i64 q.f1, .int .i64 q.f2, .int .u32 q.f3, .int .u32 q.f4, .int .u32 q.f5])).run Tryz.prog w = .ok b w := by
  rw [eqA35]
  congr 1
  rw [Bool.eq_iff_iff, h]
  simp [same6, Bool.and_eq_true, beq_iff_eq]
set_option maxRecDepth 100000 in
set_option maxHeartbeats 4000000 in
theorem part_ok (cell : Int) (a b : List S35) (A B : Option Addr) (ca cb : Nat) (w : World) (hA : Kd.C k35 w A a.length a) (hca : a.length ≤ ca) (ha : a.length ≤ 1000000) (hB : Kd.C k35 w B b.length b) (hcb : b.length ≤ cb) (hb : b.length ≤ 1000000) :
    Calls Tryz.prog 23 #[.int .i64 cell, .slice A a.length ca, .slice B b.length cb] w fun e w' => e = .returned (.int .i64 (partI (ofL cell a) (ofL cell b))) ∧ Below w.heap.size w w' := by
  have HA := Lib.hid hA
  have HB := Lib.hid hB
  have hxl := ofL_le cell a
  have hyl := ofL_le cell b
  clear hA hB
  obtain ⟨x, hx⟩ : ∃ x, x = ofL cell a := ⟨_, rfl⟩
  obtain ⟨y, hy⟩ : ∃ y, y = ofL cell b := ⟨_, rfl⟩
  rw [← hx] at hxl ⊢
  rw [← hy] at hyl ⊢
  have Hx := Lib.hid hx
  have Hy := Lib.hid hy
  clear hx hy
  have hxm : x.length ≤ 1000000 := by omega
  have hym : y.length ≤ 1000000 := by omega
  clear hxl hyl
  go_enter Tryz.func23, Tryz.ntmps23
  go_wp2_with fail
  refine (of_collect cell a A ca w HA.out hca ha).mono ?_
  rintro e w1 ⟨lb, rfl, hb1, hcol1⟩
  have HB1 := Lib.hid hb1
  have HCol := Lib.hid hcol1
  clear hb1 hcol1
  go_wp2_with fail
  refine HCol.out.mono ?_
  rintro e w2 ⟨v2, rfl, hv2, hb2⟩
  have HV2 := Lib.hid hv2
  have HB2 := Lib.hid (HB1.out.trans (hb2.mono HB1.out.size))
  clear hv2 hb2 HCol
  go_wp2_with fail
  refine (of_collect cell b B cb w2 (Kd.C_below HB.out HB2.out) hcb hb).mono ?_
  rintro e w3 ⟨lb3, rfl, hb3, hcol3⟩
  have HB3 := Lib.hid (HB2.out.trans (hb3.mono HB2.out.size))
  have HV3 := Lib.hid (own_move HV2.out (fun k hk => hb3.block k (own_lt HV2.out k hk)))
  have HCol := Lib.hid hcol3
  clear hb3 hcol3 HV2
  go_wp2_with fail
  refine HCol.out.mono ?_
  rintro e w4 ⟨v4, rfl, hv4, hb4⟩
  rw [← Hx.out] at HV3
  rw [← Hy.out] at hv4
  have HX := R_of_own6 (own_move HV3.out (fun k hk => hb4.block k (own_lt HV3.out k hk)))
  have HY := R_of_own6 hv4
  obtain ⟨A2, c2, rfl, hc2, hC2⟩ := Kd.R_reads HX
  obtain ⟨A4, c4, rfl, hc4, hC4⟩ := Kd.R_reads HY
  have HX2 := Lib.hid hC2
  have HY2 := Lib.hid hC4
  have HB4 := Lib.hid (HB3.out.trans (hb4.mono HB3.out.size))
  clear HX HY hC2 hC4 hv4 HV3 hb4 HB3 HB2 HB1 HCol HA HB Hx Hy
  go_wp2_with fail
  go_loopw [9] (fun v9 wr => ∃ k : Nat, k ≤ comm x y ∧ v9 = .int .i64 k ∧ Hid (Kd.C k35 wr A2 x.length x) ∧ Hid (Kd.C k35 wr A4 y.length y) ∧ Hid (Below w.heap.size w wr)) (fun i _ => comm x y - (RowKit.intOf i).toNat)
  case atStart => exact ⟨0, by omega, rfl, HX2, HY2, HB4⟩
  case round =>
    clear HX2 HY2 HB4
    obtain ⟨k, hk, rfl, HX, HY, HB⟩ := hrel
    have hle := comm_le x y
    by_cases h1 : k < x.length
    · have c1 : decide ((k : Int) < (x.length : Int)) = true := decide_eq_true (by omega)
      by_cases h2 : k < y.length
      · have c2 : decide ((k : Int) < (y.length : Int)) = true := decide_eq_true (by omega)
        obtain ⟨ad, rfl, a0, a1, a2, a3, a4, a5⟩ := at_T35 HX.out k (by omega) (by omega)
        obtain ⟨bd, rfl, b0, b1, b2, b3, b4, b5⟩ := at_T35 HY.out k (by omega) (by omega)
        obtain ⟨p, hp⟩ : ∃ p, p = rd_T35 x k := ⟨_, rfl⟩
        obtain ⟨q, hq⟩ : ∃ q, q = rd_T35 y k := ⟨_, rfl⟩
        have hp2 : x[k]? = some p := by
          rw [hp]; simp [rd_T35, List.getD_eq_getElem?_getD, List.getElem?_eq_getElem h1]
        have hq2 : y[k]? = some q := by
          rw [hq]; simp [rd_T35, List.getD_eq_getElem?_getD, List.getElem?_eq_getElem h2]
        have Hs := Lib.hid (comm_spec x y k p q hk hp2 hq2)
        rw [← hp] at a0 a1 a2 a3 a4 a5
        rw [← hq] at b0 b1 b2 b3 b4 b5
        simp only [Int.toNat_natCast] at a0 a1 a2 a3 a4 a5 b0 b1 b2 b3 b4 b5
        clear hp hq hp2 hq2
        by_cases hs : same6 p q
        · have hlt := Hs.out.2 hs
          have kq := fun (d : Nat) (w : World) => eq35_run (p := p) (q := q) true (by simp only [true_iff]; exact hs) d w
          clear hs Hs
          go_wp2
          repeat (go_quiet (fail); try go_wp2)
          go_roundw
          case rel => exact ⟨k + 1, by omega, by go_num, Kd.C_drewN HX.out _, Kd.C_drewN HY.out _, pw_below_drewN HB.out _⟩
          case measure => simp [RowKit.intOf]; omega
        · have hge : k = comm x y := by
            have := Hs.out
            have h3 : ¬ k < comm x y := fun h => hs (this.1 h)
            omega
          have kq := fun (d : Nat) (w : World) => eq35_run (p := p) (q := q) false ⟨fun h => (by cases h), fun h => absurd h hs⟩ d w
          have e1 : ((k : Int) == (x.length : Int)) = false := beq_eq_false_iff_ne.mpr (by omega)
          have HP := Lib.hid (show partI x y = (k : Int) by unfold partI; rw [if_neg (fun h => by omega), ← hge])
          clear hge
          clear hs Hs
          go_wp2
          repeat (go_quiet (fail); try go_wp2)
          go_ret
          exact ⟨by rw [HP.out]; rfl, pw_below_drewN HB.out _⟩
      · have c2 : decide ((k : Int) < (y.length : Int)) = false := decide_eq_false (by omega)
        have hge : k = comm x y := by omega
        have e1 : ((k : Int) == (x.length : Int)) = false := beq_eq_false_iff_ne.mpr (by omega)
        have HP := Lib.hid (show partI x y = (k : Int) by unfold partI; rw [if_neg (fun h => by omega), ← hge])
        clear hge
        go_wp2
        repeat (go_quiet (fail); try go_wp2)
        go_ret
        exact ⟨by rw [HP.out]; rfl, pw_below_drewN HB.out _⟩
    · have c1 : decide ((k : Int) < (x.length : Int)) = false := decide_eq_false (by omega)
      have hge : k = comm x y := by omega
      have e1 : ((k : Int) == (x.length : Int)) = true := beq_iff_eq.mpr (by omega)
      by_cases h2 : k = y.length
      · have e2 : ((k : Int) == (y.length : Int)) = true := beq_iff_eq.mpr (by omega)
        have HP := Lib.hid (show partI x y = -1 by unfold partI; rw [if_pos ⟨by omega, by omega⟩])
        clear hge h2
        go_wp2
        repeat (go_quiet (fail); try go_wp2)
        go_ret
        exact ⟨by rw [HP.out]; rfl, pw_below_drewN HB.out _⟩
      · have e2 : ((k : Int) == (y.length : Int)) = false := beq_eq_false_iff_ne.mpr (by omega)
        have HP := Lib.hid (show partI x y = (k : Int) by unfold partI; rw [if_neg (fun h => by omega), ← hge])
        clear hge
        go_wp2
        repeat (go_quiet (fail); try go_wp2)
        go_ret
        exact ⟨by rw [HP.out]; rfl, pw_below_drewN HB.out _⟩
end Go.Proofs.YtohighedgdlflaaGreatDoor

/- What the document's own writers of bytes give: leb, rowB, crc. -/
namespace Go.Proofs.YtohighedgdlflaaGreatDoor
open Go.Shelf Go.RowKit Go.Sort Go.Lib Go.Proofs.YtohighedgdlflaaGreatDoorW.PrintWords Go.Proofs.YtohighedgdlflaaGreatDoor.PR
set_option linter.unusedVariables false
set_option linter.unusedSimpArgs false
theorem put_mod (q : Int) (h0 : 0 ≤ q) : (Int.tmod q 256) % 256 = q % 256 := by
  rw [Int.tmod_eq_emod_of_nonneg h0]; omega
theorem put_div (q : Int) (h0 : 0 ≤ q) (h1 : q < 18446744073709551616) : IntKind.u64.wrap (Int.tdiv q 256) = q / 256 := by
  rw [Int.tdiv_eq_ediv_of_nonneg h0]
  show (q / 256) % 18446744073709551616 = _
  omega
theorem put_l (l : List Int) (x : Int) (n e : Nat) (h0 : 0 ≤ x) (h1 : x < 18446744073709551616) (hn : n ≤ 8) (hl : l.length < 100000000000000) : ∀ j : Nat, j ≤ n → cloisterref22_put.l0 (j + e + 1) (l ++ leb (n - j) x) (x / 2 ^ (8 * (n - j))) (n : Int) ((n - j : Nat) : Int) = some (l ++ leb n x)
  | 0, _ => by
    rw [cloisterref22_put.l0, Nat.sub_zero, if_neg (by omega)]
  | j + 1, hj => by
    have ih := put_l l x n e h0 h1 hn hl j (by omega)
    obtain ⟨i, hi⟩ : ∃ i, i = n - (j + 1) := ⟨_, rfl⟩
    have e8 : n - j = i + 1 := by omega
    rw [e8] at ih
    have hin : i < n := by omega
    rw [← hi, show j + 1 + e + 1 = (j + e + 1) + 1 by omega, cloisterref22_put.l0, if_pos (by omega), if_pos (by rw [List.length_append, leb_length]; omega)]
    have hp : (0 : Int) < 2 ^ (8 * i) := Int.pow_pos (by decide)
    have hq0 : 0 ≤ x / 2 ^ (8 * i) := Int.ediv_nonneg h0 (Int.le_of_lt hp)
    have hq1 : x / 2 ^ (8 * i) < 18446744073709551616 := Int.lt_of_le_of_lt (Int.ediv_le_self _ h0) h1
    have hd : x / 2 ^ (8 * i) / 256 = x / 2 ^ (8 * (i + 1)) := by
      rw [Int.ediv_ediv_of_nonneg (Int.le_of_lt hp), show 8 * (i + 1) = 8 * i + 8 by omega, Int.pow_add]
      rfl
    rw [put_mod _ hq0, put_div _ hq0 hq1, hd, w64_succ i (by omega), List.append_assoc, ← leb_succ]
    exact ih
theorem put_f (l : List Int) (x : Int) (n k : Nat) (h0 : 0 ≤ x) (h1 : x < 18446744073709551616) (hn : n ≤ 8) (hk : 9 ≤ k) (hl : l.length < 100000000000000) : cloisterref22_put.f k l x (n : Int) = some (l ++ leb n x) := by
  have h := put_l l x n (k - n - 1) h0 h1 hn hl n (Nat.le_refl _)
  rw [Nat.sub_self, show n + (k - n - 1) + 1 = k by omega] at h
  have e1 : x / 2 ^ (8 * 0) = x := by simp
  have e2 : leb 0 x = [] := rfl
  rw [e1, e2, List.append_nil] at h
  exact h
theorem row_f (k : Nat) (hk : 9 ≤ k) {t cl q p a b : Nat} (hG : GoodN t cl q p a b) : cloisterref22_Row.f k (t : Int) (cl : Int) (q : Int) (p : Int) (a : Int) (b : Int) = some (rowB (obN t cl q p a b)) := by
  have g1 := hG.t63; have g2 := hG.cl8; have g3 := hG.q7; have g4 := hG.p32; have g5 := hG.a32; have g6 := hG.b32
  have wr : ∀ n : Nat, n < 18446744073709551616 → IntKind.u64.wrap (n : Int) = (n : Int) := fun n h => by
    show (n : Int) % 18446744073709551616 = _
    omega
  have c1 : ((cl : Int)) % 256 = (cl : Int) := by omega
  have c2 : ((q : Int)) % 256 = (q : Int) := by omega
  unfold cloisterref22_Row.f
  have p8 : ∀ l : List Int, ∀ x : Int, 0 ≤ x → x < 18446744073709551616 → l.length < 100000000000000 → cloisterref22_put.f k l x 8 = some (l ++ leb 8 x) := fun l x a b c => put_f l x 8 k a b (by decide) hk c
  have p1 : ∀ l : List Int, ∀ x : Int, 0 ≤ x → x < 18446744073709551616 → l.length < 100000000000000 → cloisterref22_put.f k l x 1 = some (l ++ leb 1 x) := fun l x a b c => put_f l x 1 k a b (by decide) hk c
  have p4 : ∀ l : List Int, ∀ x : Int, 0 ≤ x → x < 18446744073709551616 → l.length < 100000000000000 → cloisterref22_put.f k l x 4 = some (l ++ leb 4 x) := fun l x a b c => put_f l x 4 k a b (by decide) hk c
  rw [p8 [] (t : Int) (by omega) (by omega) (by simp), Option.bind_some, wr cl (by omega), p1 _ (cl : Int) (by omega) (by omega) (by simp [leb_length]), Option.bind_some, wr q (by omega), p1 _ (q : Int) (by omega) (by omega) (by simp [leb_length]), Option.bind_some, wr p (by omega), p4 _ (p : Int) (by omega) (by omega) (by simp [leb_length]), Option.bind_some, wr a (by omega), p4 _ (a : Int) (by omega) (by omega) (by simp [leb_length]), Option.bind_some, wr b (by omega), p4 _ (b : Int) (by omega) (by omega) (by simp [leb_length])]
  unfold rowB obN
  simp only [c1, c2]
  rfl
theorem sum_step (k : Nat) (xs : List Int) (s : Nat) (i : Int) (x5 : Nat) (hs : s < 4294967296) (h5 : x5 < 8) : cloisterref22_Sum.l1 (k + 1) xs (s : Int) i (x5 : Int) = cloisterref22_Sum.l1 k xs ((Crc.bitN s : Nat) : Int) i ((x5 + 1 : Nat) : Int) := by
  have hm : Int.tmod (s : Int) 2 = ((s % 2 : Nat) : Int) := by rw [Int.tmod_eq_emod_of_nonneg (Int.natCast_nonneg s)]; omega
  have hd : (Int.tdiv (s : Int) 2) % 4294967296 = ((s / 2 : Nat) : Int) := by
    rw [Int.tdiv_eq_ediv_of_nonneg (Int.natCast_nonneg s)]; omega
  rw [cloisterref22_Sum.l1, if_pos (by omega), hm, hd, w64_succ x5 (by omega)]
  unfold Crc.bitN
  by_cases h : s % 2 = 1
  · rw [if_pos (by omega), if_pos h]
    have := Crc.xor_u32 (s / 2) 3988292384 (by show s / 2 < 4294967296; omega) (by decide)
    rw [show ((3988292384 : Nat) : Int) = 3988292384 from rfl] at this
    rw [this]
  · rw [if_neg (by omega), if_neg h, Nat.xor_zero]
theorem bl (s : Nat) (h : s < 4294967296) : Crc.bitN s < 4294967296 := Crc.bitN_lt h
theorem sum_byte (k : Nat) (xs : List Int) (s : Nat) (i : Nat) (hs : s < 4294967296) (hi : i < 1000000000000) : cloisterref22_Sum.l1 (k + 9) xs (s : Int) (i : Int) 0 = cloisterref22_Sum.l0 k xs ((Crc.bitN (Crc.bitN (Crc.bitN (Crc.bitN (Crc.bitN (Crc.bitN (Crc.bitN (Crc.bitN s))))))) : Nat) : Int) ((i + 1 : Nat) : Int) := by
  have h1 := bl _ hs; have h2 := bl _ h1; have h3 := bl _ h2; have h4 := bl _ h3; have h5 := bl _ h4; have h6 := bl _ h5; have h7 := bl _ h6
  have e0 := sum_step (k + 8) xs s i 0 hs (by decide)
  rw [show ((0 : Nat) : Int) = 0 from rfl] at e0
  rw [show k + 9 = k + 8 + 1 from rfl, e0, sum_step (k + 7) xs _ i _ h1 (by decide), sum_step (k + 6) xs _ i _ h2 (by decide), sum_step (k + 5) xs _ i _ h3 (by decide), sum_step (k + 4) xs _ i _ h4 (by decide), sum_step (k + 3) xs _ i _ h5 (by decide), sum_step (k + 2) xs _ i _ h6 (by decide), sum_step (k + 1) xs _ i _ h7 (by decide)]
  rw [cloisterref22_Sum.l1, if_neg (by decide), w64_succ i (by omega)]
theorem sum_l (xs : List Int) (hb : Crc.Bytes xs) (hl : xs.length < 1000000000) : ∀ (j : Nat) (s : Nat), j ≤ xs.length → s < 4294967296 → cloisterref22_Sum.l0 (10 * j + 1) xs (s : Int) ((xs.length - j : Nat) : Int) = some ((Crc.stN (xs.drop (xs.length - j)) s ^^^ 4294967295 : Nat) : Int)
  | 0, s, _, hs => by
    rw [cloisterref22_Sum.l0, if_neg (by omega), Nat.sub_zero, List.drop_length]
    have := Crc.xor_u32 s 4294967295 hs (by decide)
    rw [show ((4294967295 : Nat) : Int) = 4294967295 from rfl] at this
    rw [this]; rfl
  | j + 1, s, hj, hs => by
    obtain ⟨i, hi⟩ : ∃ i, i = xs.length - (j + 1) := ⟨_, rfl⟩
    have e8 : xs.length - j = i + 1 := by omega
    have hil : i < xs.length := by omega
    have hx := hb _ (List.getElem_mem hil)
    obtain ⟨n, hn⟩ : ∃ n : Nat, xs[i] = (n : Int) := ⟨xs[i].toNat, by omega⟩
    have hn256 : n < 256 := by omega
    have hrd : rd xs (i : Int) = (n : Int) := by
      rw [← hn]; simp [rd, List.getD_eq_getElem?_getD, List.getElem?_eq_getElem hil]
    have hxr : Go.bits .xor .u32 (s : Int) ((n : Int) % 4294967296) = ((s ^^^ n : Nat) : Int) := by
      rw [show (n : Int) % 4294967296 = (n : Int) by omega]
      exact Crc.xor_u32 s n hs (by show n < 4294967296; omega)
    have hsx : s ^^^ n < 4294967296 := Nat.xor_lt_two_pow (n := 32) hs (by omega)
    have hby : Crc.byteN s n < 4294967296 := Crc.byteN_lt hs hn256
    have ih := sum_l xs hb hl j (Crc.byteN s n) (by omega) hby
    rw [e8] at ih
    rw [← hi, show 10 * (j + 1) + 1 = (10 * j + 1 + 9) + 1 by omega, cloisterref22_Sum.l0, if_pos (by omega), if_pos (by omega), hrd, hxr, sum_byte (10 * j + 1) xs _ i hsx (by omega), List.drop_eq_getElem_cons hil, hn]
    exact ih
theorem sum_f (xs : List Int) (hb : Crc.Bytes xs) (hl : xs.length < 1000000000) : cloisterref22_Sum.f (10 * xs.length + 1) xs = some (Crc.crc xs) := by
  have h := sum_l xs hb hl xs.length 4294967295 (Nat.le_refl _) (by decide)
  rw [Nat.sub_self, List.drop_zero] at h
  exact h
end Go.Proofs.YtohighedgdlflaaGreatDoor
