/- The law TraceLong of package trace answers true, for every two numbers. -/
import Derived.Test.YtohighedgdlflaaGreatDoorLML15
import Derived.Test.YtohighedgdlflaaGreatDoorLPRx3
import Derived.Test.YtohighedgdlflaaGreatDoorLML1
/- A range over what trace.Of has answered, the loop variable in a box: the law of such a loop, in a word. -/
namespace Go.Proofs.YtohighedgdlflaaGreatDoor
open Go.RowKit Go.Shelf Go.Proofs.YtohighedgdlflaaGreatDoorW.PrintWords Go.Proofs.YtohighedgdlflaaGreatDoor.PR
set_option linter.unusedVariables false
set_option linter.unusedSimpArgs false
theorem SeqIs.stopsS (F : Fence) (n : Nat) (h62 : F.fn 62) (hro : F.round = none) (hn : 1 ≤ n) {s hi : Nat} {cell : Int} {l : List S35} {W : World} (hl : l.length ≤ 1000000) (h : SeqIs W s hi cell l) :
    SeqStopsK F n Tryz.prog 62 #[.pointer (some ⟨s + 1, 0, none⟩), .pointer (some ⟨s, 0, none⟩)] (fun x : S35 => #[ob6 x]) (Span s hi) (fun ys => ys = ofL cell l) (fun pre => pre <+: ofL cell l) l.length W := fun y J Jx W' hW hJ _ hY h0 => by
  obtain ⟨lt, le, hc, A, g, c, hr, hA, hsg, hg, hsix⟩ := h
  have hcell : ∀ p u, p.block < hi → W.cell? p = some u → W'.cell? p = some u := fun p u hp h => (hW.cell (Nat.lt_of_lt_of_le hp le)).trans h
  exact of1_in s F n h62 hro hn y (s + 1) s hi g c A cell l hl hA hg (by omega) hsg (Nat.le_refl _) J Jx (fun pre W1 W2 hs hgr => hJ pre W1 W2 none hs hgr (fun r h => by cases h)) (fun pre x W1 _ hj hlen => hY pre x W1 hj hlen) W' (Nat.le_trans le hW.size) (hcell _ _ lt hr) (hcell _ _ (by show s < hi; omega) hc)
    (fun j x hx => by
      obtain ⟨s0, s1, s2, s3, s4, s5⟩ := hsix j x hx
      exact ⟨hcell _ _ hg s0, hcell _ _ hg s1, hcell _ _ hg s2, hcell _ _ hg s3, hcell _ _ hg s4, hcell _ _ hg s5⟩) h0
/-- The activation at a round's start. -/
def actR (a : Act) (p q : Nat) (x : S35) (Bx : Nat) : Act := { tmps := (a.tmps.setIfInBounds p (ob6 x)).setIfInBounds q (.pointer (some ⟨Bx, 0, none⟩)), defers := [] }
def obj6 (x : S35) : Obj := .cells #[.int .u64 x.f0, .int .i64 x.f1, .int .i64 x.f2, .int .u32 x.f3, .int .u32 x.f4, .int .u32 x.f5] 35
theorem zip1 (p : Nat) (v : Value) (t : Array Value) : ((#[p] : Array Tmp).zip #[v]).foldl (fun t (p, v) => t.setIfInBounds p v) t = t.setIfInBounds p v := by simp
theorem wpIn_range6 {p q : Nat} {g : Operand} {assign body : Code} {Q : Exit → Act → World → Prop} {a : Act} {w : World} {n : Nat} (hn : 3 ≤ n) {s hi : Nat} {cell : Int} {l : List S35}
    (hs : SeqIs w s hi cell l) (hl : l.length ≤ 1000000) (hg : a.eval g = seqV s)
    (I : List S35 → World → Prop) (Ix : Code → List S35 → World → Prop) (hI : OwnFrom w.heap.size I) (hIx : ∀ c, OwnFrom w.heap.size (Ix c)) (h0 : I [] w)
    (hsz : ∀ pre W, I pre W → w.heap.size ≤ W.heap.size)
    (hassign : ∀ (y : Nat) (x : S35) (W : World) (K : Act → World → Prop), K (actR a p q x W.heap.size) (W.alloc (obj6 x)) →
      assign.wpIn (Fence.wide.inRound y) (n - 1 - 1) Tryz.prog (Exit.then K (fun _ _ _ => False)) { tmps := a.tmps.setIfInBounds p (ob6 x), defers := [] } W)
    (hbody : ∀ (y : Nat) (pre : List S35) (x : S35) (Bx : Nat) (W : World), w.heap.size ≤ y → (∃ r, W.heap[y]? = some (.loop r)) → I pre W → w.heap.size ≤ Bx → Box6 W Bx x → pre.length < l.length →
      body.wpIn (Fence.wide.inRound y) (n - 1 - 1) Tryz.prog (ownPostG w.heap.size (Span s hi) I Ix (pre ++ [x]) W) (actR a p q x Bx) W)
    (hdone : ∀ (D : Nat) (W : World), w.heap.size ≤ D → I (ofL cell l) W → W.heap[D]? = some (.deferred (some [])) → Q .normal { a with defers := { target := .collected D, args := #[] } :: a.defers } W)
    (hstop : ∀ (D : Nat) (c : Code) (pre : List S35) (W : World), w.heap.size ≤ D → pre <+: ofL cell l → Ix c pre W → W.heap[D]? = some (.deferred (some [])) → c.wpIn Fence.wide n Tryz.prog Q { a with defers := { target := .collected D, args := #[] } :: a.defers } W) :
    (Code.rangeFunc g #[p] assign body).wpIn Fence.wide n Tryz.prog Q a w := by
  refine wpIn_rangeFunc_ownH rfl (by omega) (gf := 62) hg trivial (enters_of Tryz.func62 (by kernel_rfl) rfl) (hs.stopsS Fence.wide (n - 1) trivial rfl (by omega) hl) spanK_t (spanK_b hs.le) (Below.refl _ _) (fun _ => rfl) I Ix hI hIx h0
    (fun x a' W => ∃ Bx, w.heap.size ≤ Bx ∧ Box6 W Bx x ∧ a' = actR a p q x Bx)
    (fun x a' _ X Y row hs hg hr => by obtain ⟨Bx, h1, h2, h3⟩ := hs; exact ⟨Bx, h1, h2.kept hg (fun r e => (hr r e).2), h3⟩)
    ?assign ?body (fun D xs W h1 h2 h3 h4 => hdone D W h1 (by rw [← h2]; exact h3) h4) hstop
  case assign =>
    intro y pre x W K hi hK
    rw [zip1]
    exact hassign y x W K (hK _ _ ((KeepsOthers.alloc _ _).from _) ((Span.refl _ _ W).alloc (Nat.le_trans hs.le (hsz _ _ hi)) _) (hI.alloc _ hi) ⟨W.heap.size, hsz _ _ hi, heap_alloc_new _ _, rfl⟩)
  case body =>
    rintro y pre x a' W hy hr hi ⟨Bx, h1, h2, rfl⟩ hlt
    exact hbody y pre x Bx W hy hr hi h1 h2 hlt
theorem Off.six {g : Nat} {A W : World} (x : Off g g A W) (o : Nat) (v0 v1 v2 v3 v4 v5 : Value) : Off g g A ((((((W.setCell ⟨g, o, none⟩ v0).setCell ⟨g, o + 1, none⟩ v1).setCell ⟨g, o + 2, none⟩ v2).setCell ⟨g, o + 3, none⟩ v3).setCell ⟨g, o + 4, none⟩ v4).setCell ⟨g, o + 5, none⟩ v5) :=
  (((((x.set _ _ (.inl rfl)).set _ _ (.inl rfl)).set _ _ (.inl rfl)).set _ _ (.inl rfl)).set _ _ (.inl rfl)).set _ _ (.inl rfl)
theorem loop_step0 {W0 w1 W : World} {e lo hi : Nat} {v : Value} (v' : Value) (B : Nat) (bk : Boxed W e 3 v) (hoff : Off e e W0 W) (hbw : Below w1.heap.size w1 W) (h1 : w1.heap.size ≤ e) (h2 : e < lo ∨ hi ≤ e) (h3 : hi ≤ W.heap.size) :
    KeepsFrom B W (W.setCell ⟨e, 0, none⟩ v') ∧ Span lo hi W (W.setCell ⟨e, 0, none⟩ v') ∧ Boxed (W.setCell ⟨e, 0, none⟩ v') e 3 v' ∧ Off e e W0 (W.setCell ⟨e, 0, none⟩ v') ∧ Below w1.heap.size w1 (W.setCell ⟨e, 0, none⟩ v') :=
  ⟨(KeepsOthers.setCell _ _ _).from _, Span.setBox h2 h3 _, bk.set _, hoff.trans ((Off.refl _ _ _).set _ _ (.inl rfl)), hbw.setCell (p := ⟨e, 0, none⟩) h1 _⟩
theorem results_bool {fn : Func} {t : Tmp} (h : fn.results = #[.cell t 4]) (tmps : Array Value) {B : Nat} {b : Bool} {w : World} (ht : tmps[t]?.getD undef = .pointer (some ⟨B, 0, none⟩)) (hc : w.cell? ⟨B, 0, none⟩ = some (.bool b)) :
    (results fn tmps).run Tryz.prog w = .ok (.bool b) w := by
  have hu := Tryz.underlying4
  simp [results, h, ht]
  go_simp
  try simp [hc]
theorem boxed_put {W : World} {B D : Nat} {t : TypeId} {v : Value} {o : Obj} (hb : Boxed W B t v) (hD : W.heap[D]? = some (.deferred (some []))) : Boxed (W.putObj D o) B t v := by
  have hne : B ≠ D := fun e => by
    subst e
    have h1 : W.heap[B]? = _ := hb
    rw [hD] at h1; cases h1
  exact (World.putObj_heap_other (by omega)).trans hb
end Go.Proofs.YtohighedgdlflaaGreatDoor

/- The return of a law with one loop over a function behind it. -/
namespace Go.Proofs.YtohighedgdlflaaGreatDoor
open Go.RowKit Go.Shelf Go.Proofs.YtohighedgdlflaaGreatDoorW.PrintWords Go.Proofs.YtohighedgdlflaaGreatDoor.PR
set_option linter.unusedVariables false
set_option linter.unusedSimpArgs false
theorem leave1 {fn : Func} {t : Tmp} (hr : fn.results = #[.cell t 4]) {w W : World} {D1 R n : Nat} {tmps : Array Value} (h1 : W.heap[D1]? = some (.deferred (some [])))
    (l1 : w.heap.size ≤ D1) (hb : Below w.heap.size w W) (bR : Boxed W R 4 (.bool true)) (ht : tmps[t]?.getD undef = .pointer (some ⟨R, 0, none⟩)) :
    LeavesInM Fence.wide n Tryz.prog fn tmps (fun e w' => e = .returned (.bool true) ∧ Below w.heap.size w w') [{ target := .collected D1, args := #[] }] .returning W := by
  refine ⟨by simp, .inl ⟨D1, _, rfl, run_takeDeferred h1, ?_⟩⟩
  exact ⟨_, results_bool hr tmps ht (boxed_put bR h1).cell, rfl, hb.trans (belowK_b (w := w) (Nat.le_refl _) _ D1 _ _ l1 h1 rfl rfl)⟩
end Go.Proofs.YtohighedgdlflaaGreatDoor

/- The document's writer of a number behind a literal whose row is frozen beyond its cells: the first append copies. -/
namespace Go.Proofs.YtohighedgdlflaaGreatDoor
open Go.RowKit Go.Proofs.YtohighedgdlflaaGreatDoorW.PrintWords Go.Proofs.YtohighedgdlflaaGreatDoor.PR
set_option linter.unusedVariables false
set_option linter.unusedSimpArgs false
theorem w64_one : wrap64 1 = 1 := by unfold wrap64; omega
theorem reps_u8 : ∀ xs : List Int, Reps (fun (x : Int) cs => cs = [Value.int .u8 x]) 1 xs (xs.map (Value.int .u8))
  | [] => Reps.none _ _
  | x :: xs => Reps.one rfl (reps_u8 xs)
theorem append_full {ops : Array Oper} {rest : List Oper} {o : Oper} {a : Act} {Q : Exit → Act → World → Prop} {w0 W : World} (base : Nat) (hgd : o.guard = none) (s x : Operand)
    (ho : o.op = .call { callee := .builtin .append, args := #[s, x], argTypes := #[37, 37] })
    (b : Addr) (xs : List Int) (p : Int) (hs : a.eval s = .slice (some b) xs.length xs.length) (hx : a.eval x = .slice (some ⟨W.heap.size, 0, none⟩) 1 1)
    (holds : ∀ j v, (xs.map (Value.int .u8))[j]? = some v → W.cell? (b.add j) = some v) (HB : Below base w0 W) (hbase : base ≤ W.heap.size) (hl : xs.length + 1 ≤ 140737488355328)
    (h : ∀ v1 w1, Kd.R (Kd.int .u8) 5 w1 base (fun k => W.heap.size ≤ k) v1 (xs ++ [p]) → Below base w0 w1 → W.heap.size ≤ w1.heap.size → wpList Tryz.prog ops Q rest (a.put o.dst v1) w1) :
    wpList Tryz.prog ops Q (o :: rest) a (W.alloc (.cells #[.int .u8 p] 5)) := by
  refine wpList_plain hgd fun K hK => ?_
  obtain ⟨i, hi, hz⟩ := Option.map_eq_some_iff.1 info5
  simp only [Prod.mk.injEq] at hz
  obtain ⟨hz0, hz1, hz2⟩ := hz
  have hlen : (xs.map (Value.int .u8)).length = xs.length * i.size := by rw [hz1, List.length_map]; omega
  have hold2 : ∀ j v, (xs.map (Value.int .u8))[j]? = some v → (W.alloc (.cells #[.int .u8 p] 5)).cell? (b.add j) = some v := fun j v hj => by
    have h1 := holds j v hj
    exact (World.cell?_of_block (heap_alloc_old W _ (World.block_lt_of_cell? W _ h1))).trans h1
  have hr := run_append_grow (P := Tryz.prog) (W.alloc (.cells #[.int .u8 p] 5)) 37 o.type 5 i _ Tryz.underlying37 hi hz0 b xs.length xs.length (xs.map (Value.int .u8)) hlen hold2 ⟨W.heap.size, 0, none⟩ 1 1 [.int .u8 p] (by rw [hz1]; rfl) (cell_one_new _ _ _) (by omega) (by omega) (growslice_fits (by omega) (by rw [hz2]; omega))
  unfold Oper.wp execOp
  simp only [ho, resolve, invoke, builtin, Sem.run_bind, Sem.run_pure, Result.andThen_ok, List.map_toArray, List.map_cons, List.map_nil, hs, hx, hr]
  have hge := grownCap_ge (W.alloc (.cells #[.int .u8 p] 5)) (xs.length + 1) xs.length 5
  have hcm := grownCap_le_maxLen (W.alloc (.cells #[.int .u8 p] 5)) (xs.length + 1) xs.length 5 (by simp only [maxLen]; omega)
  refine hK _ _ (h _ _ ?_ ?_ (by simp; omega))
  · have e1 : ((W.alloc (.cells #[.int .u8 p] 5)).drew.alloc (.cells ((xs.map (Value.int .u8)).toArray ++ [Value.int .u8 p].toArray ++ Builtin.zeroCells (Value.cells (.int .u8 0)) (grownCap (W.alloc (.cells #[.int .u8 p] 5)) (xs.length + 1) xs.length 5 - (xs.length + 1))) 5)).ownsRow base 5 1 (.slice (some ⟨(W.alloc (.cells #[.int .u8 p] 5)).heap.size, 0, none⟩) (xs.length + 1) (grownCap (W.alloc (.cells #[.int .u8 p] 5)) (xs.length + 1) xs.length 5)) (xs.length + 1) (xs.map (Value.int .u8) ++ [.int .u8 p]) := by
      refine ⟨by simp, .inr ⟨_, _, _, rfl, by simp; omega, heap_alloc_new _ _, hge, hcm, ?_, ?_⟩⟩
      · simp only [Array.size_append, List.size_toArray, size_zeroCells, List.length_map, List.length_singleton]
        simp only [Value.cells, List.size_toArray, List.length_singleton]
        simp
        omega
      · simp only [Array.toList_append, List.append_assoc]
        rw [← List.append_assoc]
        exact List.take_left' (by simp)
    refine ⟨fun k hk => ?_, xs.map (Value.int .u8) ++ [.int .u8 p], ?_, ?_⟩
    · simp [Value.ownBlock] at hk
      omega
    · rw [List.length_append]
      exact e1
    · have := reps_u8 (xs ++ [p])
      rw [List.map_append] at this
      exact this
  · exact ((HB.alloc hbase _).drew).alloc (by simp; omega) _
set_option maxHeartbeats 8000000 in
set_option maxRecDepth 100000 in
theorem putF_ok (k : Nat) (b : Addr) (l0 : List Int) (a1 : Int) (a2 : Int) (r : List Int) (w0 w : World) (hB : Below w0.heap.size w0 w) (h2 : 0 < a2) (holds : ∀ j v, (l0.map (Value.int .u8))[j]? = some v → w.cell? (b.add j) = some v) (h : cloisterref22_put.f k l0 a1 a2 = some r) :
    Calls Tryz.prog 51 #[.slice (some b) l0.length l0.length, .int .u64 a1, .int .i64 a2] w fun e w' => ∃ v0_ : Value, e = .returned (v0_) ∧ Kd.R (Kd.int .u8) 5 w' w0.heap.size (fun k_ => w.heap.size ≤ k_) v0_ r ∧ Below w0.heap.size w0 w' := by
  have HC0 := Aside0.mk holds
  have HB := Aside0.mk hB
  have HW0 := Aside0.mk hB.size
  have H2 := Aside0.mk h2
  clear hB holds h2
  have H : (cloisterref22_put.l0 k l0 a1 a2 0) = some r := h
  clear h
  have H' := Aside0.mk H
  clear H
  go_enter Tryz.func51, Tryz.ntmps51
  go_wp2
  go_loopg [0, 1, 7] k (fun kq v0 v1 v7 w' => ∃ (x0_1 : List Int) (x1_1 : Int) (x7_1 : Int), v1 = .int .u64 x1_1 ∧ v7 = .int .i64 x7_1 ∧ Aside0 (cloisterref22_put.l0 kq x0_1 x1_1 a2 x7_1 = some r) ∧ Aside0 (kq ≤ k) ∧ Aside0 ((x7_1 = 0 ∧ w' = w ∧ x0_1 = l0 ∧ v0 = .slice (some b) l0.length l0.length) ∨ Kd.R (Kd.int .u8) 5 w' w0.heap.size (fun k_ => w.heap.size ≤ k_) v0 x0_1) ∧ Aside0 (w.heap.size ≤ w'.heap.size) ∧ Aside0 (Below w0.heap.size w0 w'))
  case atStart => exact ⟨(l0), (a1), (0), (by first | rfl | (simp; done) | (simp [*]; done)), (by first | rfl | (simp; done) | (simp [*]; done)), H', ⟨Nat.le_refl _⟩, ⟨.inl ⟨rfl, rfl, rfl, rfl⟩⟩, ⟨Nat.le_refl _⟩, HB⟩
  case round =>
    clear H'
    try clear p2
    obtain ⟨x0_1, x1_1, x7_1, rfl, rfl, HA, HK1, HO_0, HS, HB⟩ := hrel
    cases gk with
    | zero => exact absurd HA.out (by simp [cloisterref22_put.l0])
    | succ k1 =>
      have H := HA.out
      clear HA
      simp only [cloisterref22_put.l0] at H
      by_cases c4 : x7_1 < a2
      · rw [if_pos c4] at H
        have c4b0 : decide (x7_1 < a2) = true := decide_eq_true c4
        clear c4
        by_cases c5 : x0_1.length < 140737488355328
        · rw [if_pos c5] at H
          have LMc5 := Aside0.mk c5
          clear c5
          obtain ⟨y120, hy120⟩ : ∃ y_ : List Int, y_ = (x0_1 ++ [(Int.tmod x1_1 256) % 256]) := ⟨_, rfl⟩
          replace H : (cloisterref22_put.l0 k1 y120 (IntKind.u64.wrap (Int.tdiv x1_1 256)) a2 (wrap64 (x7_1 + 1))) = some r := by rw [hy120]; with_reducible exact H
          have Ny120 := Aside0.mk hy120
          clear hy120
          have H' := Aside0.mk H
          clear H
          rcases HO_0.out with ⟨rfl, rfl, rfl, rfl⟩ | HR
          · clear HO_0
            go_wp2_with (first | ((with_reducible refine gate_builtin (b := .append) (xs := #[.tmp 13, .tmp 17]) rfl ?_); at_builtin; refine append_full (w0 := w0) w0.heap.size rfl (.tmp 13) (.tmp 17) rfl b x0_1 ((Int.tmod x1_1 256) % 256) rfl rfl HC0.out HB.out HW0.out (by have := LMc5.out; omega) ?_; intro v121 w6 ho hb hs6; rw [← Ny120.out] at ho; have n0_ := Aside0.mk (hb); have n2_ := Aside0.mk (ho); have n3_ := Aside0.mk hs6; clear HB; clear HS; have HB := n0_; have HS := n3_; have HO122 := n2_; clear n0_ n2_ n3_; clear ho hb hs6))
            go_roundg k1
            case measure => have := HK1.out; omega
            case rel => exact ⟨(y120), (IntKind.u64.wrap (Int.tdiv x1_1 256)), (wrap64 (0 + 1)), (by first | rfl | (simp; done) | (simp [*]; done)), (by first | rfl | (simp; done) | (simp; exact (w64_one).symm)), H', ⟨by have := HK1.out; omega⟩, ⟨.inr HO122.out⟩, HS, HB⟩
          · clear HO_0
            have HO_0 := Aside0.mk HR
            clear HR
            go_wp2_with (first | ((with_reducible refine gate_builtin (b := .append) (xs := #[.tmp 13, .tmp 17]) rfl ?_); at_builtin; refine Kd.R_append (Kd.int .u8) (w0 := w0) w0.heap.size rfl (.tmp 13) (.tmp 17) 37 5 (.int .u8 0) 1 rfl Tryz.underlying37 info5 rfl (by decide) (by omega) u0 x0_1 ((Int.tmod x1_1 256) % 256) [.int .u8 ((Int.tmod x1_1 256) % 256)] (fun k_ => (w.heap.size ≤ k_)) (fun _ => False) rfl rfl ?aP (fun _ hk => hk.elim) ?aF ?aO ?aB ?aS ?aL ?_; (case aP => exact rfl); (case aB => exact HB.out); (case aF => exact (fun k_ hk => Nat.le_trans HS.out hk)); (case aO => exact HO_0.out); (case aS => exact (below_size HB.out)); (case aL => have := LMc5.out; omega); intro v121 w6 ho hb hg hat; rw [← Ny120.out] at ho; have n0_ := Aside0.mk (hb); have n2_ := Aside0.mk (ho); have n3_ := Aside0.mk (Nat.le_trans HS.out hg.size); clear HB; clear HS; clear HO_0; have HB := n0_; have HS := n3_; have HO122 := n2_; clear n0_ n2_ n3_; clear ho hb hg hat))
            go_roundg k1
            case measure => have := HK1.out; omega
            case rel => exact ⟨(y120), (IntKind.u64.wrap (Int.tdiv x1_1 256)), (wrap64 (x7_1 + 1)), (by first | rfl | (simp; done) | (simp [*]; done)), (by first | rfl | (simp; done) | (simp [*]; done)), H', ⟨by have := HK1.out; omega⟩, ⟨.inr HO122.out⟩, HS, HB⟩
        · rw [if_neg c5] at H
          exact absurd H (by simp)
      · rw [if_neg c4] at H
        have c4b0 : decide (x7_1 < a2) = false := decide_eq_false c4
        obtain rfl := Option.some.inj H
        have HR : Aside0 (Kd.R (Kd.int .u8) 5 wr w0.heap.size (fun k_ => w.heap.size ≤ k_) u0 x0_1) := by
          rcases HO_0.out with ⟨rfl, _⟩ | HR
          · exact absurd H2.out c4
          · exact ⟨HR⟩
        clear c4 HO_0
        go_wp2
        go_ret
        exact ⟨_, by first | rfl | (simp [errW_none, errW_some] <;> rfl) | (simp [*, errW_none, errW_some] <;> rfl), HR.out, HB.out⟩
end Go.Proofs.YtohighedgdlflaaGreatDoor
