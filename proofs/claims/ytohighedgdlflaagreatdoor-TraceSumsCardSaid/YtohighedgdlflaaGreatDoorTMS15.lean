/- The law TraceSums of package trace answers true, for every cell, every two rows of observations and every place to stop. -/
import Derived.Sort.QuietTacIn
import Derived.OwnWalkIn
import Derived.Test.YtohighedgdlflaaGreatDoorTMS14
import Derived.Test.YtohighedgdlflaaGreatDoorTMS1
import Derived.Deep.AppendLies
import Derived.Test.YtohighedgdlflaaGreatDoorTMS8
/- A region that draws its order and only reads, within a round of a loop over a function: one walk of the lexical order serves every order. -/
namespace Go.Proofs.YtohighedgdlflaaGreatDoor
open Go
section
variable {F : Fence} {n : Nat} {P : Program} {ops : Array Oper} {md : Region.Mode} {C : World → Prop}
def plainOp (o : Oper) : Bool := match o.op with
  | .defer _ => false
  | _ => true
theorem plainOp_spec {o : Oper} (h : plainOp o = true) : ∀ c, o.op ≠ .defer c := by
  intro c hc
  unfold plainOp at h
  rw [hc] at h
  cases h
theorem wpIn_of_quietR {o : Oper} {a : Act} {K : Act → Prop} {K' : Act → World → Prop} {Q' : Exit → Act → World → Prop} {w : World} (hd : ∀ c, o.op ≠ .defer c) (hw : C w) (h : ∀ a w', C w' → K a → K' a w')
    (ha : o.askedIn F P a C) (hh : o.quietIn F n P a C K) : o.wpIn F n P a w K' Q' := by
  obtain ⟨v, h1, h2⟩ := hh
  have h3 := h1 w hw
  unfold Oper.quietAtIn at h3
  unfold Oper.wpIn
  refine ⟨ha w hw, ?_⟩
  rw [Oper.semAt_eq _ _ _ hd]
  generalize (execOp a.eval o).run P w = r at *
  cases r with
  | ok x w' =>
    cases x <;> simp only [Oper.quietUponIn] at h3 <;> simp only [Oper.uponIn]
    case value u =>
      obtain ⟨e1, e2⟩ := h3
      rw [e1, e2]
      exact h _ _ hw h2
    case skip =>
      obtain ⟨e1, e2⟩ := h3
      rw [e1, ← e2]
      exact h _ _ hw h2
    case enter f args =>
      obtain ⟨e1, hd, hc⟩ := h3
      rw [e1]
      exact ⟨hd, hc.mono fun e w'' ⟨he, hw''⟩ => by subst he; exact h _ _ hw'' h2⟩
  | halt x w' => simp only [Oper.quietUponIn] at h3
theorem wpOpIn_of_quietR {i : Nat} {a : Act} {K : Act → Prop} {K' : Act → World → Prop} {Q' : Exit → Act → World → Prop} {w : World} (hd : ∀ (i : Nat) o, ops[i]? = some o → ∀ c, o.op ≠ .defer c) (hC : C w) (h : ∀ a w', C w' → K a → K' a w')
    (hh : qOpIn F n P ops C i K a) : wpOpIn F n P ops Q' i K' a w := by
  unfold qOpIn at hh
  unfold wpOpIn
  split
  · rename_i ho; simp only [ho] at hh; exact h _ _ hC hh
  · rename_i o ho
    simp only [ho] at hh
    obtain ⟨ha, hh⟩ := hh
    split
    · rename_i hw; simp only [hw, if_true] at hh; exact wpIn_of_quietR (hd _ _ ho) hC h ha hh
    · rename_i hw; simp only [hw] at hh; exact ⟨ha w hC, h _ _ hC hh⟩
theorem wpAnyIn_of_quietR {Q : Act → Prop} {Q' : Exit → Act → World → Prop} (hd : ∀ (i : Nat) o, ops[i]? = some o → ∀ c, o.op ≠ .defer c) (hQ : ∀ a w, C w → Q a → Q' .normal a w) : ∀ (fuel : Nat) (listed : Array Bool) (a : Act) (w : World), C w →
    wpAnyQIn F n P md ops C Q fuel listed a → wpAnyIn F n P md ops Q' fuel listed a w
  | 0, _, _, _, hw, h => ⟨h.1, hQ _ _ hw h.2⟩
  | fuel + 1, _, _, _, hw, h => ⟨fun h0 => hQ _ _ hw (h.1 h0), fun i hi => wpOpIn_of_quietR hd hw (fun a' w' hw' => wpAnyIn_of_quietR hd hQ fuel _ a' w' hw') (h.2 i hi)⟩
theorem wpIn_region_quietR {id : Nat} {Q : Exit → Act → World → Prop} {a : Act} {w : World} {l : List Oper} (hd : l.all plainOp = true) (hm : P.follows .mixedOrders = true) (hB : Region.lexB .any l.toArray = true)
    (h : wpQuietIn F n P l.toArray (fun w' => ∃ n, w' = w.drewN n) (fun a' => ∀ w', (∃ n, w' = w.drewN n) → Q .normal a' w') l a) : (Code.region id l.toArray true).wpIn F n P Q a w := by
  have hd' : ∀ (i : Nat) o, l.toArray[i]? = some o → ∀ c, o.op ≠ .defer c := fun i o ho => plainOp_spec (List.all_eq_true.1 hd o (List.mem_of_getElem? (by simpa using ho)))
  simp only [Region.lexB, Bool.and_eq_true] at hB
  refine wpIn_region_any hm (wpAnyIn_of_quietR (C := fun w' => ∃ n, w' = w.drewN n) (Q := fun a' => ∀ w', (∃ n, w' = w.drewN n) → Q .normal a' w') hd' (fun _ w' hw' h => h w' hw') _ _ _ _ ⟨1, rfl⟩ ?_)
  have := wpAnyQIn_lex (F := F) (n := n) (C := fun w' => ∃ n, w' = w.drewN n) (md := .any) hB.1 l 0 (Array.replicate l.toArray.size false) a (by simp) (by simpa using hB.2) h
  simpa using this
end
end Go.Proofs.YtohighedgdlflaaGreatDoor

/- A range over what trace.Of has answered, the loop variable in a box: the law of such a loop, in a word. -/
namespace Go.Proofs.YtohighedgdlflaaGreatDoor
open Go.RowKit Go.Shelf Go.Proofs.YtohighedgdlflaaGreatDoorW.PrintWords Go.Proofs.YtohighedgdlflaaGreatDoor.PR
set_option linter.unusedVariables false
set_option linter.unusedSimpArgs false
theorem SeqIs.stopsS (F : Fence) (n : Nat) (h62 : F.fn 62) (hro : F.round = none) (hn : 1 ≤ n) {s hi : Nat} {cell : Int} {l : List S35} {W : World} (hl : l.length ≤ 1000000) (h : SeqIs W s hi cell l) :
    SeqStopsK F n Tryz.prog 62 #[.pointer (some ⟨s + 1, 0, none⟩), .pointer (some ⟨s, 0, none⟩)] (fun x : S35 => #[ob6 x]) (Span s hi) (fun ys => ys = ofL cell l) (fun pre => pre <+: ofL cell l) l.length W := fun y J Jx W' hW hJ _ hY h0 => by
  obtain ⟨lt, le, hc, A, g, c, hr, hA, hsg, hg, hsix⟩ := h
  have hcell : ∀ p u, p.block < hi → W.cell? p = some u → W'.cell? p = some u := fun p u hp h => (hW.cell (Nat.lt_of_lt_of_le hp le)).trans h
  exact of1_in s F n h62 hro hn y (s + 1) s hi g c A cell l hl hA hg (by omega) hsg (Nat.le_refl _) J Jx (fun pre W1 W2 hs hgr => hJ pre W1 W2 none hs hgr (fun r h => by cases h)) (fun pre x W1 _ hj hlen => hY pre x W1 hj hlen) W' (Nat.le_trans le hW.size) (hcell _ _ lt hr) (hcell _ _ (by show s < hi; omega) hc)
    (fun j x hx => by
      obtain ⟨s0, s1, s2, s3, s4, s5⟩ := hsix j x hx
      exact ⟨hcell _ _ hg s0, hcell _ _ hg s1, hcell _ _ hg s2, hcell _ _ hg s3, hcell _ _ hg s4, hcell _ _ hg s5⟩) h0
/-- The activation at a round's start. -/
def actR (a : Act) (p q : Nat) (x : S35) (Bx : Nat) : Act := { tmps := (a.tmps.setIfInBounds p (ob6 x)).setIfInBounds q (.pointer (some ⟨Bx, 0, none⟩)), defers := [] }
def obj6 (x : S35) : Obj := .cells #[.int .u64 x.f0, .int .i64 x.f1, .int .i64 x.f2, .int .u32 x.f3, .int .u32 x.f4, .int .u32 x.f5] 35
theorem zip1 (p : Nat) (v : Value) (t : Array Value) : ((#[p] : Array Tmp).zip #[v]).foldl (fun t (p, v) => t.setIfInBounds p v) t = t.setIfInBounds p v := by simp
theorem wpIn_range6 {p q : Nat} {g : Operand} {assign body : Code} {Q : Exit → Act → World → Prop} {a : Act} {w : World} {n : Nat} (hn : 3 ≤ n) {s hi : Nat} {cell : Int} {l : List S35}
    (hs : SeqIs w s hi cell l) (hl : l.length ≤ 1000000) (hg : a.eval g = seqV s)
    (I : List S35 → World → Prop) (Ix : Code → List S35 → World → Prop) (hI : OwnFrom w.heap.size I) (hIx : ∀ c, OwnFrom w.heap.size (Ix c)) (h0 : I [] w)
    (hsz : ∀ pre W, I pre W → w.heap.size ≤ W.heap.size)
    (hassign : ∀ (y : Nat) (x : S35) (W : World) (K : Act → World → Prop), K (actR a p q x W.heap.size) (W.alloc (obj6 x)) →
      assign.wpIn (Fence.wide.inRound y) (n - 1 - 1) Tryz.prog (Exit.then K (fun _ _ _ => False)) { tmps := a.tmps.setIfInBounds p (ob6 x), defers := [] } W)
    (hbody : ∀ (y : Nat) (pre : List S35) (x : S35) (Bx : Nat) (W : World), w.heap.size ≤ y → (∃ r, W.heap[y]? = some (.loop r)) → I pre W → w.heap.size ≤ Bx → Box6 W Bx x → pre.length < l.length →
      body.wpIn (Fence.wide.inRound y) (n - 1 - 1) Tryz.prog (ownPostG w.heap.size (Span s hi) I Ix (pre ++ [x]) W) (actR a p q x Bx) W)
    (hdone : ∀ (D : Nat) (W : World), w.heap.size ≤ D → I (ofL cell l) W → W.heap[D]? = some (.deferred (some [])) → Q .normal { a with defers := { target := .collected D, args := #[] } :: a.defers } W)
    (hstop : ∀ (D : Nat) (c : Code) (pre : List S35) (W : World), w.heap.size ≤ D → pre <+: ofL cell l → Ix c pre W → W.heap[D]? = some (.deferred (some [])) → c.wpIn Fence.wide n Tryz.prog Q { a with defers := { target := .collected D, args := #[] } :: a.defers } W) :
    (Code.rangeFunc g #[p] assign body).wpIn Fence.wide n Tryz.prog Q a w := by
  refine wpIn_rangeFunc_ownH rfl (by omega) (gf := 62) hg trivial (enters_of Tryz.func62 (by kernel_rfl) rfl) (hs.stopsS Fence.wide (n - 1) trivial rfl (by omega) hl) spanK_t (spanK_b hs.le) (Below.refl _ _) (fun _ => rfl) I Ix hI hIx h0
    (fun x a' W => ∃ Bx, w.heap.size ≤ Bx ∧ Box6 W Bx x ∧ a' = actR a p q x Bx)
    (fun x a' _ X Y row hs hg hr => by obtain ⟨Bx, h1, h2, h3⟩ := hs; exact ⟨Bx, h1, h2.kept hg (fun r e => (hr r e).2), h3⟩)
    ?assign ?body (fun D xs W h1 h2 h3 h4 => hdone D W h1 (by rw [← h2]; exact h3) h4) hstop
  case assign =>
    intro y pre x W K hi hK
    rw [zip1]
    exact hassign y x W K (hK _ _ ((KeepsOthers.alloc _ _).from _) ((Span.refl _ _ W).alloc (Nat.le_trans hs.le (hsz _ _ hi)) _) (hI.alloc _ hi) ⟨W.heap.size, hsz _ _ hi, heap_alloc_new _ _, rfl⟩)
  case body =>
    rintro y pre x a' W hy hr hi ⟨Bx, h1, h2, rfl⟩ hlt
    exact hbody y pre x Bx W hy hr hi h1 h2 hlt
/-- The same in the round of another. -/
theorem wpIn_range6N {p q : Nat} {g : Operand} {assign body : Code} {Q : Exit → Act → World → Prop} {a : Act} {w : World} {n y0 : Nat} {r0 : Loop} (hn : 3 ≤ n) (hl0 : w.heap[y0]? = some (.loop r0)) {s hi : Nat} {cell : Int} {l : List S35}
    (hs : SeqIs w s hi cell l) (hl : l.length ≤ 1000000) (hg : a.eval g = seqV s)
    (I : List S35 → World → Prop) (Ix : Code → List S35 → World → Prop) (hI : OwnFrom w.heap.size I) (hIx : ∀ c, OwnFrom w.heap.size (Ix c)) (h0 : I [] w)
    (hsz : ∀ pre W, I pre W → w.heap.size ≤ W.heap.size)
    (hassign : ∀ (y : Nat) (x : S35) (W : World) (K : Act → World → Prop), K (actR a p q x W.heap.size) (W.alloc (obj6 x)) →
      assign.wpIn ((Fence.wide.inRound y0).inRound y) (n - 1 - 1) Tryz.prog (Exit.then K (fun _ _ _ => False)) { tmps := a.tmps.setIfInBounds p (ob6 x), defers := [] } W)
    (hbody : ∀ (y : Nat) (pre : List S35) (x : S35) (Bx : Nat) (W : World), w.heap.size ≤ y → (∃ r, W.heap[y]? = some (.loop r)) → I pre W → w.heap.size ≤ Bx → Box6 W Bx x → pre.length < l.length →
      body.wpIn ((Fence.wide.inRound y0).inRound y) (n - 1 - 1) Tryz.prog (ownPostG w.heap.size (Span s hi) I Ix (pre ++ [x]) W) (actR a p q x Bx) W)
    (hdone : ∀ (W : World), I (ofL cell l) W → Q .normal a W)
    (hstop : ∀ (c : Code) (pre : List S35) (W : World), pre <+: ofL cell l → Ix c pre W → c.wpIn (Fence.wide.inRound y0) n Tryz.prog Q a W) :
    (Code.rangeFunc g #[p] assign body).wpIn (Fence.wide.inRound y0) n Tryz.prog Q a w := by
  refine wpIn_rangeFunc_ownN (l₀ := y0) (r₀ := r0) rfl hl0 (by omega) (gf := 62) hg trivial (enters_of Tryz.func62 (by kernel_rfl) rfl) ((hs.stopsS Fence.wide (n - 1) trivial rfl (by omega) hl).inRound y0) spanK_t (spanK_b hs.le) (Below.refl _ _) (fun _ => rfl) I Ix hI hIx h0
    (fun x a' W => ∃ Bx, w.heap.size ≤ Bx ∧ Box6 W Bx x ∧ a' = actR a p q x Bx)
    (fun x a' _ X Y row hs hg hr => by obtain ⟨Bx, h1, h2, h3⟩ := hs; exact ⟨Bx, h1, h2.kept hg (fun r e => (hr r e).2), h3⟩)
    ?assign ?body (fun xs W h2 h3 => hdone W (by rw [← h2]; exact h3)) hstop
  case assign =>
    intro y pre x W K hi hK
    rw [zip1]
    exact hassign y x W K (hK _ _ ((KeepsOthers.alloc _ _).from _) ((Span.refl _ _ W).alloc (Nat.le_trans hs.le (hsz _ _ hi)) _) (hI.alloc _ hi) ⟨W.heap.size, hsz _ _ hi, heap_alloc_new _ _, rfl⟩)
  case body =>
    rintro y pre x a' W hy hr hi ⟨Bx, h1, h2, rfl⟩ hlt
    exact hbody y pre x Bx W hy hr hi h1 h2 hlt
/-- The count of a loop is stored. -/
theorem loop_step {W0 w1 W : World} {e lo hi : Nat} {v : Value} (v' : Value) (nq B : Nat) (bk : Boxed W e 3 v) (hoff : Off e e W0 W) (hbw : Below w1.heap.size w1 W) (h1 : w1.heap.size ≤ e) (h2 : e < lo ∨ hi ≤ e) (h3 : hi ≤ W.heap.size) :
    KeepsFrom B W ((W.drewN nq).setCell ⟨e, 0, none⟩ v') ∧ Span lo hi W ((W.drewN nq).setCell ⟨e, 0, none⟩ v') ∧ Boxed ((W.drewN nq).setCell ⟨e, 0, none⟩ v') e 3 v' ∧ Off e e W0 ((W.drewN nq).setCell ⟨e, 0, none⟩ v') ∧ Below w1.heap.size w1 ((W.drewN nq).setCell ⟨e, 0, none⟩ v') := by
  have hbd : Below W.heap.size W (W.drewN nq) := pw_below_drewN (Below.refl _ _) nq
  refine ⟨(keepsFrom_below hbd).trans ((KeepsOthers.setCell _ _ _).from _), (Span.of_below' hbd h3).trans (Span.setBox h2 (Nat.le_trans h3 hbd.size) _), (boxed_below bk hbd).set _, hoff.trans ((Off.of_below hbd).trans ((Off.refl _ _ _).set _ _ (.inl rfl))), (hbw.trans (hbd.mono hbw.size)).setCell (p := ⟨e, 0, none⟩) h1 _⟩
theorem loop_ret {W : World} (p : Addr) (v' : Value) (nq B : Nat) : KeepsFrom B W ((W.drewN nq).setCell p v') :=
  (keepsFrom_below (pw_below_drewN (Below.refl _ _) nq)).trans ((KeepsOthers.setCell _ _ _).from _)
theorem SumSt.offB {w1 W W' : World} {g h s hi j nA nB e : Nat} {A3 B4 : Option Addr} {xs ys a1 b1 : List S35} {cell : Int} (p : SumP w1 g h s hi j nA nB a1 b1) (t : SumSt w1 W g h s hi j nA nB A3 B4 xs ys a1 b1 cell) (o : Off e e W W') (hb : Below w1.heap.size w1 W') (he : j < e) : SumSt w1 W' g h s hi j nA nB A3 B4 xs ys a1 b1 cell := by
  have l := t.lt
  obtain ⟨p1, p2, p3, p4, p5, p6, p7⟩ := p
  exact ⟨hb, orow_off t.x o (by omega) (by omega), orow_off t.y o (by omega) (by omega), t.a.off o (by omega) (by omega), t.b.off o (by omega) (by omega), t.q.off o (.inr (by omega)) (.inr (by omega)), boxed_off t.j o (by omega) (by omega)⟩
theorem Off.six {g : Nat} {A W : World} (x : Off g g A W) (o : Nat) (v0 v1 v2 v3 v4 v5 : Value) : Off g g A ((((((W.setCell ⟨g, o, none⟩ v0).setCell ⟨g, o + 1, none⟩ v1).setCell ⟨g, o + 2, none⟩ v2).setCell ⟨g, o + 3, none⟩ v3).setCell ⟨g, o + 4, none⟩ v4).setCell ⟨g, o + 5, none⟩ v5) :=
  (((((x.set _ _ (.inl rfl)).set _ _ (.inl rfl)).set _ _ (.inl rfl)).set _ _ (.inl rfl)).set _ _ (.inl rfl)).set _ _ (.inl rfl)
/-- The loop in its block: where it runs out and where it is left, the walk goes on from one word. -/
theorem wpIn_range6B {id : Nat} {p q : Nat} {g : Operand} {assign body : Code} {Q : Exit → Act → World → Prop} {a : Act} {w : World} {n : Nat} (hn : 3 ≤ n) {s hi : Nat} {cell : Int} {l : List S35}
    (hs : SeqIs w s hi cell l) (hl : l.length ≤ 1000000) (hg : a.eval g = seqV s)
    (I : List S35 → World → Prop) (Ix : Code → List S35 → World → Prop) (hI : OwnFrom w.heap.size I) (hIx : ∀ c, OwnFrom w.heap.size (Ix c)) (h0 : I [] w)
    (hsz : ∀ pre W, I pre W → w.heap.size ≤ W.heap.size) (J : World → Prop) (hJ : ∀ W, I (ofL cell l) W → J W) (hJx : ∀ c pre W, pre <+: ofL cell l → Ix c pre W → c = .exit id ∧ J W)
    (hassign : ∀ (y : Nat) (x : S35) (W : World) (K : Act → World → Prop), K (actR a p q x W.heap.size) (W.alloc (obj6 x)) →
      assign.wpIn (Fence.wide.inRound y) (n - 1 - 1) Tryz.prog (Exit.then K (fun _ _ _ => False)) { tmps := a.tmps.setIfInBounds p (ob6 x), defers := [] } W)
    (hbody : ∀ (y : Nat) (pre : List S35) (x : S35) (Bx : Nat) (W : World), w.heap.size ≤ y → (∃ r, W.heap[y]? = some (.loop r)) → I pre W → w.heap.size ≤ Bx → Box6 W Bx x → pre.length < l.length →
      body.wpIn (Fence.wide.inRound y) (n - 1 - 1) Tryz.prog (ownPostG w.heap.size (Span s hi) I Ix (pre ++ [x]) W) (actR a p q x Bx) W)
    (hrest : ∀ (D : Nat) (W : World), w.heap.size ≤ D → J W → W.heap[D]? = some (.deferred (some [])) → Q .normal { a with defers := { target := .collected D, args := #[] } :: a.defers } W) :
    (Code.rangeFunc g #[p] assign body).wpIn Fence.wide n Tryz.prog (Exit.inBlock id Q) a w := by
  refine wpIn_range6 hn hs hl hg I Ix hI hIx h0 hsz hassign hbody (fun D W h1 h2 h3 => ?_) (fun D c pre W h1 h2 h3 h4 => ?_)
  · exact hrest D W h1 (hJ W h2) h3
  · obtain ⟨rfl, hj⟩ := hJx c pre W h2 h3
    refine wpIn_exit ?_
    have := hrest D W h1 hj h4
    simpa [Exit.inBlock] using this
theorem wpIn_range6NB {id : Nat} {p q : Nat} {g : Operand} {assign body : Code} {Q : Exit → Act → World → Prop} {a : Act} {w : World} {n y0 : Nat} {r0 : Loop} (hn : 3 ≤ n) (hl0 : w.heap[y0]? = some (.loop r0)) {s hi : Nat} {cell : Int} {l : List S35}
    (hs : SeqIs w s hi cell l) (hl : l.length ≤ 1000000) (hg : a.eval g = seqV s)
    (I : List S35 → World → Prop) (Ix : Code → List S35 → World → Prop) (hI : OwnFrom w.heap.size I) (hIx : ∀ c, OwnFrom w.heap.size (Ix c)) (h0 : I [] w)
    (hsz : ∀ pre W, I pre W → w.heap.size ≤ W.heap.size) (J : World → Prop) (hJ : ∀ W, I (ofL cell l) W → J W) (hJx : ∀ c pre W, pre <+: ofL cell l → Ix c pre W → c = .exit id ∧ J W)
    (hassign : ∀ (y : Nat) (x : S35) (W : World) (K : Act → World → Prop), K (actR a p q x W.heap.size) (W.alloc (obj6 x)) →
      assign.wpIn ((Fence.wide.inRound y0).inRound y) (n - 1 - 1) Tryz.prog (Exit.then K (fun _ _ _ => False)) { tmps := a.tmps.setIfInBounds p (ob6 x), defers := [] } W)
    (hbody : ∀ (y : Nat) (pre : List S35) (x : S35) (Bx : Nat) (W : World), w.heap.size ≤ y → (∃ r, W.heap[y]? = some (.loop r)) → I pre W → w.heap.size ≤ Bx → Box6 W Bx x → pre.length < l.length →
      body.wpIn ((Fence.wide.inRound y0).inRound y) (n - 1 - 1) Tryz.prog (ownPostG w.heap.size (Span s hi) I Ix (pre ++ [x]) W) (actR a p q x Bx) W)
    (hrest : ∀ (W : World), J W → Q .normal a W) :
    (Code.rangeFunc g #[p] assign body).wpIn (Fence.wide.inRound y0) n Tryz.prog (Exit.inBlock id Q) a w := by
  refine wpIn_range6N hn hl0 hs hl hg I Ix hI hIx h0 hsz hassign hbody (fun W h2 => ?_) (fun c pre W h2 h3 => ?_)
  · exact hrest W (hJ W h2)
  · obtain ⟨rfl, hj⟩ := hJx c pre W h2 h3
    refine wpIn_exit ?_
    have := hrest W hj
    simpa [Exit.inBlock] using this
theorem loop_step0 {W0 w1 W : World} {e lo hi : Nat} {v : Value} (v' : Value) (B : Nat) (bk : Boxed W e 3 v) (hoff : Off e e W0 W) (hbw : Below w1.heap.size w1 W) (h1 : w1.heap.size ≤ e) (h2 : e < lo ∨ hi ≤ e) (h3 : hi ≤ W.heap.size) :
    KeepsFrom B W (W.setCell ⟨e, 0, none⟩ v') ∧ Span lo hi W (W.setCell ⟨e, 0, none⟩ v') ∧ Boxed (W.setCell ⟨e, 0, none⟩ v') e 3 v' ∧ Off e e W0 (W.setCell ⟨e, 0, none⟩ v') ∧ Below w1.heap.size w1 (W.setCell ⟨e, 0, none⟩ v') :=
  ⟨(KeepsOthers.setCell _ _ _).from _, Span.setBox h2 h3 _, bk.set _, hoff.trans ((Off.refl _ _ _).set _ _ (.inl rfl)), hbw.setCell (p := ⟨e, 0, none⟩) h1 _⟩
theorem results_bool {fn : Func} {t : Tmp} (h : fn.results = #[.cell t 4]) (tmps : Array Value) {B : Nat} {b : Bool} {w : World} (ht : tmps[t]?.getD undef = .pointer (some ⟨B, 0, none⟩)) (hc : w.cell? ⟨B, 0, none⟩ = some (.bool b)) :
    (results fn tmps).run Tryz.prog w = .ok (.bool b) w := by
  have hu := Tryz.underlying4
  simp [results, h, ht]
  go_simp
  try simp [hc]
theorem boxed_put {W : World} {B D : Nat} {t : TypeId} {v : Value} {o : Obj} (hb : Boxed W B t v) (hD : W.heap[D]? = some (.deferred (some []))) : Boxed (W.putObj D o) B t v := by
  have hne : B ≠ D := fun e => by
    subst e
    have h1 : W.heap[B]? = _ := hb
    rw [hD] at h1; cases h1
  exact (World.putObj_heap_other (by omega)).trans hb
/-- The law's return, three loops over functions behind it. -/
theorem leave3 {fn : Func} {t : Tmp} (hr : fn.results = #[.cell t 4]) {w W : World} {D1 D2 D3 R n : Nat} {tmps : Array Value} (h1 : W.heap[D1]? = some (.deferred (some []))) (h2 : W.heap[D2]? = some (.deferred (some []))) (h3 : W.heap[D3]? = some (.deferred (some [])))
    (n12 : D1 ≠ D2) (n13 : D1 ≠ D3) (n23 : D2 ≠ D3) (l1 : w.heap.size ≤ D1) (l2 : w.heap.size ≤ D2) (l3 : w.heap.size ≤ D3) (hb : Below w.heap.size w W) (bR : Boxed W R 4 (.bool true)) (ht : tmps[t]?.getD undef = .pointer (some ⟨R, 0, none⟩)) :
    LeavesInM Fence.wide n Tryz.prog fn tmps (fun e w' => e = .returned (.bool true) ∧ Below w.heap.size w w') [{ target := .collected D3, args := #[] }, { target := .collected D2, args := #[] }, { target := .collected D1, args := #[] }] .returning W := by
  have h2' : (W.putObj D3 (.deferred none)).heap[D2]? = some (.deferred (some [])) := (World.putObj_heap_other (by omega)).trans h2
  have h1' : ((W.putObj D3 (.deferred none)).putObj D2 (.deferred none)).heap[D1]? = some (.deferred (some [])) := (World.putObj_heap_other (by omega)).trans ((World.putObj_heap_other (by omega)).trans h1)
  refine ⟨by simp, .inl ⟨D3, _, rfl, run_takeDeferred h3, ?_⟩⟩
  refine ⟨by simp, .inl ⟨D2, _, rfl, run_takeDeferred h2', ?_⟩⟩
  refine ⟨by simp, .inl ⟨D1, _, rfl, run_takeDeferred h1', ?_⟩⟩
  exact ⟨_, results_bool hr tmps ht (boxed_put (boxed_put (boxed_put bR h3) h2') h1').cell, rfl,
    ((hb.trans (belowK_b (w := w) (Nat.le_refl _) _ D3 _ _ l3 h3 rfl rfl)).trans (belowK_b (w := w) (Nat.le_refl _) _ D2 _ _ l2 h2' rfl rfl)).trans (belowK_b (w := w) (Nat.le_refl _) _ D1 _ _ l1 h1' rfl rfl)⟩
theorem add0 (ad : Addr) : ad.add 0 = ad := by
  unfold Addr.add; split <;> simp_all
end Go.Proofs.YtohighedgdlflaaGreatDoor

/- Lists that came out are written full, made longer, and looked at: what holds of the memory meanwhile. -/
namespace Go.Proofs.YtohighedgdlflaaGreatDoor
open Go.RowKit Go.Proofs.YtohighedgdlflaaGreatDoorW.PrintWords
set_option linter.unusedVariables false
set_option linter.unusedSimpArgs false
/-- A row of the call's own, some of whose elements are known. -/
def RowIs (W : World) (B e s : Nat) (v : Value) (n : Nat) (E : Nat → Option (List Value)) : Prop :=
  ∃ xs, W.ownsRow B e s v n xs ∧ ∀ j, j < n → ∀ X, E j = some X → ∀ t u, t < s → X[t]? = some u → xs[j * s + t]? = some u
def RdIs (W : World) (v : Value) (n s : Nat) (X : List Value) : Prop :=
  ∀ g c, v = .slice (some ⟨g, 0, none⟩) n c → ∀ j, j < n → ∀ t u, t < s → X[t]? = some u → W.cell? ⟨g, j * s + t, none⟩ = some u
section
variable {W w1 : World} {B e s n : Nat} {v : Value} {E E' : Nat → Option (List Value)}
theorem RowIs.mono (h : RowIs W B e s v n E) (hE : ∀ j, j < n → ∀ X, E' j = some X → E j = some X) : RowIs W B e s v n E' := by
  obtain ⟨xs, h1, h2⟩ := h
  exact ⟨xs, h1, fun j hj X hX => h2 j hj X (hE j hj X hX)⟩
theorem RowIs.lt (h : RowIs W B e s v n E) {g : Nat} (hg : v.ownBlock = some g) : g < W.heap.size := by
  obtain ⟨xs, h1, _⟩ := h
  exact own_lt h1 g hg
theorem RowIs.base (h : RowIs W B e s v n E) {g : Nat} (hg : v.ownBlock = some g) : B ≤ g := by
  obtain ⟨xs, h1, _⟩ := h
  exact own_base h1 g hg
theorem RowIs.typed (h : RowIs W B e s v n E) {g : Nat} (hg : v.ownBlock = some g) : ∃ cur, W.heap[g]? = some (.cells cur e (0, 0)) := by
  obtain ⟨xs, h1, _⟩ := h
  exact own_typed h1 g hg
theorem RowIs.form (h : RowIs W B e s v n E) : (v = .slice none 0 0 ∧ n = 0) ∨ ∃ g c, v = .slice (some ⟨g, 0, none⟩) n c ∧ n ≤ c := by
  obtain ⟨xs, h1, _⟩ := h
  rcases h1.2 with h2 | ⟨g, c, cur, rfl, _, _, hc, _⟩
  · exact .inl h2
  · exact .inr ⟨g, c, rfl, hc⟩
theorem RowIs.kept (h : RowIs W B e s v n E) {row : Option Nat} (hg : W.grownBy w1 row) (hne : ∀ g, v.ownBlock = some g → row ≠ some g) : RowIs w1 B e s v n E := by
  obtain ⟨xs, h1, h2⟩ := h
  refine ⟨xs, h1.kept hg ?_, h2⟩
  cases hv : v.ownBlock with
  | none => exact .inl rfl
  | some g => exact .inr (fun he => hne g hv he.symm)
theorem RowIs.below (h : RowIs W B e s v n E) (hb : Below W.heap.size W w1) : RowIs w1 B e s v n E := by
  obtain ⟨xs, h1, h2⟩ := h
  exact ⟨xs, own_move h1 (fun k hk => hb.block k (own_lt h1 k hk)), h2⟩
theorem RowIs.cell {g c : Nat} (h : RowIs W B e s (.slice (some ⟨g, 0, none⟩) n c) n E) {j : Nat} (hj : j < n) {X : List Value} (hX : E j = some X) {t : Nat} {u : Value} (ht : t < s) (hu : X[t]? = some u) : W.cell? ⟨g, j * s + t, none⟩ = some u := by
  obtain ⟨xs, h1, h2⟩ := h
  have := h1.cells (g := g) rfl (j * s + t) u (h2 j hj X hX t u ht hu)
  rwa [show ((⟨g, 0, none⟩ : Addr).add (j * s + t)) = ⟨g, j * s + t, none⟩ from by rw [Lib.add_plain, Nat.zero_add]] at this
theorem RowIs.here {g c : Nat} (h : RowIs W B e s (.slice (some ⟨g, 0, none⟩) n c) n E) {j : Nat} (hj : j < n * s) : (∃ u, W.cell? ⟨g, j, none⟩ = some u) ∧ W.frozen? ⟨g, j, none⟩ = false := by
  obtain ⟨xs, h1, h2⟩ := h
  obtain ⟨cur, hc⟩ := own_typed h1 g rfl
  have hl := h1.1
  have := h1.cells (g := g) rfl j _ (List.getElem?_eq_getElem (show j < xs.length by omega))
  rw [show ((⟨g, 0, none⟩ : Addr).add j) = ⟨g, j, none⟩ from by rw [Lib.add_plain, Nat.zero_add]] at this
  exact ⟨⟨_, this⟩, blk_frozen hc _⟩
theorem RowIs.rd (h : RowIs W B e s v n E) {X : List Value} (hE : ∀ j, j < n → E j = some X) : RdIs W v n s X := by
  intro g c hv j hj t u ht hu
  subst hv
  exact h.cell hj (hE j hj) ht hu
/-- One element is written. -/
theorem RowIs.set (h : RowIs W B e s v n E) {g c : Nat} (hv : v = .slice (some ⟨g, 0, none⟩) n c) {k : Nat} (hk : k < n) {X : List Value} (hX : X.length = s) (hE : ∀ j, j < n → ∀ Z, E' j = some Z → (j = k ∧ Z = X) ∨ (j ≠ k ∧ E j = some Z)) : RowIs (W.setCells g (k * s) X) B e s v n E' := by
  subst hv
  obtain ⟨xs, h1, h2⟩ := h
  rcases h1.2 with ⟨hn, _⟩ | ⟨g', c', cur, he, hb, hg, hnc, hcm, hsz, htk⟩
  · cases hn
  · injection he with e1 e2 e3
    injection e1 with e1
    injection e1 with e1
    subst e1
    subst e3
    have hlen : (k + 1) * s ≤ n * s := Nat.mul_le_mul_right _ hk
    have hlen2 : n * s ≤ c * s := Nat.mul_le_mul_right _ hnc
    have hks : (k + 1) * s = k * s + s := by rw [Nat.add_mul, Nat.one_mul]
    obtain ⟨cur', hr, hsz', hl'⟩ := setCells_row (g := g) (e := e) X (k * s) W cur hg (by omega)
    have htl : (cur.toList.take (k * s)).length = k * s := by rw [List.length_take, Array.length_toList]; omega
    refine ⟨(xs.take (k * s) ++ X ++ xs.drop (k * s + s)), ⟨?_, .inr ⟨g, c, _, rfl, hb, hr, hnc, hcm, ?_, ?_⟩⟩, ?_⟩
    · have := h1.1
      simp only [List.length_append, List.length_take, List.length_drop]
      omega
    · omega
    · have hA : (cur.toList.take (k * s) ++ X).length = k * s + s := by rw [List.length_append, htl, hX]
      rw [hl', List.take_append, hA, List.take_of_length_le (by omega), hX, ← htk, List.take_take, List.drop_take, Nat.min_eq_left (by omega)]
    · intro j hj Z hZ t u ht hu
      have hl := h1.1
      have hxl : (xs.take (k * s)).length = k * s := by rw [List.length_take]; omega
      have hxl2 : (xs.take (k * s) ++ X).length = k * s + s := by rw [List.length_append, hxl, hX]
      rcases hE j hj Z hZ with ⟨rfl, rfl⟩ | ⟨hne, hZ⟩
      · rw [List.getElem?_append_left (by rw [hxl2]; omega), List.getElem?_append_right (by rw [hxl]; omega), hxl, Nat.add_sub_cancel_left]
        exact hu
      · have h3 := h2 j hj Z hZ t u ht hu
        rcases Nat.lt_or_gt_of_ne hne with hlt | hgt
        · have : (j + 1) * s ≤ k * s := Nat.mul_le_mul_right _ hlt
          have hjs : (j + 1) * s = j * s + s := by rw [Nat.add_mul, Nat.one_mul]
          rw [List.getElem?_append_left (by rw [hxl2]; omega), List.getElem?_append_left (by rw [hxl]; omega), List.getElem?_take_of_lt (by omega)]
          exact h3
        · have : (k + 1) * s ≤ j * s := Nat.mul_le_mul_right _ hgt
          rw [List.getElem?_append_right (by rw [hxl2]; omega), hxl2, List.getElem?_drop, show k * s + s + (j * s + t - (k * s + s)) = j * s + t by omega]
          exact h3
theorem RowIs.far (h : RowIs W B e s v n E) {g o : Nat} {X : List Value} (hne : v.ownBlock ≠ some g) : RowIs (W.setCells g o X) B e s v n E := by
  obtain ⟨xs, h1, h2⟩ := h
  exact ⟨xs, own_move h1 (fun k hk => setCells_far X o k (fun he => hne (by rw [← he]; exact hk))), h2⟩
end
end Go.Proofs.YtohighedgdlflaaGreatDoor

/- One element is appended to a row of the call's own: where the new slice lies, and that the old cells stay. -/
namespace Go.Proofs.YtohighedgdlflaaGreatDoor
open Go.RowKit Go.Proofs.YtohighedgdlflaaGreatDoorW.PrintWords
set_option linter.unusedVariables false
set_option linter.unusedSimpArgs false
section
variable {P : Program} {ops : Array Oper} {rest : List Oper} {o : Oper} {a : Act} {Q : Exit → Act → World → Prop}
end
end Go.Proofs.YtohighedgdlflaaGreatDoor
