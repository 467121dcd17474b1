/- The law TraceSums of package trace answers true, for every cell, every two rows of observations and every place to stop. -/
import Derived.Test.YtohighedgdlflaaGreatDoorTMS15
import Derived.Test.YtohighedgdlflaaGreatDoorTPRx2
/- Lists written full (P1), made longer by 64 (In, P2): what holds of the memory at each step. -/
namespace Go.Proofs.YtohighedgdlflaaGreatDoor
open Go.RowKit Go.Proofs.YtohighedgdlflaaGreatDoorW.PrintWords
set_option linter.unusedVariables false
set_option linter.unusedSimpArgs false
/-- The lists that came out, in a row of their own: what does not change. -/
structure Came (B L N s e eo H : Nat) (vs : Nat → Value) (ns : Nat → Nat) (X Y : Nat → List Value) : Prop where
  dist : ∀ p q, p < N → q < N → p ≠ q → ∀ g, (vs p).ownBlock = some g → (vs q).ownBlock ≠ some g
  lt : ∀ q, q < N → ∀ g, (vs q).ownBlock = some g → g < H
  form : ∀ q, q < N → (vs q = .slice none 0 0 ∧ ns q = 0) ∨ ∃ g c, vs q = .slice (some ⟨g, 0, none⟩) (ns q) c ∧ ns q ≤ c
  small : ∀ q, q < N → ns q ≤ 1000000000
  ne : e ≠ eo
  BL : B ≤ L
  LH : L < H
  lenX : ∀ q, q < N → (X q).length = s
  lenY : ∀ q, q < N → (Y q).length = s
/-- The row of the lists. -/
def LBlk (W : World) (L N eo : Nat) (vs : Nat → Value) : Prop := ∃ cs : Array Value, W.heap[L]? = some (.cells cs eo (0, 0)) ∧ ∀ q, q < N → cs[q]? = some (vs q)
theorem LBlk.cell {W : World} {L N eo : Nat} {vs : Nat → Value} (h : LBlk W L N eo vs) {q : Nat} (hq : q < N) : W.cell? ⟨L, q, none⟩ = some (vs q) := by
  obtain ⟨cs, h1, h2⟩ := h
  rw [blk_cell h1]; exact h2 q hq
def E1 (X : Nat → List Value) (i j q k : Nat) : Option (List Value) := if q < i ∨ (q = i ∧ k < j) then some (X q) else none
def EY (ns : Nat → Nat) (X Y : Nat → List Value) (q k : Nat) : Option (List Value) := if k < ns q then some (X q) else some (Y q)
structure P1 (W : World) (B L N s e eo : Nat) (vs : Nat → Value) (ns : Nat → Nat) (X : Nat → List Value) (i j : Nat) : Prop where
  blk : LBlk W L N eo vs
  own : ∀ q, q < N → RowIs W B e s (vs q) (ns q) (E1 X i j q)
structure P2 (W : World) (B L N s e eo H : Nat) (vs : Nat → Value) (ns : Nat → Nat) (X Y : Nat → List Value) (i : Nat) (v : Value) (ys : List Value) : Prop where
  blk : LBlk W L N eo vs
  hH : H ≤ W.heap.size
  rd : ∀ q, q < N → RdIs W (vs q) (ns q) s (X q)
  own : ∀ q, i ≤ q → q < N → RowIs W B e s (vs q) (ns q) (fun _ => some (X q))
  lon : W.ownsRow H eo 1 v i ys
  ysO : ∀ q, q < i → ∃ g c, ys[q]? = some (.slice (some ⟨g, 0, none⟩) (ns q + 64) c) ∧ ns q + 64 ≤ c ∧ RowIs W B e s (.slice (some ⟨g, 0, none⟩) (ns q + 64) c) (ns q + 64) (EY ns X Y q) ∧ ∀ p, p < N → p ≠ q → (vs p).ownBlock ≠ some g
structure In (W : World) (B L N s e eo H : Nat) (vs : Nat → Value) (ns : Nat → Nat) (X Y : Nat → List Value) (i j : Nat) (y v : Value) (ys : List Value) : Prop where
  blk : LBlk W L N eo vs
  hH : H ≤ W.heap.size
  rd : ∀ q, q < N → RdIs W (vs q) (ns q) s (X q)
  own : ∀ q, i < q → q < N → RowIs W B e s (vs q) (ns q) (fun _ => some (X q))
  lon : W.ownsRow H eo 1 v i ys
  ysO : ∀ q, q < i → ∃ g c, ys[q]? = some (.slice (some ⟨g, 0, none⟩) (ns q + 64) c) ∧ ns q + 64 ≤ c ∧ RowIs W B e s (.slice (some ⟨g, 0, none⟩) (ns q + 64) c) (ns q + 64) (EY ns X Y q) ∧ (∀ p, p < N → p ≠ q → (vs p).ownBlock ≠ some g) ∧ y.ownBlock ≠ some g
  yR : RowIs W B e s y (ns i + j) (EY ns X Y i)
  yv : ∀ p, p < N → p ≠ i → ∀ g, y.ownBlock = some g → (vs p).ownBlock ≠ some g
section
variable {W w1 : World} {B L N s e eo H : Nat} {vs : Nat → Value} {ns : Nat → Nat} {X Y : Nat → List Value} {i j : Nat} {y v : Value} {ys : List Value}
theorem ne_block {b : Nat} {e1 e2 : Nat} {c1 c2 : Array Value} {g : Nat} (h1 : W.heap[b]? = some (.cells c1 e1 (0, 0))) (h2 : W.heap[g]? = some (.cells c2 e2 (0, 0))) (hne : e1 ≠ e2) : b ≠ g := by
  intro he
  subst he
  rw [h1] at h2
  injection h2 with h2
  injection h2 with _ h3 _
  exact hne h3
theorem LBlk.kept (h : LBlk W L N eo vs) {row : Option Nat} (hg : W.grownBy w1 row) (hne : some L ≠ row) : LBlk w1 L N eo vs := by
  obtain ⟨cs, h1, h2⟩ := h
  exact ⟨cs, (hg.block _ (heap_lt h1) hne).trans h1, h2⟩
theorem LBlk.below (h : LBlk W L N eo vs) (hb : Below W.heap.size W w1) : LBlk w1 L N eo vs := by
  obtain ⟨cs, h1, h2⟩ := h
  exact ⟨cs, (hb.block _ (heap_lt h1)).trans h1, h2⟩
theorem RdIs.below {v : Value} {n s : Nat} {X : List Value} (h : RdIs W v n s X) (hb : Below W.heap.size W w1) : RdIs w1 v n s X := fun g c hv j hj t u ht hu => (hb.cell (World.block_lt_of_cell? W _ (h g c hv j hj t u ht hu))).trans (h g c hv j hj t u ht hu)
theorem In.below (h : In W B L N s e eo H vs ns X Y i j y v ys) (hb : Below W.heap.size W w1) : In w1 B L N s e eo H vs ns X Y i j y v ys where
  blk := h.blk.below hb
  hH := Nat.le_trans h.hH hb.size
  rd := fun q hq => (h.rd q hq).below hb
  own := fun q h1 h2 => (h.own q h1 h2).below hb
  lon := own_move h.lon (fun k hk => hb.block k (own_lt h.lon k hk))
  ysO := fun q hq => by
    obtain ⟨g, c, h1, hc, h2, h3, h4⟩ := h.ysO q hq
    exact ⟨g, c, h1, hc, h2.below hb, h3, h4⟩
  yR := h.yR.below hb
  yv := h.yv
theorem P2.below (h : P2 W B L N s e eo H vs ns X Y i v ys) (hb : Below W.heap.size W w1) : P2 w1 B L N s e eo H vs ns X Y i v ys where
  blk := h.blk.below hb
  hH := Nat.le_trans h.hH hb.size
  rd := fun q hq => (h.rd q hq).below hb
  own := fun q h1 h2 => (h.own q h1 h2).below hb
  lon := own_move h.lon (fun k hk => hb.block k (own_lt h.lon k hk))
  ysO := fun q hq => by
    obtain ⟨g, c, h1, hc, h2, h3⟩ := h.ysO q hq
    exact ⟨g, c, h1, hc, h2.below hb, h3⟩
theorem P1.below (h : P1 W B L N s e eo vs ns X i j) (hb : Below W.heap.size W w1) : P1 w1 B L N s e eo vs ns X i j := ⟨h.blk.below hb, fun q hq => (h.own q hq).below hb⟩
/-- One element of a list is written. -/
theorem P1.step (hc : Came B L N s e eo H vs ns X Y) (h : P1 W B L N s e eo vs ns X i j) (hi : i < N) (hj : j < ns i) {g c : Nat} (hv : vs i = .slice (some ⟨g, 0, none⟩) (ns i) c) : P1 (W.setCells g (j * s) (X i)) B L N s e eo vs ns X i (j + 1) where
  blk := by
    obtain ⟨cs, h1, h2⟩ := h.blk
    obtain ⟨cur, h3⟩ := (h.own i hi).typed (g := g) (by rw [hv]; rfl)
    exact ⟨cs, (setCells_far _ _ L (ne_block h1 h3 (fun h => hc.ne h.symm))).trans h1, h2⟩
  own := fun q hq => by
    by_cases hqi : q = i
    · subst hqi
      refine (h.own q hq).set hv hj (hc.lenX q hq) ?_
      intro k hk Z hZ
      simp only [E1] at hZ ⊢
      by_cases hkj : k = j
      · subst hkj
        rw [if_pos (Or.inr ⟨by trivial, by omega⟩)] at hZ
        exact .inl ⟨by first | rfl | trivial, (Option.some.inj hZ).symm⟩
      · right
        refine ⟨hkj, ?_⟩
        rw [← hZ]
        congr 1
        simp
        omega
    · refine ((h.own q hq).far (hc.dist i q hi hq (Ne.symm hqi) g (by rw [hv]; rfl))).mono ?_
      intro k hk Z hZ
      simp only [E1] at hZ ⊢
      rw [← hZ]
      congr 1
      simp
      omega
theorem P1.next (h : P1 W B L N s e eo vs ns X i (ns i)) : P1 W B L N s e eo vs ns X (i + 1) 0 where
  blk := h.blk
  own := fun q hq => (h.own q hq).mono (fun k hk Z hZ => by
    simp only [E1] at hZ ⊢
    rw [← hZ]
    congr 1
    simp
    by_cases hqi : q = i
    · subst hqi; omega
    · omega)
theorem P1.done (h : P1 W B L N s e eo vs ns X N 0) (hH : H ≤ W.heap.size) : P2 W B L N s e eo H vs ns X Y 0 (.slice none 0 0) [] where
  blk := h.blk
  hH := hH
  rd := fun q hq => (h.own q hq).rd (fun j hj => by simp only [E1]; rw [if_pos (Or.inl hq)])
  own := fun q _ hq => (h.own q hq).mono (fun k hk Z hZ => by simp only [E1]; rw [if_pos (Or.inl hq)]; exact hZ)
  lon := World.ownsRow_nil _ _ _ _
  ysO := fun q hq => absurd hq (by omega)
theorem P2.enter (hc : Came B L N s e eo H vs ns X Y) (h : P2 W B L N s e eo H vs ns X Y i v ys) (hi : i < N) : In W B L N s e eo H vs ns X Y i 0 (vs i) v ys where
  blk := h.blk
  hH := h.hH
  rd := h.rd
  own := fun q h1 h2 => h.own q (by omega) h2
  lon := h.lon
  ysO := fun q hq => by
    obtain ⟨g, c, h1, hc, h2, h3⟩ := h.ysO q hq
    exact ⟨g, c, h1, hc, h2, h3, h3 i hi (by omega)⟩
  yR := (h.own i (Nat.le_refl _) hi).mono (fun k hk Z hZ => by simp only [EY] at hZ; rw [if_pos (by omega)] at hZ; exact hZ)
  yv := fun p hp hpi g hg => hc.dist i p hi hp (Ne.symm hpi) g hg
/-- One element is appended. -/
theorem In.step (hc : Came B L N s e eo H vs ns X Y) (h : In W B L N s e eo H vs ns X Y i j y v ys) (hi : i < N) {g c : Nat} (hR : RowIs w1 B e s (.slice (some ⟨g, 0, none⟩) (ns i + j + 1) c) (ns i + j + 1) (fun k => if k = ns i + j then some (Y i) else EY ns X Y i k))
    (hg : W.grownBy w1 y.ownBlock) (hat : y.ownBlock = some g ∨ g = W.heap.size) (hk : ∀ g0 k u, (y.ownBlock = some g0 → k < (ns i + j) * s) → W.cell? ⟨g0, k, none⟩ = some u → w1.cell? ⟨g0, k, none⟩ = some u) :
    In w1 B L N s e eo H vs ns X Y i (j + 1) (.slice (some ⟨g, 0, none⟩) (ns i + j + 1) c) v ys where
  blk := by
    refine h.blk.kept hg ?_
    intro he
    obtain ⟨cs, h1, _⟩ := h.blk
    obtain ⟨cur, h3⟩ := h.yR.typed he.symm
    exact ne_block h1 h3 (fun h => hc.ne h.symm) rfl
  hH := Nat.le_trans h.hH hg.size
  rd := fun q hq g0 c0 hv0 k hk0 t u ht hu => by
    refine hk g0 _ u ?_ (h.rd q hq g0 c0 hv0 k hk0 t u ht hu)
    intro hy
    by_cases hqi : q = i
    · subst hqi
      have : (k + 1) * s ≤ (ns q + j) * s := Nat.mul_le_mul_right _ (by omega)
      rw [Nat.add_mul, Nat.one_mul] at this
      omega
    · exact absurd (by rw [hv0]; rfl) (h.yv q hq hqi g0 hy)
  own := fun q h1 h2 => (h.own q h1 h2).kept hg (fun g0 hg0 hy => h.yv q h2 (by omega) g0 hy hg0)
  lon := by
    refine h.lon.kept hg ?_
    cases hv : v.ownBlock with
    | none => exact .inl rfl
    | some b =>
      right
      intro he
      obtain ⟨c1, h1⟩ := own_typed h.lon b hv
      obtain ⟨cur, h3⟩ := h.yR.typed he.symm
      exact ne_block h1 h3 (fun h => hc.ne h.symm) rfl
  ysO := fun q hq => by
    obtain ⟨g0, c0, h1, hc0, h2, h3, h4⟩ := h.ysO q hq
    refine ⟨g0, c0, h1, hc0, h2.kept hg (fun g1 hg1 hy => ?_), h3, ?_⟩
    · have : g0 = g1 := by simpa [Value.ownBlock] using hg1
      subst this
      exact h4 hy
    · intro he
      have : g = g0 := by simpa [Value.ownBlock] using he
      subst this
      rcases hat with hat | hat
      · exact h4 hat
      · have := h2.lt (g := g) rfl
        omega
  yR := hR.mono (fun k hk Z hZ => by
    show (if k = ns i + j then some (Y i) else EY ns X Y i k) = some Z
    by_cases hkn : k = ns i + j
    · rw [if_pos hkn]
      simp only [EY] at hZ
      rw [if_neg (by omega)] at hZ
      exact hZ
    · rw [if_neg hkn]; exact hZ)
  yv := fun p hp hpi g0 hg0 => by
    have : g = g0 := by simpa [Value.ownBlock] using hg0
    subst this
    rcases hat with hat | hat
    · exact h.yv p hp hpi g hat
    · intro he
      have := hc.lt p hp g he
      have := h.hH
      omega
/-- The longer list is put behind the others. -/
theorem In.leave (hc : Came B L N s e eo H vs ns X Y) {g c : Nat} (hy : y = .slice (some ⟨g, 0, none⟩) (ns i + 64) c) (hcc : ns i + 64 ≤ c) (h : In W B L N s e eo H vs ns X Y i 64 y v ys) (hi : i < N) {v1 : Value} (hl : w1.ownsRow H eo 1 v1 (i + 1) (ys ++ [y])) (hg : W.grownBy w1 v.ownBlock) :
    P2 w1 B L N s e eo H vs ns X Y (i + 1) v1 (ys ++ [y]) := by
  have far : ∀ g0 cur, W.heap[g0]? = some (.cells cur e (0, 0)) → v.ownBlock ≠ some g0 := by
    intro g0 cur h1 hv
    obtain ⟨c1, h2⟩ := own_typed h.lon g0 hv
    exact ne_block h1 h2 hc.ne rfl
  have hlen : ys.length = i := by have := h.lon.1; omega
  exact {
    blk := h.blk.kept hg (fun he => by
      have := own_base h.lon L he.symm
      have := hc.LH
      omega)
    hH := Nat.le_trans h.hH hg.size
    rd := fun q hq g0 c0 hv0 k hk0 t u ht hu => by
      have h1 := h.rd q hq g0 c0 hv0 k hk0 t u ht hu
      refine (World.cell?_of_block (hg.block g0 (World.block_lt_of_cell? W _ h1) (fun he => ?_))).trans h1
      have h2 := own_base h.lon g0 he.symm
      have h3 := hc.lt q hq g0 (by rw [hv0]; rfl)
      omega
    own := fun q h1 h2 => (h.own q (by omega) h2).kept hg (fun g0 hg0 => by
      obtain ⟨cur, h3⟩ := (h.own q (by omega) h2).typed hg0
      exact far g0 cur h3)
    lon := hl
    ysO := fun q hq => by
      by_cases hqi : q = i
      · subst hqi
        refine ⟨g, c, by rw [List.getElem?_append_right (by omega), hlen, Nat.sub_self, hy]; rfl, hcc, ?_, ?_⟩
        · rw [← hy]
          exact h.yR.kept hg (fun g0 hg0 => by
            obtain ⟨cur, h3⟩ := h.yR.typed hg0
            exact far g0 cur h3)
        · exact fun p hp hpi => h.yv p hp hpi g (by rw [hy]; rfl)
      · obtain ⟨g0, c0, h1, hc0, h2, h3, h4⟩ := h.ysO q (by omega)
        refine ⟨g0, c0, by rw [List.getElem?_append_left (by omega)]; exact h1, hc0, h2.kept hg (fun g1 hg1 => ?_), h3⟩
        obtain ⟨cur, h5⟩ := h2.typed hg1
        exact far g1 cur h5 }
end
end Go.Proofs.YtohighedgdlflaaGreatDoor

/- What alone's walk needs: marks, and one element written field by field. -/
namespace Go.Proofs.YtohighedgdlflaaGreatDoor
open Go.Shelf Go.RowKit Go.Sort Go.Lib Go.Proofs.YtohighedgdlflaaGreatDoorW.PrintWords Go.Proofs.YtohighedgdlflaaGreatDoor.PR
set_option linter.unusedVariables false
set_option linter.unusedSimpArgs false
/-- The six cells of a mark. -/
def mk6 (M : Int) : List Value := [.int .u64 77, .int .i64 0, .int .i64 M, .int .u32 0, .int .u32 0, .int .u32 0]
theorem mark_ok (n M : Int) (hM : wrap64 (-9 - n) = M) (w : World) : Calls Tryz.prog 28 #[.int .i64 n] w fun e w' => e = .returned (.agg #[.int .u64 77, .int .i64 0, .int .i64 M, .int .u32 0, .int .u32 0, .int .u32 0]) ∧ Below w.heap.size w w' := by
  subst hM
  exact cloisterlaw22_mark.calls n 77 0 _ 0 0 0 w rfl
theorem chain6 {W : World} {g o : Nat} {u1 u2 u3 u4 u5 : Value} (z1 : W.cell? ⟨g, o + 1, none⟩ = some u1) (z2 : W.cell? ⟨g, o + 2, none⟩ = some u2) (z3 : W.cell? ⟨g, o + 3, none⟩ = some u3) (z4 : W.cell? ⟨g, o + 4, none⟩ = some u4) (z5 : W.cell? ⟨g, o + 5, none⟩ = some u5) (v0 v1 v2 v3 v4 : Value) :
    (W.setCell ⟨g, o, none⟩ v0).cell? ⟨g, o + 1, none⟩ = some u1 ∧
    ((W.setCell ⟨g, o, none⟩ v0).setCell ⟨g, o + 1, none⟩ v1).cell? ⟨g, o + 2, none⟩ = some u2 ∧
    (((W.setCell ⟨g, o, none⟩ v0).setCell ⟨g, o + 1, none⟩ v1).setCell ⟨g, o + 2, none⟩ v2).cell? ⟨g, o + 3, none⟩ = some u3 ∧
    ((((W.setCell ⟨g, o, none⟩ v0).setCell ⟨g, o + 1, none⟩ v1).setCell ⟨g, o + 2, none⟩ v2).setCell ⟨g, o + 3, none⟩ v3).cell? ⟨g, o + 4, none⟩ = some u4 ∧
    (((((W.setCell ⟨g, o, none⟩ v0).setCell ⟨g, o + 1, none⟩ v1).setCell ⟨g, o + 2, none⟩ v2).setCell ⟨g, o + 3, none⟩ v3).setCell ⟨g, o + 4, none⟩ v4).cell? ⟨g, o + 5, none⟩ = some u5 := by
  refine ⟨?_, ?_, ?_, ?_, ?_⟩
  · rw [World.cell?_setCell_other _ _ _ _ (by simp)]; exact z1
  · rw [World.cell?_setCell_other _ _ _ _ (by simp), World.cell?_setCell_other _ _ _ _ (by simp)]; exact z2
  · rw [World.cell?_setCell_other _ _ _ _ (by simp), World.cell?_setCell_other _ _ _ _ (by simp), World.cell?_setCell_other _ _ _ _ (by simp)]; exact z3
  · rw [World.cell?_setCell_other _ _ _ _ (by simp), World.cell?_setCell_other _ _ _ _ (by simp), World.cell?_setCell_other _ _ _ _ (by simp), World.cell?_setCell_other _ _ _ _ (by simp)]; exact z4
  · rw [World.cell?_setCell_other _ _ _ _ (by simp), World.cell?_setCell_other _ _ _ _ (by simp), World.cell?_setCell_other _ _ _ _ (by simp), World.cell?_setCell_other _ _ _ _ (by simp), World.cell?_setCell_other _ _ _ _ (by simp)]; exact z5
theorem chainf6 {W : World} {g o : Nat} (z1 : W.frozen? ⟨g, o + 1, none⟩ = false) (z2 : W.frozen? ⟨g, o + 2, none⟩ = false) (z3 : W.frozen? ⟨g, o + 3, none⟩ = false) (z4 : W.frozen? ⟨g, o + 4, none⟩ = false) (z5 : W.frozen? ⟨g, o + 5, none⟩ = false) (v0 v1 v2 v3 v4 : Value) :
    (W.setCell ⟨g, o, none⟩ v0).frozen? ⟨g, o + 1, none⟩ = false ∧
    ((W.setCell ⟨g, o, none⟩ v0).setCell ⟨g, o + 1, none⟩ v1).frozen? ⟨g, o + 2, none⟩ = false ∧
    (((W.setCell ⟨g, o, none⟩ v0).setCell ⟨g, o + 1, none⟩ v1).setCell ⟨g, o + 2, none⟩ v2).frozen? ⟨g, o + 3, none⟩ = false ∧
    ((((W.setCell ⟨g, o, none⟩ v0).setCell ⟨g, o + 1, none⟩ v1).setCell ⟨g, o + 2, none⟩ v2).setCell ⟨g, o + 3, none⟩ v3).frozen? ⟨g, o + 4, none⟩ = false ∧
    (((((W.setCell ⟨g, o, none⟩ v0).setCell ⟨g, o + 1, none⟩ v1).setCell ⟨g, o + 2, none⟩ v2).setCell ⟨g, o + 3, none⟩ v3).setCell ⟨g, o + 4, none⟩ v4).frozen? ⟨g, o + 5, none⟩ = false := by
  refine ⟨?_, ?_, ?_, ?_, ?_⟩ <;> simp only [World.frozen?_setCell] <;> assumption
theorem RowIs.set6 {W : World} {B e n : Nat} {g c : Nat} {E : Nat → Option (List Value)} (h : RowIs W B e 6 (.slice (some ⟨g, 0, none⟩) n c) n E) {j : Nat} (hj : j < n) :
    ∃ u0 u1 u2 u3 u4 u5, (W.cell? ⟨g, j * 6, none⟩ = some u0 ∧ W.cell? ⟨g, j * 6 + 1, none⟩ = some u1 ∧ W.cell? ⟨g, j * 6 + 2, none⟩ = some u2 ∧ W.cell? ⟨g, j * 6 + 3, none⟩ = some u3 ∧ W.cell? ⟨g, j * 6 + 4, none⟩ = some u4 ∧ W.cell? ⟨g, j * 6 + 5, none⟩ = some u5) ∧
      (W.frozen? ⟨g, j * 6, none⟩ = false ∧ W.frozen? ⟨g, j * 6 + 1, none⟩ = false ∧ W.frozen? ⟨g, j * 6 + 2, none⟩ = false ∧ W.frozen? ⟨g, j * 6 + 3, none⟩ = false ∧ W.frozen? ⟨g, j * 6 + 4, none⟩ = false ∧ W.frozen? ⟨g, j * 6 + 5, none⟩ = false) := by
  obtain ⟨⟨u0, a0⟩, b0⟩ := h.here (j := j * 6) (by omega)
  obtain ⟨⟨u1, a1⟩, b1⟩ := h.here (j := j * 6 + 1) (by omega)
  obtain ⟨⟨u2, a2⟩, b2⟩ := h.here (j := j * 6 + 2) (by omega)
  obtain ⟨⟨u3, a3⟩, b3⟩ := h.here (j := j * 6 + 3) (by omega)
  obtain ⟨⟨u4, a4⟩, b4⟩ := h.here (j := j * 6 + 4) (by omega)
  obtain ⟨⟨u5, a5⟩, b5⟩ := h.here (j := j * 6 + 5) (by omega)
  exact ⟨u0, u1, u2, u3, u4, u5, ⟨a0, a1, a2, a3, a4, a5⟩, b0, b1, b2, b3, b4, b5⟩
/-- The six cells of one element, as they are known. -/
theorem RdIs.six {W : World} {v : Value} {n : Nat} {M : Int} (h : RdIs W v n 6 (mk6 M)) {g c : Nat} (hv : v = .slice (some ⟨g, 0, none⟩) n c) {j : Nat} (hj : j < n) :
    W.cell? ⟨g, j * 6, none⟩ = some (.int .u64 77) ∧ W.cell? ⟨g, j * 6 + 1, none⟩ = some (.int .i64 0) ∧ W.cell? ⟨g, j * 6 + 2, none⟩ = some (.int .i64 M) ∧ W.cell? ⟨g, j * 6 + 3, none⟩ = some (.int .u32 0) ∧ W.cell? ⟨g, j * 6 + 4, none⟩ = some (.int .u32 0) ∧ W.cell? ⟨g, j * 6 + 5, none⟩ = some (.int .u32 0) :=
  ⟨h g c hv j hj 0 _ (by decide) rfl, h g c hv j hj 1 _ (by decide) rfl, h g c hv j hj 2 _ (by decide) rfl, h g c hv j hj 3 _ (by decide) rfl, h g c hv j hj 4 _ (by decide) rfl, h g c hv j hj 5 _ (by decide) rfl⟩
theorem RowIs.six {W : World} {B e n : Nat} {g c : Nat} {E : Nat → Option (List Value)} (h : RowIs W B e 6 (.slice (some ⟨g, 0, none⟩) n c) n E) {j : Nat} (hj : j < n) {M : Int} (hE : E j = some (mk6 M)) :
    W.cell? ⟨g, j * 6, none⟩ = some (.int .u64 77) ∧ W.cell? ⟨g, j * 6 + 1, none⟩ = some (.int .i64 0) ∧ W.cell? ⟨g, j * 6 + 2, none⟩ = some (.int .i64 M) ∧ W.cell? ⟨g, j * 6 + 3, none⟩ = some (.int .u32 0) ∧ W.cell? ⟨g, j * 6 + 4, none⟩ = some (.int .u32 0) ∧ W.cell? ⟨g, j * 6 + 5, none⟩ = some (.int .u32 0) :=
  ⟨h.cell hj hE (t := 0) (by decide) rfl, h.cell hj hE (t := 1) (by decide) rfl, h.cell hj hE (t := 2) (by decide) rfl, h.cell hj hE (t := 3) (by decide) rfl, h.cell hj hE (t := 4) (by decide) rfl, h.cell hj hE (t := 5) (by decide) rfl⟩
theorem set6_below' {B g o : Nat} {w1 X : World} {v0 v1 v2 v3 v4 v5 : Value} (hS : Below B w1 X) (hg : B ≤ g) : Below B w1 ((((((X.setCell ⟨g, o, none⟩ v0).setCell ⟨g, o + 1, none⟩ v1).setCell ⟨g, o + 2, none⟩ v2).setCell ⟨g, o + 3, none⟩ v3).setCell ⟨g, o + 4, none⟩ v4).setCell ⟨g, o + 5, none⟩ v5) :=
  (((((hS.setCell hg _).setCell hg _).setCell hg _).setCell hg _).setCell hg _).setCell hg _
end Go.Proofs.YtohighedgdlflaaGreatDoor
