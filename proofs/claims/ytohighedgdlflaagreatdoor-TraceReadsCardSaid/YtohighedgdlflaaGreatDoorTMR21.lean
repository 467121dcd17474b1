/- Texts of a proof that TraceReads holds, for every row of bytes, merged in order. -/
import Derived.Test.YtohighedgdlflaaGreatDoorTMR20
import Derived.Test.YtohighedgdlflaaGreatDoorTPRx2
/- What alone's walk needs: marks, and one element written field by field. -/
namespace Go.Proofs.YtohighedgdlflaaGreatDoor
open Go.Shelf Go.RowKit Go.Sort Go.Lib Go.Proofs.YtohighedgdlflaaGreatDoorW.PrintWords Go.Proofs.YtohighedgdlflaaGreatDoor.PR
set_option linter.unusedVariables false
set_option linter.unusedSimpArgs false
theorem infoSl22 : (Tryz.prog.info? 22).map (fun i => (i.zero, i.size, i.bytes)) = some (some (.slice none 0 0), 1, 24) := by kernel_rfl
/-- The six cells of a mark. -/
def mk6 (M : Int) : List Value := [.int .u64 77, .int .i64 0, .int .i64 M, .int .u32 0, .int .u32 0, .int .u32 0]
def xA (q : Nat) : List Value := mk6 (-10 - (q : Int))
def yA (q : Nat) : List Value := mk6 (-59 - (q : Int))
theorem mark_ok (n M : Int) (hM : wrap64 (-9 - n) = M) (w : World) : Calls Tryz.prog 28 #[.int .i64 n] w fun e w' => e = .returned (.agg #[.int .u64 77, .int .i64 0, .int .i64 M, .int .u32 0, .int .u32 0, .int .u32 0]) ∧ Below w.heap.size w w' := by
  subst hM
  exact cloisterlaw22_mark.calls n 77 0 _ 0 0 0 w rfl
theorem wrap_x (i : Nat) (h : i < 1000) : wrap64 (-9 - wrap64 (1 + (i : Int))) = -10 - (i : Int) := by
  have e : wrap64 (1 + (i : Int)) = 1 + (i : Int) := by unfold wrap64; omega
  rw [e]; unfold wrap64; omega
theorem wrap_y (i : Nat) (h : i < 1000) : wrap64 (-9 - wrap64 (50 + (i : Int))) = -59 - (i : Int) := by
  have e : wrap64 (50 + (i : Int)) = 50 + (i : Int) := by unfold wrap64; omega
  rw [e]; unfold wrap64; omega
theorem wrap_y' (i : Nat) (h : i < 1000) : wrap64 (-9 - (50 + (i : Int))) = -59 - (i : Int) := by
  unfold wrap64; omega
theorem chain6 {W : World} {g o : Nat} {u1 u2 u3 u4 u5 : Value} (z1 : W.cell? ⟨g, o + 1, none⟩ = some u1) (z2 : W.cell? ⟨g, o + 2, none⟩ = some u2) (z3 : W.cell? ⟨g, o + 3, none⟩ = some u3) (z4 : W.cell? ⟨g, o + 4, none⟩ = some u4) (z5 : W.cell? ⟨g, o + 5, none⟩ = some u5) (v0 v1 v2 v3 v4 : Value) :
    (W.setCell ⟨g, o, none⟩ v0).cell? ⟨g, o + 1, none⟩ = some u1 ∧
    ((W.setCell ⟨g, o, none⟩ v0).setCell ⟨g, o + 1, none⟩ v1).cell? ⟨g, o + 2, none⟩ = some u2 ∧
    (((W.setCell ⟨g, o, none⟩ v0).setCell ⟨g, o + 1, none⟩ v1).setCell ⟨g, o + 2, none⟩ v2).cell? ⟨g, o + 3, none⟩ = some u3 ∧
    ((((W.setCell ⟨g, o, none⟩ v0).setCell ⟨g, o + 1, none⟩ v1).setCell ⟨g, o + 2, none⟩ v2).setCell ⟨g, o + 3, none⟩ v3).cell? ⟨g, o + 4, none⟩ = some u4 ∧
    (((((W.setCell ⟨g, o, none⟩ v0).setCell ⟨g, o + 1, none⟩ v1).setCell ⟨g, o + 2, none⟩ v2).setCell ⟨g, o + 3, none⟩ v3).setCell ⟨g, o + 4, none⟩ v4).cell? ⟨g, o + 5, none⟩ = some u5 := by
  refine ⟨?_, ?_, ?_, ?_, ?_⟩
  · rw [World.cell?_setCell_other _ _ _ _ (by simp)]; exact z1
  · rw [World.cell?_setCell_other _ _ _ _ (by simp), World.cell?_setCell_other _ _ _ _ (by simp)]; exact z2
  · rw [World.cell?_setCell_other _ _ _ _ (by simp), World.cell?_setCell_other _ _ _ _ (by simp), World.cell?_setCell_other _ _ _ _ (by simp)]; exact z3
  · rw [World.cell?_setCell_other _ _ _ _ (by simp), World.cell?_setCell_other _ _ _ _ (by simp), World.cell?_setCell_other _ _ _ _ (by simp), World.cell?_setCell_other _ _ _ _ (by simp)]; exact z4
  · rw [World.cell?_setCell_other _ _ _ _ (by simp), World.cell?_setCell_other _ _ _ _ (by simp), World.cell?_setCell_other _ _ _ _ (by simp), World.cell?_setCell_other _ _ _ _ (by simp), World.cell?_setCell_other _ _ _ _ (by simp)]; exact z5
theorem chainf6 {W : World} {g o : Nat} (z1 : W.frozen? ⟨g, o + 1, none⟩ = false) (z2 : W.frozen? ⟨g, o + 2, none⟩ = false) (z3 : W.frozen? ⟨g, o + 3, none⟩ = false) (z4 : W.frozen? ⟨g, o + 4, none⟩ = false) (z5 : W.frozen? ⟨g, o + 5, none⟩ = false) (v0 v1 v2 v3 v4 : Value) :
    (W.setCell ⟨g, o, none⟩ v0).frozen? ⟨g, o + 1, none⟩ = false ∧
    ((W.setCell ⟨g, o, none⟩ v0).setCell ⟨g, o + 1, none⟩ v1).frozen? ⟨g, o + 2, none⟩ = false ∧
    (((W.setCell ⟨g, o, none⟩ v0).setCell ⟨g, o + 1, none⟩ v1).setCell ⟨g, o + 2, none⟩ v2).frozen? ⟨g, o + 3, none⟩ = false ∧
    ((((W.setCell ⟨g, o, none⟩ v0).setCell ⟨g, o + 1, none⟩ v1).setCell ⟨g, o + 2, none⟩ v2).setCell ⟨g, o + 3, none⟩ v3).frozen? ⟨g, o + 4, none⟩ = false ∧
    (((((W.setCell ⟨g, o, none⟩ v0).setCell ⟨g, o + 1, none⟩ v1).setCell ⟨g, o + 2, none⟩ v2).setCell ⟨g, o + 3, none⟩ v3).setCell ⟨g, o + 4, none⟩ v4).frozen? ⟨g, o + 5, none⟩ = false := by
  refine ⟨?_, ?_, ?_, ?_, ?_⟩ <;> simp only [World.frozen?_setCell] <;> assumption
theorem RowIs.set6 {W : World} {B e n : Nat} {g c : Nat} {E : Nat → Option (List Value)} (h : RowIs W B e 6 (.slice (some ⟨g, 0, none⟩) n c) n E) {j : Nat} (hj : j < n) :
    ∃ u0 u1 u2 u3 u4 u5, (W.cell? ⟨g, j * 6, none⟩ = some u0 ∧ W.cell? ⟨g, j * 6 + 1, none⟩ = some u1 ∧ W.cell? ⟨g, j * 6 + 2, none⟩ = some u2 ∧ W.cell? ⟨g, j * 6 + 3, none⟩ = some u3 ∧ W.cell? ⟨g, j * 6 + 4, none⟩ = some u4 ∧ W.cell? ⟨g, j * 6 + 5, none⟩ = some u5) ∧
      (W.frozen? ⟨g, j * 6, none⟩ = false ∧ W.frozen? ⟨g, j * 6 + 1, none⟩ = false ∧ W.frozen? ⟨g, j * 6 + 2, none⟩ = false ∧ W.frozen? ⟨g, j * 6 + 3, none⟩ = false ∧ W.frozen? ⟨g, j * 6 + 4, none⟩ = false ∧ W.frozen? ⟨g, j * 6 + 5, none⟩ = false) := by
  obtain ⟨⟨u0, a0⟩, b0⟩ := h.here (j := j * 6) (by omega)
  obtain ⟨⟨u1, a1⟩, b1⟩ := h.here (j := j * 6 + 1) (by omega)
  obtain ⟨⟨u2, a2⟩, b2⟩ := h.here (j := j * 6 + 2) (by omega)
  obtain ⟨⟨u3, a3⟩, b3⟩ := h.here (j := j * 6 + 3) (by omega)
  obtain ⟨⟨u4, a4⟩, b4⟩ := h.here (j := j * 6 + 4) (by omega)
  obtain ⟨⟨u5, a5⟩, b5⟩ := h.here (j := j * 6 + 5) (by omega)
  exact ⟨u0, u1, u2, u3, u4, u5, ⟨a0, a1, a2, a3, a4, a5⟩, b0, b1, b2, b3, b4, b5⟩
/-- The six cells of one element, as they are known. -/
theorem RdIs.six {W : World} {v : Value} {n : Nat} {M : Int} (h : RdIs W v n 6 (mk6 M)) {g c : Nat} (hv : v = .slice (some ⟨g, 0, none⟩) n c) {j : Nat} (hj : j < n) :
    W.cell? ⟨g, j * 6, none⟩ = some (.int .u64 77) ∧ W.cell? ⟨g, j * 6 + 1, none⟩ = some (.int .i64 0) ∧ W.cell? ⟨g, j * 6 + 2, none⟩ = some (.int .i64 M) ∧ W.cell? ⟨g, j * 6 + 3, none⟩ = some (.int .u32 0) ∧ W.cell? ⟨g, j * 6 + 4, none⟩ = some (.int .u32 0) ∧ W.cell? ⟨g, j * 6 + 5, none⟩ = some (.int .u32 0) :=
  ⟨h g c hv j hj 0 _ (by decide) rfl, h g c hv j hj 1 _ (by decide) rfl, h g c hv j hj 2 _ (by decide) rfl, h g c hv j hj 3 _ (by decide) rfl, h g c hv j hj 4 _ (by decide) rfl, h g c hv j hj 5 _ (by decide) rfl⟩
theorem RowIs.six {W : World} {B e n : Nat} {g c : Nat} {E : Nat → Option (List Value)} (h : RowIs W B e 6 (.slice (some ⟨g, 0, none⟩) n c) n E) {j : Nat} (hj : j < n) {M : Int} (hE : E j = some (mk6 M)) :
    W.cell? ⟨g, j * 6, none⟩ = some (.int .u64 77) ∧ W.cell? ⟨g, j * 6 + 1, none⟩ = some (.int .i64 0) ∧ W.cell? ⟨g, j * 6 + 2, none⟩ = some (.int .i64 M) ∧ W.cell? ⟨g, j * 6 + 3, none⟩ = some (.int .u32 0) ∧ W.cell? ⟨g, j * 6 + 4, none⟩ = some (.int .u32 0) ∧ W.cell? ⟨g, j * 6 + 5, none⟩ = some (.int .u32 0) :=
  ⟨h.cell hj hE (t := 0) (by decide) rfl, h.cell hj hE (t := 1) (by decide) rfl, h.cell hj hE (t := 2) (by decide) rfl, h.cell hj hE (t := 3) (by decide) rfl, h.cell hj hE (t := 4) (by decide) rfl, h.cell hj hE (t := 5) (by decide) rfl⟩
theorem mk6_new (W : World) (M : Int) : ∀ j u, (mk6 M)[j]? = some u → (W.alloc (.cells #[.int .u64 77, .int .i64 0, .int .i64 M, .int .u32 0, .int .u32 0, .int .u32 0] 35)).cell? ⟨W.heap.size, j, none⟩ = some u := by
  intro j u hu
  simp only [World.cell?, heap_alloc_new]
  simpa [mk6] using hu
theorem mk6_one (M : Int) : ∀ u ∈ mk6 M, u.oneCell' = true := by
  intro u hu
  simp only [mk6, List.mem_cons, List.not_mem_nil, or_false] at hu
  rcases hu with rfl | rfl | rfl | rfl | rfl | rfl <;> rfl
theorem set6_cells (W : World) (g o : Nat) (M : Int) : W.setCells g o (mk6 M) = (((((W.setCell ⟨g, o, none⟩ (.int .u64 77)).setCell ⟨g, o + 1, none⟩ (.int .i64 0)).setCell ⟨g, o + 2, none⟩ (.int .i64 M)).setCell ⟨g, o + 3, none⟩ (.int .u32 0)).setCell ⟨g, o + 4, none⟩ (.int .u32 0)).setCell ⟨g, o + 5, none⟩ (.int .u32 0) := rfl
theorem set6_below' {B g o : Nat} {w1 X : World} {v0 v1 v2 v3 v4 v5 : Value} (hS : Below B w1 X) (hg : B ≤ g) : Below B w1 ((((((X.setCell ⟨g, o, none⟩ v0).setCell ⟨g, o + 1, none⟩ v1).setCell ⟨g, o + 2, none⟩ v2).setCell ⟨g, o + 3, none⟩ v3).setCell ⟨g, o + 4, none⟩ v4).setCell ⟨g, o + 5, none⟩ v5) :=
  (((((hS.setCell hg _).setCell hg _).setCell hg _).setCell hg _).setCell hg _).setCell hg _
end Go.Proofs.YtohighedgdlflaaGreatDoor

/- The four lists that TraceWrites holds, in the words of RowsP. -/
namespace Go.Proofs.YtohighedgdlflaaGreatDoor
open Go.RowKit Go.Proofs.YtohighedgdlflaaGreatDoorW.PrintWords
set_option linter.unusedVariables false
set_option linter.unusedSimpArgs false
def four (a b c d : Value) : Nat → Value
  | 0 => a
  | 1 => b
  | 2 => c
  | _ => d
def fourN (a b c d : Nat) : Nat → Nat
  | 0 => a
  | 1 => b
  | 2 => c
  | _ => d
theorem lt4 {q : Nat} (h : q < 4) : q = 0 ∨ q = 1 ∨ q = 2 ∨ q = 3 := by omega
theorem rowIs_of_R {α : Type} {d : Kd α} {e : Nat} {W : World} {B : Nat} {ok : Nat → Prop} {v : Value} {xs : List α} (h : d.R e W B ok v xs) : RowIs W B e d.sz v xs.length (fun _ => none) := by
  obtain ⟨_, inner, hown, _⟩ := h
  exact ⟨inner, hown, fun j hj X hX => by cases hX⟩
theorem form_of_R {α : Type} {d : Kd α} {e : Nat} {W : World} {B : Nat} {ok : Nat → Prop} {v : Value} {xs : List α} (h : d.R e W B ok v xs) : (v = .slice none 0 0 ∧ xs.length = 0) ∨ ∃ g c, v = .slice (some ⟨g, 0, none⟩) xs.length c ∧ xs.length ≤ c := (rowIs_of_R h).form
/-- Four rows of the call's own, made one behind the other, and the row of the four. -/
theorem came_four {α : Type} {d : Kd α} {e eo B L H : Nat} {W : World} {a0 a1 a2 a3 : Value} {x0 x1 x2 x3 : List α} {l0 h0 l1 h1 l2 h2 l3 h3 : Nat} (X Y : Nat → List Value)
    (r0 : d.R e W B (fun k => l0 ≤ k ∧ k < h0) a0 x0) (r1 : d.R e W B (fun k => l1 ≤ k ∧ k < h1) a1 x1) (r2 : d.R e W B (fun k => l2 ≤ k ∧ k < h2) a2 x2) (r3 : d.R e W B (fun k => l3 ≤ k ∧ k < h3) a3 x3)
    (o1 : h0 ≤ l1) (o2 : h1 ≤ l2) (o3 : h2 ≤ l3) (p1 : l1 ≤ h1) (p2 : l2 ≤ h2) (p3 : l3 ≤ h3) (o4 : h3 ≤ L) (hLH : L < H) (hBL : B ≤ L) (hne : e ≠ eo) (s0 : x0.length ≤ 1000000000) (s1 : x1.length ≤ 1000000000) (s2 : x2.length ≤ 1000000000) (s3 : x3.length ≤ 1000000000) (hX : ∀ q, (X q).length = d.sz) (hY : ∀ q, (Y q).length = d.sz) :
    Came B L 4 d.sz e eo H (four a0 a1 a2 a3) (fourN x0.length x1.length x2.length x3.length) X Y where
  dist := fun p q hp hq hpq g hg hg2 => by
    have k0 := r0.1; have k1 := r1.1; have k2 := r2.1; have k3 := r3.1
    rcases lt4 hp with rfl | rfl | rfl | rfl <;> rcases lt4 hq with rfl | rfl | rfl | rfl <;> first
      | exact absurd rfl hpq
      | (simp only [four] at hg hg2
         first
         | (have a := k0 g hg; have b := k1 g hg2; omega)
         | (have a := k0 g hg; have b := k2 g hg2; omega)
         | (have a := k0 g hg; have b := k3 g hg2; omega)
         | (have a := k1 g hg; have b := k0 g hg2; omega)
         | (have a := k1 g hg; have b := k2 g hg2; omega)
         | (have a := k1 g hg; have b := k3 g hg2; omega)
         | (have a := k2 g hg; have b := k0 g hg2; omega)
         | (have a := k2 g hg; have b := k1 g hg2; omega)
         | (have a := k2 g hg; have b := k3 g hg2; omega)
         | (have a := k3 g hg; have b := k0 g hg2; omega)
         | (have a := k3 g hg; have b := k1 g hg2; omega)
         | (have a := k3 g hg; have b := k2 g hg2; omega))
  lt := fun q hq g hg => by
    have k0 := r0.1; have k1 := r1.1; have k2 := r2.1; have k3 := r3.1
    rcases lt4 hq with rfl | rfl | rfl | rfl <;> simp only [four] at hg
    · have := k0 g hg; omega
    · have := k1 g hg; omega
    · have := k2 g hg; omega
    · have := k3 g hg; omega
  form := fun q hq => by
    rcases lt4 hq with rfl | rfl | rfl | rfl <;> simp only [four, fourN]
    · exact form_of_R r0
    · exact form_of_R r1
    · exact form_of_R r2
    · exact form_of_R r3
  small := fun q hq => by
    rcases lt4 hq with rfl | rfl | rfl | rfl <;> simp only [fourN] <;> assumption
  ne := hne
  BL := hBL
  LH := hLH
  lenX := fun q _ => hX q
  lenY := fun q _ => hY q
theorem p1_four {α : Type} {d : Kd α} {e eo B L : Nat} {W : World} {a0 a1 a2 a3 : Value} {x0 x1 x2 x3 : List α} {ok0 ok1 ok2 ok3 : Nat → Prop} (X : Nat → List Value)
    (r0 : d.R e W B ok0 a0 x0) (r1 : d.R e W B ok1 a1 x1) (r2 : d.R e W B ok2 a2 x2) (r3 : d.R e W B ok3 a3 x3) (hL : W.heap[L]? = some (.cells #[a0, a1, a2, a3] eo (0, 0))) :
    P1 W B L 4 d.sz e eo (four a0 a1 a2 a3) (fourN x0.length x1.length x2.length x3.length) X 0 0 where
  blk := ⟨_, hL, fun q hq => by rcases lt4 hq with rfl | rfl | rfl | rfl <;> rfl⟩
  own := fun q hq => by
    refine RowIs.mono (E := fun _ => none) ?_ (fun k hk Z hZ => by simp [E1] at hZ)
    rcases lt4 hq with rfl | rfl | rfl | rfl
    · exact rowIs_of_R r0
    · exact rowIs_of_R r1
    · exact rowIs_of_R r2
    · exact rowIs_of_R r3
theorem Came.view {B L N s e eo H : Nat} {vs : Nat → Value} {ns : Nat → Nat} {X Y : Nat → List Value} (hc : Came B L N s e eo H vs ns X Y) {q : Nat} (hq : q < N) : ∃ A c, vs q = .slice A (ns q) c ∧ ns q ≤ c ∧ (0 < ns q → ∃ g, A = some ⟨g, 0, none⟩) := by
  rcases hc.form q hq with ⟨h1, h2⟩ | ⟨g, c, h1, h2⟩
  · exact ⟨none, 0, by rw [h1, h2], by omega, fun h => absurd h (by omega)⟩
  · exact ⟨some ⟨g, 0, none⟩, c, h1, h2, fun _ => ⟨g, rfl⟩⟩
end Go.Proofs.YtohighedgdlflaaGreatDoor
